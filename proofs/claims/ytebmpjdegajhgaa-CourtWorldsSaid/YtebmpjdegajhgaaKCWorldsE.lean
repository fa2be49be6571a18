/- Lemmas behind a claim of this seat. No statement of the program stands here. -/
import Derived.Test.YtebmpjdegajhgaaKCWorldsD
set_option linter.unusedSimpArgs false
set_option linter.unusedVariables false
section
namespace Go.Proofs.Ytebmpjdegajhgaa
open Go Go.RowKit Go.Eng Go.Lift Go.F
set_option linter.unusedVariables false
set_option linter.unusedSimpArgs false
set_option maxRecDepth 100000
set_option maxHeartbeats 4000000 in
theorem ok_colletref43_Claims {O : Tags} {w0 : World} (hO : OkO O w0) {v_0 : Value} {x_0 : List (List Int)} (h_0 : (rSl (rSl (rInt .i64))).v O w0 v_0 x_0) {x_1 : Int} {x_2 : Int} {n : Nat} {y : (List api_Claim)} (h : (colletref43_Claims x_0 x_1 x_2).run n = some y) : Pure Try.prog 36 #[v_0, .int .i64 x_1, .int .i64 x_2] w0 (SP.ownr r_api_Claim 33 (w0.heap.size) O y).holds := by
 unfold colletref43_Claims at h
 refine pure_of_wp Try.func36 rfl 84 Try.ntmps36 (by simp) fun a0 hA hs0 => ?_
 have q0 : a0.get 0 = v_0 := hs0 0 _ rfl
 have q1 : a0.get 1 = .int .i64 x_1 := hs0 1 _ rfl
 have q2 : a0.get 2 = .int .i64 x_2 := hs0 2 _ rfl
 clear hs0
 have hB : Base (Fr w0) O w0 O w0 := Base.start hO
 refine wp_seq ?_
 refine' region [_] mixed hA (.cons (fun _ _ hE hK hg => ok_assign rfl) .nil) ?zok1 ?zgd1 ?zk1
 case zok1 | zgd1 => kernel_rfl
 intro a1 w1 hA hE HF
 replace q0 := kn (HF 0) rfl q0
 replace q1 := kn (HF 1) rfl q1
 replace q2 := kn (HF 2) rfl q2
 clear HF
 replace h_0 := GR.v_ext _ h_0 hE
 replace hB := Base.step hB hE hO; clear hE
 refine li_nil (nx_then (wp_seq ?_))
 refine' region [_] mixed hA (.cons (fun _ _ hE hK hg => ok_assign rfl) .nil) ?zok2 ?zgd2 ?zk2
 case zok2 | zgd2 => kernel_rfl
 intro a2 w2 hA hE HF
 replace q0 := kn (HF 0) rfl q0
 replace q1 := kn (HF 1) rfl q1
 replace q2 := kn (HF 2) rfl q2
 have q7 := ksv (HF 7) rfl rfl rfl
 clear HF
 replace h_0 := GR.v_ext _ h_0 hE
 replace hB := Base.step hB hE hO; clear hE
 refine li_nil (nx_then (wp_seq ?_))
 refine' region [_] mixed hA (.cons (fun _ _ hE hK hg => ok_assign rfl) .nil) ?zok3 ?zgd3 ?zk3
 case zok3 | zgd3 => kernel_rfl
 intro a3 w3 hA hE HF
 replace q0 := kn (HF 0) rfl q0
 replace q1 := kn (HF 1) rfl q1
 replace q2 := kn (HF 2) rfl q2
 replace q7 := kn (HF 7) rfl q7
 have q8 := ksv (HF 8) rfl rfl rfl
 clear HF
 replace h_0 := GR.v_ext _ h_0 hE
 replace hB := Base.step hB hE hO; clear hE
 refine li_nil (nx_then (wp_seq ?_))
 refine' region [_] mixed hA (.cons (fun _ _ hE hK hg => ok_assign rfl) .nil) ?zok4 ?zgd4 ?zk4
 case zok4 | zgd4 => kernel_rfl
 intro a4 w4 hA hE HF
 replace q0 := kn (HF 0) rfl q0
 replace q1 := kn (HF 1) rfl q1
 replace q2 := kn (HF 2) rfl q2
 replace q7 := kn (HF 7) rfl q7
 replace q8 := kn (HF 8) rfl q8
 have q9 := ksv (HF 9) rfl rfl rfl
 clear HF
 replace h_0 := GR.v_ext _ h_0 hE
 replace hB := Base.step hB hE hO; clear hE
 refine li_nil (nx_then ?_)
 refine seq_join (fun a w => ∃ (O85 : Tags) (x82 : List api_Claim) (u83 : Value), a.fit 84 ∧ Base (Fr w0) O w0 O85 w ∧ a.get 7 = u83 ∧ OwnL 1 r_api_Claim 33 (Fr w0) O85 w u83 x82 ∧ (colletref43_Claims_j1 x82).run n = some y) ?_ ?_
 ·
  refine wp_seq ?_
  refine' region [_] mixed hA (.cons (fun _ _ hE hK hg => ok_assign rfl) .nil) ?zok5 ?zgd5 ?zk5
  case zok5 | zgd5 => kernel_rfl
  intro a5 w5 hA hE HF
  replace q0 := kn (HF 0) rfl q0
  replace q1 := kn (HF 1) rfl q1
  replace q2 := kn (HF 2) rfl q2
  replace q7 := kn (HF 7) rfl q7
  replace q8 := kn (HF 8) rfl q8
  replace q9 := kn (HF 9) rfl q9
  have q10 := ksv (HF 10) rfl rfl rfl
  clear HF
  replace h_0 := GR.v_ext _ h_0 hE
  replace hB := Base.step hB hE hO; clear hE
  refine li_nil (nx_then (wp_block ?_))
  obtain ⟨e2, he2, hk2⟩ := Comp.run_bind h; clear h
  refine loop_m (fun m a w => ∃ (O7 : Tags) (x1 : List api_Claim) (x4 : Bool) (x5 : Int) (x6 : Int) (u2 : Value), a.fit 84 ∧ Base (Fr w0) O w0 O7 w ∧ a.get 0 = v_0 ∧ (rSl (rSl (rInt .i64))).v O7 w v_0 x_0 ∧ a.get 1 = .int .i64 x_1 ∧ a.get 2 = .int .i64 x_2 ∧ a.get 7 = u2 ∧ OwnL 1 r_api_Claim 33 (Fr w0) O7 w u2 x1 ∧ a.get 8 = .bool x4 ∧ a.get 9 = .int .i64 x5 ∧ a.get 10 = .int .i64 x6 ∧ Comp.loopN (fun s => colletref43_Claims_l2 x_0 x_2 x_1 s.1 s.2.1 s.2.2.1 s.2.2.2) n m (x1, x4, x5, x6) = some e2) (m := n) ?st2 ?_
  case st2 =>
   exact ⟨_, _, _, _, _, _, hA, hB, q0, h_0, q1, q2, q7, (OwnL.nil _ _ _ _ _ _), q8, q9, q10, Comp.run_loop he2⟩
  intro m_ a6 w6 hI
  clear hA hB he2 q0 q1 q2 q7 q8 q9 q10 h_0
  obtain ⟨O7, x1, x4, x5, x6, u2, hA, hB, q0, h_0, q1, q2, q7, f3, q8, q9, q10, hl⟩ := hI
  obtain ⟨m2, hlt2, st2, h, hnext2, hdone2⟩ := Comp.loopN_succ hl; clear hl
  replace h : (colletref43_Claims_l2 x_0 x_2 x_1 x1 x4 x5 x6).run n = some st2 := h
  unfold colletref43_Claims_l2 at h
  refine wp_seq (wp_seq ?_)
  refine' region [_, _, _, _, _, _, _, _, _, _] mixed hA (.cons (fun _ _ hE hK hg => ok_move (kn (hK 10 rfl) rfl q10)) (.cons (fun _ _ hE hK hg => ok_move (kn (hK 0 rfl) rfl q0)) (.cons (fun _ _ hE hK hg => okl_len (r := (rSl (rInt .i64))) ty22 (ksv (j := 1) (hK 16 rfl) rfl rfl rfl) (rd_of (GR.v_ext _ h_0 hE))) (.cons (fun _ _ hE hK hg => ok_lss (ksv (j := 0) (hK 15 rfl) rfl rfl rfl) (ksv (j := 2) (hK 17 rfl) rfl rfl rfl)) (.cons (fun _ _ hE hK hg => ok_move (ksv (j := 3) (hK 18 rfl) rfl rfl rfl)) (.cons (fun _ _ hE hK hg => ok_move (kn (hK 7 rfl) rfl q7)) (.cons ?z6_6 (.cons (fun _ _ hE hK hg => ok_move (kn (hK 2 rfl) rfl q2)) (.cons ?z6_8 (.cons ?z6_9 .nil)))))))))) ?zok6 ?zgd6 ?zk6
  case z6_6 => intro a' w' hE hK hg; exact okl_len (r := r_api_Claim) ty27 (ksv (j := 5) (hK 20 rfl) rfl rfl hg) (OwnL.rd (OwnL.ext f3 hE))
  case z6_8 => intro a' w' hE hK hg; exact ok_lss (ksv (j := 6) (hK 21 rfl) rfl rfl hg) (ksv (j := 7) (hK 22 rfl) rfl rfl hg)
  case z6_9 => intro a' w' hE hK hg; exact ok_pick (ksv (j := 4) (hK 19 rfl) rfl rfl rfl) (fun hb => ksv (j := 8) (hK 23 rfl) rfl rfl (act_g1 rfl rfl hb)) (fun _ => rfl)
  case zok6 | zgd6 => kernel_rfl
  intro a7 w7 hA hE HF
  replace q0 := kn (HF 0) rfl q0
  replace q1 := kn (HF 1) rfl q1
  replace q2 := kn (HF 2) rfl q2
  replace q7 := kn (HF 7) rfl q7
  replace q8 := kn (HF 8) rfl q8
  replace q9 := kn (HF 9) rfl q9
  replace q10 := kn (HF 10) rfl q10
  have q24 := ksv (HF 24) rfl rfl rfl
  clear HF
  replace h_0 := GR.v_ext _ h_0 hE
  replace f3 := f3.ext hE
  replace hB := Base.step hB hE hO; clear hE
  obtain ⟨x8, hx_, h⟩ := Comp.run_bind h; replace hx_ := Comp.run_pure hx_; rw [hx_] at q24; clear hx_
  refine li_nil (nx_then ?_)
  refine wp_cond_b q24 (fun hc => ?_) (fun hc => ?_)
  ·
   replace h := Comp.run_b_t hc h; clear hc
   refine wp_skip (nx_then ?_)
   refine seq_join (fun a w => ∃ (O79 : Tags) (x43 : List api_Claim) (x46 : Bool) (x47 : Int) (u44 : Value), a.fit 84 ∧ Base (Fr w0) O w0 O79 w ∧ a.get 0 = v_0 ∧ (rSl (rSl (rInt .i64))).v O79 w v_0 x_0 ∧ a.get 1 = .int .i64 x_1 ∧ a.get 2 = .int .i64 x_2 ∧ a.get 7 = u44 ∧ OwnL 1 r_api_Claim 33 (Fr w0) O79 w u44 x43 ∧ a.get 8 = .bool x46 ∧ a.get 9 = .int .i64 x47 ∧ a.get 10 = .int .i64 x6 ∧ (colletref43_Claims_j3 x6 x43 x46 x47).run n = some st2) ?_ ?_
   ·
    refine wp_block (wp_seq ?_)
    obtain ⟨x9, hx9, h⟩ := Comp.run_bind h
    refine' regionT [_, _, SP.ptr (rSl (rInt .i64)) O7 x9, SP.vl (rSl (rInt .i64)) O7 x9] hA (.cons (fun _ _ hE hK hg => ok_move (kn (hK 0 rfl) rfl q0)) (.cons (fun _ _ hE hK hg => ok_move (kn (hK 10 rfl) rfl q10)) (.cons (fun _ _ hE hK hg => okl_idx (r := (rSl (rInt .i64))) (O := O7) ty22 ty23 rfl (ksv (j := 0) (hK 27 rfl) rfl rfl rfl) (rd_of (GR.v_ext _ h_0 hE)) (ksv (j := 1) (hK 28 rfl) rfl rfl rfl) hx9) (.cons (fun _ _ hE hK hg => okl_ld (r := (rSl (rInt .i64))) (fun _ => rfl) ty23 rfl rfl rfl (kspS (φ := SP.ptr (rSl (rInt .i64)) O7 x9) (j := 2) (hK 29 rfl) rfl rfl rfl)) .nil)))) ?zok7 ?zgd7 ?zk7
    case zok7 | zgd7 => kernel_rfl
    intro a8 w8 hA hE HF
    replace q0 := kn (HF 0) rfl q0
    replace q1 := kn (HF 1) rfl q1
    replace q2 := kn (HF 2) rfl q2
    replace q7 := kn (HF 7) rfl q7
    replace q8 := kn (HF 8) rfl q8
    replace q9 := kn (HF 9) rfl q9
    replace q10 := kn (HF 10) rfl q10
    have f11 := ksp (HF 30) rfl rfl rfl
    obtain ⟨u10, q30'⟩ : ∃ u, a8.get 30 = u := ⟨_, rfl⟩
    rw [q30'] at f11
    have q30 := q30'; clear q30'
    clear q24
    clear HF
    replace h_0 := GR.v_ext _ h_0 hE
    replace f3 := f3.ext hE
    replace hB := Base.step hB hE hO; clear hE
    refine l_ok (φ := SP.isv (.agg #[u10, .int .i64 0])) hO hB (by refine okl_build (vals := [(0, u10)]) (out := [u10, .int .i64 0]) plc88 ty88 ?_ rfl ?_ rfl; exact (pk_cons (v := u10) q30 pk_nil); exact (.cons rfl (sl_cells f11 rfl rfl) rfl (leb rfl) .nil)) rfl fun u_ w9 hE hB' hv_ => ?_
    replace hv_ := Eq.symm hv_; subst hv_; clear hB; have hB := hB'; clear hB'
    replace h_0 := GR.v_ext _ h_0 hE
    replace f3 := f3.ext hE
    replace f11 := GR.v_ext _ f11 hE
    clear hE
    refine put_cont hA (by decide) fun a10 hA q_ hfr => ?_
    replace q0 := (hfr 0 rfl).trans q0
    replace q1 := (hfr 1 rfl).trans q1
    replace q2 := (hfr 2 rfl).trans q2
    replace q7 := (hfr 7 rfl).trans q7
    replace q8 := (hfr 8 rfl).trans q8
    replace q9 := (hfr 9 rfl).trans q9
    replace q10 := (hfr 10 rfl).trans q10
    replace q30 := (hfr 30 rfl).trans q30
    have q31 := q_; clear q_ hfr
    refine l_ok (φ := SP.box w9.heap.size #[u10, .int .i64 0] 88) hO hB (by exact ok_box (v := .agg #[u10, .int .i64 0]) (Nat.le_refl _) q31) rfl fun u12 w11 hE hB' f13 => ?_
    clear hB'; obtain ⟨O14, b16, hB', hX, e_, f15⟩ := boxNew hO hB hE f13 2 (by decide)
    subst e_; clear hB f13; have hB := hB'; clear hB'
    replace h_0 := GR.kx _ h_0 hX (by decide)
    replace f3 := f3.kx hX (by decide) (by decide)
    replace f11 := GR.kx _ f11 hX (by decide)
    clear hX hE
    refine put_cont hA (by decide) fun a12 hA q_ hfr => ?_
    replace q0 := (hfr 0 rfl).trans q0
    replace q1 := (hfr 1 rfl).trans q1
    replace q2 := (hfr 2 rfl).trans q2
    replace q7 := (hfr 7 rfl).trans q7
    replace q8 := (hfr 8 rfl).trans q8
    replace q9 := (hfr 9 rfl).trans q9
    replace q10 := (hfr 10 rfl).trans q10
    replace q31 := (hfr 31 rfl).trans q31
    have q32 := q_; clear q_ hfr
    refine l_ok (φ := SP.isv (.pointer (some ⟨b16, 0, none⟩))) hO hB (by exact ok_assign q32) rfl fun u_ w13 hE hB' hv_ => ?_
    replace hv_ := Eq.symm hv_; subst hv_; clear hB; have hB := hB'; clear hB'
    replace h_0 := GR.v_ext _ h_0 hE
    replace f3 := f3.ext hE
    replace f15 := f15.ext hE
    replace f11 := GR.v_ext _ f11 hE
    clear hE
    refine put_cont hA (by decide) fun a14 hA q_ hfr => ?_
    replace q0 := (hfr 0 rfl).trans q0
    replace q1 := (hfr 1 rfl).trans q1
    replace q2 := (hfr 2 rfl).trans q2
    replace q7 := (hfr 7 rfl).trans q7
    replace q8 := (hfr 8 rfl).trans q8
    replace q9 := (hfr 9 rfl).trans q9
    replace q10 := (hfr 10 rfl).trans q10
    replace q32 := (hfr 32 rfl).trans q32
    have q11 := q_; clear q_ hfr
    refine li_nil (nx_then (wp_seq ?_))
    obtain ⟨x17, hx17, h⟩ := Comp.run_bind h
    obtain ⟨x18, hx18, h⟩ := Comp.run_bind h
    obtain ⟨x19, hx19, h⟩ := Comp.run_bind h
    obtain ⟨J_, eJ_⟩ : ∃ J_ : (Nat → Bool) → Act → World → Prop, J_ = (fun S_ a_ w_ => ∃ O_ : Tags, Base (Fr w0) O w0 O_ w_ ∧ Keep 0 O14 w13 O_ w_ ∧ Keep 1 O14 w13 O_ w_ ∧ (S_ 0 = true → (rSl (rInt .i64)).v O_ w_ (a_.get 33) [2, 2, 3, 1]) ∧ (S_ 3 = true → PtrZ (rInt .i64) O_ w_ (a_.get 36) x18) ∧ (S_ 2 = false → BoxO 2 (Fr w0) O_ w_ b16 88 r_colletref01_Draw (colletref01_Draw.mk x9 0)) ∧ (S_ 2 = true → S_ 6 = false → BoxO 2 (Fr w0) O_ w_ b16 88 r_colletref01_Draw x17.1) ∧ (S_ 6 = true → BoxO 2 (Fr w0) O_ w_ b16 88 r_colletref01_Draw x19.1) ∧ (S_ 9 = true → S_ 10 = false → OwnBP 3 (Fr w0) O_ w_ (a_.get 12) #[.int .i64 0, .int .i64 0, .int .i64 0, .slice none 0 0, .slice none 0 0] 33) ∧ (S_ 10 = true → OwnBP 3 (Fr w0) O_ w_ (a_.get 12) #[.int .i64 (IntKind.wrap .i64 (x19.2 - 1)), .int .i64 x18, .int .i64 0, .slice none 0 0, .slice none 0 0] 33)) := ⟨_, rfl⟩
    have T_ : ∀ {i_ : Nat} {d_ : Option Tmp} {v_ : Value} {S_ a' w' w2}, Nat.beq 0 i_ = false → Nat.beq 2 i_ = false → Nat.beq 3 i_ = false → Nat.beq 6 i_ = false → Nat.beq 9 i_ = false → Nat.beq 10 i_ = false → d_ ≠ some 12 → d_ ≠ some 33 → d_ ≠ some 36 → Ext w' w2 → J_ S_ a' w' → J_ (addS S_ i_) (a'.put d_ v_) w2 := by
     subst eJ_; intro i_ d_ v_ S_ a' w' w2 n0_ n2_ n3_ n6_ n9_ n10_ s12_ s33_ s36_ hE hJ_
     obtain ⟨O_, hB_, k0_, kk0_, m0_, m3_, v1_0_, v1_1_, v1_2_, v2_0_, v2_1_⟩ := hJ_
     exact ⟨O_, (Base.step hB_ hE hO), (k0_.trans (KX.keep (KX.ext hE) (by decide))), (kk0_.trans (KX.keep (KX.ext hE) (by decide))), fun h_ => put_other (d := d_) (t := 33) (φ := fun u_ => (rSl (rInt .i64)).v O_ w2 u_ [2, 2, 3, 1]) ((GR.v_mono _ (m0_ (addS_off n0_ h_)) (KX.keep (KX.ext hE) (by decide)))) s33_, fun h_ => put_other (d := d_) (t := 36) (φ := fun u_ => PtrZ (rInt .i64) O_ w2 u_ x18) ((PtrZ.keep (m3_ (addS_off n3_ h_)) (KX.keep (KX.ext hE) (by decide)) (by decide) (fun _ => rfl))) s36_, fun hq_ => BoxO.kx (v1_0_ (addS_no hq_)) (KX.ext hE) (by decide) (by decide), fun hp_ hq_ => BoxO.kx (v1_1_ (addS_off n2_ hp_) (addS_no hq_)) (KX.ext hE) (by decide) (by decide), fun hp_ => BoxO.kx (v1_2_ (addS_off n6_ hp_)) (KX.ext hE) (by decide) (by decide), fun hp_ hq_ => put_other (d := d_) (t := 12) (φ := fun u_ => OwnBP 3 (Fr w0) O_ w2 (u_) #[.int .i64 0, .int .i64 0, .int .i64 0, .slice none 0 0, .slice none 0 0] 33) (OwnBP.kx (v2_0_ (addS_off n9_ hp_) (addS_no hq_)) (KX.ext hE) (by decide)) s12_, fun hp_ => put_other (d := d_) (t := 12) (φ := fun u_ => OwnBP 3 (Fr w0) O_ w2 (u_) #[.int .i64 (IntKind.wrap .i64 (x19.2 - 1)), .int .i64 x18, .int .i64 0, .slice none 0 0, .slice none 0 0] 33) (OwnBP.kx (v2_1_ (addS_off n10_ hp_)) (KX.ext hE) (by decide)) s12_⟩
    refine' regionX (draw := true) J_ [SP.tt, SP.isv (.pointer (some ⟨b16, 0, none⟩)), SP.isv (.int .i64 x17.2), SP.tt, SP.isv (.int .i64 x18), SP.isv (.pointer (some ⟨b16, 0, none⟩)), SP.isv (.int .i64 x19.2), SP.isv (.int .i64 (IntKind.wrap .i64 (x19.2 - 1))), SP.isv (.agg #[.int .i64 (IntKind.wrap .i64 (x19.2 - 1)), .int .i64 x18, .int .i64 0, .slice none 0 0, .slice none 0 0]), SP.tt, SP.tt] mixed hA (.cons (stE_tt _) (.cons (stE_isv _) (.cons (stE_isv _) (.cons (stE_tt _) (.cons (stE_isv _) (.cons (stE_isv _) (.cons (stE_isv _) (.cons (stE_isv _) (.cons (stE_isv _) (.cons (stE_tt _) (.cons (stE_tt _) .nil))))))))))) (.cons ?z8_0 (.cons ?z8_1 (.cons ?z8_2 (.cons ?z8_3 (.cons ?z8_4 (.cons ?z8_5 (.cons ?z8_6 (.cons ?z8_7 (.cons ?z8_8 (.cons ?z8_9 (.cons ?z8_10 .nil))))))))))) ?zsk8 ?zst8 ?zok8 ?zgd8 ?zk8
    case z8_0 =>
     intro S_ a' w' hA_ hJ_ hS_ hafter_ hbef_ hK hg K_ Q_ hK_
     subst eJ_
     obtain ⟨O_, hB_, k0_, kk0_, m0_, m3_, v1_0_, v1_1_, v1_2_, v2_0_, v2_1_⟩ := hJ_
     refine x_ok (φ := SP.vl (rSl (rInt .i64)) O_ [2, 2, 3, 1]) (by exact okl_buildSliceV (r := (rInt .i64)) (fun _ => rfl) rfl hB_.ok ty23 ty3 (parts_cons rfl (parts_cons rfl (parts_cons rfl (parts_cons rfl parts_nil)))) ⟨(by exact rInt_v.2 rfl), ⟨(by exact rInt_v.2 rfl), ⟨(by exact rInt_v.2 rfl), ⟨(by exact rInt_v.2 rfl), trivial⟩⟩⟩⟩ rfl (by decide)) fun v_ w2 hE hv_ => ?_
     have hB2_ := Base.step hB_ hE hO
     exact hK_ v_ w2 ⟨O_, hB2_, (k0_.trans (KX.keep (KX.ext hE) (by decide))), (kk0_.trans (KX.keep (KX.ext hE) (by decide))), fun _ => put_me (φ := fun u_ => (rSl (rInt .i64)).v O_ w2 u_ [2, 2, 3, 1]) hA_ (by decide) hv_, fun h_ => put_other (d := some 33) (t := 36) (φ := fun u_ => PtrZ (rInt .i64) O_ w2 u_ x18) ((PtrZ.keep (m3_ (addS_off rfl h_)) (KX.keep (KX.ext hE) (by decide)) (by decide) (fun _ => rfl))) (by decide), fun hq_ => BoxO.kx (v1_0_ (addS_no hq_)) (KX.ext hE) (by decide) (by decide), fun hp_ hq_ => BoxO.kx (v1_1_ (addS_off rfl hp_) (addS_no hq_)) (KX.ext hE) (by decide) (by decide), fun hp_ => BoxO.kx (v1_2_ (addS_off rfl hp_)) (KX.ext hE) (by decide) (by decide), fun hp_ hq_ => put_other (d := some 33) (t := 12) (φ := fun u_ => OwnBP 3 (Fr w0) O_ w2 (u_) #[.int .i64 0, .int .i64 0, .int .i64 0, .slice none 0 0, .slice none 0 0] 33) (OwnBP.kx (v2_0_ (addS_off rfl hp_) (addS_no hq_)) (KX.ext hE) (by decide)) (by decide), fun hp_ => put_other (d := some 33) (t := 12) (φ := fun u_ => OwnBP 3 (Fr w0) O_ w2 (u_) #[.int .i64 (IntKind.wrap .i64 (x19.2 - 1)), .int .i64 x18, .int .i64 0, .slice none 0 0, .slice none 0 0] 33) (OwnBP.kx (v2_1_ (addS_off rfl hp_)) (KX.ext hE) (by decide)) (by decide)⟩ trivial
    case z8_1 =>
     intro S_ a' w' hA_ hJ_ hS_ hafter_ hbef_ hK hg K_ Q_ hK_
     refine x_ok (φ := SP.isv (.pointer (some ⟨b16, 0, none⟩))) (by exact ok_move (kn (hK 11 rfl) rfl q11)) fun v_ w2 hE hv_ => hK_ v_ w2 (T_ rfl rfl rfl rfl rfl rfl (by decide) (by decide) (by decide) hE hJ_) hv_
    case z8_2 =>
     intro S_ a' w' hA_ hJ_ hS_ hafter_ hbef_ hK hg K_ Q_ hK_
     subst eJ_
     obtain ⟨O_, hB_, k0_, kk0_, m0_, m3_, v1_0_, v1_1_, v1_2_, v2_0_, v2_1_⟩ := hJ_
     refine x_pio (r := r_colletref01_Draw) hO hB_ (okB_fr hB_) fn54 (map2 (ksv (j := 1) (hK 34 rfl) rfl rfl rfl) rfl) (ok_colletref01_Draw_Next hB_.ok (BoxO.arg (v1_0_ hS_) (by decide)) hx17) (v1_0_ hS_) fun v_ w2 f_ hB2_ hX_ hv_ => ?_
     exact hK_ v_ w2 ⟨O_, hB2_, (k0_.trans (KX.keep hX_ (by decide))), (kk0_.trans (KX.keep hX_ (by decide))), fun h_ => put_other (d := some 35) (t := 33) (φ := fun u_ => (rSl (rInt .i64)).v O_ w2 u_ [2, 2, 3, 1]) ((GR.v_mono _ (m0_ (addS_off rfl h_)) (KX.keep hX_ (by decide)))) (by decide), fun h_ => put_other (d := some 35) (t := 36) (φ := fun u_ => PtrZ (rInt .i64) O_ w2 u_ x18) ((PtrZ.keep (m3_ (addS_off rfl h_)) (KX.keep hX_ (by decide)) (by decide) (fun _ => rfl))) (by decide), fun hq_ => addS_me hq_, fun hp_ hq_ => f_, fun hp_ => no_tf (addS_off rfl hp_) (hafter_ 6 (by kernel_rfl)), fun hp_ hq_ => put_other (d := some 35) (t := 12) (φ := fun u_ => OwnBP 3 (Fr w0) O_ w2 (u_) #[.int .i64 0, .int .i64 0, .int .i64 0, .slice none 0 0, .slice none 0 0] 33) (OwnBP.kx (v2_0_ (addS_off rfl hp_) (addS_no hq_)) hX_ (by decide)) (by decide), fun hp_ => put_other (d := some 35) (t := 12) (φ := fun u_ => OwnBP 3 (Fr w0) O_ w2 (u_) #[.int .i64 (IntKind.wrap .i64 (x19.2 - 1)), .int .i64 x18, .int .i64 0, .slice none 0 0, .slice none 0 0] 33) (OwnBP.kx (v2_1_ (addS_off rfl hp_)) hX_ (by decide)) (by decide)⟩ hv_
    case z8_3 =>
     intro S_ a' w' hA_ hJ_ hS_ hafter_ hbef_ hK hg K_ Q_ hK_
     subst eJ_
     obtain ⟨O_, hB_, k0_, kk0_, m0_, m3_, v1_0_, v1_1_, v1_2_, v2_0_, v2_1_⟩ := hJ_
     refine x_ok (φ := SP.ptrz (rInt .i64) O_ x18 (of_decide_eq_true rfl) (fun _ => rfl)) (by exact okl_idxZ (r := (rInt .i64)) (by decide) (fun _ => rfl) ty23 ty3 rfl rfl (m0_ (addS_off rfl (hbef_ 0 (by kernel_rfl)))) (ksv (j := 2) (hK 35 rfl) rfl rfl rfl) hx18) fun v_ w2 hE hv_ => ?_
     have hB2_ := Base.step hB_ hE hO
     exact hK_ v_ w2 ⟨O_, hB2_, (k0_.trans (KX.keep (KX.ext hE) (by decide))), (kk0_.trans (KX.keep (KX.ext hE) (by decide))), fun h_ => put_other (d := some 36) (t := 33) (φ := fun u_ => (rSl (rInt .i64)).v O_ w2 u_ [2, 2, 3, 1]) ((GR.v_mono _ (m0_ (addS_off rfl h_)) (KX.keep (KX.ext hE) (by decide)))) (by decide), fun _ => put_me (φ := fun u_ => PtrZ (rInt .i64) O_ w2 u_ x18) hA_ (by decide) hv_, fun hq_ => BoxO.kx (v1_0_ (addS_no hq_)) (KX.ext hE) (by decide) (by decide), fun hp_ hq_ => BoxO.kx (v1_1_ (addS_off rfl hp_) (addS_no hq_)) (KX.ext hE) (by decide) (by decide), fun hp_ => BoxO.kx (v1_2_ (addS_off rfl hp_)) (KX.ext hE) (by decide) (by decide), fun hp_ hq_ => put_other (d := some 36) (t := 12) (φ := fun u_ => OwnBP 3 (Fr w0) O_ w2 (u_) #[.int .i64 0, .int .i64 0, .int .i64 0, .slice none 0 0, .slice none 0 0] 33) (OwnBP.kx (v2_0_ (addS_off rfl hp_) (addS_no hq_)) (KX.ext hE) (by decide)) (by decide), fun hp_ => put_other (d := some 36) (t := 12) (φ := fun u_ => OwnBP 3 (Fr w0) O_ w2 (u_) #[.int .i64 (IntKind.wrap .i64 (x19.2 - 1)), .int .i64 x18, .int .i64 0, .slice none 0 0, .slice none 0 0] 33) (OwnBP.kx (v2_1_ (addS_off rfl hp_)) (KX.ext hE) (by decide)) (by decide)⟩ trivial
    case z8_4 =>
     intro S_ a' w' hA_ hJ_ hS_ hafter_ hbef_ hK hg K_ Q_ hK_
     have hJ2_ := hJ_; rw [eJ_] at hJ2_; obtain ⟨O_, hB_, k0_, kk0_, m0_, m3_, v1_0_, v1_1_, v1_2_, v2_0_, v2_1_⟩ := hJ2_
     refine x_ok (φ := SP.isv (.int .i64 x18)) (by exact okl_ldr (rInt .i64) (fun _ => rfl) ty3 rfl rfl rfl (PtrZ.ptr (m3_ (addS_off rfl (hbef_ 3 (by kernel_rfl))))) (fun _ _ _ h => rInt_v.1 h)) fun v_ w2 hE hv_ => hK_ v_ w2 (T_ rfl rfl rfl rfl rfl rfl (by decide) (by decide) (by decide) hE hJ_) hv_
    case z8_5 =>
     intro S_ a' w' hA_ hJ_ hS_ hafter_ hbef_ hK hg K_ Q_ hK_
     refine x_ok (φ := SP.isv (.pointer (some ⟨b16, 0, none⟩))) (by exact ok_move (kn (hK 11 rfl) rfl q11)) fun v_ w2 hE hv_ => hK_ v_ w2 (T_ rfl rfl rfl rfl rfl rfl (by decide) (by decide) (by decide) hE hJ_) hv_
    case z8_6 =>
     intro S_ a' w' hA_ hJ_ hS_ hafter_ hbef_ hK hg K_ Q_ hK_
     subst eJ_
     obtain ⟨O_, hB_, k0_, kk0_, m0_, m3_, v1_0_, v1_1_, v1_2_, v2_0_, v2_1_⟩ := hJ_
     refine x_pio (r := r_colletref01_Draw) hO hB_ (okB_fr hB_) fn54 (map2 (ksv (j := 5) (hK 38 rfl) rfl rfl rfl) rfl) (ok_colletref01_Draw_Next hB_.ok (BoxO.arg (v1_1_ (addS_off rfl (hbef_ 2 (by kernel_rfl))) hS_) (by decide)) hx19) (v1_1_ (addS_off rfl (hbef_ 2 (by kernel_rfl))) hS_) fun v_ w2 f_ hB2_ hX_ hv_ => ?_
     exact hK_ v_ w2 ⟨O_, hB2_, (k0_.trans (KX.keep hX_ (by decide))), (kk0_.trans (KX.keep hX_ (by decide))), fun h_ => put_other (d := some 39) (t := 33) (φ := fun u_ => (rSl (rInt .i64)).v O_ w2 u_ [2, 2, 3, 1]) ((GR.v_mono _ (m0_ (addS_off rfl h_)) (KX.keep hX_ (by decide)))) (by decide), fun h_ => put_other (d := some 39) (t := 36) (φ := fun u_ => PtrZ (rInt .i64) O_ w2 u_ x18) ((PtrZ.keep (m3_ (addS_off rfl h_)) (KX.keep hX_ (by decide)) (by decide) (fun _ => rfl))) (by decide), fun hq_ => no_tf (hbef_ 2 (by kernel_rfl)) hq_, fun hp_ hq_ => addS_me hq_, fun hp_ => f_, fun hp_ hq_ => put_other (d := some 39) (t := 12) (φ := fun u_ => OwnBP 3 (Fr w0) O_ w2 (u_) #[.int .i64 0, .int .i64 0, .int .i64 0, .slice none 0 0, .slice none 0 0] 33) (OwnBP.kx (v2_0_ (addS_off rfl hp_) (addS_no hq_)) hX_ (by decide)) (by decide), fun hp_ => put_other (d := some 39) (t := 12) (φ := fun u_ => OwnBP 3 (Fr w0) O_ w2 (u_) #[.int .i64 (IntKind.wrap .i64 (x19.2 - 1)), .int .i64 x18, .int .i64 0, .slice none 0 0, .slice none 0 0] 33) (OwnBP.kx (v2_1_ (addS_off rfl hp_)) hX_ (by decide)) (by decide)⟩ hv_
    case z8_7 =>
     intro S_ a' w' hA_ hJ_ hS_ hafter_ hbef_ hK hg K_ Q_ hK_
     refine x_ok (φ := SP.isv (.int .i64 (IntKind.wrap .i64 (x19.2 - 1)))) (by exact ok_sub (ksv (j := 6) (hK 39 rfl) rfl rfl rfl) rfl) fun v_ w2 hE hv_ => hK_ v_ w2 (T_ rfl rfl rfl rfl rfl rfl (by decide) (by decide) (by decide) hE hJ_) hv_
    case z8_8 =>
     intro S_ a' w' hA_ hJ_ hS_ hafter_ hbef_ hK hg K_ Q_ hK_
     refine x_ok (φ := SP.isv (.agg #[.int .i64 (IntKind.wrap .i64 (x19.2 - 1)), .int .i64 x18, .int .i64 0, .slice none 0 0, .slice none 0 0])) (by exact okl_build plc33 ty33 (pk_cons (v := .int .i64 x18) (ksv (j := 4) (hK 37 rfl) rfl rfl rfl) (pk_cons (v := .int .i64 (IntKind.wrap .i64 (x19.2 - 1))) (ksv (j := 7) (hK 40 rfl) rfl rfl rfl) pk_nil)) rfl (.cons rfl rfl rfl (leb rfl) (.cons rfl rfl rfl (leb rfl) .nil)) rfl) fun v_ w2 hE hv_ => hK_ v_ w2 (T_ rfl rfl rfl rfl rfl rfl (by decide) (by decide) (by decide) hE hJ_) hv_
    case z8_9 =>
     intro S_ a' w' hA_ hJ_ hS_ hafter_ hbef_ hK hg K_ Q_ hK_
     subst eJ_
     obtain ⟨O_, hB_, k0_, kk0_, m0_, m3_, v1_0_, v1_1_, v1_2_, v2_0_, v2_1_⟩ := hJ_
     refine x_ok (φ := SP.box w'.heap.size #[.int .i64 0, .int .i64 0, .int .i64 0, .slice none 0 0, .slice none 0 0] 33) (by exact ok_alloc (Nat.le_refl _) ty33) fun v_ w2 hE hv_ => ?_
     obtain ⟨O2_, b_, hB2_, hX_, e_, f_⟩ := boxNew hO hB_ hE hv_ 3 (by decide)
     exact hK_ v_ w2 ⟨O2_, hB2_, (k0_.trans (KX.keep hX_ (by decide))), (kk0_.trans (KX.keep hX_ (by decide))), fun h_ => put_other (d := some 12) (t := 33) (φ := fun u_ => (rSl (rInt .i64)).v O2_ w2 u_ [2, 2, 3, 1]) ((GR.v_mono _ (m0_ (addS_off rfl h_)) (KX.keep hX_ (by decide)))) (by decide), fun h_ => put_other (d := some 12) (t := 36) (φ := fun u_ => PtrZ (rInt .i64) O2_ w2 u_ x18) ((PtrZ.keep (m3_ (addS_off rfl h_)) (KX.keep hX_ (by decide)) (by decide) (fun _ => rfl))) (by decide), fun hq_ => BoxO.kx (v1_0_ (addS_no hq_)) hX_ (by decide) (by decide), fun hp_ hq_ => BoxO.kx (v1_1_ (addS_off rfl hp_) (addS_no hq_)) hX_ (by decide) (by decide), fun hp_ => BoxO.kx (v1_2_ (addS_off rfl hp_)) hX_ (by decide) (by decide), fun hp_ hq_ => put_me (φ := fun u_ => OwnBP 3 (Fr w0) O2_ w2 (u_) #[.int .i64 0, .int .i64 0, .int .i64 0, .slice none 0 0, .slice none 0 0] 33) hA_ (by decide) ⟨b_, e_, f_⟩, fun hp_ => no_tf (addS_off rfl hp_) (hafter_ 10 (by kernel_rfl))⟩ trivial
    case z8_10 =>
     intro S_ a' w' hA_ hJ_ hS_ hafter_ hbef_ hK hg K_ Q_ hK_
     subst eJ_
     obtain ⟨O_, hB_, k0_, kk0_, m0_, m3_, v1_0_, v1_1_, v1_2_, v2_0_, v2_1_⟩ := hJ_
     obtain ⟨b_, eb_, fb_⟩ := (v2_0_ (addS_off rfl (hbef_ 9 (by kernel_rfl))) hS_)
     refine x_storeSub (vs := [.int .i64 (IntKind.wrap .i64 (x19.2 - 1)), .int .i64 x18, .int .i64 0, .slice none 0 0, .slice none 0 0]) (cs' := #[.int .i64 (IntKind.wrap .i64 (x19.2 - 1)), .int .i64 x18, .int .i64 0, .slice none 0 0, .slice none 0 0]) hO hB_ (okB_fr hB_) ty33 eb_ (ksv (j := 8) (hK 41 rfl) rfl rfl rfl) rfl (by simp [Value.oneCell']) fb_ (by simp) rfl fun w2 f_ hB2_ hX_ => ?_
     exact hK_ undef w2 ⟨O_, hB2_, (k0_.trans (KX.keep hX_ (by decide))), (kk0_.trans (KX.keep hX_ (by decide))), fun h_ => put_other (d := none) (t := 33) (φ := fun u_ => (rSl (rInt .i64)).v O_ w2 u_ [2, 2, 3, 1]) ((GR.v_mono _ (m0_ (addS_off rfl h_)) (KX.keep hX_ (by decide)))) (by decide), fun h_ => put_other (d := none) (t := 36) (φ := fun u_ => PtrZ (rInt .i64) O_ w2 u_ x18) ((PtrZ.keep (m3_ (addS_off rfl h_)) (KX.keep hX_ (by decide)) (by decide) (fun _ => rfl))) (by decide), fun hq_ => BoxO.kx (v1_0_ (addS_no hq_)) hX_ (by decide) (by decide), fun hp_ hq_ => BoxO.kx (v1_1_ (addS_off rfl hp_) (addS_no hq_)) hX_ (by decide) (by decide), fun hp_ => BoxO.kx (v1_2_ (addS_off rfl hp_)) hX_ (by decide) (by decide), fun hp_ hq_ => addS_me hq_, fun hp_ => put_other (d := none) (t := 12) (φ := fun u_ => OwnBP 3 (Fr w0) O_ w2 (u_) #[.int .i64 (IntKind.wrap .i64 (x19.2 - 1)), .int .i64 x18, .int .i64 0, .slice none 0 0, .slice none 0 0] 33) (⟨b_, eb_, f_⟩) (by decide)⟩ trivial
    case zsk8 =>
     subst eJ_
     intro i_ o_ S_ a_ w_ ho_ hact_ hA_ hS_ hbef_ hJ_
     obtain ⟨O_, hB_, k0_, kk0_, m0_, m3_, v1_0_, v1_1_, v1_2_, v2_0_, v2_1_⟩ := hJ_
     exact ⟨O_, hB_, k0_, kk0_, fun h_ => by obtain ⟨h1_, h2_⟩ := skip_off (j := 0) hact_ rfl h_; exact put_other (t := 33) (φ := fun u_ => (rSl (rInt .i64)).v O_ w_ u_ [2, 2, 3, 1]) (m0_ h1_) (uniqDst_ne (j := 0) (by kernel_rfl) ho_ h2_), fun h_ => by obtain ⟨h1_, h2_⟩ := skip_off (j := 3) hact_ rfl h_; exact put_other (t := 36) (φ := fun u_ => PtrZ (rInt .i64) O_ w_ u_ x18) (m3_ h1_) (uniqDst_ne (j := 3) (by kernel_rfl) ho_ h2_), fun hq_ => (v1_0_ (addS_no hq_)), fun hp_ hq_ => by obtain ⟨h1_, h2_⟩ := skip_off (j := 2) hact_ rfl hp_; exact (v1_1_ h1_ (addS_no hq_)), fun hp_ => by obtain ⟨h1_, h2_⟩ := skip_off (j := 6) hact_ rfl hp_; exact (v1_2_ h1_), fun hp_ hq_ => by obtain ⟨h1_, h2_⟩ := skip_off (j := 9) hact_ rfl hp_; exact put_other (t := 12) (φ := fun u_ => OwnBP 3 (Fr w0) O_ w_ (u_) #[.int .i64 0, .int .i64 0, .int .i64 0, .slice none 0 0, .slice none 0 0] 33) (v2_0_ h1_ (addS_no hq_)) (uniqDst_ne (j := 9) (by kernel_rfl) ho_ h2_), fun hp_ => by obtain ⟨h1_, h2_⟩ := skip_off (j := 10) hact_ rfl hp_; exact put_other (t := 12) (φ := fun u_ => OwnBP 3 (Fr w0) O_ w_ (u_) #[.int .i64 (IntKind.wrap .i64 (x19.2 - 1)), .int .i64 x18, .int .i64 0, .slice none 0 0, .slice none 0 0] 33) (v2_1_ h1_) (uniqDst_ne (j := 9) (by kernel_rfl) ho_ (skip_ne hact_ rfl))⟩
    case zst8 => subst eJ_; exact fun w1_ hE_ => ⟨O14, (Base.step hB hE_ hO), (Keep.ext hE_), (Keep.ext hE_), fun h_ => no_ft h_, fun h_ => no_ft h_, fun _ => BoxO.ext ⟨_, f15, ⟨_, _, rfl, (rel_ofF (r := (rSl (rInt .i64))) f11 rfl rfl), ⟨_, _, rfl, rfl, rfl⟩⟩⟩ hE_, fun hp_ => no_ft hp_, fun hp_ => no_ft hp_, fun hp_ => no_ft hp_, fun hp_ => no_ft hp_⟩
    case zok8 | zgd8 => kernel_rfl
    subst eJ_; clear T_
    intro a15 w15 hA HF hJ_
    obtain ⟨O20, hB_, k0_, kk0_, m0_, m3_, v1_0_, v1_1_, v1_2_, v2_0_, v2_1_⟩ := hJ_
    replace q0 := kn (HF 0) rfl q0
    replace q1 := kn (HF 1) rfl q1
    replace q2 := kn (HF 2) rfl q2
    replace q7 := kn (HF 7) rfl q7
    replace q8 := kn (HF 8) rfl q8
    replace q9 := kn (HF 9) rfl q9
    replace q10 := kn (HF 10) rfl q10
    replace q11 := kn (HF 11) rfl q11
    obtain ⟨b21, q12', f22⟩ := (v2_1_ rfl)
    have q12 := q12'; clear q12'
    clear HF
    replace h_0 := GR.v_mono _ h_0 k0_
    replace f3 := OwnL.keep f3 k0_ kk0_
    have f23 := (v1_2_ rfl)
    clear f15
    clear hB; have hB := hB_; clear hB_
    have hz_ := f23; clear f23; obtain ⟨cs_, f24, hr_⟩ := hz_
    obtain ⟨u25, e_, f26⟩ := openR_colletref01_Draw hr_; subst e_
    clear k0_ kk0_ m0_ m3_ v1_0_ v1_1_ v1_2_ v2_0_ v2_1_
    refine nx_then (wp_seq ?_)
    obtain ⟨x27, hx27, h⟩ := Comp.run_bind h
    refine' regionT [_, _, _] hA (.cons (fun _ _ hE hK hg => ok_move (kn (hK 11 rfl) rfl q11)) (.cons (fun _ _ hE hK hg => ok_move (kn (hK 1 rfl) rfl q1)) (.cons (fun _ _ hE hK hg => okl_shl rfl (ksv (j := 1) (hK 43 rfl) rfl rfl rfl) (run_nonneg hx27)) .nil))) ?zok9 ?zgd9 ?zk9
    case zok9 | zgd9 => kernel_rfl
    intro a16 w16 hA hE HF
    replace q0 := kn (HF 0) rfl q0
    replace q1 := kn (HF 1) rfl q1
    replace q2 := kn (HF 2) rfl q2
    replace q7 := kn (HF 7) rfl q7
    replace q8 := kn (HF 8) rfl q8
    replace q9 := kn (HF 9) rfl q9
    replace q10 := kn (HF 10) rfl q10
    replace q11 := kn (HF 11) rfl q11
    replace q12 := kn (HF 12) rfl q12
    have q42 := ksv (HF 42) rfl rfl rfl
    have q44 := ksv (HF 44) rfl rfl rfl
    clear HF
    replace h_0 := GR.v_ext _ h_0 hE
    replace f3 := f3.ext hE
    replace f24 := f24.ext hE
    replace f26 := GR.v_ext _ f26 hE
    replace f22 := f22.ext hE
    replace hB := Base.step hB hE hO; clear hE
    obtain ⟨x28, hx28, h⟩ := Comp.run_bind h
    refine l_pio (r := r_colletref01_Draw) (x := x19.1) hO hB (okB_fr hB) fn54 (map2 q42 q44) (ok_colletref01_Draw_Next hB.ok (BoxO.arg (show BoxO 2 (Fr w0) O20 w16 b16 88 r_colletref01_Draw x19.1 from ⟨_, f24, ⟨_, _, rfl, (rel_ofF (r := (rSl (rInt .i64))) f26 rfl rfl), ⟨_, _, rfl, rfl, rfl⟩⟩⟩) (by decide)) hx28) ⟨_, f24, ⟨_, _, rfl, (rel_ofF (r := (rSl (rInt .i64))) f26 rfl rfl), ⟨_, _, rfl, rfl, rfl⟩⟩⟩ fun u29 w17 f31 hB' hX f30 => ?_
    clear hB f24; have hB := hB'; clear hB'
    replace h_0 := GR.kx _ h_0 hX (by decide)
    replace f3 := f3.kx hX (by decide) (by decide)
    replace f26 := GR.kx _ f26 hX (by decide)
    replace f22 := f22.kx hX (by decide)
    clear hX
    have hz_ := f31; clear f31; obtain ⟨cs_, f32, hr_⟩ := hz_
    obtain ⟨u33, e_, f34⟩ := openR_colletref01_Draw hr_; subst e_
    replace f30 : _ = _ := f30; subst f30
    refine put_cont hA (by decide) fun a18 hA q_ hfr => ?_
    replace q0 := (hfr 0 rfl).trans q0
    replace q1 := (hfr 1 rfl).trans q1
    replace q2 := (hfr 2 rfl).trans q2
    replace q7 := (hfr 7 rfl).trans q7
    replace q8 := (hfr 8 rfl).trans q8
    replace q9 := (hfr 9 rfl).trans q9
    replace q10 := (hfr 10 rfl).trans q10
    replace q11 := (hfr 11 rfl).trans q11
    replace q12 := (hfr 12 rfl).trans q12
    replace q42 := (hfr 42 rfl).trans q42
    replace q44 := (hfr 44 rfl).trans q44
    have q45 := q_; clear q_ hfr
    refine l_ok (φ := SP.isv (.int .i64 x28.2)) hO hB (by exact ok_assign q45) rfl fun u_ w19 hE hB' hv_ => ?_
    replace hv_ := Eq.symm hv_; subst hv_; clear hB; have hB := hB'; clear hB'
    replace h_0 := GR.v_ext _ h_0 hE
    replace f3 := f3.ext hE
    replace f32 := f32.ext hE
    replace f34 := GR.v_ext _ f34 hE
    replace f22 := f22.ext hE
    clear hE
    refine put_cont hA (by decide) fun a20 hA q_ hfr => ?_
    replace q0 := (hfr 0 rfl).trans q0
    replace q1 := (hfr 1 rfl).trans q1
    replace q2 := (hfr 2 rfl).trans q2
    replace q7 := (hfr 7 rfl).trans q7
    replace q8 := (hfr 8 rfl).trans q8
    replace q9 := (hfr 9 rfl).trans q9
    replace q10 := (hfr 10 rfl).trans q10
    replace q11 := (hfr 11 rfl).trans q11
    replace q12 := (hfr 12 rfl).trans q12
    replace q45 := (hfr 45 rfl).trans q45
    have q13 := q_; clear q_ hfr
    refine li_nil (nx_then (wp_seq ?_))
    obtain ⟨x35, hx35, h⟩ := Comp.run_bind h
    refine' regionT [_, _, _] hA (.cons (fun _ _ hE hK hg => ok_move (kn (hK 11 rfl) rfl q11)) (.cons (fun _ _ hE hK hg => ok_move (kn (hK 1 rfl) rfl q1)) (.cons (fun _ _ hE hK hg => okl_shl rfl (ksv (j := 1) (hK 47 rfl) rfl rfl rfl) (run_nonneg hx35)) .nil))) ?zok10 ?zgd10 ?zk10
    case zok10 | zgd10 => kernel_rfl
    intro a21 w21 hA hE HF
    replace q0 := kn (HF 0) rfl q0
    replace q1 := kn (HF 1) rfl q1
    replace q2 := kn (HF 2) rfl q2
    replace q7 := kn (HF 7) rfl q7
    replace q8 := kn (HF 8) rfl q8
    replace q9 := kn (HF 9) rfl q9
    replace q10 := kn (HF 10) rfl q10
    replace q12 := kn (HF 12) rfl q12
    replace q13 := kn (HF 13) rfl q13
    have q46 := ksv (HF 46) rfl rfl rfl
    have q48 := ksv (HF 48) rfl rfl rfl
    clear q11
    clear HF
    replace h_0 := GR.v_ext _ h_0 hE
    replace f3 := f3.ext hE
    replace f32 := f32.ext hE
    replace f34 := GR.v_ext _ f34 hE
    replace f22 := f22.ext hE
    replace hB := Base.step hB hE hO; clear hE
    obtain ⟨x36, hx36, h⟩ := Comp.run_bind h
    refine l_pio (r := r_colletref01_Draw) (x := x28.1) hO hB (okB_fr hB) fn54 (map2 q46 q48) (ok_colletref01_Draw_Next hB.ok (BoxO.arg (show BoxO 2 (Fr w0) O20 w21 b16 88 r_colletref01_Draw x28.1 from ⟨_, f32, ⟨_, _, rfl, (rel_ofF (r := (rSl (rInt .i64))) f34 rfl rfl), ⟨_, _, rfl, rfl, rfl⟩⟩⟩) (by decide)) hx36) ⟨_, f32, ⟨_, _, rfl, (rel_ofF (r := (rSl (rInt .i64))) f34 rfl rfl), ⟨_, _, rfl, rfl, rfl⟩⟩⟩ fun u37 w22 f39 hB' hX f38 => ?_
    clear hB f32; have hB := hB'; clear hB'
    replace h_0 := GR.kx _ h_0 hX (by decide)
    replace f3 := f3.kx hX (by decide) (by decide)
    replace f34 := GR.kx _ f34 hX (by decide)
    replace f22 := f22.kx hX (by decide)
    clear hX
    have hz_ := f39; clear f39; obtain ⟨cs_, f40, hr_⟩ := hz_
    obtain ⟨u41, e_, f42⟩ := openR_colletref01_Draw hr_; subst e_
    replace f38 : _ = _ := f38; subst f38
    refine put_cont hA (by decide) fun a23 hA q_ hfr => ?_
    replace q0 := (hfr 0 rfl).trans q0
    replace q1 := (hfr 1 rfl).trans q1
    replace q2 := (hfr 2 rfl).trans q2
    replace q7 := (hfr 7 rfl).trans q7
    replace q8 := (hfr 8 rfl).trans q8
    replace q9 := (hfr 9 rfl).trans q9
    replace q10 := (hfr 10 rfl).trans q10
    replace q12 := (hfr 12 rfl).trans q12
    replace q13 := (hfr 13 rfl).trans q13
    replace q46 := (hfr 46 rfl).trans q46
    replace q48 := (hfr 48 rfl).trans q48
    have q49 := q_; clear q_ hfr
    refine l_ok (φ := SP.isv (.int .i64 x36.2)) hO hB (by exact ok_assign q49) rfl fun u_ w24 hE hB' hv_ => ?_
    replace hv_ := Eq.symm hv_; subst hv_; clear hB; have hB := hB'; clear hB'
    replace h_0 := GR.v_ext _ h_0 hE
    replace f3 := f3.ext hE
    replace f22 := f22.ext hE
    clear hE
    refine put_cont hA (by decide) fun a25 hA q_ hfr => ?_
    replace q0 := (hfr 0 rfl).trans q0
    replace q1 := (hfr 1 rfl).trans q1
    replace q2 := (hfr 2 rfl).trans q2
    replace q7 := (hfr 7 rfl).trans q7
    replace q8 := (hfr 8 rfl).trans q8
    replace q9 := (hfr 9 rfl).trans q9
    replace q10 := (hfr 10 rfl).trans q10
    replace q12 := (hfr 12 rfl).trans q12
    replace q13 := (hfr 13 rfl).trans q13
    replace q49 := (hfr 49 rfl).trans q49
    have q14 := q_; clear q_ hfr
    refine li_nil (nx_then ?_)
    refine seq_join (fun a w => ∃ (O72 : Tags) (x52 : Bool) (x53 : Int) (x54 : Int) (x55 : Int) (x56 : Int) (x57 : List Int) (x60 : List Int) (u58 : Value) (u61 : Value), a.fit 84 ∧ Base (Fr w0) O w0 O72 w ∧ a.get 0 = v_0 ∧ (rSl (rSl (rInt .i64))).v O72 w v_0 x_0 ∧ a.get 1 = .int .i64 x_1 ∧ a.get 2 = .int .i64 x_2 ∧ a.get 7 = u2 ∧ OwnL 1 r_api_Claim 33 (Fr w0) O72 w u2 x1 ∧ a.get 8 = .bool x52 ∧ a.get 9 = .int .i64 x53 ∧ a.get 10 = .int .i64 x6 ∧ a.get 12 = .pointer (some ⟨b21, 0, none⟩) ∧ OwnB 3 (Fr w0) O72 w b21 #[.int .i64 x54, .int .i64 x55, .int .i64 x56, u58, u61] 33 ∧ (rSl (rInt .i64)).v O72 w u58 x57 ∧ (rSl (rInt .i64)).v O72 w u61 x60 ∧ (colletref43_Claims_j4 x1 x6 x52 x53 x54 x55 x56 x57 x60).run n = some st2) ?_ ?_
    ·
     refine wp_seq ?_
     refine' region [SP.isv (.pointer (some ⟨b21, 1, none⟩)), SP.isv (.int .i64 x18)] mixed hA (.cons (fun _ _ hE hK hg => ok_fieldAddr fl33_1 (kn (hK 12 rfl) rfl q12)) (.cons (fun _ _ hE hK hg => ok_loadOwn ty3 rfl (ksv (j := 0) (hK 50 rfl) rfl rfl rfl) (OwnB.ext f22 hE).own rfl) .nil)) ?zok11 ?zgd11 ?zk11
     case zok11 | zgd11 => kernel_rfl
     intro a26 w26 hA hE HF
     replace q0 := kn (HF 0) rfl q0
     replace q1 := kn (HF 1) rfl q1
     replace q2 := kn (HF 2) rfl q2
     replace q7 := kn (HF 7) rfl q7
     replace q8 := kn (HF 8) rfl q8
     replace q9 := kn (HF 9) rfl q9
     replace q10 := kn (HF 10) rfl q10
     replace q12 := kn (HF 12) rfl q12
     replace q13 := kn (HF 13) rfl q13
     replace q14 := kn (HF 14) rfl q14
     have q51 := ksv (HF 51) rfl rfl rfl
     clear HF
     replace h_0 := GR.v_ext _ h_0 hE
     replace f3 := f3.ext hE
     replace f22 := f22.ext hE
     replace hB := Base.step hB hE hO; clear hE
     refine li_nil (nx_then (wp_block (wp_seq ?_)))
     refine' region [_, _] mixed hA (.cons (fun _ _ hE hK hg => ok_eqlI (kn (hK 51 rfl) rfl q51) rfl) (.cons (fun _ _ hE hK hg => ok_assign (ksv (j := 0) (hK 53 rfl) rfl rfl rfl)) .nil)) ?zok12 ?zgd12 ?zk12
     case zok12 | zgd12 => kernel_rfl
     intro a27 w27 hA hE HF
     replace q0 := kn (HF 0) rfl q0
     replace q1 := kn (HF 1) rfl q1
     replace q2 := kn (HF 2) rfl q2
     replace q7 := kn (HF 7) rfl q7
     replace q8 := kn (HF 8) rfl q8
     replace q9 := kn (HF 9) rfl q9
     replace q10 := kn (HF 10) rfl q10
     replace q12 := kn (HF 12) rfl q12
     replace q13 := kn (HF 13) rfl q13
     replace q14 := kn (HF 14) rfl q14
     replace q51 := kn (HF 51) rfl q51
     have q52 := ksv (HF 52) rfl rfl rfl
     clear HF
     replace h_0 := GR.v_ext _ h_0 hE
     replace f3 := f3.ext hE
     replace f22 := f22.ext hE
     replace hB := Base.step hB hE hO; clear hE
     refine li_nil (nx_then ?_)
     refine wp_cond_b q52 (fun hc => ?_) (fun hc => ?_)
     ·
      replace h := Comp.run_b_t hc h; clear hc
      refine wp_seq (wp_seq ?_)
      refine' region [_] mixed hA (.cons (fun _ _ hE hK hg => ok_move (kn (hK 8 rfl) rfl q8)) .nil) ?zok13 ?zgd13 ?zk13
      case zok13 | zgd13 => kernel_rfl
      intro a28 w28 hA hE HF
      replace q0 := kn (HF 0) rfl q0
      replace q1 := kn (HF 1) rfl q1
      replace q2 := kn (HF 2) rfl q2
      replace q7 := kn (HF 7) rfl q7
      replace q8 := kn (HF 8) rfl q8
      replace q9 := kn (HF 9) rfl q9
      replace q10 := kn (HF 10) rfl q10
      replace q12 := kn (HF 12) rfl q12
      replace q13 := kn (HF 13) rfl q13
      replace q14 := kn (HF 14) rfl q14
      have q54 := ksv (HF 54) rfl rfl rfl
      clear q51
      clear q52
      clear HF
      replace h_0 := GR.v_ext _ h_0 hE
      replace f3 := f3.ext hE
      replace f22 := f22.ext hE
      replace hB := Base.step hB hE hO; clear hE
      refine li_nil (nx_then ?_)
      refine wp_cond_b q54 (fun hc => ?_) (fun hc => ?_)
      ·
       replace h := Comp.run_b_t hc h; clear hc
       refine wp_exit ?_
       refine (ex_then (ex_other rfl (ex_then (ex_same ?_))))
       refine nx_then ?_
       exact ⟨_, _, _, _, _, hA, hB, q0, h_0, q1, q2, q7, f3, q8, q9, q10, h⟩
      ·
       replace h := Comp.run_b_f hc h; clear hc
       refine wp_skip (nx_then (wp_seq ?_))
       refine' region [_] mixed hA (.cons (fun _ _ hE hK hg => ok_assign rfl) .nil) ?zok14 ?zgd14 ?zk14
       case zok14 | zgd14 => kernel_rfl
       intro a29 w29 hA hE HF
       replace q0 := kn (HF 0) rfl q0
       replace q1 := kn (HF 1) rfl q1
       replace q2 := kn (HF 2) rfl q2
       replace q7 := kn (HF 7) rfl q7
       have q8' := ksv (HF 8) rfl rfl rfl
       replace q8 := q8'; clear q8'
       replace q9 := kn (HF 9) rfl q9
       replace q10 := kn (HF 10) rfl q10
       replace q12 := kn (HF 12) rfl q12
       replace q13 := kn (HF 13) rfl q13
       replace q14 := kn (HF 14) rfl q14
       clear q54
       clear HF
       replace h_0 := GR.v_ext _ h_0 hE
       replace f3 := f3.ext hE
       replace f22 := f22.ext hE
       replace hB := Base.step hB hE hO; clear hE
       refine li_nil (nx_then ?_)
       obtain ⟨x48, hx48, h⟩ := Comp.run_bind h
       refine' regionT [_, _, _, _, SP.vl (rSl (rInt .i64)) O20 x48, SP.isv (.pointer (some ⟨b21, 4, none⟩))] hA (.cons (fun _ _ hE hK hg => ok_move (kn (hK 13 rfl) rfl q13)) (.cons (fun _ _ hE hK hg => ok_move (kn (hK 14 rfl) rfl q14)) (.cons (fun _ _ hE hK hg => okb_or (ksv (j := 0) (hK 55 rfl) rfl rfl rfl) (ksv (j := 1) (hK 56 rfl) rfl rfl rfl)) (.cons (fun _ _ hE hK hg => ok_move (kn (hK 1 rfl) rfl q1)) (.cons ?z15_4 (.cons (fun _ _ hE hK hg => ok_fieldAddr fl33_4 (kn (hK 12 rfl) rfl q12)) .nil)))))) ?zok15 ?zgd15 ?zk15
       case z15_4 => intro a' w' hE hK hg; have c_ := ok_colletref43_Subset (OkO.ext hB.ok hE)  hx48; exact ok_weak (ok_call2 fn55 (ksv (j := 2) (hK 57 rfl) rfl rfl rfl) (ksv (j := 3) (hK 58 rfl) rfl rfl rfl) c_) (fun _ _ _ h => (OwnR.val h (fun g hg => (OkO.ext hB.ok hE) g (OwnR.ge h g hg).1)))
       case zok15 | zgd15 => kernel_rfl
       intro a30 w30 hA hE HF
       replace q0 := kn (HF 0) rfl q0
       replace q1 := kn (HF 1) rfl q1
       replace q2 := kn (HF 2) rfl q2
       replace q7 := kn (HF 7) rfl q7
       replace q8 := kn (HF 8) rfl q8
       replace q9 := kn (HF 9) rfl q9
       replace q10 := kn (HF 10) rfl q10
       replace q12 := kn (HF 12) rfl q12
       have f50 := ksp (HF 59) rfl rfl rfl
       obtain ⟨u49, q59'⟩ : ∃ u, a30.get 59 = u := ⟨_, rfl⟩
       rw [q59'] at f50
       have q59 := q59'; clear q59'
       have q60 := ksv (HF 60) rfl rfl rfl
       clear q13
       clear q14
       clear HF
       replace h_0 := GR.v_ext _ h_0 hE
       replace f3 := f3.ext hE
       replace f22 := f22.ext hE
       replace hB := Base.step hB hE hO; clear hE
       refine l_store1 (cs' := #[.int .i64 (IntKind.wrap .i64 (x19.2 - 1)), .int .i64 x18, .int .i64 0, .slice none 0 0, u49]) hO hB (okB_fr hB) ty23 q60 q59 (sl_cells f50 rfl rfl) (sl_one f50 rfl rfl) f22 (by simp) rfl fun w31 f51 hB' hX => ?_
       clear hB f22; have hB := hB'; clear hB'
       replace h_0 := GR.kx _ h_0 hX (by decide)
       replace f3 := f3.kx hX (by decide) (by decide)
       replace f50 := GR.kx _ f50 hX (by decide)
       clear hX
       refine li_nil (nx_blk (nx_then ?_))
       exact ⟨_, _, _, _, _, _, _, _, _, _, hA, hB, q0, h_0, q1, q2, q7, f3, q8, q9, q10, q12, f51, (rSl_nil _ _ _ 0), f50, h⟩
     ·
      replace h := Comp.run_b_f hc h; clear hc
      refine wp_seq ?_
      refine' region [_, _] mixed hA (.cons (fun _ _ hE hK hg => ok_eqlI (kn (hK 51 rfl) rfl q51) rfl) (.cons (fun _ _ hE hK hg => ok_assign (ksv (j := 0) (hK 62 rfl) rfl rfl rfl)) .nil)) ?zok16 ?zgd16 ?zk16
      case zok16 | zgd16 => kernel_rfl
      intro a32 w32 hA hE HF
      replace q0 := kn (HF 0) rfl q0
      replace q1 := kn (HF 1) rfl q1
      replace q2 := kn (HF 2) rfl q2
      replace q7 := kn (HF 7) rfl q7
      replace q8 := kn (HF 8) rfl q8
      replace q9 := kn (HF 9) rfl q9
      replace q10 := kn (HF 10) rfl q10
      replace q12 := kn (HF 12) rfl q12
      replace q13 := kn (HF 13) rfl q13
      replace q14 := kn (HF 14) rfl q14
      replace q51 := kn (HF 51) rfl q51
      have q61 := ksv (HF 61) rfl rfl rfl
      clear q52
      clear HF
      replace h_0 := GR.v_ext _ h_0 hE
      replace f3 := f3.ext hE
      replace f22 := f22.ext hE
      replace hB := Base.step hB hE hO; clear hE
      refine li_nil (nx_then ?_)
      refine wp_cond_b q61 (fun hc => ?_) (fun hc => ?_)
      ·
       replace h := Comp.run_b_t hc h; clear hc
       obtain ⟨x63, hx63, h⟩ := Comp.run_bind h
       obtain ⟨x64, hx64, h⟩ := Comp.run_bind h
       refine' regionT [_, _, _, _, SP.vl (rSl (rInt .i64)) O20 x63, _, _, SP.vl (rSl (rInt .i64)) O20 x64, SP.isv (.pointer (some ⟨b21, 3, none⟩))] hA (.cons (fun _ _ hE hK hg => ok_move (kn (hK 13 rfl) rfl q13)) (.cons (fun _ _ hE hK hg => ok_move (kn (hK 14 rfl) rfl q14)) (.cons (fun _ _ hE hK hg => okb_and (ksv (j := 0) (hK 63 rfl) rfl rfl rfl) (ksv (j := 1) (hK 64 rfl) rfl rfl rfl)) (.cons (fun _ _ hE hK hg => ok_move (kn (hK 1 rfl) rfl q1)) (.cons ?z17_4 (.cons (fun _ _ hE hK hg => ok_move (kn (hK 13 rfl) rfl q13)) (.cons (fun _ _ hE hK hg => ok_move (kn (hK 1 rfl) rfl q1)) (.cons ?z17_7 (.cons (fun _ _ hE hK hg => ok_fieldAddr fl33_3 (kn (hK 12 rfl) rfl q12)) .nil))))))))) ?zok17 ?zgd17 ?zk17
       case z17_4 => intro a' w' hE hK hg; have c_ := ok_colletref43_Subset (OkO.ext hB.ok hE)  hx63; exact ok_weak (ok_call2 fn55 (ksv (j := 2) (hK 65 rfl) rfl rfl rfl) (ksv (j := 3) (hK 66 rfl) rfl rfl rfl) c_) (fun _ _ _ h => (OwnR.val h (fun g hg => (OkO.ext hB.ok hE) g (OwnR.ge h g hg).1)))
       case z17_7 => intro a' w' hE hK hg; have c_ := ok_colletref43_Subset (OkO.ext hB.ok hE)  hx64; exact ok_weak (ok_call2 fn55 (ksv (j := 5) (hK 68 rfl) rfl rfl rfl) (ksv (j := 6) (hK 69 rfl) rfl rfl rfl) c_) (fun _ _ _ h => (OwnR.val h (fun g hg => (OkO.ext hB.ok hE) g (OwnR.ge h g hg).1)))
       case zok17 | zgd17 => kernel_rfl
       intro a33 w33 hA hE HF
       replace q0 := kn (HF 0) rfl q0
       replace q1 := kn (HF 1) rfl q1
       replace q2 := kn (HF 2) rfl q2
       replace q7 := kn (HF 7) rfl q7
       replace q8 := kn (HF 8) rfl q8
       replace q9 := kn (HF 9) rfl q9
       replace q10 := kn (HF 10) rfl q10
       replace q12 := kn (HF 12) rfl q12
       have f66 := ksp (HF 67) rfl rfl rfl
       obtain ⟨u65, q67'⟩ : ∃ u, a33.get 67 = u := ⟨_, rfl⟩
       rw [q67'] at f66
       have q67 := q67'; clear q67'
       have f68 := ksp (HF 70) rfl rfl rfl
       obtain ⟨u67, q70'⟩ : ∃ u, a33.get 70 = u := ⟨_, rfl⟩
       rw [q70'] at f68
       have q70 := q70'; clear q70'
       have q71 := ksv (HF 71) rfl rfl rfl
       clear q13
       clear q14
       clear q51
       clear q61
       clear HF
       replace h_0 := GR.v_ext _ h_0 hE
       replace f3 := f3.ext hE
       replace f22 := f22.ext hE
       replace hB := Base.step hB hE hO; clear hE
       refine l_store1 (cs' := #[.int .i64 (IntKind.wrap .i64 (x19.2 - 1)), .int .i64 x18, .int .i64 0, u65, .slice none 0 0]) hO hB (okB_fr hB) ty23 q71 q67 (sl_cells f66 rfl rfl) (sl_one f66 rfl rfl) f22 (by simp) rfl fun w34 f69 hB' hX => ?_
       clear hB f22; have hB := hB'; clear hB'
       replace h_0 := GR.kx _ h_0 hX (by decide)
       replace f3 := f3.kx hX (by decide) (by decide)
       replace f66 := GR.kx _ f66 hX (by decide)
       replace f68 := GR.kx _ f68 hX (by decide)
       clear hX
       refine l_ok (φ := SP.isv (.pointer (some ⟨b21, 4, none⟩))) hO hB (by exact ok_fieldAddr fl33_4 q12) rfl fun u_ w35 hE hB' hv_ => ?_
       replace hv_ := Eq.symm hv_; subst hv_; clear hB; have hB := hB'; clear hB'
       replace h_0 := GR.v_ext _ h_0 hE
       replace f3 := f3.ext hE
       replace f68 := GR.v_ext _ f68 hE
       replace f69 := f69.ext hE
       replace f66 := GR.v_ext _ f66 hE
       clear hE
       refine put_cont hA (by decide) fun a36 hA q_ hfr => ?_
       replace q0 := (hfr 0 rfl).trans q0
       replace q1 := (hfr 1 rfl).trans q1
       replace q2 := (hfr 2 rfl).trans q2
       replace q7 := (hfr 7 rfl).trans q7
       replace q8 := (hfr 8 rfl).trans q8
       replace q9 := (hfr 9 rfl).trans q9
       replace q10 := (hfr 10 rfl).trans q10
       replace q12 := (hfr 12 rfl).trans q12
       replace q70 := (hfr 70 rfl).trans q70
       have q72 := q_; clear q_ hfr
       refine l_store1 (cs' := #[.int .i64 (IntKind.wrap .i64 (x19.2 - 1)), .int .i64 x18, .int .i64 0, u65, u67]) hO hB (okB_fr hB) ty23 q72 q70 (sl_cells f68 rfl rfl) (sl_one f68 rfl rfl) f69 (by simp) rfl fun w37 f70 hB' hX => ?_
       clear hB f69; have hB := hB'; clear hB'
       replace h_0 := GR.kx _ h_0 hX (by decide)
       replace f3 := f3.kx hX (by decide) (by decide)
       replace f68 := GR.kx _ f68 hX (by decide)
       replace f66 := GR.kx _ f66 hX (by decide)
       clear hX
       refine li_nil (nx_blk (nx_then ?_))
       exact ⟨_, _, _, _, _, _, _, _, _, _, hA, hB, q0, h_0, q1, q2, q7, f3, q8, q9, q10, q12, f70, f66, f68, h⟩
      ·
       replace h := Comp.run_b_f hc h; clear hc
       refine wp_seq ?_
       refine' region [_, _] mixed hA (.cons (fun _ _ hE hK hg => ok_eqlI (kn (hK 51 rfl) rfl q51) rfl) (.cons (fun _ _ hE hK hg => ok_assign (ksv (j := 0) (hK 74 rfl) rfl rfl rfl)) .nil)) ?zok18 ?zgd18 ?zk18
       case zok18 | zgd18 => kernel_rfl
       intro a38 w38 hA hE HF
       replace q0 := kn (HF 0) rfl q0
       replace q1 := kn (HF 1) rfl q1
       replace q2 := kn (HF 2) rfl q2
       replace q7 := kn (HF 7) rfl q7
       replace q8 := kn (HF 8) rfl q8
       replace q9 := kn (HF 9) rfl q9
       replace q10 := kn (HF 10) rfl q10
       replace q12 := kn (HF 12) rfl q12
       have q73 := ksv (HF 73) rfl rfl rfl
       clear q13
       clear q14
       clear q51
       clear q61
       clear HF
       replace h_0 := GR.v_ext _ h_0 hE
       replace f3 := f3.ext hE
       replace f22 := f22.ext hE
       replace hB := Base.step hB hE hO; clear hE
       refine li_nil (nx_then ?_)
       refine wp_cond_b q73 (fun hc => ?_) (fun hc => ?_)
       ·
        replace h := Comp.run_b_t hc h; clear hc
        refine wp_seq ?_
        refine' regionT [_, SP.isv (.pointer (some ⟨b21, 2, none⟩))] hA (.cons (fun _ _ hE hK hg => ok_move (kn (hK 9 rfl) rfl q9)) (.cons (fun _ _ hE hK hg => ok_fieldAddr fl33_2 (kn (hK 12 rfl) rfl q12)) .nil)) ?zok19 ?zgd19 ?zk19
        case zok19 | zgd19 => kernel_rfl
        intro a39 w39 hA hE HF
        replace q0 := kn (HF 0) rfl q0
        replace q1 := kn (HF 1) rfl q1
        replace q2 := kn (HF 2) rfl q2
        replace q7 := kn (HF 7) rfl q7
        replace q8 := kn (HF 8) rfl q8
        replace q9 := kn (HF 9) rfl q9
        replace q10 := kn (HF 10) rfl q10
        replace q12 := kn (HF 12) rfl q12
        have q75 := ksv (HF 75) rfl rfl rfl
        have q76 := ksv (HF 76) rfl rfl rfl
        clear q73
        clear HF
        replace h_0 := GR.v_ext _ h_0 hE
        replace f3 := f3.ext hE
        replace f22 := f22.ext hE
        replace hB := Base.step hB hE hO; clear hE
        refine l_store1 (cs' := #[.int .i64 (IntKind.wrap .i64 (x19.2 - 1)), .int .i64 x18, .int .i64 x5, .slice none 0 0, .slice none 0 0]) hO hB (okB_fr hB) ty3 q76 q75 rfl rfl f22 (by simp) rfl fun w40 f71 hB' hX => ?_
        clear hB f22; have hB := hB'; clear hB'
        replace h_0 := GR.kx _ h_0 hX (by decide)
        replace f3 := f3.kx hX (by decide) (by decide)
        clear hX
        refine li_nil (nx_then ?_)
        refine' region [_, _, _] mixed hA (.cons (fun _ _ hE hK hg => ok_move (kn (hK 9 rfl) rfl q9)) (.cons (fun _ _ hE hK hg => ok_add (ksv (j := 0) (hK 77 rfl) rfl rfl rfl) rfl) (.cons (fun _ _ hE hK hg => ok_assign (ksv (j := 1) (hK 78 rfl) rfl rfl rfl)) .nil))) ?zok20 ?zgd20 ?zk20
        case zok20 | zgd20 => kernel_rfl
        intro a41 w41 hA hE HF
        replace q0 := kn (HF 0) rfl q0
        replace q1 := kn (HF 1) rfl q1
        replace q2 := kn (HF 2) rfl q2
        replace q7 := kn (HF 7) rfl q7
        replace q8 := kn (HF 8) rfl q8
        have q9' := ksv (HF 9) rfl rfl rfl
        replace q9 := q9'; clear q9'
        replace q10 := kn (HF 10) rfl q10
        replace q12 := kn (HF 12) rfl q12
        clear HF
        replace h_0 := GR.v_ext _ h_0 hE
        replace f3 := f3.ext hE
        replace f71 := f71.ext hE
        replace hB := Base.step hB hE hO; clear hE
        refine li_nil (nx_blk (nx_then ?_))
        exact ⟨_, _, _, _, _, _, _, _, _, _, hA, hB, q0, h_0, q1, q2, q7, f3, q8, q9, q10, q12, f71, (rSl_nil _ _ _ 0), (rSl_nil _ _ _ 0), h⟩
       ·
        replace h := Comp.run_b_f hc h; clear hc
        refine wp_skip (nx_blk (nx_then ?_))
        exact ⟨_, _, _, _, _, _, _, _, _, _, hA, hB, q0, h_0, q1, q2, q7, f3, q8, q9, q10, q12, f22, (rSl_nil _ _ _ 0), (rSl_nil _ _ _ 0), h⟩
    intro a42 w42 hI
    clear hA hB h q0 q1 q2 q7 q8 q9 q10 q12 q13 q14 f22 f3 h_0
    obtain ⟨O72, x52, x53, x54, x55, x56, x57, x60, u58, u61, hA, hB, q0, h_0, q1, q2, q7, f3, q8, q9, q10, q12, f51, f59, f62, h⟩ := hI
    unfold colletref43_Claims_j4 at h
    refine' regionT [_, SP.isv (.agg #[.int .i64 x54, .int .i64 x55, .int .i64 x56, u58, u61]), SP.vl (rSl r_api_Claim) O72 [(api_Claim.mk x54 x55 x56 x57 x60)]] hA (.cons (fun _ _ hE hK hg => ok_move (kn (hK 7 rfl) rfl q7)) (.cons (fun _ _ hE hK hg => ok_loadOwnAgg ty33 rfl (kn (hK 12 rfl) rfl q12) (OwnB.ext f51 hE).own rfl) (.cons (fun _ _ hE hK hg => okl_buildSliceV (r := r_api_Claim) fit_api_Claim rfl (OkO.ext hB.ok hE) ty27 ty33 (parts_cons (ksv (j := 1) (hK 80 rfl) rfl rfl rfl) parts_nil) ⟨⟨_, ⟨_, _, rfl, rfl, ⟨_, _, rfl, rfl, ⟨_, _, rfl, rfl, ⟨_, _, rfl, (rel_ofF (r := (rSl (rInt .i64))) (GR.v_ext _ f59 hE) rfl rfl), ⟨_, _, rfl, (rel_ofF (r := (rSl (rInt .i64))) (GR.v_ext _ f62 hE) rfl rfl), rfl⟩⟩⟩⟩⟩, rfl⟩, trivial⟩ rfl (by decide)) .nil))) ?zok21 ?zgd21 ?zk21
    case zok21 | zgd21 => kernel_rfl
    intro a43 w43 hA hE HF
    replace q0 := kn (HF 0) rfl q0
    replace q1 := kn (HF 1) rfl q1
    replace q2 := kn (HF 2) rfl q2
    replace q7 := kn (HF 7) rfl q7
    replace q8 := kn (HF 8) rfl q8
    replace q9 := kn (HF 9) rfl q9
    replace q10 := kn (HF 10) rfl q10
    have q79 := ksv (HF 79) rfl rfl rfl
    have f74 := ksp (HF 81) rfl rfl rfl
    obtain ⟨u73, q81'⟩ : ∃ u, a43.get 81 = u := ⟨_, rfl⟩
    rw [q81'] at f74
    have q81 := q81'; clear q81'
    clear q12
    clear HF
    replace h_0 := GR.v_ext _ h_0 hE
    replace f3 := f3.ext hE
    replace f51 := f51.ext hE
    replace f59 := GR.v_ext _ f59 hE
    replace f62 := GR.v_ext _ f62 hE
    replace hB := Base.step hB hE hO; clear hE
    obtain ⟨x75, hx75, h⟩ := Comp.run_bind h
    refine l_append (r := r_api_Claim) fit_api_Claim rfl ty27 ty33 rfl (by decide) hO hB (okB_fr hB) q79 f3 q81 (rd_of f74) hx75 (by decide) fun u76 w44 O77 f78 hB' hX => ?_
    clear hB; have hB := hB'; clear hB'
    clear f3
    replace h_0 := GR.kx _ h_0 hX (by decide)
    replace f74 := GR.kx _ f74 hX (by decide)
    clear hX
    refine put_cont hA (by decide) fun a45 hA q_ hfr => ?_
    replace q0 := (hfr 0 rfl).trans q0
    replace q1 := (hfr 1 rfl).trans q1
    replace q2 := (hfr 2 rfl).trans q2
    replace q7 := (hfr 7 rfl).trans q7
    replace q8 := (hfr 8 rfl).trans q8
    replace q9 := (hfr 9 rfl).trans q9
    replace q10 := (hfr 10 rfl).trans q10
    replace q79 := (hfr 79 rfl).trans q79
    replace q81 := (hfr 81 rfl).trans q81
    have q82 := q_; clear q_ hfr
    refine l_ok (φ := SP.isv (u76)) hO hB (by exact ok_assign q82) rfl fun u_ w46 hE hB' hv_ => ?_
    replace hv_ := Eq.symm hv_; subst hv_; clear hB; have hB := hB'; clear hB'
    replace h_0 := GR.v_ext _ h_0 hE
    replace f78 := f78.ext hE
    clear hE
    refine put_cont hA (by decide) fun a47 hA q_ hfr => ?_
    replace q0 := (hfr 0 rfl).trans q0
    replace q1 := (hfr 1 rfl).trans q1
    replace q2 := (hfr 2 rfl).trans q2
    replace q8 := (hfr 8 rfl).trans q8
    replace q9 := (hfr 9 rfl).trans q9
    replace q10 := (hfr 10 rfl).trans q10
    replace q82 := (hfr 82 rfl).trans q82
    clear q7
    have q7 := q_; clear q_ hfr
    refine li_nil (nx_blk (nx_then ?_))
    exact ⟨_, _, _, _, _, hA, hB, q0, h_0, q1, q2, q7, f78, q8, q9, q10, h⟩
   intro a48 w48 hI
   clear hA hB h q0 q1 q2 q7 q8 q9 q10 q24 f3 h_0
   obtain ⟨O79, x43, x46, x47, u44, hA, hB, q0, h_0, q1, q2, q7, f45, q8, q9, q10, h⟩ := hI
   unfold colletref43_Claims_j3 at h
   refine' region [_, _, _] mixed hA (.cons (fun _ _ hE hK hg => ok_move (kn (hK 10 rfl) rfl q10)) (.cons (fun _ _ hE hK hg => ok_add (ksv (j := 0) (hK 25 rfl) rfl rfl rfl) rfl) (.cons (fun _ _ hE hK hg => ok_assign (ksv (j := 1) (hK 26 rfl) rfl rfl rfl)) .nil))) ?zok22 ?zgd22 ?zk22
   case zok22 | zgd22 => kernel_rfl
   intro a49 w49 hA hE HF
   replace q0 := kn (HF 0) rfl q0
   replace q1 := kn (HF 1) rfl q1
   replace q2 := kn (HF 2) rfl q2
   replace q7 := kn (HF 7) rfl q7
   replace q8 := kn (HF 8) rfl q8
   replace q9 := kn (HF 9) rfl q9
   have q10' := ksv (HF 10) rfl rfl rfl
   replace q10 := q10'; clear q10'
   clear HF
   replace h_0 := GR.v_ext _ h_0 hE
   replace f45 := f45.ext hE
   replace hB := Base.step hB hE hO; clear hE
   refine li_nil (nx_then ?_)
   have h := hnext2 _ (Comp.run_pure h).symm
   refine ⟨m2, hlt2, ?_⟩
   exact ⟨_, _, _, _, _, _, hA, hB, q0, h_0, q1, q2, q7, f45, q8, q9, q10, h⟩
  ·
   replace h := Comp.run_b_f hc h; clear hc
   refine wp_exit (ex_then (ex_then (ex_same ?_)))
   have hd_ := hdone2 _ (Comp.run_pure h).symm; clear h
   subst hd_; have h := hk2; clear hk2; try dsimp only at h
   refine nx_then ?_
   exact ⟨_, _, _, hA, hB, q7, f3, h⟩
 intro a50 w50 hI
 clear hA hB h q0 q1 q2 q7 q8 q9 h_0
 obtain ⟨O85, x82, u83, hA, hB, q7, f84, h⟩ := hI
 unfold colletref43_Claims_j1 at h
 refine wp_seq ?_
 refine' region [_, _] mixed hA (.cons (fun _ _ hE hK hg => ok_move (kn (hK 7 rfl) rfl q7)) (.cons (fun _ _ hE hK hg => ok_assign (ksv (j := 0) (hK 83 rfl) rfl rfl rfl)) .nil)) ?zok23 ?zgd23 ?zk23
 case zok23 | zgd23 => kernel_rfl
 intro a51 w51 hA hE HF
 have q6 := ksv (HF 6) rfl rfl rfl
 clear q7
 clear HF
 replace f84 := f84.ext hE
 replace hB := Base.step hB hE hO; clear hE
 refine li_nil (nx_then (wp_ret ?_))
 have h := Comp.run_pure h; subst h
 exact retPure Try.results36 hA q6 hB.ext (OwnL.res f84 (by decide) hB.zero)
theorem ok_colletref43_Sights {O : Tags} {w0 : World} (hO : OkO O w0) {v_0 : Value} {x_0 : List Int} (h_0 : (rSl (rInt .i64)).v O w0 v_0 x_0) {x_1 : Int} {n : Nat} {y : (List api_Sight)} (h : (colletref43_Sights x_0 x_1).run n = some y) : Pure Try.prog 37 #[v_0, .int .i64 x_1] w0 (SP.ownr r_api_Sight 64 (w0.heap.size) O y).holds := by
 unfold colletref43_Sights at h
 refine pure_of_wp Try.func37 rfl 38 Try.ntmps37 (by simp) fun a0 hA hs0 => ?_
 have q0 : a0.get 0 = v_0 := hs0 0 _ rfl
 have q1 : a0.get 1 = .int .i64 x_1 := hs0 1 _ rfl
 clear hs0
 have hB : Base (Fr w0) O w0 O w0 := Base.start hO
 refine wp_seq ?_
 refine' region [_] mixed hA (.cons (fun _ _ hE hK hg => ok_assign rfl) .nil) ?zok1 ?zgd1 ?zk1
 case zok1 | zgd1 => kernel_rfl
 intro a1 w1 hA hE HF
 replace q0 := kn (HF 0) rfl q0
 replace q1 := kn (HF 1) rfl q1
 clear HF
 replace h_0 := GR.v_ext _ h_0 hE
 replace hB := Base.step hB hE hO; clear hE
 refine li_nil (nx_then (wp_seq ?_))
 refine' regionT [_] hA (.cons (fun _ _ hE hK hg => ok_move (kn (hK 0 rfl) rfl q0)) .nil) ?zok2 ?zgd2 ?zk2
 case zok2 | zgd2 => kernel_rfl
 intro a2 w2 hA hE HF
 replace q0 := kn (HF 0) rfl q0
 replace q1 := kn (HF 1) rfl q1
 have q8 := ksv (HF 8) rfl rfl rfl
 clear HF
 replace h_0 := GR.v_ext _ h_0 hE
 replace hB := Base.step hB hE hO; clear hE
 refine l_ok (φ := SP.isv (.agg #[v_0, .int .i64 0])) hO hB (by refine okl_build (vals := [(0, v_0)]) (out := [v_0, .int .i64 0]) plc88 ty88 ?_ rfl ?_ rfl; exact (pk_cons (v := v_0) q8 pk_nil); exact (.cons rfl (sl_cells h_0 rfl rfl) rfl (leb rfl) .nil)) rfl fun u_ w3 hE hB' hv_ => ?_
 replace hv_ := Eq.symm hv_; subst hv_; clear hB; have hB := hB'; clear hB'
 replace h_0 := GR.v_ext _ h_0 hE
 clear hE
 refine put_cont hA (by decide) fun a4 hA q_ hfr => ?_
 replace q0 := (hfr 0 rfl).trans q0
 replace q1 := (hfr 1 rfl).trans q1
 replace q8 := (hfr 8 rfl).trans q8
 have q9 := q_; clear q_ hfr
 refine l_ok (φ := SP.box w3.heap.size #[v_0, .int .i64 0] 88) hO hB (by exact ok_box (v := .agg #[v_0, .int .i64 0]) (Nat.le_refl _) q9) rfl fun u1 w5 hE hB' f2 => ?_
 clear hB'; obtain ⟨O3, b5, hB', hX, e_, f4⟩ := boxNew hO hB hE f2 1 (by decide)
 subst e_; clear hB f2; have hB := hB'; clear hB'
 replace h_0 := GR.kx _ h_0 hX (by decide)
 clear hX hE
 refine put_cont hA (by decide) fun a6 hA q_ hfr => ?_
 replace q0 := (hfr 0 rfl).trans q0
 replace q1 := (hfr 1 rfl).trans q1
 replace q9 := (hfr 9 rfl).trans q9
 have q10 := q_; clear q_ hfr
 refine l_ok (φ := SP.isv (.pointer (some ⟨b5, 0, none⟩))) hO hB (by exact ok_assign q10) rfl fun u_ w7 hE hB' hv_ => ?_
 replace hv_ := Eq.symm hv_; subst hv_; clear hB; have hB := hB'; clear hB'
 replace h_0 := GR.v_ext _ h_0 hE
 replace f4 := f4.ext hE
 clear hE
 refine put_cont hA (by decide) fun a8 hA q_ hfr => ?_
 replace q0 := (hfr 0 rfl).trans q0
 replace q1 := (hfr 1 rfl).trans q1
 replace q10 := (hfr 10 rfl).trans q10
 have q5 := q_; clear q_ hfr
 refine li_nil (nx_then (wp_seq ?_))
 refine' region [_] mixed hA (.cons (fun _ _ hE hK hg => ok_assign rfl) .nil) ?zok3 ?zgd3 ?zk3
 case zok3 | zgd3 => kernel_rfl
 intro a9 w9 hA hE HF
 replace q0 := kn (HF 0) rfl q0
 replace q1 := kn (HF 1) rfl q1
 replace q5 := kn (HF 5) rfl q5
 have q6 := ksv (HF 6) rfl rfl rfl
 clear HF
 replace h_0 := GR.v_ext _ h_0 hE
 replace f4 := f4.ext hE
 replace hB := Base.step hB hE hO; clear hE
 refine li_nil (nx_then ?_)
 refine seq_join (fun a w => ∃ (O33 : Tags) (x30 : List api_Sight) (u31 : Value), a.fit 38 ∧ Base (Fr w0) O w0 O33 w ∧ a.get 6 = u31 ∧ OwnL 2 r_api_Sight 64 (Fr w0) O33 w u31 x30 ∧ (colletref43_Sights_j1 x30).run n = some y) ?_ ?_
 ·
  refine wp_seq ?_
  refine' region [_] mixed hA (.cons (fun _ _ hE hK hg => ok_assign rfl) .nil) ?zok4 ?zgd4 ?zk4
  case zok4 | zgd4 => kernel_rfl
  intro a10 w10 hA hE HF
  replace q0 := kn (HF 0) rfl q0
  replace q1 := kn (HF 1) rfl q1
  replace q5 := kn (HF 5) rfl q5
  replace q6 := kn (HF 6) rfl q6
  have q7 := ksv (HF 7) rfl rfl rfl
  clear HF
  replace h_0 := GR.v_ext _ h_0 hE
  replace f4 := f4.ext hE
  replace hB := Base.step hB hE hO; clear hE
  refine li_nil (nx_then (wp_block ?_))
  obtain ⟨e2, he2, hk2⟩ := Comp.run_bind h; clear h
  refine loop_m (fun m a w => ∃ (O14 : Tags) (x6 : List api_Sight) (x9 : Int) (x10 : List Int) (x13 : Int) (u7 : Value) (u11 : Value), a.fit 38 ∧ Base (Fr w0) O w0 O14 w ∧ a.get 0 = v_0 ∧ (rSl (rInt .i64)).v O14 w v_0 x_0 ∧ a.get 1 = .int .i64 x_1 ∧ a.get 5 = .pointer (some ⟨b5, 0, none⟩) ∧ a.get 6 = u7 ∧ OwnL 2 r_api_Sight 64 (Fr w0) O14 w u7 x6 ∧ a.get 7 = .int .i64 x9 ∧ OwnB 1 (Fr w0) O14 w b5 #[u11, .int .i64 x13] 88 ∧ (rSl (rInt .i64)).v O14 w u11 x10 ∧ Comp.loopN (fun s => colletref43_Sights_l2 x_0 x_1 s.1 s.2.1 s.2.2.1 s.2.2.2) n m (x6, x9, x10, x13) = some e2) (m := n) ?st2 ?_
  case st2 =>
   exact ⟨_, _, _, _, _, _, _, hA, hB, q0, h_0, q1, q5, q6, (OwnL.nil _ _ _ _ _ _), q7, f4, h_0, Comp.run_loop he2⟩
  intro m_ a11 w11 hI
  clear hA hB he2 q0 q1 q5 q6 q7 f4 h_0
  obtain ⟨O14, x6, x9, x10, x13, u7, u11, hA, hB, q0, h_0, q1, q5, q6, f8, q7, f4, f12, hl⟩ := hI
  obtain ⟨m2, hlt2, st2, h, hnext2, hdone2⟩ := Comp.loopN_succ hl; clear hl
  replace h : (colletref43_Sights_l2 x_0 x_1 x6 x9 x10 x13).run n = some st2 := h
  unfold colletref43_Sights_l2 at h
  refine wp_seq (wp_seq ?_)
  refine' region [_, _, _, _, _, _, _, _, _] mixed hA (.cons (fun _ _ hE hK hg => ok_move (kn (hK 7 rfl) rfl q7)) (.cons (fun _ _ hE hK hg => ok_add (ksv (j := 0) (hK 11 rfl) rfl rfl rfl) rfl) (.cons (fun _ _ hE hK hg => ok_move (kn (hK 0 rfl) rfl q0)) (.cons (fun _ _ hE hK hg => okl_len (r := (rInt .i64)) ty23 (ksv (j := 2) (hK 13 rfl) rfl rfl rfl) (rd_of (GR.v_ext _ h_0 hE))) (.cons (fun _ _ hE hK hg => ok_lss (ksv (j := 1) (hK 12 rfl) rfl rfl rfl) (ksv (j := 3) (hK 14 rfl) rfl rfl rfl)) (.cons (fun _ _ hE hK hg => ok_move (ksv (j := 4) (hK 15 rfl) rfl rfl rfl)) (.cons (fun _ _ hE hK hg => ok_move (kn (hK 7 rfl) rfl q7)) (.cons ?z5_7 (.cons ?z5_8 .nil))))))))) ?zok5 ?zgd5 ?zk5
  case z5_7 => intro a' w' hE hK hg; exact ok_lss (ksv (j := 6) (hK 17 rfl) rfl rfl hg) rfl
  case z5_8 => intro a' w' hE hK hg; exact ok_pick (ksv (j := 5) (hK 16 rfl) rfl rfl rfl) (fun hb => ksv (j := 7) (hK 18 rfl) rfl rfl (act_g1 rfl rfl hb)) (fun _ => rfl)
  case zok5 | zgd5 => kernel_rfl
  intro a12 w12 hA hE HF
  replace q0 := kn (HF 0) rfl q0
  replace q1 := kn (HF 1) rfl q1
  replace q5 := kn (HF 5) rfl q5
  replace q6 := kn (HF 6) rfl q6
  replace q7 := kn (HF 7) rfl q7
  have q19 := ksv (HF 19) rfl rfl rfl
  clear HF
  replace h_0 := GR.v_ext _ h_0 hE
  replace f8 := f8.ext hE
  replace f4 := f4.ext hE
  replace f12 := GR.v_ext _ f12 hE
  replace hB := Base.step hB hE hO; clear hE
  obtain ⟨x15, hx_, h⟩ := Comp.run_bind h; replace hx_ := Comp.run_pure hx_; rw [hx_] at q19; clear hx_
  refine li_nil (nx_then ?_)
  refine wp_cond_b q19 (fun hc => ?_) (fun hc => ?_)
  ·
   replace h := Comp.run_b_t hc h; clear hc
   refine wp_skip (nx_then (wp_seq (wp_block ?_)))
   obtain ⟨x16, hx16, h⟩ := Comp.run_bind h
   obtain ⟨x17, hx17, h⟩ := Comp.run_bind h
   obtain ⟨x18, hx18, h⟩ := Comp.run_bind h
   obtain ⟨x19, hx19, h⟩ := Comp.run_bind h
   obtain ⟨x20, hx20, h⟩ := Comp.run_bind h
   obtain ⟨J_, eJ_⟩ : ∃ J_ : (Nat → Bool) → Act → World → Prop, J_ = (fun S_ a_ w_ => ∃ O_ : Tags, Base (Fr w0) O w0 O_ w_ ∧ Keep 0 O14 w12 O_ w_ ∧ (S_ 1 = true → (rSl (rInt .i64)).v O_ w_ (a_.get 23) [0, 0, 1, 2]) ∧ (S_ 4 = true → PtrZ (rInt .i64) O_ w_ (a_.get 26) x17) ∧ (S_ 13 = true → (rSl r_api_Sight).v O_ w_ (a_.get 35) [(api_Sight.mk x17 x18.2 (decide (x19.2 = 1)))]) ∧ (S_ 14 = false → OwnL 2 r_api_Sight 64 (Fr w0) O_ w_ u7 x6) ∧ (S_ 14 = true → S_ 15 = false → OwnL 2 r_api_Sight 64 (Fr w0) O_ w_ (a_.get 36) x20) ∧ (S_ 15 = true → OwnL 2 r_api_Sight 64 (Fr w0) O_ w_ (a_.get 6) x20) ∧ (S_ 3 = false → BoxO 1 (Fr w0) O_ w_ b5 88 r_colletref01_Draw (colletref01_Draw.mk x10 x13)) ∧ (S_ 3 = true → S_ 8 = false → BoxO 1 (Fr w0) O_ w_ b5 88 r_colletref01_Draw x16.1) ∧ (S_ 8 = true → S_ 10 = false → BoxO 1 (Fr w0) O_ w_ b5 88 r_colletref01_Draw x18.1) ∧ (S_ 10 = true → BoxO 1 (Fr w0) O_ w_ b5 88 r_colletref01_Draw x19.1)) := ⟨_, rfl⟩
   have T_ : ∀ {i_ : Nat} {d_ : Option Tmp} {v_ : Value} {S_ a' w' w2}, Nat.beq 1 i_ = false → Nat.beq 3 i_ = false → Nat.beq 4 i_ = false → Nat.beq 8 i_ = false → Nat.beq 10 i_ = false → Nat.beq 13 i_ = false → Nat.beq 14 i_ = false → Nat.beq 15 i_ = false → d_ ≠ some 6 → d_ ≠ some 23 → d_ ≠ some 26 → d_ ≠ some 35 → d_ ≠ some 36 → Ext w' w2 → J_ S_ a' w' → J_ (addS S_ i_) (a'.put d_ v_) w2 := by
    subst eJ_; intro i_ d_ v_ S_ a' w' w2 n1_ n3_ n4_ n8_ n10_ n13_ n14_ n15_ s6_ s23_ s26_ s35_ s36_ hE hJ_
    obtain ⟨O_, hB_, k0_, m1_, m4_, m13_, v0_0_, v0_1_, v0_2_, v1_0_, v1_1_, v1_2_, v1_3_⟩ := hJ_
    exact ⟨O_, (Base.step hB_ hE hO), (k0_.trans (KX.keep (KX.ext hE) (by decide))), fun h_ => put_other (d := d_) (t := 23) (φ := fun u_ => (rSl (rInt .i64)).v O_ w2 u_ [0, 0, 1, 2]) ((GR.v_mono _ (m1_ (addS_off n1_ h_)) (KX.keep (KX.ext hE) (by decide)))) s23_, fun h_ => put_other (d := d_) (t := 26) (φ := fun u_ => PtrZ (rInt .i64) O_ w2 u_ x17) ((PtrZ.keep (m4_ (addS_off n4_ h_)) (KX.keep (KX.ext hE) (by decide)) (by decide) (fun _ => rfl))) s26_, fun h_ => put_other (d := d_) (t := 35) (φ := fun u_ => (rSl r_api_Sight).v O_ w2 u_ [(api_Sight.mk x17 x18.2 (decide (x19.2 = 1)))]) ((GR.v_mono _ (m13_ (addS_off n13_ h_)) (KX.keep (KX.ext hE) (by decide)))) s35_, fun hq_ => OwnL.kx (v0_0_ (addS_no hq_)) (KX.ext hE) (by decide) (by decide), fun hp_ hq_ => put_other (d := d_) (t := 36) (φ := fun u_ => OwnL 2 r_api_Sight 64 (Fr w0) O_ w2 (u_) x20) (OwnL.kx (v0_1_ (addS_off n14_ hp_) (addS_no hq_)) (KX.ext hE) (by decide) (by decide)) s36_, fun hp_ => put_other (d := d_) (t := 6) (φ := fun u_ => OwnL 2 r_api_Sight 64 (Fr w0) O_ w2 (u_) x20) (OwnL.kx (v0_2_ (addS_off n15_ hp_)) (KX.ext hE) (by decide) (by decide)) s6_, fun hq_ => BoxO.kx (v1_0_ (addS_no hq_)) (KX.ext hE) (by decide) (by decide), fun hp_ hq_ => BoxO.kx (v1_1_ (addS_off n3_ hp_) (addS_no hq_)) (KX.ext hE) (by decide) (by decide), fun hp_ hq_ => BoxO.kx (v1_2_ (addS_off n8_ hp_) (addS_no hq_)) (KX.ext hE) (by decide) (by decide), fun hp_ => BoxO.kx (v1_3_ (addS_off n10_ hp_)) (KX.ext hE) (by decide) (by decide)⟩
   refine' regionX (draw := true) J_ [SP.isv (u7), SP.tt, SP.isv (.pointer (some ⟨b5, 0, none⟩)), SP.isv (.int .i64 x16.2), SP.tt, SP.isv (.int .i64 x17), SP.isv (.pointer (some ⟨b5, 0, none⟩)), SP.isv (.int .i64 x_1), SP.isv (.int .i64 x18.2), SP.isv (.pointer (some ⟨b5, 0, none⟩)), SP.isv (.int .i64 x19.2), SP.isv (.bool (decide (x19.2 = 1))), SP.isv (.agg #[.int .i64 x17, .int .i64 x18.2, .bool (decide (x19.2 = 1))]), SP.tt, SP.tt, SP.tt] mixed hA (.cons (stE_isv _) (.cons (stE_tt _) (.cons (stE_isv _) (.cons (stE_isv _) (.cons (stE_tt _) (.cons (stE_isv _) (.cons (stE_isv _) (.cons (stE_isv _) (.cons (stE_isv _) (.cons (stE_isv _) (.cons (stE_isv _) (.cons (stE_isv _) (.cons (stE_isv _) (.cons (stE_tt _) (.cons (stE_tt _) (.cons (stE_tt _) .nil)))))))))))))))) (.cons ?z6_0 (.cons ?z6_1 (.cons ?z6_2 (.cons ?z6_3 (.cons ?z6_4 (.cons ?z6_5 (.cons ?z6_6 (.cons ?z6_7 (.cons ?z6_8 (.cons ?z6_9 (.cons ?z6_10 (.cons ?z6_11 (.cons ?z6_12 (.cons ?z6_13 (.cons ?z6_14 (.cons ?z6_15 .nil)))))))))))))))) ?zsk6 ?zst6 ?zok6 ?zgd6 ?zk6
   case z6_0 =>
    intro S_ a' w' hA_ hJ_ hS_ hafter_ hbef_ hK hg K_ Q_ hK_
    refine x_ok (φ := SP.isv (u7)) (by exact ok_move (kn (hK 6 rfl) rfl q6)) fun v_ w2 hE hv_ => hK_ v_ w2 (T_ rfl rfl rfl rfl rfl rfl rfl rfl (by decide) (by decide) (by decide) (by decide) (by decide) hE hJ_) hv_
   case z6_1 =>
    intro S_ a' w' hA_ hJ_ hS_ hafter_ hbef_ hK hg K_ Q_ hK_
    subst eJ_
    obtain ⟨O_, hB_, k0_, m1_, m4_, m13_, v0_0_, v0_1_, v0_2_, v1_0_, v1_1_, v1_2_, v1_3_⟩ := hJ_
    refine x_ok (φ := SP.vl (rSl (rInt .i64)) O_ [0, 0, 1, 2]) (by exact okl_buildSliceV (r := (rInt .i64)) (fun _ => rfl) rfl hB_.ok ty23 ty3 (parts_cons rfl (parts_cons rfl (parts_cons rfl (parts_cons rfl parts_nil)))) ⟨(by exact rInt_v.2 rfl), ⟨(by exact rInt_v.2 rfl), ⟨(by exact rInt_v.2 rfl), ⟨(by exact rInt_v.2 rfl), trivial⟩⟩⟩⟩ rfl (by decide)) fun v_ w2 hE hv_ => ?_
    have hB2_ := Base.step hB_ hE hO
    exact hK_ v_ w2 ⟨O_, hB2_, (k0_.trans (KX.keep (KX.ext hE) (by decide))), fun _ => put_me (φ := fun u_ => (rSl (rInt .i64)).v O_ w2 u_ [0, 0, 1, 2]) hA_ (by decide) hv_, fun h_ => put_other (d := some 23) (t := 26) (φ := fun u_ => PtrZ (rInt .i64) O_ w2 u_ x17) ((PtrZ.keep (m4_ (addS_off rfl h_)) (KX.keep (KX.ext hE) (by decide)) (by decide) (fun _ => rfl))) (by decide), fun h_ => put_other (d := some 23) (t := 35) (φ := fun u_ => (rSl r_api_Sight).v O_ w2 u_ [(api_Sight.mk x17 x18.2 (decide (x19.2 = 1)))]) ((GR.v_mono _ (m13_ (addS_off rfl h_)) (KX.keep (KX.ext hE) (by decide)))) (by decide), fun hq_ => OwnL.kx (v0_0_ (addS_no hq_)) (KX.ext hE) (by decide) (by decide), fun hp_ hq_ => put_other (d := some 23) (t := 36) (φ := fun u_ => OwnL 2 r_api_Sight 64 (Fr w0) O_ w2 (u_) x20) (OwnL.kx (v0_1_ (addS_off rfl hp_) (addS_no hq_)) (KX.ext hE) (by decide) (by decide)) (by decide), fun hp_ => put_other (d := some 23) (t := 6) (φ := fun u_ => OwnL 2 r_api_Sight 64 (Fr w0) O_ w2 (u_) x20) (OwnL.kx (v0_2_ (addS_off rfl hp_)) (KX.ext hE) (by decide) (by decide)) (by decide), fun hq_ => BoxO.kx (v1_0_ (addS_no hq_)) (KX.ext hE) (by decide) (by decide), fun hp_ hq_ => BoxO.kx (v1_1_ (addS_off rfl hp_) (addS_no hq_)) (KX.ext hE) (by decide) (by decide), fun hp_ hq_ => BoxO.kx (v1_2_ (addS_off rfl hp_) (addS_no hq_)) (KX.ext hE) (by decide) (by decide), fun hp_ => BoxO.kx (v1_3_ (addS_off rfl hp_)) (KX.ext hE) (by decide) (by decide)⟩ trivial
   case z6_2 =>
    intro S_ a' w' hA_ hJ_ hS_ hafter_ hbef_ hK hg K_ Q_ hK_
    refine x_ok (φ := SP.isv (.pointer (some ⟨b5, 0, none⟩))) (by exact ok_move (kn (hK 5 rfl) rfl q5)) fun v_ w2 hE hv_ => hK_ v_ w2 (T_ rfl rfl rfl rfl rfl rfl rfl rfl (by decide) (by decide) (by decide) (by decide) (by decide) hE hJ_) hv_
   case z6_3 =>
    intro S_ a' w' hA_ hJ_ hS_ hafter_ hbef_ hK hg K_ Q_ hK_
    subst eJ_
    obtain ⟨O_, hB_, k0_, m1_, m4_, m13_, v0_0_, v0_1_, v0_2_, v1_0_, v1_1_, v1_2_, v1_3_⟩ := hJ_
    refine x_pio (r := r_colletref01_Draw) hO hB_ (okB_fr hB_) fn54 (map2 (ksv (j := 2) (hK 24 rfl) rfl rfl rfl) rfl) (ok_colletref01_Draw_Next hB_.ok (BoxO.arg (v1_0_ hS_) (by decide)) hx16) (v1_0_ hS_) fun v_ w2 f_ hB2_ hX_ hv_ => ?_
    exact hK_ v_ w2 ⟨O_, hB2_, (k0_.trans (KX.keep hX_ (by decide))), fun h_ => put_other (d := some 25) (t := 23) (φ := fun u_ => (rSl (rInt .i64)).v O_ w2 u_ [0, 0, 1, 2]) ((GR.v_mono _ (m1_ (addS_off rfl h_)) (KX.keep hX_ (by decide)))) (by decide), fun h_ => put_other (d := some 25) (t := 26) (φ := fun u_ => PtrZ (rInt .i64) O_ w2 u_ x17) ((PtrZ.keep (m4_ (addS_off rfl h_)) (KX.keep hX_ (by decide)) (by decide) (fun _ => rfl))) (by decide), fun h_ => put_other (d := some 25) (t := 35) (φ := fun u_ => (rSl r_api_Sight).v O_ w2 u_ [(api_Sight.mk x17 x18.2 (decide (x19.2 = 1)))]) ((GR.v_mono _ (m13_ (addS_off rfl h_)) (KX.keep hX_ (by decide)))) (by decide), fun hq_ => OwnL.kx (v0_0_ (addS_no hq_)) hX_ (by decide) (by decide), fun hp_ hq_ => put_other (d := some 25) (t := 36) (φ := fun u_ => OwnL 2 r_api_Sight 64 (Fr w0) O_ w2 (u_) x20) (OwnL.kx (v0_1_ (addS_off rfl hp_) (addS_no hq_)) hX_ (by decide) (by decide)) (by decide), fun hp_ => put_other (d := some 25) (t := 6) (φ := fun u_ => OwnL 2 r_api_Sight 64 (Fr w0) O_ w2 (u_) x20) (OwnL.kx (v0_2_ (addS_off rfl hp_)) hX_ (by decide) (by decide)) (by decide), fun hq_ => addS_me hq_, fun hp_ hq_ => f_, fun hp_ hq_ => no_tf (addS_off rfl hp_) (hafter_ 8 (by kernel_rfl)), fun hp_ => no_tf (addS_off rfl hp_) (hafter_ 10 (by kernel_rfl))⟩ hv_
   case z6_4 =>
    intro S_ a' w' hA_ hJ_ hS_ hafter_ hbef_ hK hg K_ Q_ hK_
    subst eJ_
    obtain ⟨O_, hB_, k0_, m1_, m4_, m13_, v0_0_, v0_1_, v0_2_, v1_0_, v1_1_, v1_2_, v1_3_⟩ := hJ_
    refine x_ok (φ := SP.ptrz (rInt .i64) O_ x17 (of_decide_eq_true rfl) (fun _ => rfl)) (by exact okl_idxZ (r := (rInt .i64)) (by decide) (fun _ => rfl) ty23 ty3 rfl rfl (m1_ (addS_off rfl (hbef_ 1 (by kernel_rfl)))) (ksv (j := 3) (hK 25 rfl) rfl rfl rfl) hx17) fun v_ w2 hE hv_ => ?_
    have hB2_ := Base.step hB_ hE hO
    exact hK_ v_ w2 ⟨O_, hB2_, (k0_.trans (KX.keep (KX.ext hE) (by decide))), fun h_ => put_other (d := some 26) (t := 23) (φ := fun u_ => (rSl (rInt .i64)).v O_ w2 u_ [0, 0, 1, 2]) ((GR.v_mono _ (m1_ (addS_off rfl h_)) (KX.keep (KX.ext hE) (by decide)))) (by decide), fun _ => put_me (φ := fun u_ => PtrZ (rInt .i64) O_ w2 u_ x17) hA_ (by decide) hv_, fun h_ => put_other (d := some 26) (t := 35) (φ := fun u_ => (rSl r_api_Sight).v O_ w2 u_ [(api_Sight.mk x17 x18.2 (decide (x19.2 = 1)))]) ((GR.v_mono _ (m13_ (addS_off rfl h_)) (KX.keep (KX.ext hE) (by decide)))) (by decide), fun hq_ => OwnL.kx (v0_0_ (addS_no hq_)) (KX.ext hE) (by decide) (by decide), fun hp_ hq_ => put_other (d := some 26) (t := 36) (φ := fun u_ => OwnL 2 r_api_Sight 64 (Fr w0) O_ w2 (u_) x20) (OwnL.kx (v0_1_ (addS_off rfl hp_) (addS_no hq_)) (KX.ext hE) (by decide) (by decide)) (by decide), fun hp_ => put_other (d := some 26) (t := 6) (φ := fun u_ => OwnL 2 r_api_Sight 64 (Fr w0) O_ w2 (u_) x20) (OwnL.kx (v0_2_ (addS_off rfl hp_)) (KX.ext hE) (by decide) (by decide)) (by decide), fun hq_ => BoxO.kx (v1_0_ (addS_no hq_)) (KX.ext hE) (by decide) (by decide), fun hp_ hq_ => BoxO.kx (v1_1_ (addS_off rfl hp_) (addS_no hq_)) (KX.ext hE) (by decide) (by decide), fun hp_ hq_ => BoxO.kx (v1_2_ (addS_off rfl hp_) (addS_no hq_)) (KX.ext hE) (by decide) (by decide), fun hp_ => BoxO.kx (v1_3_ (addS_off rfl hp_)) (KX.ext hE) (by decide) (by decide)⟩ trivial
   case z6_5 =>
    intro S_ a' w' hA_ hJ_ hS_ hafter_ hbef_ hK hg K_ Q_ hK_
    have hJ2_ := hJ_; rw [eJ_] at hJ2_; obtain ⟨O_, hB_, k0_, m1_, m4_, m13_, v0_0_, v0_1_, v0_2_, v1_0_, v1_1_, v1_2_, v1_3_⟩ := hJ2_
    refine x_ok (φ := SP.isv (.int .i64 x17)) (by exact okl_ldr (rInt .i64) (fun _ => rfl) ty3 rfl rfl rfl (PtrZ.ptr (m4_ (addS_off rfl (hbef_ 4 (by kernel_rfl))))) (fun _ _ _ h => rInt_v.1 h)) fun v_ w2 hE hv_ => hK_ v_ w2 (T_ rfl rfl rfl rfl rfl rfl rfl rfl (by decide) (by decide) (by decide) (by decide) (by decide) hE hJ_) hv_
   case z6_6 =>
    intro S_ a' w' hA_ hJ_ hS_ hafter_ hbef_ hK hg K_ Q_ hK_
    refine x_ok (φ := SP.isv (.pointer (some ⟨b5, 0, none⟩))) (by exact ok_move (kn (hK 5 rfl) rfl q5)) fun v_ w2 hE hv_ => hK_ v_ w2 (T_ rfl rfl rfl rfl rfl rfl rfl rfl (by decide) (by decide) (by decide) (by decide) (by decide) hE hJ_) hv_
   case z6_7 =>
    intro S_ a' w' hA_ hJ_ hS_ hafter_ hbef_ hK hg K_ Q_ hK_
    refine x_ok (φ := SP.isv (.int .i64 x_1)) (by exact ok_move (kn (hK 1 rfl) rfl q1)) fun v_ w2 hE hv_ => hK_ v_ w2 (T_ rfl rfl rfl rfl rfl rfl rfl rfl (by decide) (by decide) (by decide) (by decide) (by decide) hE hJ_) hv_
   case z6_8 =>
    intro S_ a' w' hA_ hJ_ hS_ hafter_ hbef_ hK hg K_ Q_ hK_
    subst eJ_
    obtain ⟨O_, hB_, k0_, m1_, m4_, m13_, v0_0_, v0_1_, v0_2_, v1_0_, v1_1_, v1_2_, v1_3_⟩ := hJ_
    refine x_pio (r := r_colletref01_Draw) hO hB_ (okB_fr hB_) fn54 (map2 (ksv (j := 6) (hK 28 rfl) rfl rfl rfl) (ksv (j := 7) (hK 29 rfl) rfl rfl rfl)) (ok_colletref01_Draw_Next hB_.ok (BoxO.arg (v1_1_ (addS_off rfl (hbef_ 3 (by kernel_rfl))) hS_) (by decide)) hx18) (v1_1_ (addS_off rfl (hbef_ 3 (by kernel_rfl))) hS_) fun v_ w2 f_ hB2_ hX_ hv_ => ?_
    exact hK_ v_ w2 ⟨O_, hB2_, (k0_.trans (KX.keep hX_ (by decide))), fun h_ => put_other (d := some 30) (t := 23) (φ := fun u_ => (rSl (rInt .i64)).v O_ w2 u_ [0, 0, 1, 2]) ((GR.v_mono _ (m1_ (addS_off rfl h_)) (KX.keep hX_ (by decide)))) (by decide), fun h_ => put_other (d := some 30) (t := 26) (φ := fun u_ => PtrZ (rInt .i64) O_ w2 u_ x17) ((PtrZ.keep (m4_ (addS_off rfl h_)) (KX.keep hX_ (by decide)) (by decide) (fun _ => rfl))) (by decide), fun h_ => put_other (d := some 30) (t := 35) (φ := fun u_ => (rSl r_api_Sight).v O_ w2 u_ [(api_Sight.mk x17 x18.2 (decide (x19.2 = 1)))]) ((GR.v_mono _ (m13_ (addS_off rfl h_)) (KX.keep hX_ (by decide)))) (by decide), fun hq_ => OwnL.kx (v0_0_ (addS_no hq_)) hX_ (by decide) (by decide), fun hp_ hq_ => put_other (d := some 30) (t := 36) (φ := fun u_ => OwnL 2 r_api_Sight 64 (Fr w0) O_ w2 (u_) x20) (OwnL.kx (v0_1_ (addS_off rfl hp_) (addS_no hq_)) hX_ (by decide) (by decide)) (by decide), fun hp_ => put_other (d := some 30) (t := 6) (φ := fun u_ => OwnL 2 r_api_Sight 64 (Fr w0) O_ w2 (u_) x20) (OwnL.kx (v0_2_ (addS_off rfl hp_)) hX_ (by decide) (by decide)) (by decide), fun hq_ => no_tf (hbef_ 3 (by kernel_rfl)) hq_, fun hp_ hq_ => addS_me hq_, fun hp_ hq_ => f_, fun hp_ => no_tf (addS_off rfl hp_) (hafter_ 10 (by kernel_rfl))⟩ hv_
   case z6_9 =>
    intro S_ a' w' hA_ hJ_ hS_ hafter_ hbef_ hK hg K_ Q_ hK_
    refine x_ok (φ := SP.isv (.pointer (some ⟨b5, 0, none⟩))) (by exact ok_move (kn (hK 5 rfl) rfl q5)) fun v_ w2 hE hv_ => hK_ v_ w2 (T_ rfl rfl rfl rfl rfl rfl rfl rfl (by decide) (by decide) (by decide) (by decide) (by decide) hE hJ_) hv_
   case z6_10 =>
    intro S_ a' w' hA_ hJ_ hS_ hafter_ hbef_ hK hg K_ Q_ hK_
    subst eJ_
    obtain ⟨O_, hB_, k0_, m1_, m4_, m13_, v0_0_, v0_1_, v0_2_, v1_0_, v1_1_, v1_2_, v1_3_⟩ := hJ_
    refine x_pio (r := r_colletref01_Draw) hO hB_ (okB_fr hB_) fn54 (map2 (ksv (j := 9) (hK 31 rfl) rfl rfl rfl) rfl) (ok_colletref01_Draw_Next hB_.ok (BoxO.arg (v1_2_ (addS_off rfl (hbef_ 8 (by kernel_rfl))) hS_) (by decide)) hx19) (v1_2_ (addS_off rfl (hbef_ 8 (by kernel_rfl))) hS_) fun v_ w2 f_ hB2_ hX_ hv_ => ?_
    exact hK_ v_ w2 ⟨O_, hB2_, (k0_.trans (KX.keep hX_ (by decide))), fun h_ => put_other (d := some 32) (t := 23) (φ := fun u_ => (rSl (rInt .i64)).v O_ w2 u_ [0, 0, 1, 2]) ((GR.v_mono _ (m1_ (addS_off rfl h_)) (KX.keep hX_ (by decide)))) (by decide), fun h_ => put_other (d := some 32) (t := 26) (φ := fun u_ => PtrZ (rInt .i64) O_ w2 u_ x17) ((PtrZ.keep (m4_ (addS_off rfl h_)) (KX.keep hX_ (by decide)) (by decide) (fun _ => rfl))) (by decide), fun h_ => put_other (d := some 32) (t := 35) (φ := fun u_ => (rSl r_api_Sight).v O_ w2 u_ [(api_Sight.mk x17 x18.2 (decide (x19.2 = 1)))]) ((GR.v_mono _ (m13_ (addS_off rfl h_)) (KX.keep hX_ (by decide)))) (by decide), fun hq_ => OwnL.kx (v0_0_ (addS_no hq_)) hX_ (by decide) (by decide), fun hp_ hq_ => put_other (d := some 32) (t := 36) (φ := fun u_ => OwnL 2 r_api_Sight 64 (Fr w0) O_ w2 (u_) x20) (OwnL.kx (v0_1_ (addS_off rfl hp_) (addS_no hq_)) hX_ (by decide) (by decide)) (by decide), fun hp_ => put_other (d := some 32) (t := 6) (φ := fun u_ => OwnL 2 r_api_Sight 64 (Fr w0) O_ w2 (u_) x20) (OwnL.kx (v0_2_ (addS_off rfl hp_)) hX_ (by decide) (by decide)) (by decide), fun hq_ => no_tf (hbef_ 3 (by kernel_rfl)) hq_, fun hp_ hq_ => no_tf (hbef_ 8 (by kernel_rfl)) hq_, fun hp_ hq_ => addS_me hq_, fun hp_ => f_⟩ hv_
   case z6_11 =>
    intro S_ a' w' hA_ hJ_ hS_ hafter_ hbef_ hK hg K_ Q_ hK_
    refine x_ok (φ := SP.isv (.bool (decide (x19.2 = 1)))) (by exact ok_eqlI (ksv (j := 10) (hK 32 rfl) rfl rfl rfl) rfl) fun v_ w2 hE hv_ => hK_ v_ w2 (T_ rfl rfl rfl rfl rfl rfl rfl rfl (by decide) (by decide) (by decide) (by decide) (by decide) hE hJ_) hv_
   case z6_12 =>
    intro S_ a' w' hA_ hJ_ hS_ hafter_ hbef_ hK hg K_ Q_ hK_
    refine x_ok (φ := SP.isv (.agg #[.int .i64 x17, .int .i64 x18.2, .bool (decide (x19.2 = 1))])) (by exact okl_build plc64 ty64 (pk_cons (v := .int .i64 x17) (ksv (j := 5) (hK 27 rfl) rfl rfl rfl) (pk_cons (v := .int .i64 x18.2) (ksv (j := 8) (hK 30 rfl) rfl rfl rfl) (pk_cons (v := .bool (decide (x19.2 = 1))) (ksv (j := 11) (hK 33 rfl) rfl rfl rfl) pk_nil))) rfl (.cons rfl rfl rfl (leb rfl) (.cons rfl rfl rfl (leb rfl) (.cons rfl rfl rfl (leb rfl) .nil))) rfl) fun v_ w2 hE hv_ => hK_ v_ w2 (T_ rfl rfl rfl rfl rfl rfl rfl rfl (by decide) (by decide) (by decide) (by decide) (by decide) hE hJ_) hv_
   case z6_13 =>
    intro S_ a' w' hA_ hJ_ hS_ hafter_ hbef_ hK hg K_ Q_ hK_
    subst eJ_
    obtain ⟨O_, hB_, k0_, m1_, m4_, m13_, v0_0_, v0_1_, v0_2_, v1_0_, v1_1_, v1_2_, v1_3_⟩ := hJ_
    refine x_ok (φ := SP.vl (rSl r_api_Sight) O_ [(api_Sight.mk x17 x18.2 (decide (x19.2 = 1)))]) (by exact okl_buildSliceV (r := r_api_Sight) fit_api_Sight rfl hB_.ok ty28 ty64 (parts_cons (ksv (j := 12) (hK 34 rfl) rfl rfl rfl) parts_nil) ⟨(by first | exact (rC_v (x := (api_Sight.mk x17 x18.2 (decide (x19.2 = 1))))).2 rfl | exact ⟨_, rfl, rfl⟩), trivial⟩ rfl (by decide)) fun v_ w2 hE hv_ => ?_
    have hB2_ := Base.step hB_ hE hO
    exact hK_ v_ w2 ⟨O_, hB2_, (k0_.trans (KX.keep (KX.ext hE) (by decide))), fun h_ => put_other (d := some 35) (t := 23) (φ := fun u_ => (rSl (rInt .i64)).v O_ w2 u_ [0, 0, 1, 2]) ((GR.v_mono _ (m1_ (addS_off rfl h_)) (KX.keep (KX.ext hE) (by decide)))) (by decide), fun h_ => put_other (d := some 35) (t := 26) (φ := fun u_ => PtrZ (rInt .i64) O_ w2 u_ x17) ((PtrZ.keep (m4_ (addS_off rfl h_)) (KX.keep (KX.ext hE) (by decide)) (by decide) (fun _ => rfl))) (by decide), fun _ => put_me (φ := fun u_ => (rSl r_api_Sight).v O_ w2 u_ [(api_Sight.mk x17 x18.2 (decide (x19.2 = 1)))]) hA_ (by decide) hv_, fun hq_ => OwnL.kx (v0_0_ (addS_no hq_)) (KX.ext hE) (by decide) (by decide), fun hp_ hq_ => put_other (d := some 35) (t := 36) (φ := fun u_ => OwnL 2 r_api_Sight 64 (Fr w0) O_ w2 (u_) x20) (OwnL.kx (v0_1_ (addS_off rfl hp_) (addS_no hq_)) (KX.ext hE) (by decide) (by decide)) (by decide), fun hp_ => put_other (d := some 35) (t := 6) (φ := fun u_ => OwnL 2 r_api_Sight 64 (Fr w0) O_ w2 (u_) x20) (OwnL.kx (v0_2_ (addS_off rfl hp_)) (KX.ext hE) (by decide) (by decide)) (by decide), fun hq_ => BoxO.kx (v1_0_ (addS_no hq_)) (KX.ext hE) (by decide) (by decide), fun hp_ hq_ => BoxO.kx (v1_1_ (addS_off rfl hp_) (addS_no hq_)) (KX.ext hE) (by decide) (by decide), fun hp_ hq_ => BoxO.kx (v1_2_ (addS_off rfl hp_) (addS_no hq_)) (KX.ext hE) (by decide) (by decide), fun hp_ => BoxO.kx (v1_3_ (addS_off rfl hp_)) (KX.ext hE) (by decide) (by decide)⟩ trivial
   case z6_14 =>
    intro S_ a' w' hA_ hJ_ hS_ hafter_ hbef_ hK hg K_ Q_ hK_
    subst eJ_
    obtain ⟨O_, hB_, k0_, m1_, m4_, m13_, v0_0_, v0_1_, v0_2_, v1_0_, v1_1_, v1_2_, v1_3_⟩ := hJ_
    refine x_append (r := r_api_Sight) fit_api_Sight rfl ty28 ty64 rfl (by decide) hO hB_ (okB_fr hB_) (ksv (j := 0) (hK 22 rfl) rfl rfl rfl) (v0_0_ hS_) rfl (rd_of (m13_ (addS_off rfl (hbef_ 13 (by kernel_rfl))))) hx20 (by decide) fun u_ w2 O2_ f_ hB2_ hX_ => ?_
    exact hK_ u_ w2 ⟨O2_, hB2_, (k0_.trans (KX.keep hX_ (by decide))), fun h_ => put_other (d := some 36) (t := 23) (φ := fun u_ => (rSl (rInt .i64)).v O2_ w2 u_ [0, 0, 1, 2]) ((GR.v_mono _ (m1_ (addS_off rfl h_)) (KX.keep hX_ (by decide)))) (by decide), fun h_ => put_other (d := some 36) (t := 26) (φ := fun u_ => PtrZ (rInt .i64) O2_ w2 u_ x17) ((PtrZ.keep (m4_ (addS_off rfl h_)) (KX.keep hX_ (by decide)) (by decide) (fun _ => rfl))) (by decide), fun h_ => put_other (d := some 36) (t := 35) (φ := fun u_ => (rSl r_api_Sight).v O2_ w2 u_ [(api_Sight.mk x17 x18.2 (decide (x19.2 = 1)))]) ((GR.v_mono _ (m13_ (addS_off rfl h_)) (KX.keep hX_ (by decide)))) (by decide), fun hq_ => addS_me hq_, fun hp_ hq_ => put_me (φ := fun u_ => OwnL 2 r_api_Sight 64 (Fr w0) O2_ w2 (u_) x20) hA_ (by decide) f_, fun hp_ => no_tf (addS_off rfl hp_) (hafter_ 15 (by kernel_rfl)), fun hq_ => BoxO.kx (v1_0_ (addS_no hq_)) hX_ (by decide) (by decide), fun hp_ hq_ => BoxO.kx (v1_1_ (addS_off rfl hp_) (addS_no hq_)) hX_ (by decide) (by decide), fun hp_ hq_ => BoxO.kx (v1_2_ (addS_off rfl hp_) (addS_no hq_)) hX_ (by decide) (by decide), fun hp_ => BoxO.kx (v1_3_ (addS_off rfl hp_)) hX_ (by decide) (by decide)⟩ trivial
   case z6_15 =>
    intro S_ a' w' hA_ hJ_ hS_ hafter_ hbef_ hK hg K_ Q_ hK_
    subst eJ_
    obtain ⟨O_, hB_, k0_, m1_, m4_, m13_, v0_0_, v0_1_, v0_2_, v1_0_, v1_1_, v1_2_, v1_3_⟩ := hJ_
    refine x_ok (φ := SP.isv (a'.get 36)) (ok_assign rfl) fun v_ w2 hE hv_ => ?_
    replace hv_ : v_ = a'.get 36 := hv_
    have hB2_ := Base.step hB_ hE hO
    exact hK_ v_ w2 ⟨O_, hB2_, (k0_.trans (KX.keep (KX.ext hE) (by decide))), fun h_ => put_other (d := some 6) (t := 23) (φ := fun u_ => (rSl (rInt .i64)).v O_ w2 u_ [0, 0, 1, 2]) ((GR.v_mono _ (m1_ (addS_off rfl h_)) (KX.keep (KX.ext hE) (by decide)))) (by decide), fun h_ => put_other (d := some 6) (t := 26) (φ := fun u_ => PtrZ (rInt .i64) O_ w2 u_ x17) ((PtrZ.keep (m4_ (addS_off rfl h_)) (KX.keep (KX.ext hE) (by decide)) (by decide) (fun _ => rfl))) (by decide), fun h_ => put_other (d := some 6) (t := 35) (φ := fun u_ => (rSl r_api_Sight).v O_ w2 u_ [(api_Sight.mk x17 x18.2 (decide (x19.2 = 1)))]) ((GR.v_mono _ (m13_ (addS_off rfl h_)) (KX.keep (KX.ext hE) (by decide)))) (by decide), fun hq_ => no_tf (hbef_ 14 (by kernel_rfl)) hq_, fun hp_ hq_ => addS_me hq_, fun hp_ => put_me (φ := fun u_ => OwnL 2 r_api_Sight 64 (Fr w0) O_ w2 (u_) x20) hA_ (by decide) (by rw [hv_]; exact OwnL.ext (v0_1_ (addS_off rfl (hbef_ 14 (by kernel_rfl))) hS_) hE), fun hq_ => BoxO.kx (v1_0_ (addS_no hq_)) (KX.ext hE) (by decide) (by decide), fun hp_ hq_ => BoxO.kx (v1_1_ (addS_off rfl hp_) (addS_no hq_)) (KX.ext hE) (by decide) (by decide), fun hp_ hq_ => BoxO.kx (v1_2_ (addS_off rfl hp_) (addS_no hq_)) (KX.ext hE) (by decide) (by decide), fun hp_ => BoxO.kx (v1_3_ (addS_off rfl hp_)) (KX.ext hE) (by decide) (by decide)⟩ trivial
   case zsk6 =>
    subst eJ_
    intro i_ o_ S_ a_ w_ ho_ hact_ hA_ hS_ hbef_ hJ_
    obtain ⟨O_, hB_, k0_, m1_, m4_, m13_, v0_0_, v0_1_, v0_2_, v1_0_, v1_1_, v1_2_, v1_3_⟩ := hJ_
    exact ⟨O_, hB_, k0_, fun h_ => by obtain ⟨h1_, h2_⟩ := skip_off (j := 1) hact_ rfl h_; exact put_other (t := 23) (φ := fun u_ => (rSl (rInt .i64)).v O_ w_ u_ [0, 0, 1, 2]) (m1_ h1_) (uniqDst_ne (j := 1) (by kernel_rfl) ho_ h2_), fun h_ => by obtain ⟨h1_, h2_⟩ := skip_off (j := 4) hact_ rfl h_; exact put_other (t := 26) (φ := fun u_ => PtrZ (rInt .i64) O_ w_ u_ x17) (m4_ h1_) (uniqDst_ne (j := 4) (by kernel_rfl) ho_ h2_), fun h_ => by obtain ⟨h1_, h2_⟩ := skip_off (j := 13) hact_ rfl h_; exact put_other (t := 35) (φ := fun u_ => (rSl r_api_Sight).v O_ w_ u_ [(api_Sight.mk x17 x18.2 (decide (x19.2 = 1)))]) (m13_ h1_) (uniqDst_ne (j := 13) (by kernel_rfl) ho_ h2_), fun hq_ => (v0_0_ (addS_no hq_)), fun hp_ hq_ => by obtain ⟨h1_, h2_⟩ := skip_off (j := 14) hact_ rfl hp_; exact put_other (t := 36) (φ := fun u_ => OwnL 2 r_api_Sight 64 (Fr w0) O_ w_ (u_) x20) (v0_1_ h1_ (addS_no hq_)) (uniqDst_ne (j := 14) (by kernel_rfl) ho_ h2_), fun hp_ => by obtain ⟨h1_, h2_⟩ := skip_off (j := 15) hact_ rfl hp_; exact put_other (t := 6) (φ := fun u_ => OwnL 2 r_api_Sight 64 (Fr w0) O_ w_ (u_) x20) (v0_2_ h1_) (uniqDst_ne (j := 15) (by kernel_rfl) ho_ h2_), fun hq_ => (v1_0_ (addS_no hq_)), fun hp_ hq_ => by obtain ⟨h1_, h2_⟩ := skip_off (j := 3) hact_ rfl hp_; exact (v1_1_ h1_ (addS_no hq_)), fun hp_ hq_ => by obtain ⟨h1_, h2_⟩ := skip_off (j := 8) hact_ rfl hp_; exact (v1_2_ h1_ (addS_no hq_)), fun hp_ => by obtain ⟨h1_, h2_⟩ := skip_off (j := 10) hact_ rfl hp_; exact (v1_3_ h1_)⟩
   case zst6 => subst eJ_; exact fun w1_ hE_ => ⟨O14, (Base.step hB hE_ hO), (Keep.ext hE_), fun h_ => no_ft h_, fun h_ => no_ft h_, fun h_ => no_ft h_, fun _ => OwnL.ext f8 hE_, fun hp_ => no_ft hp_, fun hp_ => no_ft hp_, fun _ => BoxO.ext ⟨_, f4, ⟨_, _, rfl, (rel_ofF (r := (rSl (rInt .i64))) f12 rfl rfl), ⟨_, _, rfl, rfl, rfl⟩⟩⟩ hE_, fun hp_ => no_ft hp_, fun hp_ => no_ft hp_, fun hp_ => no_ft hp_⟩
   case zok6 | zgd6 => kernel_rfl
   subst eJ_; clear T_
   intro a13 w13 hA HF hJ_
   obtain ⟨O21, hB_, k0_, m1_, m4_, m13_, v0_0_, v0_1_, v0_2_, v1_0_, v1_1_, v1_2_, v1_3_⟩ := hJ_
   replace q0 := kn (HF 0) rfl q0
   replace q1 := kn (HF 1) rfl q1
   replace q5 := kn (HF 5) rfl q5
   have f23 := (v0_2_ rfl)
   obtain ⟨u22, q6'⟩ : ∃ u, a13.get 6 = u := ⟨_, rfl⟩
   rw [q6'] at f23
   clear q6
   have q6 := q6'; clear q6'
   replace q7 := kn (HF 7) rfl q7
   clear q19
   clear HF
   replace h_0 := GR.v_mono _ h_0 k0_
   have f24 := (v1_3_ rfl)
   clear f8
   clear f4
   clear hB; have hB := hB_; clear hB_
   have hz_ := f24; clear f24; obtain ⟨cs_, f25, hr_⟩ := hz_
   obtain ⟨u26, e_, f27⟩ := openR_colletref01_Draw hr_; subst e_
   clear k0_ m1_ m4_ m13_ v0_0_ v0_1_ v0_2_ v1_0_ v1_1_ v1_2_ v1_3_
   refine nx_blk (nx_then ?_)
   refine' region [_, _, _] mixed hA (.cons (fun _ _ hE hK hg => ok_move (kn (hK 7 rfl) rfl q7)) (.cons (fun _ _ hE hK hg => ok_add (ksv (j := 0) (hK 20 rfl) rfl rfl rfl) rfl) (.cons (fun _ _ hE hK hg => ok_assign (ksv (j := 1) (hK 21 rfl) rfl rfl rfl)) .nil))) ?zok7 ?zgd7 ?zk7
   case zok7 | zgd7 => kernel_rfl
   intro a14 w14 hA hE HF
   replace q0 := kn (HF 0) rfl q0
   replace q1 := kn (HF 1) rfl q1
   replace q5 := kn (HF 5) rfl q5
   replace q6 := kn (HF 6) rfl q6
   have q7' := ksv (HF 7) rfl rfl rfl
   replace q7 := q7'; clear q7'
   clear HF
   replace h_0 := GR.v_ext _ h_0 hE
   replace f23 := f23.ext hE
   replace f25 := f25.ext hE
   replace f27 := GR.v_ext _ f27 hE
   replace hB := Base.step hB hE hO; clear hE
   refine li_nil (nx_then ?_)
   have h := hnext2 _ (Comp.run_pure h).symm
   refine ⟨m2, hlt2, ?_⟩
   exact ⟨_, _, _, _, _, _, _, hA, hB, q0, h_0, q1, q5, q6, f23, q7, f25, f27, h⟩
  ·
   replace h := Comp.run_b_f hc h; clear hc
   refine wp_exit (ex_then (ex_then (ex_same ?_)))
   have hd_ := hdone2 _ (Comp.run_pure h).symm; clear h
   subst hd_; have h := hk2; clear hk2; try dsimp only at h
   refine nx_then ?_
   exact ⟨_, _, _, hA, hB, q6, f8, h⟩
 intro a15 w15 hI
 clear hA hB h q0 q1 q5 q6 f4 h_0
 obtain ⟨O33, x30, u31, hA, hB, q6, f32, h⟩ := hI
 unfold colletref43_Sights_j1 at h
 refine wp_seq ?_
 refine' region [_, _] mixed hA (.cons (fun _ _ hE hK hg => ok_move (kn (hK 6 rfl) rfl q6)) (.cons (fun _ _ hE hK hg => ok_assign (ksv (j := 0) (hK 37 rfl) rfl rfl rfl)) .nil)) ?zok8 ?zgd8 ?zk8
 case zok8 | zgd8 => kernel_rfl
 intro a16 w16 hA hE HF
 have q4 := ksv (HF 4) rfl rfl rfl
 clear q6
 clear HF
 replace f32 := f32.ext hE
 replace hB := Base.step hB hE hO; clear hE
 refine li_nil (nx_then (wp_ret ?_))
 have h := Comp.run_pure h; subst h
 exact retPure Try.results37 hA q4 hB.ext (OwnL.res f32 (by decide) hB.zero)
theorem ok_colletlaw43_Case_made {O : Tags} {w0 : World} (hO : OkO O w0) {v_0 : Value} {x_0 : colletlaw43_Case} (h_0 : r_colletlaw43_Case.v O w0 v_0 x_0) {x_1 : Int} {n : Nat} {y : ((List api_Claim) × (List api_Sight) × Int)} (h : (colletlaw43_Case_made x_0 x_1).run n = some y) : Pure Try.prog 9 #[v_0, .int .i64 x_1] w0 (SP.tup3 (SP.ownr r_api_Claim 33 (w0.heap.size) O y.1) (SP.vl (rSl r_api_Sight) O y.2.1) (SP.isv (.int .i64 y.2.2))).holds := by
 unfold colletlaw43_Case_made at h
 refine pure_of_wp Try.func9 rfl 56 Try.ntmps9 (by simp) fun a0 hA hs0 => ?_
 have q0 : a0.get 0 = v_0 := hs0 0 _ rfl
 have q1 : a0.get 1 = .int .i64 x_1 := hs0 1 _ rfl
 clear hs0
 have hB : Base (Fr w0) O w0 O w0 := Base.start hO
 refine wp_seq ?_
 refine' region [SP.vl (rBox r_colletlaw43_Case) O x_0, _, _, _] mixed hA (.cons (fun _ _ hE hK hg => okl_boxV (r := r_colletlaw43_Case) fit_colletlaw43_Case (OkO.ext hB.ok hE) (kn (hK 0 rfl) rfl q0) (GR.v_ext _ h_0 hE)) (.cons (fun _ _ hE hK hg => ok_assign rfl) (.cons (fun _ _ hE hK hg => ok_assign rfl) (.cons (fun _ _ hE hK hg => ok_assign rfl) .nil)))) ?zok1 ?zgd1 ?zk1
 case zok1 | zgd1 => kernel_rfl
 intro a1 w1 hA hE HF
 replace q1 := kn (HF 1) rfl q1
 have f2 := ksp (HF 2) rfl rfl rfl
 obtain ⟨u1, q2'⟩ : ∃ u, a1.get 2 = u := ⟨_, rfl⟩
 rw [q2'] at f2
 have q2 := q2'; clear q2'
 clear q0
 clear HF
 replace h_0 := GR.v_ext _ h_0 hE
 replace hB := Base.step hB hE hO; clear hE
 refine li_nil (nx_then (wp_seq ?_))
 refine' region [SP.ptr (rInt .u8) O x_0.Cells, SP.isv (.int .u8 x_0.Cells), _, _, _, _] mixed hA (.cons (fun _ _ hE hK hg => okl_fldB (S := r_colletlaw43_Case) fit_colletlaw43_Case rfl (fun _ => rfl) sb_colletlaw43_Case_1 fl25_1 (kn (hK 2 rfl) rfl q2) (GR.v_ext _ f2 hE)) (.cons (fun _ _ hE hK hg => okl_ldr (rInt .u8) (fun _ => rfl) ty5 rfl rfl rfl (kspS (φ := SP.ptr (rInt .u8) O x_0.Cells) (j := 0) (hK 10 rfl) rfl rfl rfl) (fun _ _ _ h => rInt_v.1 h)) (.cons (fun _ _ hE hK hg => ok_convI ty5 ty3 (ksv (j := 1) (hK 11 rfl) rfl rfl rfl)) (.cons (fun _ _ hE hK hg => ok_rem (ksv (j := 2) (hK 12 rfl) rfl rfl rfl) rfl (by decide)) (.cons (fun _ _ hE hK hg => ok_add rfl (ksv (j := 3) (hK 13 rfl) rfl rfl rfl)) (.cons (fun _ _ hE hK hg => ok_assign (ksv (j := 4) (hK 14 rfl) rfl rfl rfl)) .nil)))))) ?zok2 ?zgd2 ?zk2
 case zok2 | zgd2 => kernel_rfl
 intro a2 w2 hA hE HF
 replace q1 := kn (HF 1) rfl q1
 replace q2 := kn (HF 2) rfl q2
 have q7 := ksv (HF 7) rfl rfl rfl
 clear HF
 replace f2 := GR.v_ext _ f2 hE
 replace hB := Base.step hB hE hO; clear hE
 obtain ⟨x3, hx_, h⟩ := Comp.run_bind h; replace hx_ := Comp.run_pure hx_; rw [hx_] at q7; clear hx_
 refine li_nil (nx_then (wp_seq ?_))
 refine' region [_] mixed hA (.cons (fun _ _ hE hK hg => ok_assign rfl) .nil) ?zok3 ?zgd3 ?zk3
 case zok3 | zgd3 => kernel_rfl
 intro a3 w3 hA hE HF
 replace q1 := kn (HF 1) rfl q1
 replace q2 := kn (HF 2) rfl q2
 replace q7 := kn (HF 7) rfl q7
 have q8 := ksv (HF 8) rfl rfl rfl
 clear HF
 replace f2 := GR.v_ext _ f2 hE
 replace hB := Base.step hB hE hO; clear hE
 refine li_nil (nx_then ?_)
 refine seq_join (fun a w => ∃ (O26 : Tags) (x21 : List (List Int)) (u22 : Value), a.fit 56 ∧ Base (Fr w0) O w0 O26 w ∧ a.get 1 = .int .i64 x_1 ∧ a.get 2 = u1 ∧ (rBox r_colletlaw43_Case).v O26 w u1 x_0 ∧ a.get 7 = .int .i64 x3 ∧ a.get 8 = u22 ∧ (rSl (rSl (rInt .i64))).v O26 w u22 x21 ∧ (colletlaw43_Case_made_j1 x3 x_1 x_0 x21).run n = some y) ?_ ?_
 ·
  refine wp_seq ?_
  refine' region [_] mixed hA (.cons (fun _ _ hE hK hg => ok_assign rfl) .nil) ?zok4 ?zgd4 ?zk4
  case zok4 | zgd4 => kernel_rfl
  intro a4 w4 hA hE HF
  replace q1 := kn (HF 1) rfl q1
  replace q2 := kn (HF 2) rfl q2
  replace q7 := kn (HF 7) rfl q7
  replace q8 := kn (HF 8) rfl q8
  have q9 := ksv (HF 9) rfl rfl rfl
  clear HF
  replace f2 := GR.v_ext _ f2 hE
  replace hB := Base.step hB hE hO; clear hE
  refine li_nil (nx_then (wp_block ?_))
  obtain ⟨e2, he2, hk2⟩ := Comp.run_bind h; clear h
  refine loop_m (fun m a w => ∃ (O8 : Tags) (x4 : List (List Int)) (x7 : Int) (u5 : Value), a.fit 56 ∧ Base (Fr w0) O w0 O8 w ∧ a.get 1 = .int .i64 x_1 ∧ a.get 2 = u1 ∧ (rBox r_colletlaw43_Case).v O8 w u1 x_0 ∧ a.get 7 = .int .i64 x3 ∧ a.get 8 = u5 ∧ OwnL 1 (rSl (rInt .i64)) 23 (Fr w0) O8 w u5 x4 ∧ a.get 9 = .int .i64 x7 ∧ Comp.loopN (fun s => colletlaw43_Case_made_l2 x_0 s.1 s.2) n m (x4, x7) = some e2) (m := n) ?st2 ?_
  case st2 =>
   exact ⟨_, _, _, _, hA, hB, q1, q2, f2, q7, q8, (OwnL.nil _ _ _ _ _ _), q9, Comp.run_loop he2⟩
  intro m_ a5 w5 hI
  clear hA hB he2 q1 q2 q7 q8 q9 f2
  obtain ⟨O8, x4, x7, u5, hA, hB, q1, q2, f2, q7, q8, f6, q9, hl⟩ := hI
  obtain ⟨m2, hlt2, st2, h, hnext2, hdone2⟩ := Comp.loopN_succ hl; clear hl
  replace h : (colletlaw43_Case_made_l2 x_0 x4 x7).run n = some st2 := h
  unfold colletlaw43_Case_made_l2 at h
  refine wp_seq (wp_seq ?_)
  refine' region [_, SP.ptr (rSl (rSl (rInt .i64))) O8 x_0.Claims, SP.vl (rSl (rSl (rInt .i64))) O8 x_0.Claims, _, _, _, _, _, _] mixed hA (.cons (fun _ _ hE hK hg => ok_move (kn (hK 9 rfl) rfl q9)) (.cons (fun _ _ hE hK hg => okl_fldB (S := r_colletlaw43_Case) fit_colletlaw43_Case rfl (fun _ => rfl) sb_colletlaw43_Case_0 fl25_0 (kn (hK 2 rfl) rfl q2) (GR.v_ext _ f2 hE)) (.cons (fun _ _ hE hK hg => okl_ld (r := (rSl (rSl (rInt .i64)))) (fun _ => rfl) ty22 rfl rfl rfl (kspS (φ := SP.ptr (rSl (rSl (rInt .i64))) O8 x_0.Claims) (j := 1) (hK 16 rfl) rfl rfl rfl)) (.cons (fun _ _ hE hK hg => okl_len (r := (rSl (rInt .i64))) ty22 rfl (rd_of (kspS (φ := SP.vl (rSl (rSl (rInt .i64))) O8 x_0.Claims) (j := 2) (hK 17 rfl) rfl rfl rfl))) (.cons (fun _ _ hE hK hg => ok_lss (ksv (j := 0) (hK 15 rfl) rfl rfl rfl) (ksv (j := 3) (hK 18 rfl) rfl rfl rfl)) (.cons (fun _ _ hE hK hg => ok_move (ksv (j := 4) (hK 19 rfl) rfl rfl rfl)) (.cons (fun _ _ hE hK hg => ok_move (kn (hK 9 rfl) rfl q9)) (.cons ?z5_7 (.cons ?z5_8 .nil))))))))) ?zok5 ?zgd5 ?zk5
  case z5_7 => intro a' w' hE hK hg; exact ok_lss (ksv (j := 6) (hK 21 rfl) rfl rfl hg) rfl
  case z5_8 => intro a' w' hE hK hg; exact ok_pick (ksv (j := 5) (hK 20 rfl) rfl rfl rfl) (fun hb => ksv (j := 7) (hK 22 rfl) rfl rfl (act_g1 rfl rfl hb)) (fun _ => rfl)
  case zok5 | zgd5 => kernel_rfl
  intro a6 w6 hA hE HF
  replace q1 := kn (HF 1) rfl q1
  replace q2 := kn (HF 2) rfl q2
  replace q7 := kn (HF 7) rfl q7
  replace q8 := kn (HF 8) rfl q8
  replace q9 := kn (HF 9) rfl q9
  have q23 := ksv (HF 23) rfl rfl rfl
  clear HF
  replace f2 := GR.v_ext _ f2 hE
  replace f6 := f6.ext hE
  replace hB := Base.step hB hE hO; clear hE
  obtain ⟨x9, hx_, h⟩ := Comp.run_bind h; replace hx_ := Comp.run_pure hx_; rw [hx_] at q23; clear hx_
  refine li_nil (nx_then ?_)
  refine wp_cond_b q23 (fun hc => ?_) (fun hc => ?_)
  ·
   replace h := Comp.run_b_t hc h; clear hc
   refine wp_skip (nx_then (wp_seq (wp_block ?_)))
   obtain ⟨x10, hx10, h⟩ := Comp.run_bind h
   obtain ⟨x11, hx11, h⟩ := Comp.run_bind h
   obtain ⟨x12, hx12, h⟩ := Comp.run_bind h
   refine' region [_, SP.ptr (rSl (rSl (rInt .i64))) O8 x_0.Claims, SP.vl (rSl (rSl (rInt .i64))) O8 x_0.Claims, _, SP.ptr (rSl (rInt .i64)) O8 x10, SP.vl (rSl (rInt .i64)) O8 x10, SP.ptr (rSl (rSl (rInt .i64))) O8 x_0.Claims, SP.vl (rSl (rSl (rInt .i64))) O8 x_0.Claims, _, SP.ptr (rSl (rInt .i64)) O8 x11, SP.vl (rSl (rInt .i64)) O8 x11, _, _, SP.vl (rSl (rInt .i64)) O8 x12, SP.vl (rSl (rSl (rInt .i64))) O8 [x12]] mixed hA (.cons (fun _ _ hE hK hg => ok_move (kn (hK 8 rfl) rfl q8)) (.cons (fun _ _ hE hK hg => okl_fldB (S := r_colletlaw43_Case) fit_colletlaw43_Case rfl (fun _ => rfl) sb_colletlaw43_Case_0 fl25_0 (kn (hK 2 rfl) rfl q2) (GR.v_ext _ f2 hE)) (.cons (fun _ _ hE hK hg => okl_ld (r := (rSl (rSl (rInt .i64)))) (fun _ => rfl) ty22 rfl rfl rfl (kspS (φ := SP.ptr (rSl (rSl (rInt .i64))) O8 x_0.Claims) (j := 1) (hK 27 rfl) rfl rfl rfl)) (.cons (fun _ _ hE hK hg => ok_move (kn (hK 9 rfl) rfl q9)) (.cons (fun _ _ hE hK hg => okl_idx (r := (rSl (rInt .i64))) (O := O8) ty22 ty23 rfl rfl (rd_of (kspS (φ := SP.vl (rSl (rSl (rInt .i64))) O8 x_0.Claims) (j := 2) (hK 28 rfl) rfl rfl rfl)) (ksv (j := 3) (hK 29 rfl) rfl rfl rfl) hx10) (.cons (fun _ _ hE hK hg => okl_ld (r := (rSl (rInt .i64))) (fun _ => rfl) ty23 rfl rfl rfl (kspS (φ := SP.ptr (rSl (rInt .i64)) O8 x10) (j := 4) (hK 30 rfl) rfl rfl rfl)) (.cons (fun _ _ hE hK hg => okl_fldB (S := r_colletlaw43_Case) fit_colletlaw43_Case rfl (fun _ => rfl) sb_colletlaw43_Case_0 fl25_0 (kn (hK 2 rfl) rfl q2) (GR.v_ext _ f2 hE)) (.cons (fun _ _ hE hK hg => okl_ld (r := (rSl (rSl (rInt .i64)))) (fun _ => rfl) ty22 rfl rfl rfl (kspS (φ := SP.ptr (rSl (rSl (rInt .i64))) O8 x_0.Claims) (j := 6) (hK 32 rfl) rfl rfl rfl)) (.cons (fun _ _ hE hK hg => ok_move (kn (hK 9 rfl) rfl q9)) (.cons (fun _ _ hE hK hg => okl_idx (r := (rSl (rInt .i64))) (O := O8) ty22 ty23 rfl rfl (rd_of (kspS (φ := SP.vl (rSl (rSl (rInt .i64))) O8 x_0.Claims) (j := 7) (hK 33 rfl) rfl rfl rfl)) (ksv (j := 8) (hK 34 rfl) rfl rfl rfl) hx11) (.cons (fun _ _ hE hK hg => okl_ld (r := (rSl (rInt .i64))) (fun _ => rfl) ty23 rfl rfl rfl (kspS (φ := SP.ptr (rSl (rInt .i64)) O8 x11) (j := 9) (hK 35 rfl) rfl rfl rfl)) (.cons (fun _ _ hE hK hg => okl_len (r := (rInt .i64)) ty23 rfl (rd_of (kspS (φ := SP.vl (rSl (rInt .i64)) O8 x11) (j := 10) (hK 36 rfl) rfl rfl rfl))) (.cons (fun _ _ hE hK hg => ok_min (ksv (j := 11) (hK 37 rfl) rfl rfl rfl) rfl) (.cons (fun _ _ hE hK hg => okl_slice_h (r := (rInt .i64)) ty23 ty3 rfl rfl (kspS (φ := SP.vl (rSl (rInt .i64)) O8 x10) (j := 5) (hK 31 rfl) rfl rfl rfl) (ksv (j := 12) (hK 38 rfl) rfl rfl rfl) hx12) (.cons (fun _ _ hE hK hg => okl_buildSliceV (r := (rSl (rInt .i64))) (fun _ => rfl) rfl (OkO.ext hB.ok hE) ty22 ty23 (parts_cons rfl parts_nil) ⟨(kspS (φ := SP.vl (rSl (rInt .i64)) O8 x12) (j := 13) (hK 39 rfl) rfl rfl rfl), trivial⟩ rfl (by decide)) .nil))))))))))))))) ?zok6 ?zgd6 ?zk6
   case zok6 | zgd6 => kernel_rfl
   intro a7 w7 hA hE HF
   replace q1 := kn (HF 1) rfl q1
   replace q2 := kn (HF 2) rfl q2
   replace q7 := kn (HF 7) rfl q7
   replace q8 := kn (HF 8) rfl q8
   replace q9 := kn (HF 9) rfl q9
   have q26 := ksv (HF 26) rfl rfl rfl
   have f14 := ksp (HF 40) rfl rfl rfl
   obtain ⟨u13, q40'⟩ : ∃ u, a7.get 40 = u := ⟨_, rfl⟩
   rw [q40'] at f14
   have q40 := q40'; clear q40'
   clear q23
   clear HF
   replace f2 := GR.v_ext _ f2 hE
   replace f6 := f6.ext hE
   replace hB := Base.step hB hE hO; clear hE
   obtain ⟨x15, hx15, h⟩ := Comp.run_bind h
   refine l_append (r := (rSl (rInt .i64))) (fun _ => rfl) rfl ty22 ty23 rfl (by decide) hO hB (okB_fr hB) q26 f6 q40 (rd_of f14) hx15 (by decide) fun u16 w8 O17 f18 hB' hX => ?_
   clear hB; have hB := hB'; clear hB'
   clear f6
   replace f2 := GR.kx _ f2 hX (by decide)
   replace f14 := GR.kx _ f14 hX (by decide)
   clear hX
   refine put_cont hA (by decide) fun a9 hA q_ hfr => ?_
   replace q1 := (hfr 1 rfl).trans q1
   replace q2 := (hfr 2 rfl).trans q2
   replace q7 := (hfr 7 rfl).trans q7
   replace q8 := (hfr 8 rfl).trans q8
   replace q9 := (hfr 9 rfl).trans q9
   replace q26 := (hfr 26 rfl).trans q26
   replace q40 := (hfr 40 rfl).trans q40
   have q41 := q_; clear q_ hfr
   refine l_ok (φ := SP.isv (u16)) hO hB (by exact ok_assign q41) rfl fun u_ w10 hE hB' hv_ => ?_
   replace hv_ := Eq.symm hv_; subst hv_; clear hB; have hB := hB'; clear hB'
   replace f2 := GR.v_ext _ f2 hE
   replace f18 := f18.ext hE
   clear hE
   refine put_cont hA (by decide) fun a11 hA q_ hfr => ?_
   replace q1 := (hfr 1 rfl).trans q1
   replace q2 := (hfr 2 rfl).trans q2
   replace q7 := (hfr 7 rfl).trans q7
   replace q9 := (hfr 9 rfl).trans q9
   replace q41 := (hfr 41 rfl).trans q41
   clear q8
   have q8 := q_; clear q_ hfr
   refine li_nil (nx_blk (nx_then ?_))
   refine' region [_, _, _] mixed hA (.cons (fun _ _ hE hK hg => ok_move (kn (hK 9 rfl) rfl q9)) (.cons (fun _ _ hE hK hg => ok_add (ksv (j := 0) (hK 24 rfl) rfl rfl rfl) rfl) (.cons (fun _ _ hE hK hg => ok_assign (ksv (j := 1) (hK 25 rfl) rfl rfl rfl)) .nil))) ?zok7 ?zgd7 ?zk7
   case zok7 | zgd7 => kernel_rfl
   intro a12 w12 hA hE HF
   replace q1 := kn (HF 1) rfl q1
   replace q2 := kn (HF 2) rfl q2
   replace q7 := kn (HF 7) rfl q7
   replace q8 := kn (HF 8) rfl q8
   have q9' := ksv (HF 9) rfl rfl rfl
   replace q9 := q9'; clear q9'
   clear HF
   replace f2 := GR.v_ext _ f2 hE
   replace f18 := f18.ext hE
   replace hB := Base.step hB hE hO; clear hE
   refine li_nil (nx_then ?_)
   have h := hnext2 _ (Comp.run_pure h).symm
   refine ⟨m2, hlt2, ?_⟩
   exact ⟨_, _, _, _, hA, hB, q1, q2, f2, q7, q8, f18, q9, h⟩
  ·
   replace h := Comp.run_b_f hc h; clear hc
   refine wp_exit (ex_then (ex_then (ex_same ?_)))
   have hd_ := hdone2 _ (Comp.run_pure h).symm; clear h
   subst hd_; have h := hk2; clear hk2; try dsimp only at h
   refine nx_then ?_
   obtain ⟨O24, hB', hX, f25⟩ := freezeL hO hB f6 (by decide)
   clear f6 hB; have hB := hB'; clear hB'
   replace f2 := GR.kx _ f2 hX (by decide)
   clear hX
   exact ⟨_, _, _, hA, hB, q1, q2, f2, q7, q8, f25, h⟩
 intro a13 w13 hI
 clear hA hB h q1 q2 q7 q8 f2
 obtain ⟨O26, x21, u22, hA, hB, q1, q2, f2, q7, q8, f23, h⟩ := hI
 unfold colletlaw43_Case_made_j1 at h
 refine wp_seq ?_
 obtain ⟨x27, hx27, h⟩ := Comp.run_bind h
 obtain ⟨x28, hx28, h⟩ := Comp.run_bind h
 obtain ⟨x29, hx29, h⟩ := Comp.run_bind h
 obtain ⟨J_, eJ_⟩ : ∃ J_ : (Nat → Bool) → Act → World → Prop, J_ = (fun S_ a_ w_ => ∃ O_ : Tags, Base (Fr w0) O w0 O_ w_ ∧ Keep 0 O26 w13 O_ w_ ∧ (S_ 4 = true → PtrZ (rSl (rInt .i64)) O_ w_ (a_.get 46) x_0.Sights) ∧ (S_ 5 = true → (rSl (rInt .i64)).v O_ w_ (a_.get 47) x_0.Sights) ∧ (S_ 6 = true → PtrZ (rSl (rInt .i64)) O_ w_ (a_.get 48) x_0.Sights) ∧ (S_ 7 = true → (rSl (rInt .i64)).v O_ w_ (a_.get 49) x_0.Sights) ∧ (S_ 10 = true → (rSl (rInt .i64)).v O_ w_ (a_.get 52) x28) ∧ (S_ 12 = true → (rSl r_api_Sight).v O_ w_ (a_.get 54) x29) ∧ (S_ 15 = true → (rSl r_api_Sight).v O_ w_ (a_.get 5) x29) ∧ (S_ 3 = true → S_ 14 = false → OwnL 2 r_api_Claim 33 (Fr w0) O_ w_ (a_.get 45) x27) ∧ (S_ 14 = true → OwnL 2 r_api_Claim 33 (Fr w0) O_ w_ (a_.get 4) x27)) := ⟨_, rfl⟩
 have T_ : ∀ {i_ : Nat} {d_ : Option Tmp} {v_ : Value} {S_ a' w' w2}, Nat.beq 3 i_ = false → Nat.beq 4 i_ = false → Nat.beq 5 i_ = false → Nat.beq 6 i_ = false → Nat.beq 7 i_ = false → Nat.beq 10 i_ = false → Nat.beq 12 i_ = false → Nat.beq 14 i_ = false → Nat.beq 15 i_ = false → d_ ≠ some 4 → d_ ≠ some 5 → d_ ≠ some 45 → d_ ≠ some 46 → d_ ≠ some 47 → d_ ≠ some 48 → d_ ≠ some 49 → d_ ≠ some 52 → d_ ≠ some 54 → Ext w' w2 → J_ S_ a' w' → J_ (addS S_ i_) (a'.put d_ v_) w2 := by
  subst eJ_; intro i_ d_ v_ S_ a' w' w2 n3_ n4_ n5_ n6_ n7_ n10_ n12_ n14_ n15_ s4_ s5_ s45_ s46_ s47_ s48_ s49_ s52_ s54_ hE hJ_
  obtain ⟨O_, hB_, k0_, m4_, m5_, m6_, m7_, m10_, m12_, m15_, v0_0_, v0_1_⟩ := hJ_
  exact ⟨O_, (Base.step hB_ hE hO), (k0_.trans (KX.keep (KX.ext hE) (by decide))), fun h_ => put_other (d := d_) (t := 46) (φ := fun u_ => PtrZ (rSl (rInt .i64)) O_ w2 u_ x_0.Sights) ((PtrZ.keep (m4_ (addS_off n4_ h_)) (KX.keep (KX.ext hE) (by decide)) (by decide) (fun _ => rfl))) s46_, fun h_ => put_other (d := d_) (t := 47) (φ := fun u_ => (rSl (rInt .i64)).v O_ w2 u_ x_0.Sights) ((GR.v_mono _ (m5_ (addS_off n5_ h_)) (KX.keep (KX.ext hE) (by decide)))) s47_, fun h_ => put_other (d := d_) (t := 48) (φ := fun u_ => PtrZ (rSl (rInt .i64)) O_ w2 u_ x_0.Sights) ((PtrZ.keep (m6_ (addS_off n6_ h_)) (KX.keep (KX.ext hE) (by decide)) (by decide) (fun _ => rfl))) s48_, fun h_ => put_other (d := d_) (t := 49) (φ := fun u_ => (rSl (rInt .i64)).v O_ w2 u_ x_0.Sights) ((GR.v_mono _ (m7_ (addS_off n7_ h_)) (KX.keep (KX.ext hE) (by decide)))) s49_, fun h_ => put_other (d := d_) (t := 52) (φ := fun u_ => (rSl (rInt .i64)).v O_ w2 u_ x28) ((GR.v_mono _ (m10_ (addS_off n10_ h_)) (KX.keep (KX.ext hE) (by decide)))) s52_, fun h_ => put_other (d := d_) (t := 54) (φ := fun u_ => (rSl r_api_Sight).v O_ w2 u_ x29) ((GR.v_mono _ (m12_ (addS_off n12_ h_)) (KX.keep (KX.ext hE) (by decide)))) s54_, fun h_ => put_other (d := d_) (t := 5) (φ := fun u_ => (rSl r_api_Sight).v O_ w2 u_ x29) ((GR.v_mono _ (m15_ (addS_off n15_ h_)) (KX.keep (KX.ext hE) (by decide)))) s5_, fun hp_ hq_ => put_other (d := d_) (t := 45) (φ := fun u_ => OwnL 2 r_api_Claim 33 (Fr w0) O_ w2 (u_) x27) (OwnL.kx (v0_0_ (addS_off n3_ hp_) (addS_no hq_)) (KX.ext hE) (by decide) (by decide)) s45_, fun hp_ => put_other (d := d_) (t := 4) (φ := fun u_ => OwnL 2 r_api_Claim 33 (Fr w0) O_ w2 (u_) x27) (OwnL.kx (v0_1_ (addS_off n14_ hp_)) (KX.ext hE) (by decide) (by decide)) s4_⟩
 refine' regionX (draw := true) J_ [SP.isv (u22), SP.isv (.int .i64 x3), SP.isv (.int .i64 x_1), SP.tt, SP.tt, SP.tt, SP.tt, SP.tt, SP.isv (.int .i64 (x_0.Sights.length : Int)), SP.isv (.int .i64 (min (x_0.Sights.length : Int) 30)), SP.tt, SP.isv (.int .i64 x3), SP.tt, SP.isv (.int .i64 x3), SP.tt, SP.tt, SP.isv (.int .i64 x3)] mixed hA (.cons (stE_isv _) (.cons (stE_isv _) (.cons (stE_isv _) (.cons (stE_tt _) (.cons (stE_tt _) (.cons (stE_tt _) (.cons (stE_tt _) (.cons (stE_tt _) (.cons (stE_isv _) (.cons (stE_isv _) (.cons (stE_tt _) (.cons (stE_isv _) (.cons (stE_tt _) (.cons (stE_isv _) (.cons (stE_tt _) (.cons (stE_tt _) (.cons (stE_isv _) .nil))))))))))))))))) (.cons ?z8_0 (.cons ?z8_1 (.cons ?z8_2 (.cons ?z8_3 (.cons ?z8_4 (.cons ?z8_5 (.cons ?z8_6 (.cons ?z8_7 (.cons ?z8_8 (.cons ?z8_9 (.cons ?z8_10 (.cons ?z8_11 (.cons ?z8_12 (.cons ?z8_13 (.cons ?z8_14 (.cons ?z8_15 (.cons ?z8_16 .nil))))))))))))))))) ?zsk8 ?zst8 ?zok8 ?zgd8 ?zk8
 case z8_0 =>
  intro S_ a' w' hA_ hJ_ hS_ hafter_ hbef_ hK hg K_ Q_ hK_
  refine x_ok (φ := SP.isv (u22)) (by exact ok_move (kn (hK 8 rfl) rfl q8)) fun v_ w2 hE hv_ => hK_ v_ w2 (T_ rfl rfl rfl rfl rfl rfl rfl rfl rfl (by decide) (by decide) (by decide) (by decide) (by decide) (by decide) (by decide) (by decide) (by decide) hE hJ_) hv_
 case z8_1 =>
  intro S_ a' w' hA_ hJ_ hS_ hafter_ hbef_ hK hg K_ Q_ hK_
  refine x_ok (φ := SP.isv (.int .i64 x3)) (by exact ok_move (kn (hK 7 rfl) rfl q7)) fun v_ w2 hE hv_ => hK_ v_ w2 (T_ rfl rfl rfl rfl rfl rfl rfl rfl rfl (by decide) (by decide) (by decide) (by decide) (by decide) (by decide) (by decide) (by decide) (by decide) hE hJ_) hv_
 case z8_2 =>
  intro S_ a' w' hA_ hJ_ hS_ hafter_ hbef_ hK hg K_ Q_ hK_
  refine x_ok (φ := SP.isv (.int .i64 x_1)) (by exact ok_move (kn (hK 1 rfl) rfl q1)) fun v_ w2 hE hv_ => hK_ v_ w2 (T_ rfl rfl rfl rfl rfl rfl rfl rfl rfl (by decide) (by decide) (by decide) (by decide) (by decide) (by decide) (by decide) (by decide) (by decide) hE hJ_) hv_
 case z8_3 =>
  intro S_ a' w' hA_ hJ_ hS_ hafter_ hbef_ hK hg K_ Q_ hK_
  subst eJ_
  obtain ⟨O_, hB_, k0_, m4_, m5_, m6_, m7_, m10_, m12_, m15_, v0_0_, v0_1_⟩ := hJ_
  refine x_ok (φ := SP.ownr r_api_Claim 33 w'.heap.size O_ x27) (by have c_ := ok_colletref43_Claims hB_.ok (GR.v_mono _ f23 k0_) hx27; exact ok_weak (ok_call3 fn36 (ksv (j := 0) (hK 42 rfl) rfl rfl rfl) (ksv (j := 1) (hK 43 rfl) rfl rfl rfl) (ksv (j := 2) (hK 44 rfl) rfl rfl rfl) c_) (fun _ _ _ h => h)) fun v_ w2 hE hv_ => ?_
  obtain ⟨O2_, hB2_, hX_, f_⟩ := ownNew hO hB_ hE hv_ rfl 2 (by decide)
  exact hK_ v_ w2 ⟨O2_, hB2_, (k0_.trans (KX.keep hX_ (by decide))), fun h_ => put_other (d := some 45) (t := 46) (φ := fun u_ => PtrZ (rSl (rInt .i64)) O2_ w2 u_ x_0.Sights) ((PtrZ.keep (m4_ (addS_off rfl h_)) (KX.keep hX_ (by decide)) (by decide) (fun _ => rfl))) (by decide), fun h_ => put_other (d := some 45) (t := 47) (φ := fun u_ => (rSl (rInt .i64)).v O2_ w2 u_ x_0.Sights) ((GR.v_mono _ (m5_ (addS_off rfl h_)) (KX.keep hX_ (by decide)))) (by decide), fun h_ => put_other (d := some 45) (t := 48) (φ := fun u_ => PtrZ (rSl (rInt .i64)) O2_ w2 u_ x_0.Sights) ((PtrZ.keep (m6_ (addS_off rfl h_)) (KX.keep hX_ (by decide)) (by decide) (fun _ => rfl))) (by decide), fun h_ => put_other (d := some 45) (t := 49) (φ := fun u_ => (rSl (rInt .i64)).v O2_ w2 u_ x_0.Sights) ((GR.v_mono _ (m7_ (addS_off rfl h_)) (KX.keep hX_ (by decide)))) (by decide), fun h_ => put_other (d := some 45) (t := 52) (φ := fun u_ => (rSl (rInt .i64)).v O2_ w2 u_ x28) ((GR.v_mono _ (m10_ (addS_off rfl h_)) (KX.keep hX_ (by decide)))) (by decide), fun h_ => put_other (d := some 45) (t := 54) (φ := fun u_ => (rSl r_api_Sight).v O2_ w2 u_ x29) ((GR.v_mono _ (m12_ (addS_off rfl h_)) (KX.keep hX_ (by decide)))) (by decide), fun h_ => put_other (d := some 45) (t := 5) (φ := fun u_ => (rSl r_api_Sight).v O2_ w2 u_ x29) ((GR.v_mono _ (m15_ (addS_off rfl h_)) (KX.keep hX_ (by decide)))) (by decide), fun hp_ hq_ => put_me (φ := fun u_ => OwnL 2 r_api_Claim 33 (Fr w0) O2_ w2 (u_) x27) hA_ (by decide) f_, fun hp_ => no_tf (addS_off rfl hp_) (hafter_ 14 (by kernel_rfl))⟩ trivial
 case z8_4 =>
  intro S_ a' w' hA_ hJ_ hS_ hafter_ hbef_ hK hg K_ Q_ hK_
  subst eJ_
  obtain ⟨O_, hB_, k0_, m4_, m5_, m6_, m7_, m10_, m12_, m15_, v0_0_, v0_1_⟩ := hJ_
  refine x_ok (φ := SP.ptrz (rSl (rInt .i64)) O_ x_0.Sights (of_decide_eq_true rfl) (fun _ => rfl)) (by exact okl_fldZ (S := r_colletlaw43_Case) rfl (by decide) (fun _ => rfl) sb_colletlaw43_Case_2 fl25_2 (kn (hK 2 rfl) rfl q2) (ptrz_of_box fit_colletlaw43_Case (GR.v_mono _ f2 k0_))) fun v_ w2 hE hv_ => ?_
  have hB2_ := Base.step hB_ hE hO
  exact hK_ v_ w2 ⟨O_, hB2_, (k0_.trans (KX.keep (KX.ext hE) (by decide))), fun _ => put_me (φ := fun u_ => PtrZ (rSl (rInt .i64)) O_ w2 u_ x_0.Sights) hA_ (by decide) hv_, fun h_ => put_other (d := some 46) (t := 47) (φ := fun u_ => (rSl (rInt .i64)).v O_ w2 u_ x_0.Sights) ((GR.v_mono _ (m5_ (addS_off rfl h_)) (KX.keep (KX.ext hE) (by decide)))) (by decide), fun h_ => put_other (d := some 46) (t := 48) (φ := fun u_ => PtrZ (rSl (rInt .i64)) O_ w2 u_ x_0.Sights) ((PtrZ.keep (m6_ (addS_off rfl h_)) (KX.keep (KX.ext hE) (by decide)) (by decide) (fun _ => rfl))) (by decide), fun h_ => put_other (d := some 46) (t := 49) (φ := fun u_ => (rSl (rInt .i64)).v O_ w2 u_ x_0.Sights) ((GR.v_mono _ (m7_ (addS_off rfl h_)) (KX.keep (KX.ext hE) (by decide)))) (by decide), fun h_ => put_other (d := some 46) (t := 52) (φ := fun u_ => (rSl (rInt .i64)).v O_ w2 u_ x28) ((GR.v_mono _ (m10_ (addS_off rfl h_)) (KX.keep (KX.ext hE) (by decide)))) (by decide), fun h_ => put_other (d := some 46) (t := 54) (φ := fun u_ => (rSl r_api_Sight).v O_ w2 u_ x29) ((GR.v_mono _ (m12_ (addS_off rfl h_)) (KX.keep (KX.ext hE) (by decide)))) (by decide), fun h_ => put_other (d := some 46) (t := 5) (φ := fun u_ => (rSl r_api_Sight).v O_ w2 u_ x29) ((GR.v_mono _ (m15_ (addS_off rfl h_)) (KX.keep (KX.ext hE) (by decide)))) (by decide), fun hp_ hq_ => put_other (d := some 46) (t := 45) (φ := fun u_ => OwnL 2 r_api_Claim 33 (Fr w0) O_ w2 (u_) x27) (OwnL.kx (v0_0_ (addS_off rfl hp_) (addS_no hq_)) (KX.ext hE) (by decide) (by decide)) (by decide), fun hp_ => put_other (d := some 46) (t := 4) (φ := fun u_ => OwnL 2 r_api_Claim 33 (Fr w0) O_ w2 (u_) x27) (OwnL.kx (v0_1_ (addS_off rfl hp_)) (KX.ext hE) (by decide) (by decide)) (by decide)⟩ trivial
 case z8_5 =>
  intro S_ a' w' hA_ hJ_ hS_ hafter_ hbef_ hK hg K_ Q_ hK_
  subst eJ_
  obtain ⟨O_, hB_, k0_, m4_, m5_, m6_, m7_, m10_, m12_, m15_, v0_0_, v0_1_⟩ := hJ_
  refine x_ok (φ := SP.vl (rSl (rInt .i64)) O_ x_0.Sights) (by exact okl_ld (r := (rSl (rInt .i64))) (fun _ => rfl) ty23 rfl rfl rfl (PtrZ.ptr (m4_ (addS_off rfl (hbef_ 4 (by kernel_rfl)))))) fun v_ w2 hE hv_ => ?_
  have hB2_ := Base.step hB_ hE hO
  exact hK_ v_ w2 ⟨O_, hB2_, (k0_.trans (KX.keep (KX.ext hE) (by decide))), fun h_ => put_other (d := some 47) (t := 46) (φ := fun u_ => PtrZ (rSl (rInt .i64)) O_ w2 u_ x_0.Sights) ((PtrZ.keep (m4_ (addS_off rfl h_)) (KX.keep (KX.ext hE) (by decide)) (by decide) (fun _ => rfl))) (by decide), fun _ => put_me (φ := fun u_ => (rSl (rInt .i64)).v O_ w2 u_ x_0.Sights) hA_ (by decide) hv_, fun h_ => put_other (d := some 47) (t := 48) (φ := fun u_ => PtrZ (rSl (rInt .i64)) O_ w2 u_ x_0.Sights) ((PtrZ.keep (m6_ (addS_off rfl h_)) (KX.keep (KX.ext hE) (by decide)) (by decide) (fun _ => rfl))) (by decide), fun h_ => put_other (d := some 47) (t := 49) (φ := fun u_ => (rSl (rInt .i64)).v O_ w2 u_ x_0.Sights) ((GR.v_mono _ (m7_ (addS_off rfl h_)) (KX.keep (KX.ext hE) (by decide)))) (by decide), fun h_ => put_other (d := some 47) (t := 52) (φ := fun u_ => (rSl (rInt .i64)).v O_ w2 u_ x28) ((GR.v_mono _ (m10_ (addS_off rfl h_)) (KX.keep (KX.ext hE) (by decide)))) (by decide), fun h_ => put_other (d := some 47) (t := 54) (φ := fun u_ => (rSl r_api_Sight).v O_ w2 u_ x29) ((GR.v_mono _ (m12_ (addS_off rfl h_)) (KX.keep (KX.ext hE) (by decide)))) (by decide), fun h_ => put_other (d := some 47) (t := 5) (φ := fun u_ => (rSl r_api_Sight).v O_ w2 u_ x29) ((GR.v_mono _ (m15_ (addS_off rfl h_)) (KX.keep (KX.ext hE) (by decide)))) (by decide), fun hp_ hq_ => put_other (d := some 47) (t := 45) (φ := fun u_ => OwnL 2 r_api_Claim 33 (Fr w0) O_ w2 (u_) x27) (OwnL.kx (v0_0_ (addS_off rfl hp_) (addS_no hq_)) (KX.ext hE) (by decide) (by decide)) (by decide), fun hp_ => put_other (d := some 47) (t := 4) (φ := fun u_ => OwnL 2 r_api_Claim 33 (Fr w0) O_ w2 (u_) x27) (OwnL.kx (v0_1_ (addS_off rfl hp_)) (KX.ext hE) (by decide) (by decide)) (by decide)⟩ trivial
 case z8_6 =>
  intro S_ a' w' hA_ hJ_ hS_ hafter_ hbef_ hK hg K_ Q_ hK_
  subst eJ_
  obtain ⟨O_, hB_, k0_, m4_, m5_, m6_, m7_, m10_, m12_, m15_, v0_0_, v0_1_⟩ := hJ_
  refine x_ok (φ := SP.ptrz (rSl (rInt .i64)) O_ x_0.Sights (of_decide_eq_true rfl) (fun _ => rfl)) (by exact okl_fldZ (S := r_colletlaw43_Case) rfl (by decide) (fun _ => rfl) sb_colletlaw43_Case_2 fl25_2 (kn (hK 2 rfl) rfl q2) (ptrz_of_box fit_colletlaw43_Case (GR.v_mono _ f2 k0_))) fun v_ w2 hE hv_ => ?_
  have hB2_ := Base.step hB_ hE hO
  exact hK_ v_ w2 ⟨O_, hB2_, (k0_.trans (KX.keep (KX.ext hE) (by decide))), fun h_ => put_other (d := some 48) (t := 46) (φ := fun u_ => PtrZ (rSl (rInt .i64)) O_ w2 u_ x_0.Sights) ((PtrZ.keep (m4_ (addS_off rfl h_)) (KX.keep (KX.ext hE) (by decide)) (by decide) (fun _ => rfl))) (by decide), fun h_ => put_other (d := some 48) (t := 47) (φ := fun u_ => (rSl (rInt .i64)).v O_ w2 u_ x_0.Sights) ((GR.v_mono _ (m5_ (addS_off rfl h_)) (KX.keep (KX.ext hE) (by decide)))) (by decide), fun _ => put_me (φ := fun u_ => PtrZ (rSl (rInt .i64)) O_ w2 u_ x_0.Sights) hA_ (by decide) hv_, fun h_ => put_other (d := some 48) (t := 49) (φ := fun u_ => (rSl (rInt .i64)).v O_ w2 u_ x_0.Sights) ((GR.v_mono _ (m7_ (addS_off rfl h_)) (KX.keep (KX.ext hE) (by decide)))) (by decide), fun h_ => put_other (d := some 48) (t := 52) (φ := fun u_ => (rSl (rInt .i64)).v O_ w2 u_ x28) ((GR.v_mono _ (m10_ (addS_off rfl h_)) (KX.keep (KX.ext hE) (by decide)))) (by decide), fun h_ => put_other (d := some 48) (t := 54) (φ := fun u_ => (rSl r_api_Sight).v O_ w2 u_ x29) ((GR.v_mono _ (m12_ (addS_off rfl h_)) (KX.keep (KX.ext hE) (by decide)))) (by decide), fun h_ => put_other (d := some 48) (t := 5) (φ := fun u_ => (rSl r_api_Sight).v O_ w2 u_ x29) ((GR.v_mono _ (m15_ (addS_off rfl h_)) (KX.keep (KX.ext hE) (by decide)))) (by decide), fun hp_ hq_ => put_other (d := some 48) (t := 45) (φ := fun u_ => OwnL 2 r_api_Claim 33 (Fr w0) O_ w2 (u_) x27) (OwnL.kx (v0_0_ (addS_off rfl hp_) (addS_no hq_)) (KX.ext hE) (by decide) (by decide)) (by decide), fun hp_ => put_other (d := some 48) (t := 4) (φ := fun u_ => OwnL 2 r_api_Claim 33 (Fr w0) O_ w2 (u_) x27) (OwnL.kx (v0_1_ (addS_off rfl hp_)) (KX.ext hE) (by decide) (by decide)) (by decide)⟩ trivial
 case z8_7 =>
  intro S_ a' w' hA_ hJ_ hS_ hafter_ hbef_ hK hg K_ Q_ hK_
  subst eJ_
  obtain ⟨O_, hB_, k0_, m4_, m5_, m6_, m7_, m10_, m12_, m15_, v0_0_, v0_1_⟩ := hJ_
  refine x_ok (φ := SP.vl (rSl (rInt .i64)) O_ x_0.Sights) (by exact okl_ld (r := (rSl (rInt .i64))) (fun _ => rfl) ty23 rfl rfl rfl (PtrZ.ptr (m6_ (addS_off rfl (hbef_ 6 (by kernel_rfl)))))) fun v_ w2 hE hv_ => ?_
  have hB2_ := Base.step hB_ hE hO
  exact hK_ v_ w2 ⟨O_, hB2_, (k0_.trans (KX.keep (KX.ext hE) (by decide))), fun h_ => put_other (d := some 49) (t := 46) (φ := fun u_ => PtrZ (rSl (rInt .i64)) O_ w2 u_ x_0.Sights) ((PtrZ.keep (m4_ (addS_off rfl h_)) (KX.keep (KX.ext hE) (by decide)) (by decide) (fun _ => rfl))) (by decide), fun h_ => put_other (d := some 49) (t := 47) (φ := fun u_ => (rSl (rInt .i64)).v O_ w2 u_ x_0.Sights) ((GR.v_mono _ (m5_ (addS_off rfl h_)) (KX.keep (KX.ext hE) (by decide)))) (by decide), fun h_ => put_other (d := some 49) (t := 48) (φ := fun u_ => PtrZ (rSl (rInt .i64)) O_ w2 u_ x_0.Sights) ((PtrZ.keep (m6_ (addS_off rfl h_)) (KX.keep (KX.ext hE) (by decide)) (by decide) (fun _ => rfl))) (by decide), fun _ => put_me (φ := fun u_ => (rSl (rInt .i64)).v O_ w2 u_ x_0.Sights) hA_ (by decide) hv_, fun h_ => put_other (d := some 49) (t := 52) (φ := fun u_ => (rSl (rInt .i64)).v O_ w2 u_ x28) ((GR.v_mono _ (m10_ (addS_off rfl h_)) (KX.keep (KX.ext hE) (by decide)))) (by decide), fun h_ => put_other (d := some 49) (t := 54) (φ := fun u_ => (rSl r_api_Sight).v O_ w2 u_ x29) ((GR.v_mono _ (m12_ (addS_off rfl h_)) (KX.keep (KX.ext hE) (by decide)))) (by decide), fun h_ => put_other (d := some 49) (t := 5) (φ := fun u_ => (rSl r_api_Sight).v O_ w2 u_ x29) ((GR.v_mono _ (m15_ (addS_off rfl h_)) (KX.keep (KX.ext hE) (by decide)))) (by decide), fun hp_ hq_ => put_other (d := some 49) (t := 45) (φ := fun u_ => OwnL 2 r_api_Claim 33 (Fr w0) O_ w2 (u_) x27) (OwnL.kx (v0_0_ (addS_off rfl hp_) (addS_no hq_)) (KX.ext hE) (by decide) (by decide)) (by decide), fun hp_ => put_other (d := some 49) (t := 4) (φ := fun u_ => OwnL 2 r_api_Claim 33 (Fr w0) O_ w2 (u_) x27) (OwnL.kx (v0_1_ (addS_off rfl hp_)) (KX.ext hE) (by decide) (by decide)) (by decide)⟩ trivial
 case z8_8 =>
  intro S_ a' w' hA_ hJ_ hS_ hafter_ hbef_ hK hg K_ Q_ hK_
  have hJ2_ := hJ_; rw [eJ_] at hJ2_; obtain ⟨O_, hB_, k0_, m4_, m5_, m6_, m7_, m10_, m12_, m15_, v0_0_, v0_1_⟩ := hJ2_
  refine x_ok (φ := SP.isv (.int .i64 (x_0.Sights.length : Int))) (by exact okl_len (r := (rInt .i64)) ty23 rfl (rd_of (m7_ (addS_off rfl (hbef_ 7 (by kernel_rfl)))))) fun v_ w2 hE hv_ => hK_ v_ w2 (T_ rfl rfl rfl rfl rfl rfl rfl rfl rfl (by decide) (by decide) (by decide) (by decide) (by decide) (by decide) (by decide) (by decide) (by decide) hE hJ_) hv_
 case z8_9 =>
  intro S_ a' w' hA_ hJ_ hS_ hafter_ hbef_ hK hg K_ Q_ hK_
  refine x_ok (φ := SP.isv (.int .i64 (min (x_0.Sights.length : Int) 30))) (by exact ok_min (ksv (j := 8) (hK 50 rfl) rfl rfl rfl) rfl) fun v_ w2 hE hv_ => hK_ v_ w2 (T_ rfl rfl rfl rfl rfl rfl rfl rfl rfl (by decide) (by decide) (by decide) (by decide) (by decide) (by decide) (by decide) (by decide) (by decide) hE hJ_) hv_
 case z8_10 =>
  intro S_ a' w' hA_ hJ_ hS_ hafter_ hbef_ hK hg K_ Q_ hK_
  subst eJ_
  obtain ⟨O_, hB_, k0_, m4_, m5_, m6_, m7_, m10_, m12_, m15_, v0_0_, v0_1_⟩ := hJ_
  refine x_ok (φ := SP.vl (rSl (rInt .i64)) O_ x28) (by exact okl_slice_h (r := (rInt .i64)) ty23 ty3 rfl rfl (m5_ (addS_off rfl (hbef_ 5 (by kernel_rfl)))) (ksv (j := 9) (hK 51 rfl) rfl rfl rfl) hx28) fun v_ w2 hE hv_ => ?_
  have hB2_ := Base.step hB_ hE hO
  exact hK_ v_ w2 ⟨O_, hB2_, (k0_.trans (KX.keep (KX.ext hE) (by decide))), fun h_ => put_other (d := some 52) (t := 46) (φ := fun u_ => PtrZ (rSl (rInt .i64)) O_ w2 u_ x_0.Sights) ((PtrZ.keep (m4_ (addS_off rfl h_)) (KX.keep (KX.ext hE) (by decide)) (by decide) (fun _ => rfl))) (by decide), fun h_ => put_other (d := some 52) (t := 47) (φ := fun u_ => (rSl (rInt .i64)).v O_ w2 u_ x_0.Sights) ((GR.v_mono _ (m5_ (addS_off rfl h_)) (KX.keep (KX.ext hE) (by decide)))) (by decide), fun h_ => put_other (d := some 52) (t := 48) (φ := fun u_ => PtrZ (rSl (rInt .i64)) O_ w2 u_ x_0.Sights) ((PtrZ.keep (m6_ (addS_off rfl h_)) (KX.keep (KX.ext hE) (by decide)) (by decide) (fun _ => rfl))) (by decide), fun h_ => put_other (d := some 52) (t := 49) (φ := fun u_ => (rSl (rInt .i64)).v O_ w2 u_ x_0.Sights) ((GR.v_mono _ (m7_ (addS_off rfl h_)) (KX.keep (KX.ext hE) (by decide)))) (by decide), fun _ => put_me (φ := fun u_ => (rSl (rInt .i64)).v O_ w2 u_ x28) hA_ (by decide) hv_, fun h_ => put_other (d := some 52) (t := 54) (φ := fun u_ => (rSl r_api_Sight).v O_ w2 u_ x29) ((GR.v_mono _ (m12_ (addS_off rfl h_)) (KX.keep (KX.ext hE) (by decide)))) (by decide), fun h_ => put_other (d := some 52) (t := 5) (φ := fun u_ => (rSl r_api_Sight).v O_ w2 u_ x29) ((GR.v_mono _ (m15_ (addS_off rfl h_)) (KX.keep (KX.ext hE) (by decide)))) (by decide), fun hp_ hq_ => put_other (d := some 52) (t := 45) (φ := fun u_ => OwnL 2 r_api_Claim 33 (Fr w0) O_ w2 (u_) x27) (OwnL.kx (v0_0_ (addS_off rfl hp_) (addS_no hq_)) (KX.ext hE) (by decide) (by decide)) (by decide), fun hp_ => put_other (d := some 52) (t := 4) (φ := fun u_ => OwnL 2 r_api_Claim 33 (Fr w0) O_ w2 (u_) x27) (OwnL.kx (v0_1_ (addS_off rfl hp_)) (KX.ext hE) (by decide) (by decide)) (by decide)⟩ trivial
 case z8_11 =>
  intro S_ a' w' hA_ hJ_ hS_ hafter_ hbef_ hK hg K_ Q_ hK_
  refine x_ok (φ := SP.isv (.int .i64 x3)) (by exact ok_move (kn (hK 7 rfl) rfl q7)) fun v_ w2 hE hv_ => hK_ v_ w2 (T_ rfl rfl rfl rfl rfl rfl rfl rfl rfl (by decide) (by decide) (by decide) (by decide) (by decide) (by decide) (by decide) (by decide) (by decide) hE hJ_) hv_
 case z8_12 =>
  intro S_ a' w' hA_ hJ_ hS_ hafter_ hbef_ hK hg K_ Q_ hK_
  subst eJ_
  obtain ⟨O_, hB_, k0_, m4_, m5_, m6_, m7_, m10_, m12_, m15_, v0_0_, v0_1_⟩ := hJ_
  refine x_ok (φ := SP.vl (rSl r_api_Sight) O_ x29) (by have c_ := ok_colletref43_Sights hB_.ok (m10_ (addS_off rfl (hbef_ 10 (by kernel_rfl)))) hx29; exact ok_weak (ok_call2 fn37 rfl (ksv (j := 11) (hK 53 rfl) rfl rfl rfl) c_) (fun _ _ _ h => (OwnR.val h (fun g hg => hB_.ok g (OwnR.ge h g hg).1)))) fun v_ w2 hE hv_ => ?_
  have hB2_ := Base.step hB_ hE hO
  exact hK_ v_ w2 ⟨O_, hB2_, (k0_.trans (KX.keep (KX.ext hE) (by decide))), fun h_ => put_other (d := some 54) (t := 46) (φ := fun u_ => PtrZ (rSl (rInt .i64)) O_ w2 u_ x_0.Sights) ((PtrZ.keep (m4_ (addS_off rfl h_)) (KX.keep (KX.ext hE) (by decide)) (by decide) (fun _ => rfl))) (by decide), fun h_ => put_other (d := some 54) (t := 47) (φ := fun u_ => (rSl (rInt .i64)).v O_ w2 u_ x_0.Sights) ((GR.v_mono _ (m5_ (addS_off rfl h_)) (KX.keep (KX.ext hE) (by decide)))) (by decide), fun h_ => put_other (d := some 54) (t := 48) (φ := fun u_ => PtrZ (rSl (rInt .i64)) O_ w2 u_ x_0.Sights) ((PtrZ.keep (m6_ (addS_off rfl h_)) (KX.keep (KX.ext hE) (by decide)) (by decide) (fun _ => rfl))) (by decide), fun h_ => put_other (d := some 54) (t := 49) (φ := fun u_ => (rSl (rInt .i64)).v O_ w2 u_ x_0.Sights) ((GR.v_mono _ (m7_ (addS_off rfl h_)) (KX.keep (KX.ext hE) (by decide)))) (by decide), fun h_ => put_other (d := some 54) (t := 52) (φ := fun u_ => (rSl (rInt .i64)).v O_ w2 u_ x28) ((GR.v_mono _ (m10_ (addS_off rfl h_)) (KX.keep (KX.ext hE) (by decide)))) (by decide), fun _ => put_me (φ := fun u_ => (rSl r_api_Sight).v O_ w2 u_ x29) hA_ (by decide) hv_, fun h_ => put_other (d := some 54) (t := 5) (φ := fun u_ => (rSl r_api_Sight).v O_ w2 u_ x29) ((GR.v_mono _ (m15_ (addS_off rfl h_)) (KX.keep (KX.ext hE) (by decide)))) (by decide), fun hp_ hq_ => put_other (d := some 54) (t := 45) (φ := fun u_ => OwnL 2 r_api_Claim 33 (Fr w0) O_ w2 (u_) x27) (OwnL.kx (v0_0_ (addS_off rfl hp_) (addS_no hq_)) (KX.ext hE) (by decide) (by decide)) (by decide), fun hp_ => put_other (d := some 54) (t := 4) (φ := fun u_ => OwnL 2 r_api_Claim 33 (Fr w0) O_ w2 (u_) x27) (OwnL.kx (v0_1_ (addS_off rfl hp_)) (KX.ext hE) (by decide) (by decide)) (by decide)⟩ trivial
 case z8_13 =>
  intro S_ a' w' hA_ hJ_ hS_ hafter_ hbef_ hK hg K_ Q_ hK_
  refine x_ok (φ := SP.isv (.int .i64 x3)) (by exact ok_move (kn (hK 7 rfl) rfl q7)) fun v_ w2 hE hv_ => hK_ v_ w2 (T_ rfl rfl rfl rfl rfl rfl rfl rfl rfl (by decide) (by decide) (by decide) (by decide) (by decide) (by decide) (by decide) (by decide) (by decide) hE hJ_) hv_
 case z8_14 =>
  intro S_ a' w' hA_ hJ_ hS_ hafter_ hbef_ hK hg K_ Q_ hK_
  subst eJ_
  obtain ⟨O_, hB_, k0_, m4_, m5_, m6_, m7_, m10_, m12_, m15_, v0_0_, v0_1_⟩ := hJ_
  refine x_ok (φ := SP.isv (a'.get 45)) (ok_assign rfl) fun v_ w2 hE hv_ => ?_
  replace hv_ : v_ = a'.get 45 := hv_
  have hB2_ := Base.step hB_ hE hO
  exact hK_ v_ w2 ⟨O_, hB2_, (k0_.trans (KX.keep (KX.ext hE) (by decide))), fun h_ => put_other (d := some 4) (t := 46) (φ := fun u_ => PtrZ (rSl (rInt .i64)) O_ w2 u_ x_0.Sights) ((PtrZ.keep (m4_ (addS_off rfl h_)) (KX.keep (KX.ext hE) (by decide)) (by decide) (fun _ => rfl))) (by decide), fun h_ => put_other (d := some 4) (t := 47) (φ := fun u_ => (rSl (rInt .i64)).v O_ w2 u_ x_0.Sights) ((GR.v_mono _ (m5_ (addS_off rfl h_)) (KX.keep (KX.ext hE) (by decide)))) (by decide), fun h_ => put_other (d := some 4) (t := 48) (φ := fun u_ => PtrZ (rSl (rInt .i64)) O_ w2 u_ x_0.Sights) ((PtrZ.keep (m6_ (addS_off rfl h_)) (KX.keep (KX.ext hE) (by decide)) (by decide) (fun _ => rfl))) (by decide), fun h_ => put_other (d := some 4) (t := 49) (φ := fun u_ => (rSl (rInt .i64)).v O_ w2 u_ x_0.Sights) ((GR.v_mono _ (m7_ (addS_off rfl h_)) (KX.keep (KX.ext hE) (by decide)))) (by decide), fun h_ => put_other (d := some 4) (t := 52) (φ := fun u_ => (rSl (rInt .i64)).v O_ w2 u_ x28) ((GR.v_mono _ (m10_ (addS_off rfl h_)) (KX.keep (KX.ext hE) (by decide)))) (by decide), fun h_ => put_other (d := some 4) (t := 54) (φ := fun u_ => (rSl r_api_Sight).v O_ w2 u_ x29) ((GR.v_mono _ (m12_ (addS_off rfl h_)) (KX.keep (KX.ext hE) (by decide)))) (by decide), fun h_ => put_other (d := some 4) (t := 5) (φ := fun u_ => (rSl r_api_Sight).v O_ w2 u_ x29) ((GR.v_mono _ (m15_ (addS_off rfl h_)) (KX.keep (KX.ext hE) (by decide)))) (by decide), fun hp_ hq_ => addS_me hq_, fun hp_ => put_me (φ := fun u_ => OwnL 2 r_api_Claim 33 (Fr w0) O_ w2 (u_) x27) hA_ (by decide) (by rw [hv_]; exact OwnL.ext (v0_0_ (addS_off rfl (hbef_ 3 (by kernel_rfl))) hS_) hE)⟩ trivial
 case z8_15 =>
  intro S_ a' w' hA_ hJ_ hS_ hafter_ hbef_ hK hg K_ Q_ hK_
  subst eJ_
  obtain ⟨O_, hB_, k0_, m4_, m5_, m6_, m7_, m10_, m12_, m15_, v0_0_, v0_1_⟩ := hJ_
  refine x_ok (φ := SP.isv (a'.get 54)) (ok_assign rfl) fun v_ w2 hE hv_ => ?_
  replace hv_ : v_ = a'.get 54 := hv_
  have hB2_ := Base.step hB_ hE hO
  exact hK_ v_ w2 ⟨O_, hB2_, (k0_.trans (KX.keep (KX.ext hE) (by decide))), fun h_ => put_other (d := some 5) (t := 46) (φ := fun u_ => PtrZ (rSl (rInt .i64)) O_ w2 u_ x_0.Sights) ((PtrZ.keep (m4_ (addS_off rfl h_)) (KX.keep (KX.ext hE) (by decide)) (by decide) (fun _ => rfl))) (by decide), fun h_ => put_other (d := some 5) (t := 47) (φ := fun u_ => (rSl (rInt .i64)).v O_ w2 u_ x_0.Sights) ((GR.v_mono _ (m5_ (addS_off rfl h_)) (KX.keep (KX.ext hE) (by decide)))) (by decide), fun h_ => put_other (d := some 5) (t := 48) (φ := fun u_ => PtrZ (rSl (rInt .i64)) O_ w2 u_ x_0.Sights) ((PtrZ.keep (m6_ (addS_off rfl h_)) (KX.keep (KX.ext hE) (by decide)) (by decide) (fun _ => rfl))) (by decide), fun h_ => put_other (d := some 5) (t := 49) (φ := fun u_ => (rSl (rInt .i64)).v O_ w2 u_ x_0.Sights) ((GR.v_mono _ (m7_ (addS_off rfl h_)) (KX.keep (KX.ext hE) (by decide)))) (by decide), fun h_ => put_other (d := some 5) (t := 52) (φ := fun u_ => (rSl (rInt .i64)).v O_ w2 u_ x28) ((GR.v_mono _ (m10_ (addS_off rfl h_)) (KX.keep (KX.ext hE) (by decide)))) (by decide), fun h_ => put_other (d := some 5) (t := 54) (φ := fun u_ => (rSl r_api_Sight).v O_ w2 u_ x29) ((GR.v_mono _ (m12_ (addS_off rfl h_)) (KX.keep (KX.ext hE) (by decide)))) (by decide), fun _ => put_me (φ := fun u_ => (rSl r_api_Sight).v O_ w2 u_ x29) hA_ (by decide) (by rw [hv_]; exact (GR.v_mono _ (m12_ (addS_off rfl (hbef_ 12 (by kernel_rfl)))) (KX.keep (KX.ext hE) (by decide)))), fun hp_ hq_ => put_other (d := some 5) (t := 45) (φ := fun u_ => OwnL 2 r_api_Claim 33 (Fr w0) O_ w2 (u_) x27) (OwnL.kx (v0_0_ (addS_off rfl hp_) (addS_no hq_)) (KX.ext hE) (by decide) (by decide)) (by decide), fun hp_ => put_other (d := some 5) (t := 4) (φ := fun u_ => OwnL 2 r_api_Claim 33 (Fr w0) O_ w2 (u_) x27) (OwnL.kx (v0_1_ (addS_off rfl hp_)) (KX.ext hE) (by decide) (by decide)) (by decide)⟩ trivial
 case z8_16 =>
  intro S_ a' w' hA_ hJ_ hS_ hafter_ hbef_ hK hg K_ Q_ hK_
  refine x_ok (φ := SP.isv (.int .i64 x3)) (by exact ok_assign (ksv (j := 13) (hK 55 rfl) rfl rfl rfl)) fun v_ w2 hE hv_ => hK_ v_ w2 (T_ rfl rfl rfl rfl rfl rfl rfl rfl rfl (by decide) (by decide) (by decide) (by decide) (by decide) (by decide) (by decide) (by decide) (by decide) hE hJ_) hv_
 case zsk8 =>
  subst eJ_
  intro i_ o_ S_ a_ w_ ho_ hact_ hA_ hS_ hbef_ hJ_
  obtain ⟨O_, hB_, k0_, m4_, m5_, m6_, m7_, m10_, m12_, m15_, v0_0_, v0_1_⟩ := hJ_
  exact ⟨O_, hB_, k0_, fun h_ => by obtain ⟨h1_, h2_⟩ := skip_off (j := 4) hact_ rfl h_; exact put_other (t := 46) (φ := fun u_ => PtrZ (rSl (rInt .i64)) O_ w_ u_ x_0.Sights) (m4_ h1_) (uniqDst_ne (j := 4) (by kernel_rfl) ho_ h2_), fun h_ => by obtain ⟨h1_, h2_⟩ := skip_off (j := 5) hact_ rfl h_; exact put_other (t := 47) (φ := fun u_ => (rSl (rInt .i64)).v O_ w_ u_ x_0.Sights) (m5_ h1_) (uniqDst_ne (j := 5) (by kernel_rfl) ho_ h2_), fun h_ => by obtain ⟨h1_, h2_⟩ := skip_off (j := 6) hact_ rfl h_; exact put_other (t := 48) (φ := fun u_ => PtrZ (rSl (rInt .i64)) O_ w_ u_ x_0.Sights) (m6_ h1_) (uniqDst_ne (j := 6) (by kernel_rfl) ho_ h2_), fun h_ => by obtain ⟨h1_, h2_⟩ := skip_off (j := 7) hact_ rfl h_; exact put_other (t := 49) (φ := fun u_ => (rSl (rInt .i64)).v O_ w_ u_ x_0.Sights) (m7_ h1_) (uniqDst_ne (j := 7) (by kernel_rfl) ho_ h2_), fun h_ => by obtain ⟨h1_, h2_⟩ := skip_off (j := 10) hact_ rfl h_; exact put_other (t := 52) (φ := fun u_ => (rSl (rInt .i64)).v O_ w_ u_ x28) (m10_ h1_) (uniqDst_ne (j := 10) (by kernel_rfl) ho_ h2_), fun h_ => by obtain ⟨h1_, h2_⟩ := skip_off (j := 12) hact_ rfl h_; exact put_other (t := 54) (φ := fun u_ => (rSl r_api_Sight).v O_ w_ u_ x29) (m12_ h1_) (uniqDst_ne (j := 12) (by kernel_rfl) ho_ h2_), fun h_ => by obtain ⟨h1_, h2_⟩ := skip_off (j := 15) hact_ rfl h_; exact put_other (t := 5) (φ := fun u_ => (rSl r_api_Sight).v O_ w_ u_ x29) (m15_ h1_) (uniqDst_ne (j := 15) (by kernel_rfl) ho_ h2_), fun hp_ hq_ => by obtain ⟨h1_, h2_⟩ := skip_off (j := 3) hact_ rfl hp_; exact put_other (t := 45) (φ := fun u_ => OwnL 2 r_api_Claim 33 (Fr w0) O_ w_ (u_) x27) (v0_0_ h1_ (addS_no hq_)) (uniqDst_ne (j := 3) (by kernel_rfl) ho_ h2_), fun hp_ => by obtain ⟨h1_, h2_⟩ := skip_off (j := 14) hact_ rfl hp_; exact put_other (t := 4) (φ := fun u_ => OwnL 2 r_api_Claim 33 (Fr w0) O_ w_ (u_) x27) (v0_1_ h1_) (uniqDst_ne (j := 14) (by kernel_rfl) ho_ h2_)⟩
 case zst8 => subst eJ_; exact fun w1_ hE_ => ⟨O26, (Base.step hB hE_ hO), (Keep.ext hE_), fun h_ => no_ft h_, fun h_ => no_ft h_, fun h_ => no_ft h_, fun h_ => no_ft h_, fun h_ => no_ft h_, fun h_ => no_ft h_, fun h_ => no_ft h_, fun hp_ => no_ft hp_, fun hp_ => no_ft hp_⟩
 case zok8 | zgd8 => kernel_rfl
 subst eJ_; clear T_
 intro a14 w14 hA HF hJ_
 obtain ⟨O30, hB_, k0_, m4_, m5_, m6_, m7_, m10_, m12_, m15_, v0_0_, v0_1_⟩ := hJ_
 have f32 := (v0_1_ rfl)
 obtain ⟨u31, q4'⟩ : ∃ u, a14.get 4 = u := ⟨_, rfl⟩
 rw [q4'] at f32
 have q4 := q4'; clear q4'
 have f34 := m15_ rfl
 obtain ⟨u33, q5'⟩ : ∃ u, a14.get 5 = u := ⟨_, rfl⟩
 rw [q5'] at f34
 have q5 := q5'; clear q5'
 have q6' := ksv (j := 16) (HF 6) rfl rfl rfl
 have q6 := q6'; clear q6'
 clear q1
 clear q2
 clear q7
 clear q8
 clear HF
 replace f2 := GR.v_mono _ f2 k0_
 replace f23 := GR.v_mono _ f23 k0_
 clear hB; have hB := hB_; clear hB_
 clear k0_ m4_ m5_ m6_ m7_ m10_ m12_ m15_ v0_0_ v0_1_
 refine nx_then (wp_ret ?_)
 have h := Comp.run_pure h; subst h
 exact retPure3 Try.results9 hA q4 q5 q6 hB.ext ⟨_, _, _, rfl, (OwnL.res f32 (by decide) hB.zero), (hB.res (rSl r_api_Sight) f34), rfl⟩
end Go.Proofs.Ytebmpjdegajhgaa
end
section
namespace Go.Proofs.Ytebmpjdegajhgaa
open Go Go.RowKit Go.Eng Go.Lift Go.F
set_option linter.unusedVariables false
set_option linter.unusedSimpArgs false
set_option maxRecDepth 100000
theorem ok_colletlaw43_bits {O : Tags} {w0 : World} (hO : OkO O w0) {v_0 : Value} {x_0 : List Int} (h_0 : (rSl (rInt .i64)).v O w0 v_0 x_0) {n : Nat} {y : Int} (h : (colletlaw43_bits x_0).run n = some y) : Pure Try.prog 26 #[v_0] w0 (SP.isv (.int .i64 y)).holds := by
 unfold colletlaw43_bits at h
 refine pure_of_wp Try.func26 rfl 18 Try.ntmps26 (by simp) fun a0 hA hs0 => ?_
 have q0 : a0.get 0 = v_0 := hs0 0 _ rfl
 clear hs0
 have hB : Base (Fr w0) O w0 O w0 := Base.start hO
 refine wp_seq ?_
 refine' region [_] mixed hA (.cons (fun _ _ hE hK hg => ok_assign rfl) .nil) ?zok1 ?zgd1 ?zk1
 case zok1 | zgd1 => kernel_rfl
 intro a1 w1 hA hE HF
 replace q0 := kn (HF 0) rfl q0
 clear HF
 replace h_0 := GR.v_ext _ h_0 hE
 replace hB := Base.step hB hE hO; clear hE
 refine li_nil (nx_then (wp_seq ?_))
 refine' region [_] mixed hA (.cons (fun _ _ hE hK hg => ok_assign rfl) .nil) ?zok2 ?zgd2 ?zk2
 case zok2 | zgd2 => kernel_rfl
 intro a2 w2 hA hE HF
 replace q0 := kn (HF 0) rfl q0
 have q3 := ksv (HF 3) rfl rfl rfl
 clear HF
 replace h_0 := GR.v_ext _ h_0 hE
 replace hB := Base.step hB hE hO; clear hE
 refine li_nil (nx_then ?_)
 refine seq_join (fun a w => ∃ (O9 : Tags) (x8 : Int), a.fit 18 ∧ Base (Fr w0) O w0 O9 w ∧ a.get 3 = .int .i64 x8 ∧ (colletlaw43_bits_j1 x8).run n = some y) ?_ ?_
 ·
  refine wp_seq ?_
  refine' region [_, _, _] mixed hA (.cons (fun _ _ hE hK hg => ok_move (kn (hK 0 rfl) rfl q0)) (.cons (fun _ _ hE hK hg => okl_len (r := (rInt .i64)) ty23 (ksv (j := 0) (hK 6 rfl) rfl rfl rfl) (rd_of (GR.v_ext _ h_0 hE))) (.cons (fun _ _ hE hK hg => ok_move rfl) .nil))) ?zok3 ?zgd3 ?zk3
  case zok3 | zgd3 => kernel_rfl
  intro a3 w3 hA hE HF
  replace q3 := kn (HF 3) rfl q3
  have q6 := ksv (HF 6) rfl rfl rfl
  have q7 := ksv (HF 7) rfl rfl rfl
  have q8 := ksv (HF 8) rfl rfl rfl
  clear q0
  clear HF
  replace h_0 := GR.v_ext _ h_0 hE
  replace hB := Base.step hB hE hO; clear hE
  refine li_nil (nx_then (wp_block ?_))
  obtain ⟨e2, he2, hk2⟩ := Comp.run_bind h; clear h
  refine loop_m (fun m a w => ∃ (O3 : Tags) (x1 : Int) (x2 : Int), a.fit 18 ∧ Base (Fr w0) O w0 O3 w ∧ a.get 3 = .int .i64 x1 ∧ a.get 6 = v_0 ∧ (rSl (rInt .i64)).v O3 w v_0 x_0 ∧ a.get 7 = .int .i64 (x_0.length : Int) ∧ a.get 8 = .int .i64 x2 ∧ Comp.loopN (fun s => colletlaw43_bits_l2 x_0 s.1 s.2) n m (x1, x2) = some e2) (m := n) ?st2 ?_
  case st2 =>
   exact ⟨_, _, _, hA, hB, q3, q6, h_0, q7, q8, Comp.run_loop he2⟩
  intro m_ a4 w4 hI
  clear hA hB he2 q3 q6 q7 q8 h_0
  obtain ⟨O3, x1, x2, hA, hB, q3, q6, h_0, q7, q8, hl⟩ := hI
  obtain ⟨m2, hlt2, st2, h, hnext2, hdone2⟩ := Comp.loopN_succ hl; clear hl
  replace h : (colletlaw43_bits_l2 x_0 x1 x2).run n = some st2 := h
  unfold colletlaw43_bits_l2 at h
  refine wp_seq ?_
  refine' region [_] mixed hA (.cons (fun _ _ hE hK hg => ok_lss (kn (hK 8 rfl) rfl q8) (kn (hK 7 rfl) rfl q7)) .nil) ?zok4 ?zgd4 ?zk4
  case zok4 | zgd4 => kernel_rfl
  intro a5 w5 hA hE HF
  replace q3 := kn (HF 3) rfl q3
  replace q6 := kn (HF 6) rfl q6
  replace q7 := kn (HF 7) rfl q7
  replace q8 := kn (HF 8) rfl q8
  have q9 := ksv (HF 9) rfl rfl rfl
  clear HF
  replace h_0 := GR.v_ext _ h_0 hE
  replace hB := Base.step hB hE hO; clear hE
  refine li_nil (nx_then (wp_seq ?_))
  refine wp_cond_b q9 (fun hc => ?_) (fun hc => ?_)
  ·
   replace h := Comp.run_b_t hc h; clear hc
   refine wp_skip (nx_then (wp_seq (wp_block (wp_seq ?_))))
   obtain ⟨x4, hx4, h⟩ := Comp.run_bind h
   refine' region [SP.ptr (rInt .i64) O3 x4, SP.isv (.int .i64 x4), _] mixed hA (.cons (fun _ _ hE hK hg => okl_idx (r := (rInt .i64)) (O := O3) ty23 ty3 rfl (kn (hK 6 rfl) rfl q6) (rd_of (GR.v_ext _ h_0 hE)) (kn (hK 8 rfl) rfl q8) hx4) (.cons (fun _ _ hE hK hg => okl_ldr (rInt .i64) (fun _ => rfl) ty3 rfl rfl rfl (kspS (φ := SP.ptr (rInt .i64) O3 x4) (j := 0) (hK 10 rfl) rfl rfl rfl) (fun _ _ _ h => rInt_v.1 h)) (.cons (fun _ _ hE hK hg => ok_assign (ksv (j := 1) (hK 11 rfl) rfl rfl rfl)) .nil))) ?zok5 ?zgd5 ?zk5
   case zok5 | zgd5 => kernel_rfl
   intro a6 w6 hA hE HF
   replace q3 := kn (HF 3) rfl q3
   have q5 := ksv (HF 5) rfl rfl rfl
   replace q6 := kn (HF 6) rfl q6
   replace q7 := kn (HF 7) rfl q7
   replace q8 := kn (HF 8) rfl q8
   clear q9
   clear HF
   replace h_0 := GR.v_ext _ h_0 hE
   replace hB := Base.step hB hE hO; clear hE
   refine li_nil (nx_then ?_)
   obtain ⟨x5, hx5, h⟩ := Comp.run_bind h
   refine' region [_, _, _, _, _] mixed hA (.cons (fun _ _ hE hK hg => ok_move (kn (hK 3 rfl) rfl q3)) (.cons (fun _ _ hE hK hg => ok_move (kn (hK 5 rfl) rfl q5)) (.cons (fun _ _ hE hK hg => okl_shl rfl (ksv (j := 1) (hK 13 rfl) rfl rfl rfl) (run_nonneg hx5)) (.cons (fun _ _ hE hK hg => okb_or (ksv (j := 0) (hK 12 rfl) rfl rfl rfl) (ksv (j := 2) (hK 14 rfl) rfl rfl rfl)) (.cons (fun _ _ hE hK hg => ok_assign (ksv (j := 3) (hK 15 rfl) rfl rfl rfl)) .nil))))) ?zok6 ?zgd6 ?zk6
   case zok6 | zgd6 => kernel_rfl
   intro a7 w7 hA hE HF
   have q3' := ksv (HF 3) rfl rfl rfl
   replace q3 := q3'; clear q3'
   replace q6 := kn (HF 6) rfl q6
   replace q7 := kn (HF 7) rfl q7
   replace q8 := kn (HF 8) rfl q8
   clear q5
   clear HF
   replace h_0 := GR.v_ext _ h_0 hE
   replace hB := Base.step hB hE hO; clear hE
   refine li_nil (nx_blk (nx_then ?_))
   refine' region [_, _] mixed hA (.cons (fun _ _ hE hK hg => ok_add (kn (hK 8 rfl) rfl q8) rfl) (.cons (fun _ _ hE hK hg => ok_move (ksv (j := 0) (hK 16 rfl) rfl rfl rfl)) .nil)) ?zok7 ?zgd7 ?zk7
   case zok7 | zgd7 => kernel_rfl
   intro a8 w8 hA hE HF
   replace q3 := kn (HF 3) rfl q3
   replace q6 := kn (HF 6) rfl q6
   replace q7 := kn (HF 7) rfl q7
   have q8' := ksv (HF 8) rfl rfl rfl
   replace q8 := q8'; clear q8'
   clear HF
   replace h_0 := GR.v_ext _ h_0 hE
   replace hB := Base.step hB hE hO; clear hE
   refine li_nil (nx_then ?_)
   have h := hnext2 _ (Comp.run_pure h).symm
   refine ⟨m2, hlt2, ?_⟩
   exact ⟨_, _, _, hA, hB, q3, q6, h_0, q7, q8, h⟩
  ·
   replace h := Comp.run_b_f hc h; clear hc
   refine wp_exit (ex_then (ex_then (ex_same ?_)))
   have hd_ := hdone2 _ (Comp.run_pure h).symm; clear h
   subst hd_; have h := hk2; clear hk2; try dsimp only at h
   refine nx_then ?_
   exact ⟨_, _, hA, hB, q3, h⟩
 intro a9 w9 hI
 clear hA hB h q0 q3 h_0
 obtain ⟨O9, x8, hA, hB, q3, h⟩ := hI
 unfold colletlaw43_bits_j1 at h
 refine wp_seq ?_
 refine' region [_, _] mixed hA (.cons (fun _ _ hE hK hg => ok_move (kn (hK 3 rfl) rfl q3)) (.cons (fun _ _ hE hK hg => ok_assign (ksv (j := 0) (hK 17 rfl) rfl rfl rfl)) .nil)) ?zok8 ?zgd8 ?zk8
 case zok8 | zgd8 => kernel_rfl
 intro a10 w10 hA hE HF
 have q2 := ksv (HF 2) rfl rfl rfl
 clear q3
 clear HF
 replace hB := Base.step hB hE hO; clear hE
 refine li_nil (nx_then (wp_ret ?_))
 have h := Comp.run_pure h; subst h
 exact retPure Try.results26 hA q2 hB.ext rfl
theorem ok_colletlaw43_world_there {O : Tags} {w0 : World} (hO : OkO O w0) {v_0 : Value} {x_0 : colletlaw43_world} (h_0 : r_colletlaw43_world.v O w0 v_0 x_0) {v_1 : Value} {x_1 : List api_Claim} (h_1 : (rSl r_api_Claim).v O w0 v_1 x_1) {n : Nat} {y : Int} (h : (colletlaw43_world_there x_0 x_1).run n = some y) : Pure Try.prog 28 #[v_0, v_1] w0 (SP.isv (.int .i64 y)).holds := by
 unfold colletlaw43_world_there at h
 refine pure_of_wp Try.func28 rfl 29 Try.ntmps28 (by simp) fun a0 hA hs0 => ?_
 have q0 : a0.get 0 = v_0 := hs0 0 _ rfl
 have q1 : a0.get 1 = v_1 := hs0 1 _ rfl
 clear hs0
 have hB : Base (Fr w0) O w0 O w0 := Base.start hO
 refine wp_seq ?_
 refine' region [SP.vl (rBox r_colletlaw43_world) O x_0, _] mixed hA (.cons (fun _ _ hE hK hg => okl_boxV (r := r_colletlaw43_world) fit_colletlaw43_world (OkO.ext hB.ok hE) (kn (hK 0 rfl) rfl q0) (GR.v_ext _ h_0 hE)) (.cons (fun _ _ hE hK hg => ok_assign rfl) .nil)) ?zok1 ?zgd1 ?zk1
 case zok1 | zgd1 => kernel_rfl
 intro a1 w1 hA hE HF
 replace q1 := kn (HF 1) rfl q1
 have f2 := ksp (HF 2) rfl rfl rfl
 obtain ⟨u1, q2'⟩ : ∃ u, a1.get 2 = u := ⟨_, rfl⟩
 rw [q2'] at f2
 have q2 := q2'; clear q2'
 clear q0
 clear HF
 replace h_0 := GR.v_ext _ h_0 hE
 replace h_1 := GR.v_ext _ h_1 hE
 replace hB := Base.step hB hE hO; clear hE
 refine li_nil (nx_then (wp_seq ?_))
 refine' region [SP.ptr (rInt .i64) O x_0.material_, SP.isv (.int .i64 x_0.material_), _] mixed hA (.cons (fun _ _ hE hK hg => okl_fldB (S := r_colletlaw43_world) fit_colletlaw43_world rfl (fun _ => rfl) sb_colletlaw43_world_0 fl49_0 (kn (hK 2 rfl) rfl q2) (GR.v_ext _ f2 hE)) (.cons (fun _ _ hE hK hg => okl_ldr (rInt .i64) (fun _ => rfl) ty3 rfl rfl rfl (kspS (φ := SP.ptr (rInt .i64) O x_0.material_) (j := 0) (hK 7 rfl) rfl rfl rfl) (fun _ _ _ h => rInt_v.1 h)) (.cons (fun _ _ hE hK hg => ok_assign (ksv (j := 1) (hK 8 rfl) rfl rfl rfl)) .nil))) ?zok2 ?zgd2 ?zk2
 case zok2 | zgd2 => kernel_rfl
 intro a2 w2 hA hE HF
 replace q1 := kn (HF 1) rfl q1
 replace q2 := kn (HF 2) rfl q2
 have q5 := ksv (HF 5) rfl rfl rfl
 clear HF
 replace h_1 := GR.v_ext _ h_1 hE
 replace f2 := GR.v_ext _ f2 hE
 replace hB := Base.step hB hE hO; clear hE
 refine li_nil (nx_then ?_)
 refine seq_join (fun a w => ∃ (O13 : Tags) (x12 : Int), a.fit 29 ∧ Base (Fr w0) O w0 O13 w ∧ a.get 5 = .int .i64 x12 ∧ (colletlaw43_world_there_j1 x12).run n = some y) ?_ ?_
 ·
  refine wp_seq ?_
  refine' region [_, _, _] mixed hA (.cons (fun _ _ hE hK hg => ok_move (kn (hK 1 rfl) rfl q1)) (.cons (fun _ _ hE hK hg => okl_len (r := r_api_Claim) ty27 (ksv (j := 0) (hK 9 rfl) rfl rfl rfl) (rd_of (GR.v_ext _ h_1 hE))) (.cons (fun _ _ hE hK hg => ok_move rfl) .nil))) ?zok3 ?zgd3 ?zk3
  case zok3 | zgd3 => kernel_rfl
  intro a3 w3 hA hE HF
  replace q1 := kn (HF 1) rfl q1
  replace q2 := kn (HF 2) rfl q2
  replace q5 := kn (HF 5) rfl q5
  have q10 := ksv (HF 10) rfl rfl rfl
  have q11 := ksv (HF 11) rfl rfl rfl
  clear HF
  replace h_1 := GR.v_ext _ h_1 hE
  replace f2 := GR.v_ext _ f2 hE
  replace hB := Base.step hB hE hO; clear hE
  refine li_nil (nx_then (wp_block ?_))
  obtain ⟨e2, he2, hk2⟩ := Comp.run_bind h; clear h
  refine loop_m (fun m a w => ∃ (O5 : Tags) (x3 : Int) (x4 : Int), a.fit 29 ∧ Base (Fr w0) O w0 O5 w ∧ a.get 1 = v_1 ∧ (rSl r_api_Claim).v O5 w v_1 x_1 ∧ a.get 2 = u1 ∧ (rBox r_colletlaw43_world).v O5 w u1 x_0 ∧ a.get 5 = .int .i64 x3 ∧ a.get 10 = .int .i64 (x_1.length : Int) ∧ a.get 11 = .int .i64 x4 ∧ Comp.loopN (fun s => colletlaw43_world_there_l2 x_1 x_0 s.1 s.2) n m (x3, x4) = some e2) (m := n) ?st2 ?_
  case st2 =>
   exact ⟨_, _, _, hA, hB, q1, h_1, q2, f2, q5, q10, q11, Comp.run_loop he2⟩
  intro m_ a4 w4 hI
  clear hA hB he2 q1 q2 q5 q10 q11 f2 h_1
  obtain ⟨O5, x3, x4, hA, hB, q1, h_1, q2, f2, q5, q10, q11, hl⟩ := hI
  obtain ⟨m2, hlt2, st2, h, hnext2, hdone2⟩ := Comp.loopN_succ hl; clear hl
  replace h : (colletlaw43_world_there_l2 x_1 x_0 x3 x4).run n = some st2 := h
  unfold colletlaw43_world_there_l2 at h
  refine wp_seq ?_
  refine' region [_] mixed hA (.cons (fun _ _ hE hK hg => ok_lss (kn (hK 11 rfl) rfl q11) (kn (hK 10 rfl) rfl q10)) .nil) ?zok4 ?zgd4 ?zk4
  case zok4 | zgd4 => kernel_rfl
  intro a5 w5 hA hE HF
  replace q1 := kn (HF 1) rfl q1
  replace q2 := kn (HF 2) rfl q2
  replace q5 := kn (HF 5) rfl q5
  replace q10 := kn (HF 10) rfl q10
  replace q11 := kn (HF 11) rfl q11
  have q12 := ksv (HF 12) rfl rfl rfl
  clear HF
  replace h_1 := GR.v_ext _ h_1 hE
  replace f2 := GR.v_ext _ f2 hE
  replace hB := Base.step hB hE hO; clear hE
  refine li_nil (nx_then (wp_seq ?_))
  refine wp_cond_b q12 (fun hc => ?_) (fun hc => ?_)
  ·
   replace h := Comp.run_b_t hc h; clear hc
   refine wp_skip (nx_then ?_)
   refine seq_join (fun a w => ∃ (O9 : Tags) (x8 : Int), a.fit 29 ∧ Base (Fr w0) O w0 O9 w ∧ a.get 1 = v_1 ∧ (rSl r_api_Claim).v O9 w v_1 x_1 ∧ a.get 2 = u1 ∧ (rBox r_colletlaw43_world).v O9 w u1 x_0 ∧ a.get 5 = .int .i64 x8 ∧ a.get 10 = .int .i64 (x_1.length : Int) ∧ a.get 11 = .int .i64 x4 ∧ (colletlaw43_world_there_j3 x4 x8).run n = some st2) ?_ ?_
   ·
    refine wp_block (wp_seq ?_)
    refine' region [_, _] mixed hA (.cons (fun _ _ hE hK hg => ok_move (kn (hK 11 rfl) rfl q11)) (.cons (fun _ _ hE hK hg => ok_assign (ksv (j := 0) (hK 13 rfl) rfl rfl rfl)) .nil)) ?zok5 ?zgd5 ?zk5
    case zok5 | zgd5 => kernel_rfl
    intro a6 w6 hA hE HF
    replace q1 := kn (HF 1) rfl q1
    replace q2 := kn (HF 2) rfl q2
    replace q5 := kn (HF 5) rfl q5
    have q6 := ksv (HF 6) rfl rfl rfl
    replace q10 := kn (HF 10) rfl q10
    replace q11 := kn (HF 11) rfl q11
    clear q12
    clear HF
    replace h_1 := GR.v_ext _ h_1 hE
    replace f2 := GR.v_ext _ f2 hE
    replace hB := Base.step hB hE hO; clear hE
    refine li_nil (nx_then (wp_seq ?_))
    obtain ⟨x6, hx6, h⟩ := Comp.run_bind h
    refine' region [_, _, SP.ptr r_api_Claim O5 x6, SP.ptr (rInt .i64) O5 x6.Kind, SP.isv (.int .i64 x6.Kind), _] mixed hA (.cons (fun _ _ hE hK hg => ok_move (kn (hK 1 rfl) rfl q1)) (.cons (fun _ _ hE hK hg => ok_move (kn (hK 6 rfl) rfl q6)) (.cons (fun _ _ hE hK hg => okl_idx (r := r_api_Claim) (O := O5) ty27 ty33 rfl (ksv (j := 0) (hK 14 rfl) rfl rfl rfl) (rd_of (GR.v_ext _ h_1 hE)) (ksv (j := 1) (hK 15 rfl) rfl rfl rfl) hx6) (.cons (fun _ _ hE hK hg => okl_fld (S := r_api_Claim) rfl (fun _ => rfl) sb_api_Claim_1 fl33_1 rfl (kspS (φ := SP.ptr r_api_Claim O5 x6) (j := 2) (hK 16 rfl) rfl rfl rfl)) (.cons (fun _ _ hE hK hg => okl_ldr (rInt .i64) (fun _ => rfl) ty3 rfl rfl rfl (kspS (φ := SP.ptr (rInt .i64) O5 x6.Kind) (j := 3) (hK 17 rfl) rfl rfl rfl) (fun _ _ _ h => rInt_v.1 h)) (.cons (fun _ _ hE hK hg => ok_eqlI (ksv (j := 4) (hK 18 rfl) rfl rfl rfl) rfl) .nil)))))) ?zok6 ?zgd6 ?zk6
    case zok6 | zgd6 => kernel_rfl
    intro a7 w7 hA hE HF
    replace q1 := kn (HF 1) rfl q1
    replace q2 := kn (HF 2) rfl q2
    replace q5 := kn (HF 5) rfl q5
    replace q6 := kn (HF 6) rfl q6
    replace q10 := kn (HF 10) rfl q10
    replace q11 := kn (HF 11) rfl q11
    have q19 := ksv (HF 19) rfl rfl rfl
    clear HF
    replace h_1 := GR.v_ext _ h_1 hE
    replace f2 := GR.v_ext _ f2 hE
    replace hB := Base.step hB hE hO; clear hE
    refine li_nil (nx_then ?_)
    refine wp_cond_b q19 (fun hc => ?_) (fun hc => ?_)
    ·
     replace h := Comp.run_b_t hc h; clear hc
     obtain ⟨x7, hx7, h⟩ := Comp.run_bind h
     refine' region [_, SP.ptr (rSl (rInt .i64)) O5 x_0.removed_, SP.vl (rSl (rInt .i64)) O5 x_0.removed_, _, SP.ptr (rInt .i64) O5 x7, SP.isv (.int .i64 x7), _, _] mixed hA (.cons (fun _ _ hE hK hg => ok_move (kn (hK 5 rfl) rfl q5)) (.cons (fun _ _ hE hK hg => okl_fldB (S := r_colletlaw43_world) fit_colletlaw43_world rfl (fun _ => rfl) sb_colletlaw43_world_1 fl49_1 (kn (hK 2 rfl) rfl q2) (GR.v_ext _ f2 hE)) (.cons (fun _ _ hE hK hg => okl_ld (r := (rSl (rInt .i64))) (fun _ => rfl) ty23 rfl rfl rfl (kspS (φ := SP.ptr (rSl (rInt .i64)) O5 x_0.removed_) (j := 1) (hK 21 rfl) rfl rfl rfl)) (.cons (fun _ _ hE hK hg => ok_move (kn (hK 6 rfl) rfl q6)) (.cons (fun _ _ hE hK hg => okl_idx (r := (rInt .i64)) (O := O5) ty23 ty3 rfl rfl (rd_of (kspS (φ := SP.vl (rSl (rInt .i64)) O5 x_0.removed_) (j := 2) (hK 22 rfl) rfl rfl rfl)) (ksv (j := 3) (hK 23 rfl) rfl rfl rfl) hx7) (.cons (fun _ _ hE hK hg => okl_ldr (rInt .i64) (fun _ => rfl) ty3 rfl rfl rfl (kspS (φ := SP.ptr (rInt .i64) O5 x7) (j := 4) (hK 24 rfl) rfl rfl rfl) (fun _ _ _ h => rInt_v.1 h)) (.cons (fun _ _ hE hK hg => okb_andNot (ksv (j := 0) (hK 20 rfl) rfl rfl rfl) (ksv (j := 5) (hK 25 rfl) rfl rfl rfl)) (.cons (fun _ _ hE hK hg => ok_assign (ksv (j := 6) (hK 26 rfl) rfl rfl rfl)) .nil)))))))) ?zok7 ?zgd7 ?zk7
     case zok7 | zgd7 => kernel_rfl
     intro a8 w8 hA hE HF
     replace q1 := kn (HF 1) rfl q1
     replace q2 := kn (HF 2) rfl q2
     have q5' := ksv (HF 5) rfl rfl rfl
     replace q5 := q5'; clear q5'
     replace q10 := kn (HF 10) rfl q10
     replace q11 := kn (HF 11) rfl q11
     clear q6
     clear q19
     clear HF
     replace h_1 := GR.v_ext _ h_1 hE
     replace f2 := GR.v_ext _ f2 hE
     replace hB := Base.step hB hE hO; clear hE
     refine li_nil (nx_blk (nx_then ?_))
     exact ⟨_, _, hA, hB, q1, h_1, q2, f2, q5, q10, q11, h⟩
    ·
     replace h := Comp.run_b_f hc h; clear hc
     refine wp_skip (nx_blk (nx_then ?_))
     exact ⟨_, _, hA, hB, q1, h_1, q2, f2, q5, q10, q11, h⟩
   intro a9 w9 hI
   clear hA hB h q1 q2 q5 q10 q11 q12 f2 h_1
   obtain ⟨O9, x8, hA, hB, q1, h_1, q2, f2, q5, q10, q11, h⟩ := hI
   unfold colletlaw43_world_there_j3 at h
   refine' region [_, _] mixed hA (.cons (fun _ _ hE hK hg => ok_add (kn (hK 11 rfl) rfl q11) rfl) (.cons (fun _ _ hE hK hg => ok_move (ksv (j := 0) (hK 27 rfl) rfl rfl rfl)) .nil)) ?zok8 ?zgd8 ?zk8
   case zok8 | zgd8 => kernel_rfl
   intro a10 w10 hA hE HF
   replace q1 := kn (HF 1) rfl q1
   replace q2 := kn (HF 2) rfl q2
   replace q5 := kn (HF 5) rfl q5
   replace q10 := kn (HF 10) rfl q10
   have q11' := ksv (HF 11) rfl rfl rfl
   replace q11 := q11'; clear q11'
   clear HF
   replace h_1 := GR.v_ext _ h_1 hE
   replace f2 := GR.v_ext _ f2 hE
   replace hB := Base.step hB hE hO; clear hE
   refine li_nil (nx_then ?_)
   have h := hnext2 _ (Comp.run_pure h).symm
   refine ⟨m2, hlt2, ?_⟩
   exact ⟨_, _, _, hA, hB, q1, h_1, q2, f2, q5, q10, q11, h⟩
  ·
   replace h := Comp.run_b_f hc h; clear hc
   refine wp_exit (ex_then (ex_then (ex_same ?_)))
   have hd_ := hdone2 _ (Comp.run_pure h).symm; clear h
   subst hd_; have h := hk2; clear hk2; try dsimp only at h
   refine nx_then ?_
   exact ⟨_, _, hA, hB, q5, h⟩
 intro a11 w11 hI
 clear hA hB h q1 q2 q5 f2 h_1
 obtain ⟨O13, x12, hA, hB, q5, h⟩ := hI
 unfold colletlaw43_world_there_j1 at h
 refine wp_seq ?_
 refine' region [_, _] mixed hA (.cons (fun _ _ hE hK hg => ok_move (kn (hK 5 rfl) rfl q5)) (.cons (fun _ _ hE hK hg => ok_assign (ksv (j := 0) (hK 28 rfl) rfl rfl rfl)) .nil)) ?zok9 ?zgd9 ?zk9
 case zok9 | zgd9 => kernel_rfl
 intro a12 w12 hA hE HF
 have q4 := ksv (HF 4) rfl rfl rfl
 clear q5
 clear HF
 replace hB := Base.step hB hE hO; clear hE
 refine li_nil (nx_then (wp_ret ?_))
 have h := Comp.run_pure h; subst h
 exact retPure Try.results28 hA q4 hB.ext rfl
end Go.Proofs.Ytebmpjdegajhgaa
end
section
namespace Go.Proofs.Ytebmpjdegajhgaa
open Go Go.RowKit Go.Eng Go.Lift Go.F
set_option linter.unusedVariables false
set_option linter.unusedSimpArgs false
set_option maxRecDepth 100000
theorem ok_colletlaw43_world_holds {O : Tags} {w0 : World} (hO : OkO O w0) {v_0 : Value} {x_0 : colletlaw43_world} (h_0 : r_colletlaw43_world.v O w0 v_0 x_0) {v_1 : Value} {x_1 : List api_Claim} (h_1 : (rSl r_api_Claim).v O w0 v_1 x_1) {v_2 : Value} {x_2 : List api_Sight} (h_2 : (rSl r_api_Sight).v O w0 v_2 x_2) {x_3 : Int} {n : Nat} {y : Bool} (h : (colletlaw43_world_holds x_0 x_1 x_2 x_3).run n = some y) : Pure Try.prog 53 #[v_0, v_1, v_2, .int .i64 x_3] w0 (SP.isv (.bool y)).holds := by
 unfold colletlaw43_world_holds at h
 refine pure_of_wp Try.func53 rfl 77 Try.ntmps53 (by simp) fun a0 hA hs0 => ?_
 have q0 : a0.get 0 = v_0 := hs0 0 _ rfl
 have q1 : a0.get 1 = v_1 := hs0 1 _ rfl
 have q2 : a0.get 2 = v_2 := hs0 2 _ rfl
 have q3 : a0.get 3 = .int .i64 x_3 := hs0 3 _ rfl
 clear hs0
 have hB : Base (Fr w0) O w0 O w0 := Base.start hO
 refine wp_seq ?_
 refine' region [SP.vl (rBox r_colletlaw43_world) O x_0, _] mixed hA (.cons (fun _ _ hE hK hg => okl_boxV (r := r_colletlaw43_world) fit_colletlaw43_world (OkO.ext hB.ok hE) (kn (hK 0 rfl) rfl q0) (GR.v_ext _ h_0 hE)) (.cons (fun _ _ hE hK hg => ok_assign rfl) .nil)) ?zok1 ?zgd1 ?zk1
 case zok1 | zgd1 => kernel_rfl
 intro a1 w1 hA hE HF
 replace q1 := kn (HF 1) rfl q1
 replace q2 := kn (HF 2) rfl q2
 replace q3 := kn (HF 3) rfl q3
 have f2 := ksp (HF 4) rfl rfl rfl
 obtain ⟨u1, q4'⟩ : ∃ u, a1.get 4 = u := ⟨_, rfl⟩
 rw [q4'] at f2
 have q4 := q4'; clear q4'
 clear q0
 clear HF
 replace h_0 := GR.v_ext _ h_0 hE
 replace h_1 := GR.v_ext _ h_1 hE
 replace h_2 := GR.v_ext _ h_2 hE
 replace hB := Base.step hB hE hO; clear hE
 refine li_nil (nx_then (wp_seq ?_))
 obtain ⟨x3, hx3, h⟩ := Comp.run_bind h
 refine' regionT [_, _, SP.ptr r_api_Claim O x3, SP.vl r_api_Claim O x3] hA (.cons (fun _ _ hE hK hg => ok_move (kn (hK 1 rfl) rfl q1)) (.cons (fun _ _ hE hK hg => ok_move (kn (hK 3 rfl) rfl q3)) (.cons (fun _ _ hE hK hg => okl_idx (r := r_api_Claim) (O := O) ty27 ty33 rfl (ksv (j := 0) (hK 13 rfl) rfl rfl rfl) (rd_of (GR.v_ext _ h_1 hE)) (ksv (j := 1) (hK 14 rfl) rfl rfl rfl) hx3) (.cons (fun _ _ hE hK hg => okl_ld (r := r_api_Claim) fit_api_Claim ty33 rfl rfl rfl (kspS (φ := SP.ptr r_api_Claim O x3) (j := 2) (hK 15 rfl) rfl rfl rfl)) .nil)))) ?zok2 ?zgd2 ?zk2
 case zok2 | zgd2 => kernel_rfl
 intro a2 w2 hA hE HF
 replace q1 := kn (HF 1) rfl q1
 replace q2 := kn (HF 2) rfl q2
 replace q3 := kn (HF 3) rfl q3
 replace q4 := kn (HF 4) rfl q4
 have f5 := ksp (HF 16) rfl rfl rfl
 obtain ⟨u4, q16'⟩ : ∃ u, a2.get 16 = u := ⟨_, rfl⟩
 rw [q16'] at f5
 have q16 := q16'; clear q16'
 clear HF
 replace h_1 := GR.v_ext _ h_1 hE
 replace h_2 := GR.v_ext _ h_2 hE
 replace f2 := GR.v_ext _ f2 hE
 replace hB := Base.step hB hE hO; clear hE
 refine l_ok (φ := SP.box w2.heap.size #[.int .i64 0, .int .i64 0, .int .i64 0, .slice none 0 0, .slice none 0 0] 33) hO hB (by exact ok_alloc (Nat.le_refl _) ty33) rfl fun u6 w3 hE hB' f7 => ?_
 clear hB'; obtain ⟨O8, b10, hB', hX, e_, f9⟩ := boxNew hO hB hE f7 1 (by decide)
 subst e_; clear hB f7; have hB := hB'; clear hB'
 replace h_1 := GR.kx _ h_1 hX (by decide)
 replace h_2 := GR.kx _ h_2 hX (by decide)
 replace f2 := GR.kx _ f2 hX (by decide)
 replace f5 := GR.kx _ f5 hX (by decide)
 clear hX hE
 refine put_cont hA (by decide) fun a4 hA q_ hfr => ?_
 replace q1 := (hfr 1 rfl).trans q1
 replace q2 := (hfr 2 rfl).trans q2
 replace q3 := (hfr 3 rfl).trans q3
 replace q4 := (hfr 4 rfl).trans q4
 replace q16 := (hfr 16 rfl).trans q16
 have q9 := q_; clear q_ hfr
 obtain ⟨u11, u13, e_, f12, f14⟩ := openV_api_Claim f5; subst e_
 refine l_storeSub (vs := [.int .i64 x3.Party, .int .i64 x3.Kind, .int .i64 x3.Gauge, u11, u13]) (cs' := #[.int .i64 x3.Party, .int .i64 x3.Kind, .int .i64 x3.Gauge, u11, u13]) hO hB (okB_fr hB) ty33 q9 q16 rfl (by intro c_ hc_; simp only [List.mem_cons, List.not_mem_nil, or_false] at hc_; rcases hc_ with rfl | rfl | rfl | rfl | rfl <;> first | rfl | assumption | exact sl_one f12 rfl rfl | exact sl_one f14 rfl rfl) f9 (by simp) rfl fun w5 f15 hB' hX => ?_
 clear hB f9; have hB := hB'; clear hB'
 replace h_1 := GR.kx _ h_1 hX (by decide)
 replace h_2 := GR.kx _ h_2 hX (by decide)
 replace f2 := GR.kx _ f2 hX (by decide)
 replace f12 := GR.kx _ f12 hX (by decide)
 replace f14 := GR.kx _ f14 hX (by decide)
 clear hX
 refine li_nil (nx_then (wp_seq (wp_seq ?_)))
 refine' region [SP.isv (.pointer (some ⟨b10, 1, none⟩)), SP.isv (.int .i64 x3.Kind)] mixed hA (.cons (fun _ _ hE hK hg => ok_fieldAddr fl33_1 (kn (hK 9 rfl) rfl q9)) (.cons (fun _ _ hE hK hg => ok_loadOwn ty3 rfl (ksv (j := 0) (hK 17 rfl) rfl rfl rfl) (OwnB.ext f15 hE).own rfl) .nil)) ?zok3 ?zgd3 ?zk3
 case zok3 | zgd3 => kernel_rfl
 intro a6 w6 hA hE HF
 replace q1 := kn (HF 1) rfl q1
 replace q2 := kn (HF 2) rfl q2
 replace q3 := kn (HF 3) rfl q3
 replace q4 := kn (HF 4) rfl q4
 replace q9 := kn (HF 9) rfl q9
 have q18 := ksv (HF 18) rfl rfl rfl
 clear HF
 replace h_1 := GR.v_ext _ h_1 hE
 replace h_2 := GR.v_ext _ h_2 hE
 replace f2 := GR.v_ext _ f2 hE
 replace f15 := f15.ext hE
 replace f12 := GR.v_ext _ f12 hE
 replace f14 := GR.v_ext _ f14 hE
 replace hB := Base.step hB hE hO; clear hE
 refine li_nil (nx_then (wp_block (wp_seq ?_)))
 refine' region [_, _] mixed hA (.cons (fun _ _ hE hK hg => ok_eqlI (kn (hK 18 rfl) rfl q18) rfl) (.cons (fun _ _ hE hK hg => ok_assign (ksv (j := 0) (hK 20 rfl) rfl rfl rfl)) .nil)) ?zok4 ?zgd4 ?zk4
 case zok4 | zgd4 => kernel_rfl
 intro a7 w7 hA hE HF
 replace q1 := kn (HF 1) rfl q1
 replace q2 := kn (HF 2) rfl q2
 replace q3 := kn (HF 3) rfl q3
 replace q4 := kn (HF 4) rfl q4
 replace q9 := kn (HF 9) rfl q9
 replace q18 := kn (HF 18) rfl q18
 have q19 := ksv (HF 19) rfl rfl rfl
 clear HF
 replace h_1 := GR.v_ext _ h_1 hE
 replace h_2 := GR.v_ext _ h_2 hE
 replace f2 := GR.v_ext _ f2 hE
 replace f15 := f15.ext hE
 replace f12 := GR.v_ext _ f12 hE
 replace f14 := GR.v_ext _ f14 hE
 replace hB := Base.step hB hE hO; clear hE
 refine li_nil (nx_then ?_)
 refine wp_cond_b q19 (fun hc => ?_) (fun hc => ?_)
 ·
  replace h := Comp.run_b_t hc h; clear hc
  refine wp_seq ?_
  obtain ⟨x16, hx16, h⟩ := Comp.run_bind h
  refine' region [SP.ptr (rInt .i64) O8 x_0.material_, SP.isv (.int .i64 x_0.material_), SP.isv (.pointer (some ⟨b10, 4, none⟩)), SP.isv (u13), SP.isv (.int .i64 x16), _, _] mixed hA (.cons (fun _ _ hE hK hg => okl_fldB (S := r_colletlaw43_world) fit_colletlaw43_world rfl (fun _ => rfl) sb_colletlaw43_world_0 fl49_0 (kn (hK 4 rfl) rfl q4) (GR.v_ext _ f2 hE)) (.cons (fun _ _ hE hK hg => okl_ldr (rInt .i64) (fun _ => rfl) ty3 rfl rfl rfl (kspS (φ := SP.ptr (rInt .i64) O8 x_0.material_) (j := 0) (hK 21 rfl) rfl rfl rfl) (fun _ _ _ h => rInt_v.1 h)) (.cons (fun _ _ hE hK hg => ok_fieldAddr fl33_4 (kn (hK 9 rfl) rfl q9)) (.cons (fun _ _ hE hK hg => ok_loadOwn ty23 rfl (ksv (j := 2) (hK 23 rfl) rfl rfl rfl) (OwnB.ext f15 hE).own rfl) (.cons ?z5_4 (.cons (fun _ _ hE hK hg => ok_eqlI (ksv (j := 1) (hK 22 rfl) rfl rfl rfl) (ksv (j := 4) (hK 25 rfl) rfl rfl rfl)) (.cons (fun _ _ hE hK hg => ok_assign (ksv (j := 5) (hK 26 rfl) rfl rfl rfl)) .nil))))))) ?zok5 ?zgd5 ?zk5
  case z5_4 => intro a' w' hE hK hg; have c_ := ok_colletlaw43_bits (OkO.ext hB.ok hE) (GR.v_ext _ f14 hE) hx16; exact ok_call1 fn26 (ksv (j := 3) (hK 24 rfl) rfl rfl rfl) c_
  case zok5 | zgd5 => kernel_rfl
  intro a8 w8 hA hE HF
  have q8 := ksv (HF 8) rfl rfl rfl
  clear q1
  clear q2
  clear q3
  clear q4
  clear q9
  clear q18
  clear q19
  clear HF
  replace h_1 := GR.v_ext _ h_1 hE
  replace h_2 := GR.v_ext _ h_2 hE
  replace f2 := GR.v_ext _ f2 hE
  replace f15 := f15.ext hE
  replace f12 := GR.v_ext _ f12 hE
  replace f14 := GR.v_ext _ f14 hE
  replace hB := Base.step hB hE hO; clear hE
  refine li_nil (nx_then (wp_ret (rt_blk (rt_then ?_))))
  have h := Comp.run_pure h; subst h
  exact retPure Try.results53 hA q8 hB.ext rfl
 ·
  replace h := Comp.run_b_f hc h; clear hc
  refine wp_seq ?_
  refine' region [_, _] mixed hA (.cons (fun _ _ hE hK hg => ok_eqlI (kn (hK 18 rfl) rfl q18) rfl) (.cons (fun _ _ hE hK hg => ok_assign (ksv (j := 0) (hK 28 rfl) rfl rfl rfl)) .nil)) ?zok6 ?zgd6 ?zk6
  case zok6 | zgd6 => kernel_rfl
  intro a9 w9 hA hE HF
  replace q1 := kn (HF 1) rfl q1
  replace q2 := kn (HF 2) rfl q2
  replace q3 := kn (HF 3) rfl q3
  replace q4 := kn (HF 4) rfl q4
  replace q9 := kn (HF 9) rfl q9
  have q27 := ksv (HF 27) rfl rfl rfl
  clear q18
  clear q19
  clear HF
  replace h_1 := GR.v_ext _ h_1 hE
  replace h_2 := GR.v_ext _ h_2 hE
  replace f2 := GR.v_ext _ f2 hE
  replace f15 := f15.ext hE
  replace f12 := GR.v_ext _ f12 hE
  replace f14 := GR.v_ext _ f14 hE
  replace hB := Base.step hB hE hO; clear hE
  refine li_nil (nx_then ?_)
  refine wp_cond_b q27 (fun hc => ?_) (fun hc => ?_)
  ·
   replace h := Comp.run_b_t hc h; clear hc
   refine wp_seq ?_
   obtain ⟨x17, hx17, h⟩ := Comp.run_bind h
   obtain ⟨x18, hx18, h⟩ := Comp.run_bind h
   obtain ⟨x19, hx19, h⟩ := Comp.run_bind h
   obtain ⟨x20, hx20, h⟩ := Comp.run_bind h
   refine' region [SP.isv (.pointer (some ⟨b10, 3, none⟩)), SP.isv (u11), SP.isv (.int .i64 x17), SP.ptr (rSl (rInt .i64)) O8 x_0.removed_, SP.vl (rSl (rInt .i64)) O8 x_0.removed_, _, SP.ptr (rInt .i64) O8 x18, SP.isv (.int .i64 x18), _, _, _, SP.ptr (rSl (rInt .i64)) O8 x_0.removed_, SP.vl (rSl (rInt .i64)) O8 x_0.removed_, _, SP.ptr (rInt .i64) O8 x19, SP.isv (.int .i64 x19), SP.isv (.pointer (some ⟨b10, 4, none⟩)), SP.isv (u13), SP.isv (.int .i64 x20), _, _, _, _] mixed hA (.cons (fun _ _ hE hK hg => ok_fieldAddr fl33_3 (kn (hK 9 rfl) rfl q9)) (.cons (fun _ _ hE hK hg => ok_loadOwn ty23 rfl (ksv (j := 0) (hK 29 rfl) rfl rfl rfl) (OwnB.ext f15 hE).own rfl) (.cons ?z7_2 (.cons (fun _ _ hE hK hg => okl_fldB (S := r_colletlaw43_world) fit_colletlaw43_world rfl (fun _ => rfl) sb_colletlaw43_world_1 fl49_1 (kn (hK 4 rfl) rfl q4) (GR.v_ext _ f2 hE)) (.cons (fun _ _ hE hK hg => okl_ld (r := (rSl (rInt .i64))) (fun _ => rfl) ty23 rfl rfl rfl (kspS (φ := SP.ptr (rSl (rInt .i64)) O8 x_0.removed_) (j := 3) (hK 32 rfl) rfl rfl rfl)) (.cons (fun _ _ hE hK hg => ok_move (kn (hK 3 rfl) rfl q3)) (.cons (fun _ _ hE hK hg => okl_idx (r := (rInt .i64)) (O := O8) ty23 ty3 rfl rfl (rd_of (kspS (φ := SP.vl (rSl (rInt .i64)) O8 x_0.removed_) (j := 4) (hK 33 rfl) rfl rfl rfl)) (ksv (j := 5) (hK 34 rfl) rfl rfl rfl) hx18) (.cons (fun _ _ hE hK hg => okl_ldr (rInt .i64) (fun _ => rfl) ty3 rfl rfl rfl (kspS (φ := SP.ptr (rInt .i64) O8 x18) (j := 6) (hK 35 rfl) rfl rfl rfl) (fun _ _ _ h => rInt_v.1 h)) (.cons (fun _ _ hE hK hg => okb_andNot (ksv (j := 2) (hK 31 rfl) rfl rfl rfl) (ksv (j := 7) (hK 36 rfl) rfl rfl rfl)) (.cons (fun _ _ hE hK hg => ok_eqlI (ksv (j := 8) (hK 37 rfl) rfl rfl rfl) rfl) (.cons (fun _ _ hE hK hg => ok_move (ksv (j := 9) (hK 38 rfl) rfl rfl rfl)) (.cons (fun _ _ hE hK hg => okl_fldB (S := r_colletlaw43_world) fit_colletlaw43_world rfl (fun _ => rfl) sb_colletlaw43_world_1 fl49_1 (kn (hK 4 rfl) rfl q4) (GR.v_ext _ f2 hE)) (.cons ?z7_12 (.cons (fun _ _ hE hK hg => ok_move (kn (hK 3 rfl) rfl q3)) (.cons ?z7_14 (.cons ?z7_15 (.cons (fun _ _ hE hK hg => ok_fieldAddr fl33_4 (kn (hK 9 rfl) rfl q9)) (.cons ?z7_17 (.cons ?z7_18 (.cons ?z7_19 (.cons ?z7_20 (.cons ?z7_21 (.cons (fun _ _ hE hK hg => ok_assign (ksv (j := 21) (hK 50 rfl) rfl rfl rfl)) .nil))))))))))))))))))))))) ?zok7 ?zgd7 ?zk7
   case z7_2 => intro a' w' hE hK hg; have c_ := ok_colletlaw43_bits (OkO.ext hB.ok hE) (GR.v_ext _ f12 hE) hx17; exact ok_call1 fn26 (ksv (j := 1) (hK 30 rfl) rfl rfl rfl) c_
   case z7_12 => intro a' w' hE hK hg; exact okl_ld (r := (rSl (rInt .i64))) (fun _ => rfl) ty23 rfl rfl rfl (kspS (φ := SP.ptr (rSl (rInt .i64)) O8 x_0.removed_) (j := 11) (hK 40 rfl) rfl rfl hg)
   case z7_14 => intro a' w' hE hK hg; exact okl_idx (r := (rInt .i64)) (O := O8) ty23 ty3 rfl rfl (rd_of (kspS (φ := SP.vl (rSl (rInt .i64)) O8 x_0.removed_) (j := 12) (hK 41 rfl) rfl rfl hg)) (ksv (j := 13) (hK 42 rfl) rfl rfl hg) (run_gdb hx19 hg)
   case z7_15 => intro a' w' hE hK hg; exact okl_ldr (rInt .i64) (fun _ => rfl) ty3 rfl rfl rfl (kspS (φ := SP.ptr (rInt .i64) O8 x19) (j := 14) (hK 43 rfl) rfl rfl hg) (fun _ _ _ h => rInt_v.1 h)
   case z7_17 => intro a' w' hE hK hg; exact ok_loadOwn ty23 rfl (ksv (j := 16) (hK 45 rfl) rfl rfl hg) (OwnB.ext f15 hE).own rfl
   case z7_18 => intro a' w' hE hK hg; have c_ := ok_colletlaw43_bits (OkO.ext hB.ok hE) (GR.v_ext _ f14 hE) (run_gdb hx20 hg); exact ok_call1 fn26 (ksv (j := 17) (hK 46 rfl) rfl rfl hg) c_
   case z7_19 => intro a' w' hE hK hg; exact okb_andNot (ksv (j := 15) (hK 44 rfl) rfl rfl hg) (ksv (j := 18) (hK 47 rfl) rfl rfl hg)
   case z7_20 => intro a' w' hE hK hg; exact ok_eqlI (ksv (j := 19) (hK 48 rfl) rfl rfl hg) rfl
   case z7_21 => intro a' w' hE hK hg; exact ok_pick (ksv (j := 10) (hK 39 rfl) rfl rfl rfl) (fun hb => ksv (j := 20) (hK 49 rfl) rfl rfl (act_g1 rfl rfl hb)) (fun _ => rfl)
   case zok7 | zgd7 => kernel_rfl
   intro a10 w10 hA hE HF
   have q8 := ksv (HF 8) rfl rfl rfl
   clear q1
   clear q2
   clear q3
   clear q4
   clear q9
   clear q27
   clear HF
   replace h_1 := GR.v_ext _ h_1 hE
   replace h_2 := GR.v_ext _ h_2 hE
   replace f2 := GR.v_ext _ f2 hE
   replace f15 := f15.ext hE
   replace f12 := GR.v_ext _ f12 hE
   replace f14 := GR.v_ext _ f14 hE
   replace hB := Base.step hB hE hO; clear hE
   obtain ⟨x21, hx_, h⟩ := Comp.run_bind h; replace hx_ := Comp.run_pure hx_; rw [hx_] at q8; clear hx_
   refine li_nil (nx_then (wp_ret (rt_blk (rt_then ?_))))
   have h := Comp.run_pure h; subst h
   exact retPure Try.results53 hA q8 hB.ext rfl
  ·
   replace h := Comp.run_b_f hc h; clear hc
   refine wp_skip (nx_blk (nx_then (wp_seq ?_)))
   obtain ⟨x22, hx22, h⟩ := Comp.run_bind h
   refine' region [SP.vl r_colletlaw43_world O8 x_0, _, SP.isv (.int .i64 x22), _] mixed hA (.cons (fun _ _ hE hK hg => okl_ld (r := r_colletlaw43_world) fit_colletlaw43_world ty49 rfl rfl (kn (hK 4 rfl) rfl q4) (ptr_of_box fit_colletlaw43_world (GR.v_ext _ f2 hE))) (.cons (fun _ _ hE hK hg => ok_move (kn (hK 1 rfl) rfl q1)) (.cons ?z8_2 (.cons (fun _ _ hE hK hg => ok_assign (ksv (j := 2) (hK 53 rfl) rfl rfl rfl)) .nil)))) ?zok8 ?zgd8 ?zk8
   case z8_2 => intro a' w' hE hK hg; have c_ := ok_colletlaw43_world_there (OkO.ext hB.ok hE) (kspS (φ := SP.vl r_colletlaw43_world O8 x_0) (j := 0) (hK 51 rfl) rfl rfl rfl) (GR.v_ext _ h_1 hE) hx22; exact ok_call2 fn28 rfl (ksv (j := 1) (hK 52 rfl) rfl rfl rfl) c_
   case zok8 | zgd8 => kernel_rfl
   intro a11 w11 hA hE HF
   replace q2 := kn (HF 2) rfl q2
   replace q9 := kn (HF 9) rfl q9
   have q10 := ksv (HF 10) rfl rfl rfl
   clear q1
   clear q3
   clear q4
   clear q27
   clear HF
   replace h_1 := GR.v_ext _ h_1 hE
   replace h_2 := GR.v_ext _ h_2 hE
   replace f2 := GR.v_ext _ f2 hE
   replace f15 := f15.ext hE
   replace f12 := GR.v_ext _ f12 hE
   replace f14 := GR.v_ext _ f14 hE
   replace hB := Base.step hB hE hO; clear hE
   refine li_nil (nx_then ?_)
   refine seq_join (fun a w => ∃ (O35 : Tags), a.fit 77 ∧ Base (Fr w0) O w0 O35 w ∧ (colletlaw43_world_holds_j1 ).run n = some y) ?_ ?_
   ·
    refine wp_seq ?_
    refine' region [_, _, _] mixed hA (.cons (fun _ _ hE hK hg => ok_move (kn (hK 2 rfl) rfl q2)) (.cons (fun _ _ hE hK hg => okl_len (r := r_api_Sight) ty28 (ksv (j := 0) (hK 54 rfl) rfl rfl rfl) (rd_of (GR.v_ext _ h_2 hE))) (.cons (fun _ _ hE hK hg => ok_move rfl) .nil))) ?zok9 ?zgd9 ?zk9
    case zok9 | zgd9 => kernel_rfl
    intro a12 w12 hA hE HF
    replace q9 := kn (HF 9) rfl q9
    replace q10 := kn (HF 10) rfl q10
    have q54 := ksv (HF 54) rfl rfl rfl
    have q55 := ksv (HF 55) rfl rfl rfl
    have q56 := ksv (HF 56) rfl rfl rfl
    clear q2
    clear HF
    replace h_2 := GR.v_ext _ h_2 hE
    replace f15 := f15.ext hE
    replace f12 := GR.v_ext _ f12 hE
    replace f14 := GR.v_ext _ f14 hE
    replace hB := Base.step hB hE hO; clear hE
    refine li_nil (nx_then (wp_block ?_))
    obtain ⟨e2, he2, hk2⟩ := Comp.run_bind h; clear h
    refine loop_m (fun m a w => ∃ (O24 : Tags) (x23 : Int), a.fit 77 ∧ Base (Fr w0) O w0 O24 w ∧ a.get 9 = .pointer (some ⟨b10, 0, none⟩) ∧ a.get 10 = .int .i64 x22 ∧ a.get 54 = v_2 ∧ (rSl r_api_Sight).v O24 w v_2 x_2 ∧ a.get 55 = .int .i64 (x_2.length : Int) ∧ a.get 56 = .int .i64 x23 ∧ OwnB 1 (Fr w0) O24 w b10 #[.int .i64 x3.Party, .int .i64 x3.Kind, .int .i64 x3.Gauge, u11, u13] 33 ∧ (rSl (rInt .i64)).v O24 w u11 x3.Sure ∧ (rSl (rInt .i64)).v O24 w u13 x3.Touched ∧ Comp.loopN (fun s => colletlaw43_world_holds_l2 x_2 x3 x22 s) n m x23 = some e2) (m := n) ?st2 ?_
    case st2 =>
     exact ⟨_, _, hA, hB, q9, q10, q54, h_2, q55, q56, f15, f12, f14, Comp.run_loop he2⟩
    intro m_ a13 w13 hI
    clear hA hB he2 q9 q10 q54 q55 q56 f12 f14 f15 h_2
    obtain ⟨O24, x23, hA, hB, q9, q10, q54, h_2, q55, q56, f15, f12, f14, hl⟩ := hI
    obtain ⟨m2, hlt2, st2, h, hnext2, hdone2⟩ := Comp.loopN_succ hl; clear hl
    replace h : (colletlaw43_world_holds_l2 x_2 x3 x22 x23).run n = some st2 := h
    unfold colletlaw43_world_holds_l2 at h
    refine wp_seq ?_
    refine' region [_] mixed hA (.cons (fun _ _ hE hK hg => ok_lss (kn (hK 56 rfl) rfl q56) (kn (hK 55 rfl) rfl q55)) .nil) ?zok10 ?zgd10 ?zk10
    case zok10 | zgd10 => kernel_rfl
    intro a14 w14 hA hE HF
    replace q9 := kn (HF 9) rfl q9
    replace q10 := kn (HF 10) rfl q10
    replace q54 := kn (HF 54) rfl q54
    replace q55 := kn (HF 55) rfl q55
    replace q56 := kn (HF 56) rfl q56
    have q57 := ksv (HF 57) rfl rfl rfl
    clear HF
    replace h_2 := GR.v_ext _ h_2 hE
    replace f15 := f15.ext hE
    replace f12 := GR.v_ext _ f12 hE
    replace f14 := GR.v_ext _ f14 hE
    replace hB := Base.step hB hE hO; clear hE
    refine li_nil (nx_then (wp_seq ?_))
    refine wp_cond_b q57 (fun hc => ?_) (fun hc => ?_)
    ·
     replace h := Comp.run_b_t hc h; clear hc
     refine wp_skip (nx_then (wp_seq (wp_block (wp_seq ?_))))
     obtain ⟨x25, hx25, h⟩ := Comp.run_bind h
     refine' regionT [SP.ptr r_api_Sight O24 x25, SP.isv (.agg #[.int .i64 x25.Gauge, .int .i64 x25.Cell, .bool x25.There]), SP.box w14.heap.size #[.int .i64 0, .int .i64 0, .bool false] 64] hA (.cons (fun _ _ hE hK hg => okl_idx (r := r_api_Sight) (O := O24) ty28 ty64 rfl (kn (hK 54 rfl) rfl q54) (rd_of (GR.v_ext _ h_2 hE)) (kn (hK 56 rfl) rfl q56) hx25) (.cons (fun _ _ hE hK hg => okl_ldr r_api_Sight fit_api_Sight ty64 rfl rfl rfl (kspS (φ := SP.ptr r_api_Sight O24 x25) (j := 0) (hK 58 rfl) rfl rfl rfl) (fun _ _ _ h => rC_v.1 h)) (.cons (fun _ _ hE hK hg => ok_alloc hE.size ty64) .nil))) ?zok11 ?zgd11 ?zk11
     case zok11 | zgd11 => kernel_rfl
     intro a15 w15 hA hE HF
     replace q9 := kn (HF 9) rfl q9
     replace q10 := kn (HF 10) rfl q10
     have f27 := ksp (HF 12) rfl rfl rfl
     obtain ⟨u26, q12'⟩ : ∃ u, a15.get 12 = u := ⟨_, rfl⟩
     rw [q12'] at f27
     have q12 := q12'; clear q12'
     replace q54 := kn (HF 54) rfl q54
     replace q55 := kn (HF 55) rfl q55
     replace q56 := kn (HF 56) rfl q56
     have q59 := ksv (HF 59) rfl rfl rfl
     clear q57
     clear HF
     obtain ⟨O28, b29, hB', hX, e_, f30⟩ := boxNew hO hB hE f27 2 (by decide)
     subst e_
     clear hB f27; have hB := hB'; clear hB'
     replace h_2 := GR.kx _ h_2 hX (by decide)
     replace f15 := f15.kx hX (by decide)
     replace f12 := GR.kx _ f12 hX (by decide)
     replace f14 := GR.kx _ f14 hX (by decide)
     clear hX hE
     refine l_storeSub (vs := [.int .i64 x25.Gauge, .int .i64 x25.Cell, .bool x25.There]) (cs' := #[.int .i64 x25.Gauge, .int .i64 x25.Cell, .bool x25.There]) hO hB (okB_fr hB) ty64 q12 q59 rfl (by simp [Value.oneCell']) f30 (by simp) rfl fun w16 f31 hB' hX => ?_
     clear hB f30; have hB := hB'; clear hB'
     replace h_2 := GR.kx _ h_2 hX (by decide)
     replace f15 := f15.kx hX (by decide)
     replace f12 := GR.kx _ f12 hX (by decide)
     replace f14 := GR.kx _ f14 hX (by decide)
     clear hX
     refine li_nil (nx_then (wp_seq ?_))
     obtain ⟨x32, hx32, h⟩ := Comp.run_bind h
     refine' region [SP.isv (.pointer (some ⟨b29, 0, none⟩)), SP.isv (.int .i64 x25.Gauge), SP.isv (.pointer (some ⟨b10, 2, none⟩)), SP.isv (.int .i64 x3.Gauge), _, _, _, SP.isv (.pointer (some ⟨b29, 1, none⟩)), SP.isv (.int .i64 x25.Cell), _, _, _, SP.isv (.pointer (some ⟨b29, 2, none⟩)), SP.isv (.bool x25.There), _, _] mixed hA (.cons (fun _ _ hE hK hg => ok_fieldAddr fl64_0 (kn (hK 12 rfl) rfl q12)) (.cons (fun _ _ hE hK hg => ok_loadOwn ty3 rfl (ksv (j := 0) (hK 60 rfl) rfl rfl rfl) (OwnB.ext f31 hE).own rfl) (.cons (fun _ _ hE hK hg => ok_fieldAddr fl33_2 (kn (hK 9 rfl) rfl q9)) (.cons (fun _ _ hE hK hg => ok_loadOwn ty3 rfl (ksv (j := 2) (hK 62 rfl) rfl rfl rfl) (OwnB.ext f15 hE).own rfl) (.cons (fun _ _ hE hK hg => ok_eqlI (ksv (j := 1) (hK 61 rfl) rfl rfl rfl) (ksv (j := 3) (hK 63 rfl) rfl rfl rfl)) (.cons (fun _ _ hE hK hg => ok_move (ksv (j := 4) (hK 64 rfl) rfl rfl rfl)) (.cons (fun _ _ hE hK hg => ok_move (kn (hK 10 rfl) rfl q10)) (.cons (fun _ _ hE hK hg => ok_fieldAddr fl64_1 (kn (hK 12 rfl) rfl q12)) (.cons ?z12_8 (.cons ?z12_9 (.cons ?z12_10 (.cons ?z12_11 (.cons (fun _ _ hE hK hg => ok_fieldAddr fl64_2 (kn (hK 12 rfl) rfl q12)) (.cons ?z12_13 (.cons ?z12_14 (.cons ?z12_15 .nil)))))))))))))))) ?zok12 ?zgd12 ?zk12
     case z12_8 => intro a' w' hE hK hg; exact ok_loadOwn ty3 rfl (ksv (j := 7) (hK 67 rfl) rfl rfl hg) (OwnB.ext f31 hE).own rfl
     case z12_9 => intro a' w' hE hK hg; exact okl_shr (ksv (j := 6) (hK 66 rfl) rfl rfl hg) (ksv (j := 8) (hK 68 rfl) rfl rfl hg) (run_nonneg (run_gdb hx32 hg))
     case z12_10 => intro a' w' hE hK hg; exact okb_and (ksv (j := 9) (hK 69 rfl) rfl rfl hg) rfl
     case z12_11 => intro a' w' hE hK hg; exact ok_eqlI (ksv (j := 10) (hK 70 rfl) rfl rfl hg) rfl
     case z12_13 => intro a' w' hE hK hg; exact ok_loadOwn ty4 rfl (ksv (j := 12) (hK 72 rfl) rfl rfl hg) (OwnB.ext f31 hE).own rfl
     case z12_14 => intro a' w' hE hK hg; exact ok_neqB ty4 (ksv (j := 11) (hK 71 rfl) rfl rfl hg) (ksv (j := 13) (hK 73 rfl) rfl rfl hg)
     case z12_15 => intro a' w' hE hK hg; exact ok_pick (ksv (j := 5) (hK 65 rfl) rfl rfl rfl) (fun hb => ksv (j := 14) (hK 74 rfl) rfl rfl (act_g1 rfl rfl hb)) (fun _ => rfl)
     case zok12 | zgd12 => kernel_rfl
     intro a17 w17 hA hE HF
     replace q9 := kn (HF 9) rfl q9
     replace q10 := kn (HF 10) rfl q10
     replace q54 := kn (HF 54) rfl q54
     replace q55 := kn (HF 55) rfl q55
     replace q56 := kn (HF 56) rfl q56
     have q75 := ksv (HF 75) rfl rfl rfl
     clear q12
     clear HF
     replace h_2 := GR.v_ext _ h_2 hE
     replace f15 := f15.ext hE
     replace f12 := GR.v_ext _ f12 hE
     replace f14 := GR.v_ext _ f14 hE
     replace f31 := f31.ext hE
     replace hB := Base.step hB hE hO; clear hE
     obtain ⟨x33, hx_, h⟩ := Comp.run_bind h; replace hx_ := Comp.run_pure hx_; rw [hx_] at q75; clear hx_
     refine li_nil (nx_then ?_)
     refine wp_cond_b q75 (fun hc => ?_) (fun hc => ?_)
     ·
      replace h := Comp.run_b_t hc h; clear hc
      refine wp_seq ?_
      refine' region [_] mixed hA (.cons (fun _ _ hE hK hg => ok_assign rfl) .nil) ?zok13 ?zgd13 ?zk13
      case zok13 | zgd13 => kernel_rfl
      intro a18 w18 hA hE HF
      have q8 := ksv (HF 8) rfl rfl rfl
      clear q9
      clear q10
      clear q54
      clear q55
      clear q56
      clear q75
      clear HF
      replace h_2 := GR.v_ext _ h_2 hE
      replace f15 := f15.ext hE
      replace f12 := GR.v_ext _ f12 hE
      replace f14 := GR.v_ext _ f14 hE
      replace hB := Base.step hB hE hO; clear hE
      refine li_nil (nx_then (wp_ret (rt_blk (rt_then (rt_then (rt_blk (rt_then ?_)))))))
      have hd_ := hdone2 _ (Comp.run_pure h).symm; clear h
      subst hd_; have h := hk2; clear hk2; try dsimp only at h
      have h := Comp.run_pure h; subst h
      exact retPure Try.results53 hA q8 hB.ext rfl
     ·
      replace h := Comp.run_b_f hc h; clear hc
      refine wp_skip (nx_blk (nx_then ?_))
      refine' region [_, _] mixed hA (.cons (fun _ _ hE hK hg => ok_add (kn (hK 56 rfl) rfl q56) rfl) (.cons (fun _ _ hE hK hg => ok_move (ksv (j := 0) (hK 76 rfl) rfl rfl rfl)) .nil)) ?zok14 ?zgd14 ?zk14
      case zok14 | zgd14 => kernel_rfl
      intro a19 w19 hA hE HF
      replace q9 := kn (HF 9) rfl q9
      replace q10 := kn (HF 10) rfl q10
      replace q54 := kn (HF 54) rfl q54
      replace q55 := kn (HF 55) rfl q55
      have q56' := ksv (HF 56) rfl rfl rfl
      replace q56 := q56'; clear q56'
      clear q75
      clear HF
      replace h_2 := GR.v_ext _ h_2 hE
      replace f15 := f15.ext hE
      replace f12 := GR.v_ext _ f12 hE
      replace f14 := GR.v_ext _ f14 hE
      replace hB := Base.step hB hE hO; clear hE
      refine li_nil (nx_then ?_)
      have h := hnext2 _ (Comp.run_pure h).symm
      refine ⟨m2, hlt2, ?_⟩
      exact ⟨_, _, hA, hB, q9, q10, q54, h_2, q55, q56, f15, f12, f14, h⟩
    ·
     replace h := Comp.run_b_f hc h; clear hc
     refine wp_exit (ex_then (ex_then (ex_same ?_)))
     have hd_ := hdone2 _ (Comp.run_pure h).symm; clear h
     subst hd_; have h := hk2; clear hk2; try dsimp only at h
     refine nx_then ?_
     exact ⟨_, hA, hB, h⟩
   intro a20 w20 hI
   clear hA hB h q2 q9 q10 f12 f14 f15 h_2
   obtain ⟨O35, hA, hB, h⟩ := hI
   unfold colletlaw43_world_holds_j1 at h
   refine wp_seq ?_
   refine' region [_] mixed hA (.cons (fun _ _ hE hK hg => ok_assign rfl) .nil) ?zok15 ?zgd15 ?zk15
   case zok15 | zgd15 => kernel_rfl
   intro a21 w21 hA hE HF
   have q8 := ksv (HF 8) rfl rfl rfl
   clear HF
   replace hB := Base.step hB hE hO; clear hE
   refine li_nil (nx_then (wp_ret ?_))
   have h := Comp.run_pure h; subst h
   exact retPure Try.results53 hA q8 hB.ext rfl
theorem ok_colletlaw43_world_truth {O : Tags} {w0 : World} (hO : OkO O w0) {v_0 : Value} {x_0 : colletlaw43_world} (h_0 : r_colletlaw43_world.v O w0 v_0 x_0) {v_1 : Value} {x_1 : List api_Claim} (h_1 : (rSl r_api_Claim).v O w0 v_1 x_1) {v_2 : Value} {x_2 : List api_Sight} (h_2 : (rSl r_api_Sight).v O w0 v_2 x_2) {n : Nat} {y : Int} (h : (colletlaw43_world_truth x_0 x_1 x_2).run n = some y) : Pure Try.prog 25 #[v_0, v_1, v_2] w0 (SP.isv (.int .i64 y)).holds := by
 unfold colletlaw43_world_truth at h
 refine pure_of_wp Try.func25 rfl 25 Try.ntmps25 (by simp) fun a0 hA hs0 => ?_
 have q0 : a0.get 0 = v_0 := hs0 0 _ rfl
 have q1 : a0.get 1 = v_1 := hs0 1 _ rfl
 have q2 : a0.get 2 = v_2 := hs0 2 _ rfl
 clear hs0
 have hB : Base (Fr w0) O w0 O w0 := Base.start hO
 refine wp_seq ?_
 refine' region [SP.vl (rBox r_colletlaw43_world) O x_0, _] mixed hA (.cons (fun _ _ hE hK hg => okl_boxV (r := r_colletlaw43_world) fit_colletlaw43_world (OkO.ext hB.ok hE) (kn (hK 0 rfl) rfl q0) (GR.v_ext _ h_0 hE)) (.cons (fun _ _ hE hK hg => ok_assign rfl) .nil)) ?zok1 ?zgd1 ?zk1
 case zok1 | zgd1 => kernel_rfl
 intro a1 w1 hA hE HF
 replace q1 := kn (HF 1) rfl q1
 replace q2 := kn (HF 2) rfl q2
 have f2 := ksp (HF 3) rfl rfl rfl
 obtain ⟨u1, q3'⟩ : ∃ u, a1.get 3 = u := ⟨_, rfl⟩
 rw [q3'] at f2
 have q3 := q3'; clear q3'
 clear q0
 clear HF
 replace h_0 := GR.v_ext _ h_0 hE
 replace h_1 := GR.v_ext _ h_1 hE
 replace h_2 := GR.v_ext _ h_2 hE
 replace hB := Base.step hB hE hO; clear hE
 refine li_nil (nx_then (wp_seq ?_))
 refine' region [_] mixed hA (.cons (fun _ _ hE hK hg => ok_assign rfl) .nil) ?zok2 ?zgd2 ?zk2
 case zok2 | zgd2 => kernel_rfl
 intro a2 w2 hA hE HF
 replace q1 := kn (HF 1) rfl q1
 replace q2 := kn (HF 2) rfl q2
 replace q3 := kn (HF 3) rfl q3
 have q7 := ksv (HF 7) rfl rfl rfl
 clear HF
 replace h_1 := GR.v_ext _ h_1 hE
 replace h_2 := GR.v_ext _ h_2 hE
 replace f2 := GR.v_ext _ f2 hE
 replace hB := Base.step hB hE hO; clear hE
 refine li_nil (nx_then ?_)
 refine seq_join (fun a w => ∃ (O13 : Tags) (x12 : Int), a.fit 25 ∧ Base (Fr w0) O w0 O13 w ∧ a.get 7 = .int .i64 x12 ∧ (colletlaw43_world_truth_j1 x12).run n = some y) ?_ ?_
 ·
  refine wp_seq ?_
  refine' region [_, _, _] mixed hA (.cons (fun _ _ hE hK hg => ok_move (kn (hK 1 rfl) rfl q1)) (.cons (fun _ _ hE hK hg => okl_len (r := r_api_Claim) ty27 (ksv (j := 0) (hK 9 rfl) rfl rfl rfl) (rd_of (GR.v_ext _ h_1 hE))) (.cons (fun _ _ hE hK hg => ok_move rfl) .nil))) ?zok3 ?zgd3 ?zk3
  case zok3 | zgd3 => kernel_rfl
  intro a3 w3 hA hE HF
  replace q1 := kn (HF 1) rfl q1
  replace q2 := kn (HF 2) rfl q2
  replace q3 := kn (HF 3) rfl q3
  replace q7 := kn (HF 7) rfl q7
  have q10 := ksv (HF 10) rfl rfl rfl
  have q11 := ksv (HF 11) rfl rfl rfl
  clear HF
  replace h_1 := GR.v_ext _ h_1 hE
  replace h_2 := GR.v_ext _ h_2 hE
  replace f2 := GR.v_ext _ f2 hE
  replace hB := Base.step hB hE hO; clear hE
  refine li_nil (nx_then (wp_block ?_))
  obtain ⟨e2, he2, hk2⟩ := Comp.run_bind h; clear h
  refine loop_m (fun m a w => ∃ (O5 : Tags) (x3 : Int) (x4 : Int), a.fit 25 ∧ Base (Fr w0) O w0 O5 w ∧ a.get 1 = v_1 ∧ (rSl r_api_Claim).v O5 w v_1 x_1 ∧ a.get 2 = v_2 ∧ (rSl r_api_Sight).v O5 w v_2 x_2 ∧ a.get 3 = u1 ∧ (rBox r_colletlaw43_world).v O5 w u1 x_0 ∧ a.get 7 = .int .i64 x3 ∧ a.get 10 = .int .i64 (x_1.length : Int) ∧ a.get 11 = .int .i64 x4 ∧ Comp.loopN (fun s => colletlaw43_world_truth_l2 x_1 x_0 x_2 s.1 s.2) n m (x3, x4) = some e2) (m := n) ?st2 ?_
  case st2 =>
   exact ⟨_, _, _, hA, hB, q1, h_1, q2, h_2, q3, f2, q7, q10, q11, Comp.run_loop he2⟩
  intro m_ a4 w4 hI
  clear hA hB he2 q1 q2 q3 q7 q10 q11 f2 h_1 h_2
  obtain ⟨O5, x3, x4, hA, hB, q1, h_1, q2, h_2, q3, f2, q7, q10, q11, hl⟩ := hI
  obtain ⟨m2, hlt2, st2, h, hnext2, hdone2⟩ := Comp.loopN_succ hl; clear hl
  replace h : (colletlaw43_world_truth_l2 x_1 x_0 x_2 x3 x4).run n = some st2 := h
  unfold colletlaw43_world_truth_l2 at h
  refine wp_seq ?_
  refine' region [_] mixed hA (.cons (fun _ _ hE hK hg => ok_lss (kn (hK 11 rfl) rfl q11) (kn (hK 10 rfl) rfl q10)) .nil) ?zok4 ?zgd4 ?zk4
  case zok4 | zgd4 => kernel_rfl
  intro a5 w5 hA hE HF
  replace q1 := kn (HF 1) rfl q1
  replace q2 := kn (HF 2) rfl q2
  replace q3 := kn (HF 3) rfl q3
  replace q7 := kn (HF 7) rfl q7
  replace q10 := kn (HF 10) rfl q10
  replace q11 := kn (HF 11) rfl q11
  have q12 := ksv (HF 12) rfl rfl rfl
  clear HF
  replace h_1 := GR.v_ext _ h_1 hE
  replace h_2 := GR.v_ext _ h_2 hE
  replace f2 := GR.v_ext _ f2 hE
  replace hB := Base.step hB hE hO; clear hE
  refine li_nil (nx_then (wp_seq ?_))
  refine wp_cond_b q12 (fun hc => ?_) (fun hc => ?_)
  ·
   replace h := Comp.run_b_t hc h; clear hc
   refine wp_skip (nx_then ?_)
   refine seq_join (fun a w => ∃ (O9 : Tags) (x8 : Int), a.fit 25 ∧ Base (Fr w0) O w0 O9 w ∧ a.get 1 = v_1 ∧ (rSl r_api_Claim).v O9 w v_1 x_1 ∧ a.get 2 = v_2 ∧ (rSl r_api_Sight).v O9 w v_2 x_2 ∧ a.get 3 = u1 ∧ (rBox r_colletlaw43_world).v O9 w u1 x_0 ∧ a.get 7 = .int .i64 x8 ∧ a.get 10 = .int .i64 (x_1.length : Int) ∧ a.get 11 = .int .i64 x4 ∧ (colletlaw43_world_truth_j3 x4 x8).run n = some st2) ?_ ?_
   ·
    refine wp_block (wp_seq ?_)
    refine' region [_, _] mixed hA (.cons (fun _ _ hE hK hg => ok_move (kn (hK 11 rfl) rfl q11)) (.cons (fun _ _ hE hK hg => ok_assign (ksv (j := 0) (hK 13 rfl) rfl rfl rfl)) .nil)) ?zok5 ?zgd5 ?zk5
    case zok5 | zgd5 => kernel_rfl
    intro a6 w6 hA hE HF
    replace q1 := kn (HF 1) rfl q1
    replace q2 := kn (HF 2) rfl q2
    replace q3 := kn (HF 3) rfl q3
    replace q7 := kn (HF 7) rfl q7
    have q8 := ksv (HF 8) rfl rfl rfl
    replace q10 := kn (HF 10) rfl q10
    replace q11 := kn (HF 11) rfl q11
    clear q12
    clear HF
    replace h_1 := GR.v_ext _ h_1 hE
    replace h_2 := GR.v_ext _ h_2 hE
    replace f2 := GR.v_ext _ f2 hE
    replace hB := Base.step hB hE hO; clear hE
    refine li_nil (nx_then (wp_seq ?_))
    obtain ⟨x6, hx6, h⟩ := Comp.run_bind h
    refine' region [SP.vl r_colletlaw43_world O5 x_0, _, _, _, SP.isv (.bool x6)] mixed hA (.cons (fun _ _ hE hK hg => okl_ld (r := r_colletlaw43_world) fit_colletlaw43_world ty49 rfl rfl (kn (hK 3 rfl) rfl q3) (ptr_of_box fit_colletlaw43_world (GR.v_ext _ f2 hE))) (.cons (fun _ _ hE hK hg => ok_move (kn (hK 1 rfl) rfl q1)) (.cons (fun _ _ hE hK hg => ok_move (kn (hK 2 rfl) rfl q2)) (.cons (fun _ _ hE hK hg => ok_move (kn (hK 8 rfl) rfl q8)) (.cons ?z6_4 .nil))))) ?zok6 ?zgd6 ?zk6
    case z6_4 => intro a' w' hE hK hg; have c_ := ok_colletlaw43_world_holds (OkO.ext hB.ok hE) (kspS (φ := SP.vl r_colletlaw43_world O5 x_0) (j := 0) (hK 14 rfl) rfl rfl rfl) (GR.v_ext _ h_1 hE) (GR.v_ext _ h_2 hE) hx6; exact ok_call4 fn53 rfl (ksv (j := 1) (hK 15 rfl) rfl rfl rfl) (ksv (j := 2) (hK 16 rfl) rfl rfl rfl) (ksv (j := 3) (hK 17 rfl) rfl rfl rfl) c_
    case zok6 | zgd6 => kernel_rfl
    intro a7 w7 hA hE HF
    replace q1 := kn (HF 1) rfl q1
    replace q2 := kn (HF 2) rfl q2
    replace q3 := kn (HF 3) rfl q3
    replace q7 := kn (HF 7) rfl q7
    replace q8 := kn (HF 8) rfl q8
    replace q10 := kn (HF 10) rfl q10
    replace q11 := kn (HF 11) rfl q11
    have q18 := ksv (HF 18) rfl rfl rfl
    clear HF
    replace h_1 := GR.v_ext _ h_1 hE
    replace h_2 := GR.v_ext _ h_2 hE
    replace f2 := GR.v_ext _ f2 hE
    replace hB := Base.step hB hE hO; clear hE
    refine li_nil (nx_then ?_)
    refine wp_cond_b q18 (fun hc => ?_) (fun hc => ?_)
    ·
     replace h := Comp.run_b_t hc h; clear hc
     obtain ⟨x7, hx7, h⟩ := Comp.run_bind h
     refine' region [_, _, _, _, _] mixed hA (.cons (fun _ _ hE hK hg => ok_move (kn (hK 7 rfl) rfl q7)) (.cons (fun _ _ hE hK hg => ok_move (kn (hK 8 rfl) rfl q8)) (.cons (fun _ _ hE hK hg => okl_shl rfl (ksv (j := 1) (hK 20 rfl) rfl rfl rfl) (run_nonneg hx7)) (.cons (fun _ _ hE hK hg => okb_or (ksv (j := 0) (hK 19 rfl) rfl rfl rfl) (ksv (j := 2) (hK 21 rfl) rfl rfl rfl)) (.cons (fun _ _ hE hK hg => ok_assign (ksv (j := 3) (hK 22 rfl) rfl rfl rfl)) .nil))))) ?zok7 ?zgd7 ?zk7
     case zok7 | zgd7 => kernel_rfl
     intro a8 w8 hA hE HF
     replace q1 := kn (HF 1) rfl q1
     replace q2 := kn (HF 2) rfl q2
     replace q3 := kn (HF 3) rfl q3
     have q7' := ksv (HF 7) rfl rfl rfl
     replace q7 := q7'; clear q7'
     replace q10 := kn (HF 10) rfl q10
     replace q11 := kn (HF 11) rfl q11
     clear q8
     clear q18
     clear HF
     replace h_1 := GR.v_ext _ h_1 hE
     replace h_2 := GR.v_ext _ h_2 hE
     replace f2 := GR.v_ext _ f2 hE
     replace hB := Base.step hB hE hO; clear hE
     refine li_nil (nx_blk (nx_then ?_))
     exact ⟨_, _, hA, hB, q1, h_1, q2, h_2, q3, f2, q7, q10, q11, h⟩
    ·
     replace h := Comp.run_b_f hc h; clear hc
     refine wp_skip (nx_blk (nx_then ?_))
     exact ⟨_, _, hA, hB, q1, h_1, q2, h_2, q3, f2, q7, q10, q11, h⟩
   intro a9 w9 hI
   clear hA hB h q1 q2 q3 q7 q10 q11 q12 f2 h_1 h_2
   obtain ⟨O9, x8, hA, hB, q1, h_1, q2, h_2, q3, f2, q7, q10, q11, h⟩ := hI
   unfold colletlaw43_world_truth_j3 at h
   refine' region [_, _] mixed hA (.cons (fun _ _ hE hK hg => ok_add (kn (hK 11 rfl) rfl q11) rfl) (.cons (fun _ _ hE hK hg => ok_move (ksv (j := 0) (hK 23 rfl) rfl rfl rfl)) .nil)) ?zok8 ?zgd8 ?zk8
   case zok8 | zgd8 => kernel_rfl
   intro a10 w10 hA hE HF
   replace q1 := kn (HF 1) rfl q1
   replace q2 := kn (HF 2) rfl q2
   replace q3 := kn (HF 3) rfl q3
   replace q7 := kn (HF 7) rfl q7
   replace q10 := kn (HF 10) rfl q10
   have q11' := ksv (HF 11) rfl rfl rfl
   replace q11 := q11'; clear q11'
   clear HF
   replace h_1 := GR.v_ext _ h_1 hE
   replace h_2 := GR.v_ext _ h_2 hE
   replace f2 := GR.v_ext _ f2 hE
   replace hB := Base.step hB hE hO; clear hE
   refine li_nil (nx_then ?_)
   have h := hnext2 _ (Comp.run_pure h).symm
   refine ⟨m2, hlt2, ?_⟩
   exact ⟨_, _, _, hA, hB, q1, h_1, q2, h_2, q3, f2, q7, q10, q11, h⟩
  ·
   replace h := Comp.run_b_f hc h; clear hc
   refine wp_exit (ex_then (ex_then (ex_same ?_)))
   have hd_ := hdone2 _ (Comp.run_pure h).symm; clear h
   subst hd_; have h := hk2; clear hk2; try dsimp only at h
   refine nx_then ?_
   exact ⟨_, _, hA, hB, q7, h⟩
 intro a11 w11 hI
 clear hA hB h q1 q2 q3 q7 f2 h_1 h_2
 obtain ⟨O13, x12, hA, hB, q7, h⟩ := hI
 unfold colletlaw43_world_truth_j1 at h
 refine wp_seq ?_
 refine' region [_, _] mixed hA (.cons (fun _ _ hE hK hg => ok_move (kn (hK 7 rfl) rfl q7)) (.cons (fun _ _ hE hK hg => ok_assign (ksv (j := 0) (hK 24 rfl) rfl rfl rfl)) .nil)) ?zok9 ?zgd9 ?zk9
 case zok9 | zgd9 => kernel_rfl
 intro a12 w12 hA hE HF
 have q6 := ksv (HF 6) rfl rfl rfl
 clear q7
 clear HF
 replace hB := Base.step hB hE hO; clear hE
 refine li_nil (nx_then (wp_ret ?_))
 have h := Comp.run_pure h; subst h
 exact retPure Try.results25 hA q6 hB.ext rfl
theorem ok_colletlaw43_world_next {O : Tags} {w0 : World} (hO : OkO O w0) {v_0 : Value} {x_0 : colletlaw43_world} (h_0 : OwnA (rInt .i64) 3 O w0 v_0 x_0.removed_) {v_1 : Value} {x_1 : List api_Claim} (h_1 : (rSl r_api_Claim).v O w0 v_1 x_1) {x_2 : Int} {n : Nat} {y : (colletlaw43_world × Bool)} (h : (colletlaw43_world_next x_0 x_1 x_2).run n = some y) : Calls Try.prog 24 #[.agg #[.int .i64 x_0.material_, v_0], v_1, .int .i64 x_2] w0 (IoPost (rInt .i64) 3 O w0 v_0 (y.1.removed_) fun v u' => v = .tuple #[.agg #[.int .i64 y.1.material_, u'], .bool y.2]) := by
 unfold colletlaw43_world_next at h
 refine bio_of_wp Try.func24 rfl 51 Try.ntmps24 (by simp) fun a0 hA hs0 => ?_
 have q0 : a0.get 0 = .agg #[.int .i64 x_0.material_, v_0] := hs0 0 _ rfl
 have q1 : a0.get 1 = v_1 := hs0 1 _ rfl
 have q2 : a0.get 2 = .int .i64 x_2 := hs0 2 _ rfl
 clear hs0
 obtain ⟨Oi_, hB, f1, hk_⟩ := sioStart hO h_0
 replace h_1 := GR.v_mono _ h_1 hk_
 clear hk_ h_0
 refine wp_seq ?_
 refine' regionT [SP.box w0.heap.size #[.int .i64 x_0.material_, v_0] 49] hA (.cons (fun _ _ hE hK hg => ok_box (v := .agg #[.int .i64 x_0.material_, v_0]) hE.size (kn (hK 0 rfl) rfl q0)) .nil) ?zok1 ?zgd1 ?zk1
 case zok1 | zgd1 => kernel_rfl
 intro a1 w1 hA hE HF
 replace q1 := kn (HF 1) rfl q1
 replace q2 := kn (HF 2) rfl q2
 have f3 := ksp (HF 3) rfl rfl rfl
 obtain ⟨u2, q3'⟩ : ∃ u, a1.get 3 = u := ⟨_, rfl⟩
 rw [q3'] at f3
 have q3 := q3'; clear q3'
 clear q0
 clear HF
 obtain ⟨O4, b5, hB', hX, e_, f6⟩ := boxNew hO hB hE f3 2 (by decide)
 subst e_
 clear hB f3; have hB := hB'; clear hB'
 replace h_1 := GR.kx _ h_1 hX (by decide)
 replace f1 := f1.kx hX (by decide) (by decide)
 clear hX hE
 refine l_ok (φ := SP.box w1.heap.size #[.int .i64 0, .slice none 0 0] 49) hO hB (by exact ok_alloc (Nat.le_refl _) ty49) rfl fun u7 w2 hE hB' f8 => ?_
 clear hB'; obtain ⟨O9, b11, hB', hX, e_, f10⟩ := boxNew hO hB hE f8 3 (by decide)
 subst e_; clear hB f8; have hB := hB'; clear hB'
 replace h_1 := GR.kx _ h_1 hX (by decide)
 replace f6 := f6.kx hX (by decide)
 replace f1 := f1.kx hX (by decide) (by decide)
 clear hX hE
 refine put_cont hA (by decide) fun a3 hA q_ hfr => ?_
 replace q1 := (hfr 1 rfl).trans q1
 replace q2 := (hfr 2 rfl).trans q2
 replace q3 := (hfr 3 rfl).trans q3
 have q6 := q_; clear q_ hfr
 refine l_ok (φ := SP.isv (.bool false)) hO hB (by exact ok_assign rfl) rfl fun u_ w4 hE hB' hv_ => ?_
 replace hv_ := Eq.symm hv_; subst hv_; clear hB; have hB := hB'; clear hB'
 replace h_1 := GR.v_ext _ h_1 hE
 replace f6 := f6.ext hE
 replace f1 := f1.ext hE
 replace f10 := f10.ext hE
 clear hE
 refine put_cont hA (by decide) fun a5 hA q_ hfr => ?_
 replace q1 := (hfr 1 rfl).trans q1
 replace q2 := (hfr 2 rfl).trans q2
 replace q3 := (hfr 3 rfl).trans q3
 replace q6 := (hfr 6 rfl).trans q6
 have q7 := q_; clear q_ hfr
 refine li_nil (nx_then ?_)
 refine seq_join (fun a w => ∃ (O60 : Tags) (x52 : Int) (x53 : List Int) (x56 : Int) (x57 : List Int) (u54 : Value) (u58 : Value), a.fit 51 ∧ Base (FrS w0 v_0) O w0 O60 w ∧ a.get 2 = .int .i64 x_2 ∧ a.get 3 = .pointer (some ⟨b5, 0, none⟩) ∧ a.get 6 = .pointer (some ⟨b11, 0, none⟩) ∧ OwnB 3 (Fr w0) O60 w b11 #[.int .i64 x52, u54] 49 ∧ (rSl (rInt .i64)).v O60 w u54 x53 ∧ OwnB 2 (Fr w0) O60 w b5 #[.int .i64 x56, u58] 49 ∧ OwnL 1 (rInt .i64) 3 (FrS w0 v_0) O60 w u58 x57 ∧ (colletlaw43_world_next_j1 x_2 x52 x53 x56 x57).run n = some y) ?_ ?_
 ·
  refine wp_seq ?_
  refine' region [_, _, _] mixed hA (.cons (fun _ _ hE hK hg => ok_move (kn (hK 1 rfl) rfl q1)) (.cons (fun _ _ hE hK hg => okl_len (r := r_api_Claim) ty27 (ksv (j := 0) (hK 9 rfl) rfl rfl rfl) (rd_of (GR.v_ext _ h_1 hE))) (.cons (fun _ _ hE hK hg => ok_move rfl) .nil))) ?zok2 ?zgd2 ?zk2
  case zok2 | zgd2 => kernel_rfl
  intro a6 w6 hA hE HF
  replace q1 := kn (HF 1) rfl q1
  replace q2 := kn (HF 2) rfl q2
  replace q3 := kn (HF 3) rfl q3
  replace q6 := kn (HF 6) rfl q6
  have q10 := ksv (HF 10) rfl rfl rfl
  have q11 := ksv (HF 11) rfl rfl rfl
  clear HF
  replace h_1 := GR.v_ext _ h_1 hE
  replace f6 := f6.ext hE
  replace f1 := f1.ext hE
  replace f10 := f10.ext hE
  replace hB := Base.step hB hE hO; clear hE
  refine li_nil (nx_then (wp_block ?_))
  obtain ⟨e2, he2, hk2⟩ := Comp.run_bind h; clear h
  refine loop_m (fun m a w => ∃ (O21 : Tags) (x12 : Int) (x13 : Int) (x14 : List Int) (x17 : Int) (x18 : List Int) (u15 : Value) (u19 : Value), a.fit 51 ∧ Base (FrS w0 v_0) O w0 O21 w ∧ a.get 1 = v_1 ∧ (rSl r_api_Claim).v O21 w v_1 x_1 ∧ a.get 2 = .int .i64 x_2 ∧ a.get 3 = .pointer (some ⟨b5, 0, none⟩) ∧ a.get 6 = .pointer (some ⟨b11, 0, none⟩) ∧ a.get 10 = .int .i64 (x_1.length : Int) ∧ a.get 11 = .int .i64 x12 ∧ OwnB 3 (Fr w0) O21 w b11 #[.int .i64 x13, u15] 49 ∧ (rSl (rInt .i64)).v O21 w u15 x14 ∧ OwnB 2 (Fr w0) O21 w b5 #[.int .i64 x17, u19] 49 ∧ OwnL 1 (rInt .i64) 3 (FrS w0 v_0) O21 w u19 x18 ∧ Comp.loopN (fun s => colletlaw43_world_next_l2 x_1 x_2 s.1 s.2.1 s.2.2.1 s.2.2.2.1 s.2.2.2.2) n m (x12, x13, x14, x17, x18) = some e2) (m := n) ?st2 ?_
  case st2 =>
   exact ⟨_, _, _, _, _, _, _, _, hA, hB, q1, h_1, q2, q3, q6, q10, q11, f10, (rSl_nil _ _ _ 0), f6, f1, Comp.run_loop he2⟩
  intro m_ a7 w7 hI
  clear hA hB he2 q1 q2 q3 q6 q10 q11 f1 f10 f6 h_1
  obtain ⟨O21, x12, x13, x14, x17, x18, u15, u19, hA, hB, q1, h_1, q2, q3, q6, q10, q11, f10, f16, f6, f20, hl⟩ := hI
  obtain ⟨m2, hlt2, st2, h, hnext2, hdone2⟩ := Comp.loopN_succ hl; clear hl
  replace h : (colletlaw43_world_next_l2 x_1 x_2 x12 x13 x14 x17 x18).run n = some st2 := h
  unfold colletlaw43_world_next_l2 at h
  refine wp_seq ?_
  refine' region [_] mixed hA (.cons (fun _ _ hE hK hg => ok_lss (kn (hK 11 rfl) rfl q11) (kn (hK 10 rfl) rfl q10)) .nil) ?zok3 ?zgd3 ?zk3
  case zok3 | zgd3 => kernel_rfl
  intro a8 w8 hA hE HF
  replace q1 := kn (HF 1) rfl q1
  replace q2 := kn (HF 2) rfl q2
  replace q3 := kn (HF 3) rfl q3
  replace q6 := kn (HF 6) rfl q6
  replace q10 := kn (HF 10) rfl q10
  replace q11 := kn (HF 11) rfl q11
  have q12 := ksv (HF 12) rfl rfl rfl
  clear HF
  replace h_1 := GR.v_ext _ h_1 hE
  replace f6 := f6.ext hE
  replace f20 := f20.ext hE
  replace f10 := f10.ext hE
  replace f16 := GR.v_ext _ f16 hE
  replace hB := Base.step hB hE hO; clear hE
  refine li_nil (nx_then (wp_seq ?_))
  refine wp_cond_b q12 (fun hc => ?_) (fun hc => ?_)
  ·
   replace h := Comp.run_b_t hc h; clear hc
   refine wp_skip (nx_then ?_)
   refine seq_join (fun a w => ∃ (O47 : Tags) (x23 : Int) (x24 : List Int) (x27 : Int) (x28 : List Int) (u25 : Value) (u29 : Value), a.fit 51 ∧ Base (FrS w0 v_0) O w0 O47 w ∧ a.get 1 = v_1 ∧ (rSl r_api_Claim).v O47 w v_1 x_1 ∧ a.get 2 = .int .i64 x_2 ∧ a.get 3 = .pointer (some ⟨b5, 0, none⟩) ∧ a.get 6 = .pointer (some ⟨b11, 0, none⟩) ∧ a.get 10 = .int .i64 (x_1.length : Int) ∧ a.get 11 = .int .i64 x12 ∧ OwnB 3 (Fr w0) O47 w b11 #[.int .i64 x23, u25] 49 ∧ (rSl (rInt .i64)).v O47 w u25 x24 ∧ OwnB 2 (Fr w0) O47 w b5 #[.int .i64 x27, u29] 49 ∧ OwnL 1 (rInt .i64) 3 (FrS w0 v_0) O47 w u29 x28 ∧ (colletlaw43_world_next_j3 x12 x23 x24 x27 x28).run n = some st2) ?_ ?_
   ·
    refine wp_block (wp_seq ?_)
    refine' region [_, _] mixed hA (.cons (fun _ _ hE hK hg => ok_move (kn (hK 11 rfl) rfl q11)) (.cons (fun _ _ hE hK hg => ok_assign (ksv (j := 0) (hK 13 rfl) rfl rfl rfl)) .nil)) ?zok4 ?zgd4 ?zk4
    case zok4 | zgd4 => kernel_rfl
    intro a9 w9 hA hE HF
    replace q1 := kn (HF 1) rfl q1
    replace q2 := kn (HF 2) rfl q2
    replace q3 := kn (HF 3) rfl q3
    replace q6 := kn (HF 6) rfl q6
    have q8 := ksv (HF 8) rfl rfl rfl
    replace q10 := kn (HF 10) rfl q10
    replace q11 := kn (HF 11) rfl q11
    clear q12
    clear HF
    replace h_1 := GR.v_ext _ h_1 hE
    replace f6 := f6.ext hE
    replace f20 := f20.ext hE
    replace f10 := f10.ext hE
    replace f16 := GR.v_ext _ f16 hE
    replace hB := Base.step hB hE hO; clear hE
    refine li_nil (nx_then (wp_seq (wp_seq ?_)))
    obtain ⟨x22, hx22, h⟩ := Comp.run_bind h
    refine' region [_, _, SP.ptr r_api_Claim O21 x22, SP.ptr (rInt .i64) O21 x22.Kind, SP.isv (.int .i64 x22.Kind), _] mixed hA (.cons (fun _ _ hE hK hg => ok_move (kn (hK 1 rfl) rfl q1)) (.cons (fun _ _ hE hK hg => ok_move (kn (hK 8 rfl) rfl q8)) (.cons (fun _ _ hE hK hg => okl_idx (r := r_api_Claim) (O := O21) ty27 ty33 rfl (ksv (j := 0) (hK 14 rfl) rfl rfl rfl) (rd_of (GR.v_ext _ h_1 hE)) (ksv (j := 1) (hK 15 rfl) rfl rfl rfl) hx22) (.cons (fun _ _ hE hK hg => okl_fld (S := r_api_Claim) rfl (fun _ => rfl) sb_api_Claim_1 fl33_1 rfl (kspS (φ := SP.ptr r_api_Claim O21 x22) (j := 2) (hK 16 rfl) rfl rfl rfl)) (.cons (fun _ _ hE hK hg => okl_ldr (rInt .i64) (fun _ => rfl) ty3 rfl rfl rfl (kspS (φ := SP.ptr (rInt .i64) O21 x22.Kind) (j := 3) (hK 17 rfl) rfl rfl rfl) (fun _ _ _ h => rInt_v.1 h)) (.cons (fun _ _ hE hK hg => ok_neqI (ksv (j := 4) (hK 18 rfl) rfl rfl rfl) rfl) .nil)))))) ?zok5 ?zgd5 ?zk5
    case zok5 | zgd5 => kernel_rfl
    intro a10 w10 hA hE HF
    replace q1 := kn (HF 1) rfl q1
    replace q2 := kn (HF 2) rfl q2
    replace q3 := kn (HF 3) rfl q3
    replace q6 := kn (HF 6) rfl q6
    replace q8 := kn (HF 8) rfl q8
    replace q10 := kn (HF 10) rfl q10
    replace q11 := kn (HF 11) rfl q11
    have q19 := ksv (HF 19) rfl rfl rfl
    clear HF
    replace h_1 := GR.v_ext _ h_1 hE
    replace f6 := f6.ext hE
    replace f20 := f20.ext hE
    replace f10 := f10.ext hE
    replace f16 := GR.v_ext _ f16 hE
    replace hB := Base.step hB hE hO; clear hE
    refine li_nil (nx_then ?_)
    refine wp_cond_b q19 (fun hc => ?_) (fun hc => ?_)
    ·
     replace h := Comp.run_b_t hc h; clear hc
     refine wp_exit (ex_then (ex_same (nx_then ?_)))
     exact ⟨_, _, _, _, _, _, _, hA, hB, q1, h_1, q2, q3, q6, q10, q11, f10, f16, f6, f20, h⟩
    ·
     replace h := Comp.run_b_f hc h; clear hc
     refine wp_skip (nx_then (wp_seq ?_))
     obtain ⟨x31, hx31, h⟩ := Comp.run_bind h
     obtain ⟨x32, hx32, h⟩ := Comp.run_bind h
     refine' regionT [SP.isv (.pointer (some ⟨b5, 1, none⟩)), SP.isv (u19), _, SP.ptr (rInt .i64) O21 x31, SP.isv (.int .i64 x31), _, SP.elt (u19) (Int.toNat x12 * 1)] hA (.cons (fun _ _ hE hK hg => ok_fieldAddr fl49_1 (kn (hK 3 rfl) rfl q3)) (.cons (fun _ _ hE hK hg => ok_loadOwn ty23 rfl (ksv (j := 0) (hK 20 rfl) rfl rfl rfl) (OwnB.ext f6 hE).own rfl) (.cons (fun _ _ hE hK hg => ok_move (kn (hK 8 rfl) rfl q8)) (.cons (fun _ _ hE hK hg => okl_idx (r := (rInt .i64)) (O := O21) ty23 ty3 rfl (ksv (j := 1) (hK 21 rfl) rfl rfl rfl) (OwnL.rd (OwnL.ext f20 hE)) (ksv (j := 2) (hK 22 rfl) rfl rfl rfl) hx31) (.cons (fun _ _ hE hK hg => okl_ldr (rInt .i64) (fun _ => rfl) ty3 rfl rfl rfl (kspS (φ := SP.ptr (rInt .i64) O21 x31) (j := 3) (hK 23 rfl) rfl rfl rfl) (fun _ _ _ h => rInt_v.1 h)) (.cons (fun _ _ hE hK hg => ok_add (ksv (j := 4) (hK 24 rfl) rfl rfl rfl) rfl) (.cons (fun _ _ hE hK hg => okl_idxOwn rfl ty23 ty3 (ksv (j := 1) (hK 21 rfl) rfl rfl rfl) (OwnL.ext f20 hE) (ksv (j := 2) (hK 22 rfl) rfl rfl rfl) (idx_lt hx32)) .nil))))))) ?zok6 ?zgd6 ?zk6
     case zok6 | zgd6 => kernel_rfl
     intro a11 w11 hA hE HF
     replace q1 := kn (HF 1) rfl q1
     replace q2 := kn (HF 2) rfl q2
     replace q3 := kn (HF 3) rfl q3
     replace q6 := kn (HF 6) rfl q6
     replace q8 := kn (HF 8) rfl q8
     replace q10 := kn (HF 10) rfl q10
     replace q11 := kn (HF 11) rfl q11
     have q25 := ksv (HF 25) rfl rfl rfl
     have f34 := ksp (HF 26) rfl rfl rfl
     obtain ⟨u33, q26'⟩ : ∃ u, a11.get 26 = u := ⟨_, rfl⟩
     rw [q26'] at f34
     have q26 := q26'; clear q26'
     clear q19
     clear HF
     replace h_1 := GR.v_ext _ h_1 hE
     replace f6 := f6.ext hE
     replace f20 := f20.ext hE
     replace f10 := f10.ext hE
     replace f16 := GR.v_ext _ f16 hE
     replace hB := Base.step hB hE hO; clear hE
     obtain ⟨x36, hx36, h⟩ := Comp.run_bind h
     refine l_storeElt (r := (rInt .i64)) (fun _ => rfl) rfl hO hB (okB_self hB) ty3 q26 f34 f20 q25 (by exact rInt_v.2 rfl) hx36 (by decide) fun w12 f35 hB' hX => ?_
     clear hB; have hB := hB'; clear hB'
     replace h_1 := GR.kx _ h_1 hX (by decide)
     replace f6 := f6.kx hX (by decide)
     replace f10 := f10.kx hX (by decide)
     replace f16 := GR.kx _ f16 hX (by decide)
     clear hX f20
     refine li_nil (nx_then (wp_seq (wp_seq ?_)))
     obtain ⟨x37, hx37, h⟩ := Comp.run_bind h
     obtain ⟨x38, hx38, h⟩ := Comp.run_bind h
     refine' region [SP.isv (.pointer (some ⟨b5, 1, none⟩)), SP.isv (u19), _, SP.ptr (rInt .i64) O21 x37, SP.isv (.int .i64 x37), _, _, _] mixed hA (.cons (fun _ _ hE hK hg => ok_fieldAddr fl49_1 (kn (hK 3 rfl) rfl q3)) (.cons (fun _ _ hE hK hg => ok_loadOwn ty23 rfl (ksv (j := 0) (hK 27 rfl) rfl rfl rfl) (OwnB.ext f6 hE).own rfl) (.cons (fun _ _ hE hK hg => ok_move (kn (hK 8 rfl) rfl q8)) (.cons (fun _ _ hE hK hg => okl_idx (r := (rInt .i64)) (O := O21) ty23 ty3 rfl (ksv (j := 1) (hK 28 rfl) rfl rfl rfl) (OwnL.rd (OwnL.ext f35 hE)) (ksv (j := 2) (hK 29 rfl) rfl rfl rfl) hx37) (.cons (fun _ _ hE hK hg => okl_ldr (rInt .i64) (fun _ => rfl) ty3 rfl rfl rfl (kspS (φ := SP.ptr (rInt .i64) O21 x37) (j := 3) (hK 30 rfl) rfl rfl rfl) (fun _ _ _ h => rInt_v.1 h)) (.cons (fun _ _ hE hK hg => ok_move (kn (hK 2 rfl) rfl q2)) (.cons (fun _ _ hE hK hg => okl_shl rfl (ksv (j := 5) (hK 32 rfl) rfl rfl rfl) (run_nonneg hx38)) (.cons (fun _ _ hE hK hg => ok_lss (ksv (j := 4) (hK 31 rfl) rfl rfl rfl) (ksv (j := 6) (hK 33 rfl) rfl rfl rfl)) .nil)))))))) ?zok7 ?zgd7 ?zk7
     case zok7 | zgd7 => kernel_rfl
     intro a13 w13 hA hE HF
     replace q1 := kn (HF 1) rfl q1
     replace q2 := kn (HF 2) rfl q2
     replace q3 := kn (HF 3) rfl q3
     replace q6 := kn (HF 6) rfl q6
     replace q8 := kn (HF 8) rfl q8
     replace q10 := kn (HF 10) rfl q10
     replace q11 := kn (HF 11) rfl q11
     have q34 := ksv (HF 34) rfl rfl rfl
     clear HF
     replace h_1 := GR.v_ext _ h_1 hE
     replace f6 := f6.ext hE
     replace f35 := f35.ext hE
     replace f10 := f10.ext hE
     replace f16 := GR.v_ext _ f16 hE
     replace hB := Base.step hB hE hO; clear hE
     refine li_nil (nx_then ?_)
     refine wp_cond_b q34 (fun hc => ?_) (fun hc => ?_)
     ·
      replace h := Comp.run_b_t hc h; clear hc
      refine wp_seq ?_
      refine' regionT [SP.isv (.agg #[.int .i64 x17, u19])] hA (.cons (fun _ _ hE hK hg => ok_loadOwnAgg ty49 rfl (kn (hK 3 rfl) rfl q3) (OwnB.ext f6 hE).own rfl) .nil) ?zok8 ?zgd8 ?zk8
      case zok8 | zgd8 => kernel_rfl
      intro a14 w14 hA hE HF
      replace q6 := kn (HF 6) rfl q6
      have q35 := ksv (HF 35) rfl rfl rfl
      clear q1
      clear q2
      clear q3
      clear q8
      clear q10
      clear q11
      clear q34
      clear HF
      replace h_1 := GR.v_ext _ h_1 hE
      replace f6 := f6.ext hE
      replace f35 := f35.ext hE
      replace f10 := f10.ext hE
      replace f16 := GR.v_ext _ f16 hE
      replace hB := Base.step hB hE hO; clear hE
      refine l_storeSub (vs := [.int .i64 x17, u19]) (cs' := #[.int .i64 x17, u19]) hO hB (okB_fr hB) ty49 q6 q35 rfl (by intro c_ hc_; simp only [List.mem_cons, List.not_mem_nil, or_false] at hc_; rcases hc_ with rfl | rfl <;> first | rfl | assumption | exact own_one f35) f10 (by simp) rfl fun w15 f39 hB' hX => ?_
      clear hB f10; have hB := hB'; clear hB'
      replace f35 := f35.kx hX (by decide) (by decide)
      replace f16 := GR.kx _ f16 hX (by decide)
      clear hX
      refine l_ok (φ := SP.isv (.bool true)) hO hB (by exact ok_assign rfl) rfl fun u_ w16 hE hB' hv_ => ?_
      replace hv_ := Eq.symm hv_; subst hv_; clear hB; have hB := hB'; clear hB'
      replace f39 := f39.ext hE
      replace f35 := f35.ext hE
      clear hE
      refine put_cont hA (by decide) fun a17 hA q_ hfr => ?_
      replace q6 := (hfr 6 rfl).trans q6
      have q7 := q_; clear q_ hfr
      refine li_nil (nx_then (wp_ret (rt_then (rt_blk (rt_then (rt_then (rt_blk (rt_then ?_))))))))
      have hd_ := hdone2 _ (Comp.run_pure h).symm; clear h
      subst hd_; have h := hk2; clear hk2; try dsimp only at h
      have h := Comp.run_pure h; subst h
      exact retG2 Try.results24 hA (.agg q6 ty49 rfl rfl f39.own) (.tmp q7) (sioEndG hB f35 (by decide) rfl)
     ·
      replace h := Comp.run_b_f hc h; clear hc
      refine wp_skip (nx_then ?_)
      obtain ⟨x42, hx42, h⟩ := Comp.run_bind h
      refine' regionT [SP.isv (.pointer (some ⟨b5, 1, none⟩)), SP.isv (u19), _, SP.elt (u19) (Int.toNat x12 * 1)] hA (.cons (fun _ _ hE hK hg => ok_fieldAddr fl49_1 (kn (hK 3 rfl) rfl q3)) (.cons (fun _ _ hE hK hg => ok_loadOwn ty23 rfl (ksv (j := 0) (hK 36 rfl) rfl rfl rfl) (OwnB.ext f6 hE).own rfl) (.cons (fun _ _ hE hK hg => ok_move (kn (hK 8 rfl) rfl q8)) (.cons (fun _ _ hE hK hg => okl_idxOwn rfl ty23 ty3 (ksv (j := 1) (hK 37 rfl) rfl rfl rfl) (OwnL.ext f35 hE) (ksv (j := 2) (hK 38 rfl) rfl rfl rfl) (idx_lt hx42)) .nil)))) ?zok9 ?zgd9 ?zk9
      case zok9 | zgd9 => kernel_rfl
      intro a18 w18 hA hE HF
      replace q1 := kn (HF 1) rfl q1
      replace q2 := kn (HF 2) rfl q2
      replace q3 := kn (HF 3) rfl q3
      replace q6 := kn (HF 6) rfl q6
      replace q10 := kn (HF 10) rfl q10
      replace q11 := kn (HF 11) rfl q11
      have f44 := ksp (HF 39) rfl rfl rfl
      obtain ⟨u43, q39'⟩ : ∃ u, a18.get 39 = u := ⟨_, rfl⟩
      rw [q39'] at f44
      have q39 := q39'; clear q39'
      clear q8
      clear q34
      clear HF
      replace h_1 := GR.v_ext _ h_1 hE
      replace f6 := f6.ext hE
      replace f35 := f35.ext hE
      replace f10 := f10.ext hE
      replace f16 := GR.v_ext _ f16 hE
      replace hB := Base.step hB hE hO; clear hE
      obtain ⟨x46, hx46, h⟩ := Comp.run_bind h
      refine l_storeElt (r := (rInt .i64)) (fun _ => rfl) rfl hO hB (okB_self hB) ty3 q39 f44 f35 rfl (by exact rInt_v.2 rfl) hx46 (by decide) fun w19 f45 hB' hX => ?_
      clear hB; have hB := hB'; clear hB'
      replace h_1 := GR.kx _ h_1 hX (by decide)
      replace f6 := f6.kx hX (by decide)
      replace f10 := f10.kx hX (by decide)
      replace f16 := GR.kx _ f16 hX (by decide)
      clear hX f35
      refine li_nil (nx_blk (nx_then ?_))
      exact ⟨_, _, _, _, _, _, _, hA, hB, q1, h_1, q2, q3, q6, q10, q11, f10, f16, f6, f45, h⟩
   intro a20 w20 hI
   clear hA hB h q1 q2 q3 q6 q10 q11 q12 f10 f16 f20 f6 h_1
   obtain ⟨O47, x23, x24, x27, x28, u25, u29, hA, hB, q1, h_1, q2, q3, q6, q10, q11, f10, f26, f6, f30, h⟩ := hI
   unfold colletlaw43_world_next_j3 at h
   refine' region [_, _] mixed hA (.cons (fun _ _ hE hK hg => ok_add (kn (hK 11 rfl) rfl q11) rfl) (.cons (fun _ _ hE hK hg => ok_move (ksv (j := 0) (hK 40 rfl) rfl rfl rfl)) .nil)) ?zok10 ?zgd10 ?zk10
   case zok10 | zgd10 => kernel_rfl
   intro a21 w21 hA hE HF
   replace q1 := kn (HF 1) rfl q1
   replace q2 := kn (HF 2) rfl q2
   replace q3 := kn (HF 3) rfl q3
   replace q6 := kn (HF 6) rfl q6
   replace q10 := kn (HF 10) rfl q10
   have q11' := ksv (HF 11) rfl rfl rfl
   replace q11 := q11'; clear q11'
   clear HF
   replace h_1 := GR.v_ext _ h_1 hE
   replace f6 := f6.ext hE
   replace f30 := f30.ext hE
   replace f10 := f10.ext hE
   replace f26 := GR.v_ext _ f26 hE
   replace hB := Base.step hB hE hO; clear hE
   refine li_nil (nx_then ?_)
   have h := hnext2 _ (Comp.run_pure h).symm
   refine ⟨m2, hlt2, ?_⟩
   exact ⟨_, _, _, _, _, _, _, _, hA, hB, q1, h_1, q2, q3, q6, q10, q11, f10, f26, f6, f30, h⟩
  ·
   replace h := Comp.run_b_f hc h; clear hc
   refine wp_exit (ex_then (ex_then (ex_same ?_)))
   have hd_ := hdone2 _ (Comp.run_pure h).symm; clear h
   subst hd_; have h := hk2; clear hk2; try dsimp only at h
   refine nx_then ?_
   exact ⟨_, _, _, _, _, _, _, hA, hB, q2, q3, q6, f10, f16, f6, f20, h⟩
 intro a22 w22 hI
 clear hA hB h q1 q2 q3 q6 f1 f10 f6 h_1
 obtain ⟨O60, x52, x53, x56, x57, u54, u58, hA, hB, q2, q3, q6, f10, f55, f6, f59, h⟩ := hI
 unfold colletlaw43_world_next_j1 at h
 refine wp_seq ?_
 refine' regionT [SP.isv (.pointer (some ⟨b5, 0, none⟩)), SP.isv (.int .i64 x56), _, SP.isv (.pointer (some ⟨b5, 0, none⟩))] hA (.cons (fun _ _ hE hK hg => ok_fieldAddr fl49_0 (kn (hK 3 rfl) rfl q3)) (.cons (fun _ _ hE hK hg => ok_loadOwn ty3 rfl (ksv (j := 0) (hK 41 rfl) rfl rfl rfl) (OwnB.ext f6 hE).own rfl) (.cons (fun _ _ hE hK hg => ok_add (ksv (j := 1) (hK 42 rfl) rfl rfl rfl) rfl) (.cons (fun _ _ hE hK hg => ok_fieldAddr fl49_0 (kn (hK 3 rfl) rfl q3)) .nil)))) ?zok11 ?zgd11 ?zk11
 case zok11 | zgd11 => kernel_rfl
 intro a23 w23 hA hE HF
 replace q2 := kn (HF 2) rfl q2
 replace q3 := kn (HF 3) rfl q3
 replace q6 := kn (HF 6) rfl q6
 have q43 := ksv (HF 43) rfl rfl rfl
 have q44 := ksv (HF 44) rfl rfl rfl
 clear HF
 replace f6 := f6.ext hE
 replace f59 := f59.ext hE
 replace f10 := f10.ext hE
 replace f55 := GR.v_ext _ f55 hE
 replace hB := Base.step hB hE hO; clear hE
 refine l_store1 (cs' := #[.int .i64 (IntKind.wrap .i64 (x56 + 1)), u58]) hO hB (okB_fr hB) ty3 q44 q43 rfl rfl f6 (by simp) rfl fun w24 f61 hB' hX => ?_
 clear hB f6; have hB := hB'; clear hB'
 replace f59 := f59.kx hX (by decide) (by decide)
 replace f10 := f10.kx hX (by decide)
 replace f55 := GR.kx _ f55 hX (by decide)
 clear hX
 refine li_nil (nx_then (wp_seq ?_))
 obtain ⟨x62, hx62, h⟩ := Comp.run_bind h
 obtain ⟨J_, eJ_⟩ : ∃ J_ : (Nat → Bool) → Act → World → Prop, J_ = (fun S_ a_ w_ => ∃ O_ : Tags, Base (FrS w0 v_0) O w0 O_ w_ ∧ Keep 0 O60 w24 O_ w_ ∧ Keep 1 O60 w24 O_ w_ ∧ Keep 2 O60 w24 O_ w_ ∧ (S_ 6 = false → OwnB 3 (Fr w0) O_ w_ b11 #[.int .i64 x52, u54] 49) ∧ (S_ 6 = true → OwnB 3 (Fr w0) O_ w_ b11 #[.int .i64 (IntKind.wrap .i64 (x56 + 1)), u58] 49)) := ⟨_, rfl⟩
 have T_ : ∀ {i_ : Nat} {d_ : Option Tmp} {v_ : Value} {S_ a' w' w2}, Nat.beq 6 i_ = false → Ext w' w2 → J_ S_ a' w' → J_ (addS S_ i_) (a'.put d_ v_) w2 := by
  subst eJ_; intro i_ d_ v_ S_ a' w' w2 n6_ hE hJ_
  obtain ⟨O_, hB_, k0_, kk0_, kk1_, v2_0_, v2_1_⟩ := hJ_
  exact ⟨O_, (Base.step hB_ hE hO), (k0_.trans (KX.keep (KX.ext hE) (by decide))), (kk0_.trans (KX.keep (KX.ext hE) (by decide))), (kk1_.trans (KX.keep (KX.ext hE) (by decide))), fun hq_ => OwnB.kx (v2_0_ (addS_no hq_)) (KX.ext hE) (by decide), fun hp_ => OwnB.kx (v2_1_ (addS_off n6_ hp_)) (KX.ext hE) (by decide)⟩
 refine' regionX (draw := true) J_ [SP.isv (.agg #[.int .i64 (IntKind.wrap .i64 (x56 + 1)), u58]), SP.isv (.pointer (some ⟨b5, 0, none⟩)), SP.isv (.int .i64 (IntKind.wrap .i64 (x56 + 1))), SP.isv (.int .i64 x_2), SP.isv (.int .i64 (shlF .i64 1 x_2)), SP.isv (.bool (decide ((IntKind.wrap .i64 (x56 + 1)) < (shlF .i64 1 x_2)))), SP.tt, SP.isv (.bool (decide ((IntKind.wrap .i64 (x56 + 1)) < (shlF .i64 1 x_2))))] mixed hA (.cons (stE_isv _) (.cons (stE_isv _) (.cons (stE_isv _) (.cons (stE_isv _) (.cons (stE_isv _) (.cons (stE_isv _) (.cons (stE_tt _) (.cons (stE_isv _) .nil)))))))) (.cons ?z12_0 (.cons ?z12_1 (.cons ?z12_2 (.cons ?z12_3 (.cons ?z12_4 (.cons ?z12_5 (.cons ?z12_6 (.cons ?z12_7 .nil)))))))) ?zsk12 ?zst12 ?zok12 ?zgd12 ?zk12
 case z12_0 =>
  intro S_ a' w' hA_ hJ_ hS_ hafter_ hbef_ hK hg K_ Q_ hK_
  have hJ2_ := hJ_; rw [eJ_] at hJ2_; obtain ⟨O_, hB_, k0_, kk0_, kk1_, v2_0_, v2_1_⟩ := hJ2_
  refine x_ok (φ := SP.isv (.agg #[.int .i64 (IntKind.wrap .i64 (x56 + 1)), u58])) (by exact ok_loadOwnAgg ty49 rfl (kn (hK 3 rfl) rfl q3) (OwnB.keep f61 kk1_).own rfl) fun v_ w2 hE hv_ => hK_ v_ w2 (T_ rfl hE hJ_) hv_
 case z12_1 =>
  intro S_ a' w' hA_ hJ_ hS_ hafter_ hbef_ hK hg K_ Q_ hK_
  refine x_ok (φ := SP.isv (.pointer (some ⟨b5, 0, none⟩))) (by exact ok_fieldAddr fl49_0 (kn (hK 3 rfl) rfl q3)) fun v_ w2 hE hv_ => hK_ v_ w2 (T_ rfl hE hJ_) hv_
 case z12_2 =>
  intro S_ a' w' hA_ hJ_ hS_ hafter_ hbef_ hK hg K_ Q_ hK_
  have hJ2_ := hJ_; rw [eJ_] at hJ2_; obtain ⟨O_, hB_, k0_, kk0_, kk1_, v2_0_, v2_1_⟩ := hJ2_
  refine x_ok (φ := SP.isv (.int .i64 (IntKind.wrap .i64 (x56 + 1)))) (by exact ok_loadOwn ty3 rfl (ksv (j := 1) (hK 46 rfl) rfl rfl rfl) (OwnB.keep f61 kk1_).own rfl) fun v_ w2 hE hv_ => hK_ v_ w2 (T_ rfl hE hJ_) hv_
 case z12_3 =>
  intro S_ a' w' hA_ hJ_ hS_ hafter_ hbef_ hK hg K_ Q_ hK_
  refine x_ok (φ := SP.isv (.int .i64 x_2)) (by exact ok_move (kn (hK 2 rfl) rfl q2)) fun v_ w2 hE hv_ => hK_ v_ w2 (T_ rfl hE hJ_) hv_
 case z12_4 =>
  intro S_ a' w' hA_ hJ_ hS_ hafter_ hbef_ hK hg K_ Q_ hK_
  refine x_ok (φ := SP.isv (.int .i64 (shlF .i64 1 x_2))) (by exact okl_shl rfl (ksv (j := 3) (hK 48 rfl) rfl rfl rfl) (run_nonneg hx62)) fun v_ w2 hE hv_ => hK_ v_ w2 (T_ rfl hE hJ_) hv_
 case z12_5 =>
  intro S_ a' w' hA_ hJ_ hS_ hafter_ hbef_ hK hg K_ Q_ hK_
  refine x_ok (φ := SP.isv (.bool (decide ((IntKind.wrap .i64 (x56 + 1)) < (shlF .i64 1 x_2))))) (by exact ok_lss (ksv (j := 2) (hK 47 rfl) rfl rfl rfl) (ksv (j := 4) (hK 49 rfl) rfl rfl rfl)) fun v_ w2 hE hv_ => hK_ v_ w2 (T_ rfl hE hJ_) hv_
 case z12_6 =>
  intro S_ a' w' hA_ hJ_ hS_ hafter_ hbef_ hK hg K_ Q_ hK_
  subst eJ_
  obtain ⟨O_, hB_, k0_, kk0_, kk1_, v2_0_, v2_1_⟩ := hJ_
  refine x_storeSub (vs := [.int .i64 (IntKind.wrap .i64 (x56 + 1)), u58]) (cs' := #[.int .i64 (IntKind.wrap .i64 (x56 + 1)), u58]) hO hB_ (okB_fr hB_) ty49 (kn (hK 6 rfl) rfl q6) (ksv (j := 0) (hK 45 rfl) rfl rfl rfl) rfl (by intro c_ hc_; simp only [List.mem_cons, List.not_mem_nil, or_false] at hc_; rcases hc_ with rfl | rfl <;> first | rfl | assumption | exact own_one (OwnL.keep f59 k0_ kk0_)) (v2_0_ hS_) (by simp) rfl fun w2 f_ hB2_ hX_ => ?_
  exact hK_ undef w2 ⟨O_, hB2_, (k0_.trans (KX.keep hX_ (by decide))), (kk0_.trans (KX.keep hX_ (by decide))), (kk1_.trans (KX.keep hX_ (by decide))), fun hq_ => addS_me hq_, fun hp_ => f_⟩ trivial
 case z12_7 =>
  intro S_ a' w' hA_ hJ_ hS_ hafter_ hbef_ hK hg K_ Q_ hK_
  refine x_ok (φ := SP.isv (.bool (decide ((IntKind.wrap .i64 (x56 + 1)) < (shlF .i64 1 x_2))))) (by exact ok_assign (ksv (j := 5) (hK 50 rfl) rfl rfl rfl)) fun v_ w2 hE hv_ => hK_ v_ w2 (T_ rfl hE hJ_) hv_
 case zsk12 =>
  subst eJ_
  intro i_ o_ S_ a_ w_ ho_ hact_ hA_ hS_ hbef_ hJ_
  obtain ⟨O_, hB_, k0_, kk0_, kk1_, v2_0_, v2_1_⟩ := hJ_
  exact ⟨O_, hB_, k0_, kk0_, kk1_, fun hq_ => (v2_0_ (addS_no hq_)), fun hp_ => by obtain ⟨h1_, h2_⟩ := skip_off (j := 6) hact_ rfl hp_; exact (v2_1_ h1_)⟩
 case zst12 => subst eJ_; exact fun w1_ hE_ => ⟨O60, (Base.step hB hE_ hO), (Keep.ext hE_), (Keep.ext hE_), (Keep.ext hE_), fun _ => OwnB.ext f10 hE_, fun hp_ => no_ft hp_⟩
 case zok12 | zgd12 => kernel_rfl
 subst eJ_; clear T_
 intro a25 w25 hA HF hJ_
 obtain ⟨O63, hB_, k0_, kk0_, kk1_, v2_0_, v2_1_⟩ := hJ_
 replace q6 := kn (HF 6) rfl q6
 have q7' := ksv (j := 7) (HF 7) rfl rfl rfl
 have q7 := q7'; clear q7'
 clear q2
 clear q3
 clear HF
 replace f59 := OwnL.keep f59 k0_ kk0_
 replace f61 := OwnB.keep f61 kk1_
 have f64 := (v2_1_ rfl)
 clear f10
 clear hB; have hB := hB_; clear hB_
 clear k0_ kk0_ kk1_ v2_0_ v2_1_
 obtain ⟨x65, hx_, h⟩ := Comp.run_bind h; replace hx_ := Comp.run_pure hx_; rw [hx_] at q7; clear hx_
 refine nx_then (wp_ret ?_)
 have h := Comp.run_pure h; subst h
 exact retG2 Try.results24 hA (.agg q6 ty49 rfl rfl f64.own) (.tmp q7) (sioEndG hB f59 (by decide) rfl)
set_option maxHeartbeats 4000000 in
theorem ok_colletlaw43_CourtWorlds {O : Tags} {w0 : World} (hO : OkO O w0) {v_0 : Value} {x_0 : colletlaw43_Case} (h_0 : r_colletlaw43_Case.v O w0 v_0 x_0) {n : Nat} {y : Bool} (h : (colletlaw43_CourtWorlds x_0).run n = some y) : Pure Try.prog 4 #[v_0] w0 (SP.isv (.bool y)).holds := by
 unfold colletlaw43_CourtWorlds at h
 refine pure_of_wp Try.func4 rfl 80 Try.ntmps4 (by simp) fun a0 hA hs0 => ?_
 have q0 : a0.get 0 = v_0 := hs0 0 _ rfl
 clear hs0
 have hB : Base (Fr w0) O w0 O w0 := Base.start hO
 refine wp_seq ?_
 obtain ⟨u1, u3, e_, f2, f4⟩ := openV_colletlaw43_Case h_0; subst e_
 refine' region [SP.box w0.heap.size #[u1, .int .u8 x_0.Cells, u3] 25, _] mixed hA (.cons (fun _ _ hE hK hg => ok_box (v := .agg #[u1, .int .u8 x_0.Cells, u3]) hE.size (kn (hK 0 rfl) rfl q0)) (.cons (fun _ _ hE hK hg => ok_assign rfl) .nil)) ?zok1 ?zgd1 ?zk1
 case zok1 | zgd1 => kernel_rfl
 intro a1 w1 hA hE HF
 have f6 := ksp (HF 1) rfl rfl rfl
 obtain ⟨u5, q1'⟩ : ∃ u, a1.get 1 = u := ⟨_, rfl⟩
 rw [q1'] at f6
 have q1 := q1'; clear q1'
 clear q0
 clear HF
 obtain ⟨O7, b8, hB', hX, e_, f9⟩ := boxNew hO hB hE f6 1 (by decide)
 subst e_
 clear hB f6; have hB := hB'; clear hB'
 replace f2 := GR.kx _ f2 hX (by decide)
 replace f4 := GR.kx _ f4 hX (by decide)
 clear hX hE
 refine li_nil (nx_then (wp_seq ?_))
 obtain ⟨x10, hx10, h⟩ := Comp.run_bind h
 refine' region [SP.isv (.bool x10), _] mixed hA (.cons ?z2_0 (.cons (fun _ _ hE hK hg => ok_assign (ksv (j := 0) (hK 13 rfl) rfl rfl rfl)) .nil)) ?zok2 ?zgd2 ?zk2
 case z2_0 => intro a' w' hE hK hg; have c_ := ok_colletlaw43_sanity (OkO.ext hB.ok hE)  hx10; exact ok_call0 fn8  c_
 case zok2 | zgd2 => kernel_rfl
 intro a2 w2 hA hE HF
 replace q1 := kn (HF 1) rfl q1
 have q3 := ksv (HF 3) rfl rfl rfl
 clear HF
 replace f9 := f9.ext hE
 replace f2 := GR.v_ext _ f2 hE
 replace f4 := GR.v_ext _ f4 hE
 replace hB := Base.step hB hE hO; clear hE
 refine li_nil (nx_then (wp_seq ?_))
 refine' regionT [SP.isv (.pointer (some ⟨b8, 1, none⟩)), SP.isv (.int .u8 x_0.Cells), _, SP.isv (.pointer (some ⟨b8, 1, none⟩))] hA (.cons (fun _ _ hE hK hg => ok_fieldAddr fl25_1 (kn (hK 1 rfl) rfl q1)) (.cons (fun _ _ hE hK hg => ok_loadOwn ty5 rfl (ksv (j := 0) (hK 14 rfl) rfl rfl rfl) (OwnB.ext f9 hE).own rfl) (.cons (fun _ _ hE hK hg => ok_rem (ksv (j := 1) (hK 15 rfl) rfl rfl rfl) rfl (by decide)) (.cons (fun _ _ hE hK hg => ok_fieldAddr fl25_1 (kn (hK 1 rfl) rfl q1)) .nil)))) ?zok3 ?zgd3 ?zk3
 case zok3 | zgd3 => kernel_rfl
 intro a3 w3 hA hE HF
 replace q1 := kn (HF 1) rfl q1
 replace q3 := kn (HF 3) rfl q3
 have q16 := ksv (HF 16) rfl rfl rfl
 have q17 := ksv (HF 17) rfl rfl rfl
 clear HF
 replace f9 := f9.ext hE
 replace f2 := GR.v_ext _ f2 hE
 replace f4 := GR.v_ext _ f4 hE
 replace hB := Base.step hB hE hO; clear hE
 refine l_store1 (cs' := #[u1, .int .u8 (Int.tmod x_0.Cells 2), u3]) hO hB (okB_fr hB) ty5 q17 q16 rfl rfl f9 (by simp) rfl fun w4 f11 hB' hX => ?_
 clear hB f9; have hB := hB'; clear hB'
 replace f2 := GR.kx _ f2 hX (by decide)
 replace f4 := GR.kx _ f4 hX (by decide)
 clear hX
 refine li_nil (nx_then (wp_seq ?_))
 obtain ⟨x12, hx12, h⟩ := Comp.run_bind h
 refine' region [SP.isv (.agg #[u1, .int .u8 (Int.tmod x_0.Cells 2), u3]), SP.tup3 (SP.vl (rSl r_api_Claim) O7 x12.1) (SP.vl (rSl r_api_Sight) O7 x12.2.1) (SP.isv (.int .i64 x12.2.2)), SP.tup3 (SP.vl (rSl r_api_Claim) O7 x12.1) (SP.vl (rSl r_api_Sight) O7 x12.2.1) (SP.isv (.int .i64 x12.2.2)), SP.vl (rSl r_api_Claim) O7 x12.1, SP.vl (rSl r_api_Sight) O7 x12.2.1, SP.isv (.int .i64 x12.2.2), SP.vl (rSl r_api_Claim) O7 x12.1, SP.vl (rSl r_api_Sight) O7 x12.2.1, _] mixed hA (.cons (fun _ _ hE hK hg => ok_loadOwnAgg ty25 rfl (kn (hK 1 rfl) rfl q1) (OwnB.ext f11 hE).own rfl) (.cons ?z4_1 (.cons (fun _ _ hE hK hg => ok_move_pr (φ := SP.tup3 (SP.vl (rSl r_api_Claim) O7 x12.1) (SP.vl (rSl r_api_Sight) O7 x12.2.1) (SP.isv (.int .i64 x12.2.2))) (kspS (j := 1) (hK 20 rfl) rfl rfl rfl)) (.cons (fun _ _ hE hK hg => okl_ext3_0 (kspS (φ := SP.tup3 (SP.vl (rSl r_api_Claim) O7 x12.1) (SP.vl (rSl r_api_Sight) O7 x12.2.1) (SP.isv (.int .i64 x12.2.2))) (j := 2) (hK 18 rfl) rfl rfl rfl)) (.cons (fun _ _ hE hK hg => okl_ext3_1 (kspS (φ := SP.tup3 (SP.vl (rSl r_api_Claim) O7 x12.1) (SP.vl (rSl r_api_Sight) O7 x12.2.1) (SP.isv (.int .i64 x12.2.2))) (j := 2) (hK 18 rfl) rfl rfl rfl)) (.cons (fun _ _ hE hK hg => okl_ext3_2 (kspS (φ := SP.tup3 (SP.vl (rSl r_api_Claim) O7 x12.1) (SP.vl (rSl r_api_Sight) O7 x12.2.1) (SP.isv (.int .i64 x12.2.2))) (j := 2) (hK 18 rfl) rfl rfl rfl)) (.cons (fun _ _ hE hK hg => ok_assign_pr (φ := SP.vl (rSl r_api_Claim) O7 x12.1) (kspS (j := 3) (hK 21 rfl) rfl rfl rfl)) (.cons (fun _ _ hE hK hg => ok_assign_pr (φ := SP.vl (rSl r_api_Sight) O7 x12.2.1) (kspS (j := 4) (hK 22 rfl) rfl rfl rfl)) (.cons (fun _ _ hE hK hg => ok_assign (ksv (j := 5) (hK 23 rfl) rfl rfl rfl)) .nil))))))))) ?zok4 ?zgd4 ?zk4
 case z4_1 => intro a' w' hE hK hg; have c_ := ok_colletlaw43_Case_made (x_0 := (colletlaw43_Case.mk x_0.Claims (Int.tmod x_0.Cells 2) x_0.Sights)) (OkO.ext hB.ok hE) ⟨_, ⟨_, _, rfl, (rel_ofF (r := (rSl (rSl (rInt .i64)))) (GR.v_ext _ f2 hE) rfl rfl), ⟨_, _, rfl, rfl, ⟨_, _, rfl, (rel_ofF (r := (rSl (rInt .i64))) (GR.v_ext _ f4 hE) rfl rfl), rfl⟩⟩⟩, rfl⟩ hx12; exact ok_weak (ok_call2 fn9 (ksv (j := 0) (hK 19 rfl) rfl rfl rfl) rfl c_) (fun _ _ _ ⟨a_, b_, d_, e0_, h0_, h1_, h2_⟩ => ⟨a_, b_, d_, e0_, (fun h => (OwnR.val h (fun g hg => (OkO.ext hB.ok hE) g (OwnR.ge h g hg).1))) h0_, h1_, h2_⟩)
 case zok4 | zgd4 => kernel_rfl
 intro a5 w5 hA hE HF
 replace q3 := kn (HF 3) rfl q3
 have f14 := ksp (HF 4) rfl rfl rfl
 obtain ⟨u13, q4'⟩ : ∃ u, a5.get 4 = u := ⟨_, rfl⟩
 rw [q4'] at f14
 have q4 := q4'; clear q4'
 have f16 := ksp (HF 5) rfl rfl rfl
 obtain ⟨u15, q5'⟩ : ∃ u, a5.get 5 = u := ⟨_, rfl⟩
 rw [q5'] at f16
 have q5 := q5'; clear q5'
 have q6 := ksv (HF 6) rfl rfl rfl
 clear q1
 clear HF
 replace f11 := f11.ext hE
 replace f2 := GR.v_ext _ f2 hE
 replace f4 := GR.v_ext _ f4 hE
 replace hB := Base.step hB hE hO; clear hE
 refine li_nil (nx_then (wp_seq ?_))
 obtain ⟨x17, hx17, h⟩ := Comp.run_bind h
 refine' regionT [_, _, _] hA (.cons (fun _ _ hE hK hg => ok_move (kn (hK 4 rfl) rfl q4)) (.cons (fun _ _ hE hK hg => okl_len (r := r_api_Claim) ty27 (ksv (j := 0) (hK 24 rfl) rfl rfl rfl) (rd_of (GR.v_ext _ f14 hE))) (.cons (fun _ _ hE hK hg => okl_shl rfl (ksv (j := 1) (hK 25 rfl) rfl rfl rfl) (run_nonneg hx17)) .nil))) ?zok5 ?zgd5 ?zk5
 case zok5 | zgd5 => kernel_rfl
 intro a6 w6 hA hE HF
 replace q3 := kn (HF 3) rfl q3
 replace q4 := kn (HF 4) rfl q4
 replace q5 := kn (HF 5) rfl q5
 replace q6 := kn (HF 6) rfl q6
 have q26 := ksv (HF 26) rfl rfl rfl
 clear HF
 replace f14 := GR.v_ext _ f14 hE
 replace f16 := GR.v_ext _ f16 hE
 replace hB := Base.step hB hE hO; clear hE
 obtain ⟨x18, hx18, h⟩ := Comp.run_bind h
 refine l_ok (φ := SP.ownr rBool 4 w6.heap.size O7 x18) hO hB (by exact okl_make (r := rBool) (B := w6.heap.size) rfl ty47 ty4 (by decide) rfl (Nat.le_refl _) q26 q26 (fun _ _ => rBool_v.2 rfl) hx18) rfl fun u19 w7 hE hB' f20 => ?_
 clear hB'; obtain ⟨O21, hB', hX, f22⟩ := ownNew hO hB hE f20 rfl 2 (by decide)
 clear hB f20; have hB := hB'; clear hB'
 replace f14 := GR.kx _ f14 hX (by decide)
 replace f16 := GR.kx _ f16 hX (by decide)
 clear hX hE
 refine put_cont hA (by decide) fun a8 hA q_ hfr => ?_
 replace q3 := (hfr 3 rfl).trans q3
 replace q4 := (hfr 4 rfl).trans q4
 replace q5 := (hfr 5 rfl).trans q5
 replace q6 := (hfr 6 rfl).trans q6
 replace q26 := (hfr 26 rfl).trans q26
 have q27 := q_; clear q_ hfr
 refine l_ok (φ := SP.isv (u19)) hO hB (by exact ok_assign q27) rfl fun u_ w9 hE hB' hv_ => ?_
 replace hv_ := Eq.symm hv_; subst hv_; clear hB; have hB := hB'; clear hB'
 replace f14 := GR.v_ext _ f14 hE
 replace f16 := GR.v_ext _ f16 hE
 replace f22 := f22.ext hE
 clear hE
 refine put_cont hA (by decide) fun a10 hA q_ hfr => ?_
 replace q3 := (hfr 3 rfl).trans q3
 replace q4 := (hfr 4 rfl).trans q4
 replace q5 := (hfr 5 rfl).trans q5
 replace q6 := (hfr 6 rfl).trans q6
 replace q27 := (hfr 27 rfl).trans q27
 have q7 := q_; clear q_ hfr
 refine li_nil (nx_then (wp_seq ?_))
 refine' region [_] mixed hA (.cons (fun _ _ hE hK hg => ok_assign rfl) .nil) ?zok6 ?zgd6 ?zk6
 case zok6 | zgd6 => kernel_rfl
 intro a11 w11 hA hE HF
 replace q3 := kn (HF 3) rfl q3
 replace q4 := kn (HF 4) rfl q4
 replace q5 := kn (HF 5) rfl q5
 replace q6 := kn (HF 6) rfl q6
 replace q7 := kn (HF 7) rfl q7
 have q8 := ksv (HF 8) rfl rfl rfl
 clear HF
 replace f14 := GR.v_ext _ f14 hE
 replace f16 := GR.v_ext _ f16 hE
 replace f22 := f22.ext hE
 replace hB := Base.step hB hE hO; clear hE
 refine li_nil (nx_then ?_)
 refine seq_join (fun a w => ∃ (O74 : Tags) (x69 : List Bool) (u70 : Value), a.fit 80 ∧ Base (Fr w0) O w0 O74 w ∧ a.get 3 = .bool x10 ∧ a.get 4 = u13 ∧ (rSl r_api_Claim).v O74 w u13 x12.1 ∧ a.get 5 = u15 ∧ (rSl r_api_Sight).v O74 w u15 x12.2.1 ∧ a.get 6 = .int .i64 x12.2.2 ∧ a.get 7 = u70 ∧ (rSl rBool).v O74 w u70 x69 ∧ (colletlaw43_CourtWorlds_j1 x12 x10 x69).run n = some y) ?_ ?_
 ·
  refine wp_seq ?_
  refine' regionT [_, _] hA (.cons (fun _ _ hE hK hg => ok_move (kn (hK 4 rfl) rfl q4)) (.cons (fun _ _ hE hK hg => okl_len (r := r_api_Claim) ty27 (ksv (j := 0) (hK 28 rfl) rfl rfl rfl) (rd_of (GR.v_ext _ f14 hE))) .nil)) ?zok7 ?zgd7 ?zk7
  case zok7 | zgd7 => kernel_rfl
  intro a12 w12 hA hE HF
  replace q3 := kn (HF 3) rfl q3
  replace q4 := kn (HF 4) rfl q4
  replace q5 := kn (HF 5) rfl q5
  replace q6 := kn (HF 6) rfl q6
  replace q7 := kn (HF 7) rfl q7
  replace q8 := kn (HF 8) rfl q8
  have q29 := ksv (HF 29) rfl rfl rfl
  clear HF
  replace f14 := GR.v_ext _ f14 hE
  replace f16 := GR.v_ext _ f16 hE
  replace f22 := f22.ext hE
  replace hB := Base.step hB hE hO; clear hE
  obtain ⟨x23, hx23, h⟩ := Comp.run_bind h
  refine l_ok (φ := SP.ownr (rInt .i64) 3 w12.heap.size O21 x23) hO hB (by exact okl_make (r := (rInt .i64)) (B := w12.heap.size) rfl ty23 ty3 (by decide) rfl (Nat.le_refl _) q29 q29 (fun _ _ => rInt_v.2 rfl) hx23) rfl fun u24 w13 hE hB' f25 => ?_
  clear hB'; obtain ⟨O26, hB', hX, f27⟩ := ownNew hO hB hE f25 rfl 3 (by decide)
  clear hB f25; have hB := hB'; clear hB'
  replace f14 := GR.kx _ f14 hX (by decide)
  replace f16 := GR.kx _ f16 hX (by decide)
  replace f22 := f22.kx hX (by decide) (by decide)
  clear hX hE
  refine put_cont hA (by decide) fun a14 hA q_ hfr => ?_
  replace q3 := (hfr 3 rfl).trans q3
  replace q4 := (hfr 4 rfl).trans q4
  replace q5 := (hfr 5 rfl).trans q5
  replace q6 := (hfr 6 rfl).trans q6
  replace q7 := (hfr 7 rfl).trans q7
  replace q8 := (hfr 8 rfl).trans q8
  replace q29 := (hfr 29 rfl).trans q29
  have q30 := q_; clear q_ hfr
  refine l_ok (φ := SP.isv (.agg #[.int .i64 0, u24])) hO hB (by refine okl_build (vals := [(1, u24)]) (out := [.int .i64 0, u24]) plc49 ty49 ?_ rfl ?_ rfl; exact (pk_cons (v := u24) q30 pk_nil); exact (.cons rfl (own_cells f27) rfl (leb rfl) .nil)) rfl fun u_ w15 hE hB' hv_ => ?_
  replace hv_ := Eq.symm hv_; subst hv_; clear hB; have hB := hB'; clear hB'
  replace f14 := GR.v_ext _ f14 hE
  replace f16 := GR.v_ext _ f16 hE
  replace f22 := f22.ext hE
  replace f27 := f27.ext hE
  clear hE
  refine put_cont hA (by decide) fun a16 hA q_ hfr => ?_
  replace q3 := (hfr 3 rfl).trans q3
  replace q4 := (hfr 4 rfl).trans q4
  replace q5 := (hfr 5 rfl).trans q5
  replace q6 := (hfr 6 rfl).trans q6
  replace q7 := (hfr 7 rfl).trans q7
  replace q8 := (hfr 8 rfl).trans q8
  replace q30 := (hfr 30 rfl).trans q30
  have q31 := q_; clear q_ hfr
  refine l_ok (φ := SP.box w15.heap.size #[.int .i64 0, .slice none 0 0] 49) hO hB (by exact ok_alloc (Nat.le_refl _) ty49) rfl fun u28 w17 hE hB' f29 => ?_
  clear hB'; obtain ⟨O30, b32, hB', hX, e_, f31⟩ := boxNew hO hB hE f29 4 (by decide)
  subst e_; clear hB f29; have hB := hB'; clear hB'
  replace f14 := GR.kx _ f14 hX (by decide)
  replace f16 := GR.kx _ f16 hX (by decide)
  replace f22 := f22.kx hX (by decide) (by decide)
  replace f27 := f27.kx hX (by decide) (by decide)
  clear hX hE
  refine put_cont hA (by decide) fun a18 hA q_ hfr => ?_
  replace q3 := (hfr 3 rfl).trans q3
  replace q4 := (hfr 4 rfl).trans q4
  replace q5 := (hfr 5 rfl).trans q5
  replace q6 := (hfr 6 rfl).trans q6
  replace q7 := (hfr 7 rfl).trans q7
  replace q8 := (hfr 8 rfl).trans q8
  replace q31 := (hfr 31 rfl).trans q31
  have q9 := q_; clear q_ hfr
  refine l_storeSub (vs := [.int .i64 0, u24]) (cs' := #[.int .i64 0, u24]) hO hB (okB_fr hB) ty49 q9 q31 rfl (by intro c_ hc_; simp only [List.mem_cons, List.not_mem_nil, or_false] at hc_; rcases hc_ with rfl | rfl <;> first | rfl | assumption | exact own_one f27) f31 (by simp) rfl fun w19 f33 hB' hX => ?_
  clear hB f31; have hB := hB'; clear hB'
  replace f14 := GR.kx _ f14 hX (by decide)
  replace f16 := GR.kx _ f16 hX (by decide)
  replace f22 := f22.kx hX (by decide) (by decide)
  replace f27 := f27.kx hX (by decide) (by decide)
  clear hX
  refine li_nil (nx_then (wp_block ?_))
  obtain ⟨O43, hB', hX, f44⟩ := retagL (okB_fr hB) hB f22 5 (by decide) (by decide)
  clear f22 hB; have hB := hB'; clear hB'
  replace f14 := GR.kx _ f14 hX (by decide)
  replace f16 := GR.kx _ f16 hX (by decide)
  replace f33 := f33.kx hX (by decide)
  replace f27 := f27.kx hX (by decide) (by decide)
  clear hX
  obtain ⟨O45, hB', hX, f46⟩ := retagL (okB_fr hB) hB f27 6 (by decide) (by decide)
  clear f27 hB; have hB := hB'; clear hB'
  replace f14 := GR.kx _ f14 hX (by decide)
  replace f16 := GR.kx _ f16 hX (by decide)
  replace f44 := f44.kx hX (by decide) (by decide)
  replace f33 := f33.kx hX (by decide)
  clear hX
  obtain ⟨e2, he2, hk2⟩ := Comp.run_bind h; clear h
  refine loop_m (fun m a w => ∃ (O47 : Tags) (x35 : List Bool) (x38 : Bool) (x39 : Int) (x40 : List Int) (u36 : Value) (u41 : Value) (b34 : Nat), a.fit 80 ∧ Base (Fr w0) O w0 O47 w ∧ a.get 3 = .bool x10 ∧ a.get 4 = u13 ∧ (rSl r_api_Claim).v O47 w u13 x12.1 ∧ a.get 5 = u15 ∧ (rSl r_api_Sight).v O47 w u15 x12.2.1 ∧ a.get 6 = .int .i64 x12.2.2 ∧ a.get 7 = u36 ∧ OwnL 5 rBool 4 (Fr w0) O47 w u36 x35 ∧ a.get 8 = .bool x38 ∧ a.get 9 = .pointer (some ⟨b34, 0, none⟩) ∧ OwnB 4 (Fr w0) O47 w b34 #[.int .i64 x39, u41] 49 ∧ OwnL 6 (rInt .i64) 3 (Fr w0) O47 w u41 x40 ∧ Comp.loopN (fun s => colletlaw43_CourtWorlds_l2 x12 s.1 s.2.1 s.2.2.1 s.2.2.2) n m (x35, x38, x39, x40) = some e2) (m := n) ?st2 ?_
  case st2 =>
   exact ⟨_, _, _, _, _, _, _, _, hA, hB, q3, q4, f14, q5, f16, q6, q7, f44, q8, q9, f33, f46, Comp.run_loop he2⟩
  intro m_ a20 w20 hI
  clear hA hB he2 q3 q4 q5 q6 q7 q8 q9 f14 f16 f33 f44 f46
  obtain ⟨O47, x35, x38, x39, x40, u36, u41, b34, hA, hB, q3, q4, f14, q5, f16, q6, q7, f37, q8, q9, f33, f42, hl⟩ := hI
  obtain ⟨m2, hlt2, st2, h, hnext2, hdone2⟩ := Comp.loopN_succ hl; clear hl
  replace h : (colletlaw43_CourtWorlds_l2 x12 x35 x38 x39 x40).run n = some st2 := h
  unfold colletlaw43_CourtWorlds_l2 at h
  refine wp_seq (wp_seq ?_)
  refine' region [_] mixed hA (.cons (fun _ _ hE hK hg => ok_move (kn (hK 8 rfl) rfl q8)) .nil) ?zok8 ?zgd8 ?zk8
  case zok8 | zgd8 => kernel_rfl
  intro a21 w21 hA hE HF
  replace q3 := kn (HF 3) rfl q3
  replace q4 := kn (HF 4) rfl q4
  replace q5 := kn (HF 5) rfl q5
  replace q6 := kn (HF 6) rfl q6
  replace q7 := kn (HF 7) rfl q7
  replace q9 := kn (HF 9) rfl q9
  have q32 := ksv (HF 32) rfl rfl rfl
  clear q8
  clear HF
  replace f14 := GR.v_ext _ f14 hE
  replace f16 := GR.v_ext _ f16 hE
  replace f37 := f37.ext hE
  replace f33 := f33.ext hE
  replace f42 := f42.ext hE
  replace hB := Base.step hB hE hO; clear hE
  refine li_nil (nx_then ?_)
  refine wp_cond_b q32 (fun hc => ?_) (fun hc => ?_)
  ·
   replace h := Comp.run_b_t hc h; clear hc
   refine wp_skip (nx_then (wp_seq (wp_block ?_)))
   obtain ⟨x48, hx48, h⟩ := Comp.run_bind h
   obtain ⟨x49, hx49, h⟩ := Comp.run_bind h
   refine' regionT [_, SP.isv (.agg #[.int .i64 x39, u41]), _, _, SP.isv (.int .i64 x48), SP.elt (u36) (Int.toNat x48 * 1)] hA (.cons (fun _ _ hE hK hg => ok_move (kn (hK 7 rfl) rfl q7)) (.cons (fun _ _ hE hK hg => ok_loadOwnAgg ty49 rfl (kn (hK 9 rfl) rfl q9) (OwnB.ext f33 hE).own rfl) (.cons (fun _ _ hE hK hg => ok_move (kn (hK 4 rfl) rfl q4)) (.cons (fun _ _ hE hK hg => ok_move (kn (hK 5 rfl) rfl q5)) (.cons ?z9_4 (.cons (fun _ _ hE hK hg => okl_idxOwn rfl ty47 ty4 (ksv (j := 0) (hK 40 rfl) rfl rfl rfl) (OwnL.ext f37 hE) (ksv (j := 4) (hK 44 rfl) rfl rfl rfl) (idx_lt hx49)) .nil)))))) ?zok9 ?zgd9 ?zk9
   case z9_4 => intro a' w' hE hK hg; have c_ := ok_colletlaw43_world_truth (x_0 := (colletlaw43_world.mk x39 x40)) (okO_zero _) ⟨_, ⟨_, _, rfl, rfl, ⟨_, _, rfl, (rel_ofF (r := (rSl (rInt .i64))) (OwnL.lend (OwnL.ext f42 hE)) rfl rfl), rfl⟩⟩, rfl⟩ (GR.lend _ (GR.v_ext _ f14 hE)) (GR.lend _ (GR.v_ext _ f16 hE)) hx48; exact ok_call3 fn25 (ksv (j := 1) (hK 41 rfl) rfl rfl rfl) (ksv (j := 2) (hK 42 rfl) rfl rfl rfl) (ksv (j := 3) (hK 43 rfl) rfl rfl rfl) c_
   case zok9 | zgd9 => kernel_rfl
   intro a22 w22 hA hE HF
   replace q3 := kn (HF 3) rfl q3
   replace q4 := kn (HF 4) rfl q4
   replace q5 := kn (HF 5) rfl q5
   replace q6 := kn (HF 6) rfl q6
   replace q7 := kn (HF 7) rfl q7
   replace q9 := kn (HF 9) rfl q9
   have f51 := ksp (HF 45) rfl rfl rfl
   obtain ⟨u50, q45'⟩ : ∃ u, a22.get 45 = u := ⟨_, rfl⟩
   rw [q45'] at f51
   have q45 := q45'; clear q45'
   clear q32
   clear HF
   replace f14 := GR.v_ext _ f14 hE
   replace f16 := GR.v_ext _ f16 hE
   replace f37 := f37.ext hE
   replace f33 := f33.ext hE
   replace f42 := f42.ext hE
   replace hB := Base.step hB hE hO; clear hE
   obtain ⟨x53, hx53, h⟩ := Comp.run_bind h
   refine l_storeElt (r := rBool) (fun _ => rfl) rfl hO hB (okB_fr hB) ty4 q45 f51 f37 rfl (by exact rBool_v.2 rfl) hx53 (by decide) fun w23 f52 hB' hX => ?_
   clear hB; have hB := hB'; clear hB'
   replace f14 := GR.kx _ f14 hX (by decide)
   replace f16 := GR.kx _ f16 hX (by decide)
   replace f33 := f33.kx hX (by decide)
   replace f42 := f42.kx hX (by decide) (by decide)
   clear hX f37
   refine li_nil (nx_blk (nx_then (wp_seq (wp_seq ?_))))
   refine' region [SP.isv (.agg #[.int .i64 x39, u41])] mixed hA (.cons (fun _ _ hE hK hg => ok_loadOwnAgg ty49 rfl (kn (hK 9 rfl) rfl q9) (OwnB.ext f33 hE).own rfl) .nil) ?zok10 ?zgd10 ?zk10
   case zok10 | zgd10 => kernel_rfl
   intro a24 w24 hA hE HF
   replace q3 := kn (HF 3) rfl q3
   replace q4 := kn (HF 4) rfl q4
   replace q5 := kn (HF 5) rfl q5
   replace q6 := kn (HF 6) rfl q6
   replace q7 := kn (HF 7) rfl q7
   have q46 := ksv (HF 46) rfl rfl rfl
   clear q9
   clear HF
   replace f14 := GR.v_ext _ f14 hE
   replace f16 := GR.v_ext _ f16 hE
   replace f52 := f52.ext hE
   replace f33 := f33.ext hE
   replace f42 := f42.ext hE
   replace hB := Base.step hB hE hO; clear hE
   refine li_nil (nx_then ?_)
   refine' regionT [SP.box w24.heap.size #[.int .i64 0, .slice none 0 0] 49] hA (.cons (fun _ _ hE hK hg => ok_alloc hE.size ty49) .nil) ?zok11 ?zgd11 ?zk11
   case zok11 | zgd11 => kernel_rfl
   intro a25 w25 hA hE HF
   replace q3 := kn (HF 3) rfl q3
   replace q4 := kn (HF 4) rfl q4
   replace q5 := kn (HF 5) rfl q5
   replace q6 := kn (HF 6) rfl q6
   replace q7 := kn (HF 7) rfl q7
   have f55 := ksp (HF 9) rfl rfl rfl
   obtain ⟨u54, q9'⟩ : ∃ u, a25.get 9 = u := ⟨_, rfl⟩
   rw [q9'] at f55
   have q9 := q9'; clear q9'
   replace q46 := kn (HF 46) rfl q46
   clear HF
   obtain ⟨O56, b57, hB', hX, e_, f58⟩ := boxNew hO hB hE f55 4 (by decide)
   subst e_
   clear hB f55; have hB := hB'; clear hB'
   replace f14 := GR.kx _ f14 hX (by decide)
   replace f16 := GR.kx _ f16 hX (by decide)
   replace f52 := f52.kx hX (by decide) (by decide)
   replace f42 := f42.kx hX (by decide) (by decide)
   clear hX hE
   refine l_storeSub (vs := [.int .i64 x39, u41]) (cs' := #[.int .i64 x39, u41]) hO hB (okB_fr hB) ty49 q9 q46 rfl (by intro c_ hc_; simp only [List.mem_cons, List.not_mem_nil, or_false] at hc_; rcases hc_ with rfl | rfl <;> first | rfl | assumption | exact own_one f42) f58 (by simp) rfl fun w26 f59 hB' hX => ?_
   clear hB f58; have hB := hB'; clear hB'
   replace f14 := GR.kx _ f14 hX (by decide)
   replace f16 := GR.kx _ f16 hX (by decide)
   replace f52 := f52.kx hX (by decide) (by decide)
   replace f42 := f42.kx hX (by decide) (by decide)
   clear hX
   refine li_nil (nx_then ?_)
   refine' regionT [SP.isv (.agg #[.int .i64 x39, u41]), _, _] hA (.cons (fun _ _ hE hK hg => ok_loadOwnAgg ty49 rfl (kn (hK 9 rfl) rfl q9) (OwnB.ext f59 hE).own rfl) (.cons (fun _ _ hE hK hg => ok_move (kn (hK 4 rfl) rfl q4)) (.cons (fun _ _ hE hK hg => ok_move (kn (hK 6 rfl) rfl q6)) .nil))) ?zok12 ?zgd12 ?zk12
   case zok12 | zgd12 => kernel_rfl
   intro a27 w27 hA hE HF
   replace q3 := kn (HF 3) rfl q3
   replace q4 := kn (HF 4) rfl q4
   replace q5 := kn (HF 5) rfl q5
   replace q6 := kn (HF 6) rfl q6
   replace q7 := kn (HF 7) rfl q7
   replace q9 := kn (HF 9) rfl q9
   have q34 := ksv (HF 34) rfl rfl rfl
   have q35 := ksv (HF 35) rfl rfl rfl
   have q36 := ksv (HF 36) rfl rfl rfl
   clear HF
   replace f14 := GR.v_ext _ f14 hE
   replace f16 := GR.v_ext _ f16 hE
   replace f52 := f52.ext hE
   replace f59 := f59.ext hE
   replace f42 := f42.ext hE
   replace hB := Base.step hB hE hO; clear hE
   obtain ⟨x60, hx60, h⟩ := Comp.run_bind h
   refine l_io (r := (rInt .i64)) (E := 3) (k := 6) hO hB (okB_fr hB) fn24 (map3 q34 q35 q36) (ok_colletlaw43_world_next (x_0 := (colletlaw43_world.mk x39 x40)) hB.ok (OwnL.argA f42 (by decide)) f14 hx60) f42 (by decide) fun u62 u61 w28 O63 f64 hB' hX hps => ?_
   clear hB; have hB := hB'; clear hB'
   clear f42
   replace f14 := GR.kx _ f14 hX (by decide)
   replace f16 := GR.kx _ f16 hX (by decide)
   replace f52 := f52.kx hX (by decide) (by decide)
   replace f59 := f59.kx hX (by decide)
   clear hX
   have f65 : ∀ w_, (SP.tup2 (SP.isv (.agg #[.int .i64 x60.1.material_, u61])) (SP.isv (.bool x60.2))).holds w_ u62 := fun _ => ⟨_, _, hps, rfl, rfl⟩; clear hps
   refine put_cont hA (by decide) fun a29 hA q_ hfr => ?_
   replace q3 := (hfr 3 rfl).trans q3
   replace q4 := (hfr 4 rfl).trans q4
   replace q5 := (hfr 5 rfl).trans q5
   replace q6 := (hfr 6 rfl).trans q6
   replace q7 := (hfr 7 rfl).trans q7
   replace q9 := (hfr 9 rfl).trans q9
   replace q34 := (hfr 34 rfl).trans q34
   replace q35 := (hfr 35 rfl).trans q35
   replace q36 := (hfr 36 rfl).trans q36
   have q37 := q_; clear q_ hfr
   refine l_ok (φ := SP.isv (u62)) hO hB (by exact ok_move q37) rfl fun u_ w30 hE hB' hv_ => ?_
   replace hv_ := Eq.symm hv_; subst hv_; clear hB; have hB := hB'; clear hB'
   replace f14 := GR.v_ext _ f14 hE
   replace f16 := GR.v_ext _ f16 hE
   replace f52 := f52.ext hE
   replace f64 := f64.ext hE
   replace f59 := f59.ext hE
   clear hE
   refine put_cont hA (by decide) fun a31 hA q_ hfr => ?_
   replace q3 := (hfr 3 rfl).trans q3
   replace q4 := (hfr 4 rfl).trans q4
   replace q5 := (hfr 5 rfl).trans q5
   replace q6 := (hfr 6 rfl).trans q6
   replace q7 := (hfr 7 rfl).trans q7
   replace q9 := (hfr 9 rfl).trans q9
   replace q37 := (hfr 37 rfl).trans q37
   have q33 := q_; clear q_ hfr
   refine l_ok (φ := SP.isv (.agg #[.int .i64 x60.1.material_, u61])) hO hB (by exact okl_ext0 (by rw [show a31.eval (.tmp 33) = _ from q33]; exact (f65 _))) rfl fun u_ w32 hE hB' hv_ => ?_
   replace hv_ := Eq.symm hv_; subst hv_; clear hB; have hB := hB'; clear hB'
   replace f14 := GR.v_ext _ f14 hE
   replace f16 := GR.v_ext _ f16 hE
   replace f52 := f52.ext hE
   replace f64 := f64.ext hE
   replace f59 := f59.ext hE
   clear hE
   refine put_cont hA (by decide) fun a33 hA q_ hfr => ?_
   replace q3 := (hfr 3 rfl).trans q3
   replace q4 := (hfr 4 rfl).trans q4
   replace q5 := (hfr 5 rfl).trans q5
   replace q6 := (hfr 6 rfl).trans q6
   replace q7 := (hfr 7 rfl).trans q7
   replace q9 := (hfr 9 rfl).trans q9
   replace q33 := (hfr 33 rfl).trans q33
   have q38 := q_; clear q_ hfr
   refine l_ok (φ := SP.isv (.bool x60.2)) hO hB (by exact okl_ext1 (by rw [show a33.eval (.tmp 33) = _ from q33]; exact (f65 _))) rfl fun u_ w34 hE hB' hv_ => ?_
   replace hv_ := Eq.symm hv_; subst hv_; clear hB; have hB := hB'; clear hB'
   replace f14 := GR.v_ext _ f14 hE
   replace f16 := GR.v_ext _ f16 hE
   replace f52 := f52.ext hE
   replace f64 := f64.ext hE
   replace f59 := f59.ext hE
   clear hE
   refine put_cont hA (by decide) fun a35 hA q_ hfr => ?_
   replace q3 := (hfr 3 rfl).trans q3
   replace q4 := (hfr 4 rfl).trans q4
   replace q5 := (hfr 5 rfl).trans q5
   replace q6 := (hfr 6 rfl).trans q6
   replace q7 := (hfr 7 rfl).trans q7
   replace q9 := (hfr 9 rfl).trans q9
   replace q33 := (hfr 33 rfl).trans q33
   replace q38 := (hfr 38 rfl).trans q38
   have q39 := q_; clear q_ hfr
   refine l_storeSub (vs := [.int .i64 x60.1.material_, u61]) (cs' := #[.int .i64 x60.1.material_, u61]) hO hB (okB_fr hB) ty49 q9 q38 rfl (by intro c_ hc_; simp only [List.mem_cons, List.not_mem_nil, or_false] at hc_; rcases hc_ with rfl | rfl <;> first | rfl | assumption | exact own_one f64) f59 (by simp) rfl fun w36 f66 hB' hX => ?_
   clear hB f59; have hB := hB'; clear hB'
   replace f14 := GR.kx _ f14 hX (by decide)
   replace f16 := GR.kx _ f16 hX (by decide)
   replace f52 := f52.kx hX (by decide) (by decide)
   replace f64 := f64.kx hX (by decide) (by decide)
   clear hX
   refine l_ok (φ := SP.isv (.bool x60.2)) hO hB (by exact ok_assign q39) rfl fun u_ w37 hE hB' hv_ => ?_
   replace hv_ := Eq.symm hv_; subst hv_; clear hB; have hB := hB'; clear hB'
   replace f14 := GR.v_ext _ f14 hE
   replace f16 := GR.v_ext _ f16 hE
   replace f52 := f52.ext hE
   replace f66 := f66.ext hE
   replace f64 := f64.ext hE
   clear hE
   refine put_cont hA (by decide) fun a38 hA q_ hfr => ?_
   replace q3 := (hfr 3 rfl).trans q3
   replace q4 := (hfr 4 rfl).trans q4
   replace q5 := (hfr 5 rfl).trans q5
   replace q6 := (hfr 6 rfl).trans q6
   replace q7 := (hfr 7 rfl).trans q7
   replace q9 := (hfr 9 rfl).trans q9
   replace q39 := (hfr 39 rfl).trans q39
   have q8 := q_; clear q_ hfr
   refine li_nil (nx_then ?_)
   have h := hnext2 _ (Comp.run_pure h).symm
   refine ⟨m2, hlt2, ?_⟩
   exact ⟨_, _, _, _, _, _, _, _, hA, hB, q3, q4, f14, q5, f16, q6, q7, f52, q8, q9, f66, f64, h⟩
  ·
   replace h := Comp.run_b_f hc h; clear hc
   refine wp_exit (ex_then (ex_then (ex_same ?_)))
   have hd_ := hdone2 _ (Comp.run_pure h).symm; clear h
   subst hd_; have h := hk2; clear hk2; try dsimp only at h
   refine nx_then ?_
   obtain ⟨O72, hB', hX, f73⟩ := freezeL hO hB f37 (by decide)
   clear f37 hB; have hB := hB'; clear hB'
   replace f14 := GR.kx _ f14 hX (by decide)
   replace f16 := GR.kx _ f16 hX (by decide)
   replace f33 := f33.kx hX (by decide)
   replace f42 := f42.kx hX (by decide) (by decide)
   clear hX
   exact ⟨_, _, _, hA, hB, q3, q4, f14, q5, f16, q6, q7, f73, h⟩
 intro a39 w39 hI
 clear hA hB h q3 q4 q5 q6 q7 q8 f14 f16 f22
 obtain ⟨O74, x69, u70, hA, hB, q3, q4, f14, q5, f16, q6, q7, f71, h⟩ := hI
 unfold colletlaw43_CourtWorlds_j1 at h
 refine seq_join (fun a w => ∃ (O88 : Tags), a.fit 80 ∧ Base (Fr w0) O w0 O88 w ∧ a.get 3 = .bool x10 ∧ (colletlaw43_CourtWorlds_j3 x10 ).run n = some y) ?_ ?_
 ·
  refine wp_seq ?_
  refine' region [_, _, _] mixed hA (.cons (fun _ _ hE hK hg => ok_move (kn (hK 7 rfl) rfl q7)) (.cons (fun _ _ hE hK hg => okl_len (r := rBool) ty47 (ksv (j := 0) (hK 47 rfl) rfl rfl rfl) (rd_of (GR.v_ext _ f71 hE))) (.cons (fun _ _ hE hK hg => ok_move rfl) .nil))) ?zok13 ?zgd13 ?zk13
  case zok13 | zgd13 => kernel_rfl
  intro a40 w40 hA hE HF
  replace q3 := kn (HF 3) rfl q3
  replace q4 := kn (HF 4) rfl q4
  replace q5 := kn (HF 5) rfl q5
  replace q6 := kn (HF 6) rfl q6
  replace q7 := kn (HF 7) rfl q7
  have q48 := ksv (HF 48) rfl rfl rfl
  have q49 := ksv (HF 49) rfl rfl rfl
  clear HF
  replace f14 := GR.v_ext _ f14 hE
  replace f16 := GR.v_ext _ f16 hE
  replace f71 := GR.v_ext _ f71 hE
  replace hB := Base.step hB hE hO; clear hE
  refine li_nil (nx_then (wp_block ?_))
  obtain ⟨e4, he4, hk4⟩ := Comp.run_bind h; clear h
  refine loop_m (fun m a w => ∃ (O76 : Tags) (x75 : Int), a.fit 80 ∧ Base (Fr w0) O w0 O76 w ∧ a.get 3 = .bool x10 ∧ a.get 4 = u13 ∧ (rSl r_api_Claim).v O76 w u13 x12.1 ∧ a.get 5 = u15 ∧ (rSl r_api_Sight).v O76 w u15 x12.2.1 ∧ a.get 6 = .int .i64 x12.2.2 ∧ a.get 7 = u70 ∧ (rSl rBool).v O76 w u70 x69 ∧ a.get 48 = .int .i64 (x69.length : Int) ∧ a.get 49 = .int .i64 x75 ∧ Comp.loopN (fun s => colletlaw43_CourtWorlds_l4 x69 x12 s) n m x75 = some e4) (m := n) ?st4 ?_
  case st4 =>
   exact ⟨_, _, hA, hB, q3, q4, f14, q5, f16, q6, q7, f71, q48, q49, Comp.run_loop he4⟩
  intro m_ a41 w41 hI
  clear hA hB he4 q3 q4 q5 q6 q7 q48 q49 f14 f16 f71
  obtain ⟨O76, x75, hA, hB, q3, q4, f14, q5, f16, q6, q7, f71, q48, q49, hl⟩ := hI
  obtain ⟨m4, hlt4, st4, h, hnext4, hdone4⟩ := Comp.loopN_succ hl; clear hl
  replace h : (colletlaw43_CourtWorlds_l4 x69 x12 x75).run n = some st4 := h
  unfold colletlaw43_CourtWorlds_l4 at h
  refine wp_seq ?_
  refine' region [_] mixed hA (.cons (fun _ _ hE hK hg => ok_lss (kn (hK 49 rfl) rfl q49) (kn (hK 48 rfl) rfl q48)) .nil) ?zok14 ?zgd14 ?zk14
  case zok14 | zgd14 => kernel_rfl
  intro a42 w42 hA hE HF
  replace q3 := kn (HF 3) rfl q3
  replace q4 := kn (HF 4) rfl q4
  replace q5 := kn (HF 5) rfl q5
  replace q6 := kn (HF 6) rfl q6
  replace q7 := kn (HF 7) rfl q7
  replace q48 := kn (HF 48) rfl q48
  replace q49 := kn (HF 49) rfl q49
  have q50 := ksv (HF 50) rfl rfl rfl
  clear HF
  replace f14 := GR.v_ext _ f14 hE
  replace f16 := GR.v_ext _ f16 hE
  replace f71 := GR.v_ext _ f71 hE
  replace hB := Base.step hB hE hO; clear hE
  refine li_nil (nx_then (wp_seq ?_))
  refine wp_cond_b q50 (fun hc => ?_) (fun hc => ?_)
  ·
   replace h := Comp.run_b_t hc h; clear hc
   refine wp_skip (nx_then (wp_seq (wp_block (wp_seq ?_))))
   refine' region [_, _] mixed hA (.cons (fun _ _ hE hK hg => ok_move (kn (hK 49 rfl) rfl q49)) (.cons (fun _ _ hE hK hg => ok_assign (ksv (j := 0) (hK 51 rfl) rfl rfl rfl)) .nil)) ?zok15 ?zgd15 ?zk15
   case zok15 | zgd15 => kernel_rfl
   intro a43 w43 hA hE HF
   replace q3 := kn (HF 3) rfl q3
   replace q4 := kn (HF 4) rfl q4
   replace q5 := kn (HF 5) rfl q5
   replace q6 := kn (HF 6) rfl q6
   replace q7 := kn (HF 7) rfl q7
   have q10 := ksv (HF 10) rfl rfl rfl
   replace q48 := kn (HF 48) rfl q48
   replace q49 := kn (HF 49) rfl q49
   clear q50
   clear HF
   replace f14 := GR.v_ext _ f14 hE
   replace f16 := GR.v_ext _ f16 hE
   replace f71 := GR.v_ext _ f71 hE
   replace hB := Base.step hB hE hO; clear hE
   refine li_nil (nx_then (wp_seq ?_))
   refine' region [_] mixed hA (.cons (fun _ _ hE hK hg => ok_assign rfl) .nil) ?zok16 ?zgd16 ?zk16
   case zok16 | zgd16 => kernel_rfl
   intro a44 w44 hA hE HF
   replace q3 := kn (HF 3) rfl q3
   replace q4 := kn (HF 4) rfl q4
   replace q5 := kn (HF 5) rfl q5
   replace q6 := kn (HF 6) rfl q6
   replace q7 := kn (HF 7) rfl q7
   replace q10 := kn (HF 10) rfl q10
   have q11 := ksv (HF 11) rfl rfl rfl
   replace q48 := kn (HF 48) rfl q48
   replace q49 := kn (HF 49) rfl q49
   clear HF
   replace f14 := GR.v_ext _ f14 hE
   replace f16 := GR.v_ext _ f16 hE
   replace f71 := GR.v_ext _ f71 hE
   replace hB := Base.step hB hE hO; clear hE
   refine li_nil (nx_then ?_)
   refine seq_join (fun a w => ∃ (O85 : Tags) (x84 : Bool), a.fit 80 ∧ Base (Fr w0) O w0 O85 w ∧ a.get 3 = .bool x10 ∧ a.get 4 = u13 ∧ (rSl r_api_Claim).v O85 w u13 x12.1 ∧ a.get 5 = u15 ∧ (rSl r_api_Sight).v O85 w u15 x12.2.1 ∧ a.get 6 = .int .i64 x12.2.2 ∧ a.get 7 = u70 ∧ (rSl rBool).v O85 w u70 x69 ∧ a.get 10 = .int .i64 x75 ∧ a.get 11 = .bool x84 ∧ a.get 48 = .int .i64 (x69.length : Int) ∧ a.get 49 = .int .i64 x75 ∧ (colletlaw43_CourtWorlds_j5 x12 x75 x84).run n = some st4) ?_ ?_
   ·
    refine wp_seq ?_
    refine' region [_, _, _] mixed hA (.cons (fun _ _ hE hK hg => ok_move (kn (hK 7 rfl) rfl q7)) (.cons (fun _ _ hE hK hg => okl_len (r := rBool) ty47 (ksv (j := 0) (hK 52 rfl) rfl rfl rfl) (rd_of (GR.v_ext _ f71 hE))) (.cons (fun _ _ hE hK hg => ok_move rfl) .nil))) ?zok17 ?zgd17 ?zk17
    case zok17 | zgd17 => kernel_rfl
    intro a45 w45 hA hE HF
    replace q3 := kn (HF 3) rfl q3
    replace q4 := kn (HF 4) rfl q4
    replace q5 := kn (HF 5) rfl q5
    replace q6 := kn (HF 6) rfl q6
    replace q7 := kn (HF 7) rfl q7
    replace q10 := kn (HF 10) rfl q10
    replace q11 := kn (HF 11) rfl q11
    replace q48 := kn (HF 48) rfl q48
    replace q49 := kn (HF 49) rfl q49
    have q53 := ksv (HF 53) rfl rfl rfl
    have q54 := ksv (HF 54) rfl rfl rfl
    clear HF
    replace f14 := GR.v_ext _ f14 hE
    replace f16 := GR.v_ext _ f16 hE
    replace f71 := GR.v_ext _ f71 hE
    replace hB := Base.step hB hE hO; clear hE
    refine li_nil (nx_then (wp_block ?_))
    obtain ⟨e6, he6, hk6⟩ := Comp.run_bind h; clear h
    refine loop_m (fun m a w => ∃ (O79 : Tags) (x77 : Bool) (x78 : Int), a.fit 80 ∧ Base (Fr w0) O w0 O79 w ∧ a.get 3 = .bool x10 ∧ a.get 4 = u13 ∧ (rSl r_api_Claim).v O79 w u13 x12.1 ∧ a.get 5 = u15 ∧ (rSl r_api_Sight).v O79 w u15 x12.2.1 ∧ a.get 6 = .int .i64 x12.2.2 ∧ a.get 7 = u70 ∧ (rSl rBool).v O79 w u70 x69 ∧ a.get 10 = .int .i64 x75 ∧ a.get 11 = .bool x77 ∧ a.get 48 = .int .i64 (x69.length : Int) ∧ a.get 49 = .int .i64 x75 ∧ a.get 53 = .int .i64 (x69.length : Int) ∧ a.get 54 = .int .i64 x78 ∧ Comp.loopN (fun s => colletlaw43_CourtWorlds_l6 x69 x75 s.1 s.2) n m (x77, x78) = some e6) (m := n) ?st6 ?_
    case st6 =>
     exact ⟨_, _, _, hA, hB, q3, q4, f14, q5, f16, q6, q7, f71, q10, q11, q48, q49, q53, q54, Comp.run_loop he6⟩
    intro m_ a46 w46 hI
    clear hA hB he6 q3 q4 q5 q6 q7 q10 q11 q48 q49 q53 q54 f14 f16 f71
    obtain ⟨O79, x77, x78, hA, hB, q3, q4, f14, q5, f16, q6, q7, f71, q10, q11, q48, q49, q53, q54, hl⟩ := hI
    obtain ⟨m6, hlt6, st6, h, hnext6, hdone6⟩ := Comp.loopN_succ hl; clear hl
    replace h : (colletlaw43_CourtWorlds_l6 x69 x75 x77 x78).run n = some st6 := h
    unfold colletlaw43_CourtWorlds_l6 at h
    refine wp_seq ?_
    refine' region [_] mixed hA (.cons (fun _ _ hE hK hg => ok_lss (kn (hK 54 rfl) rfl q54) (kn (hK 53 rfl) rfl q53)) .nil) ?zok18 ?zgd18 ?zk18
    case zok18 | zgd18 => kernel_rfl
    intro a47 w47 hA hE HF
    replace q3 := kn (HF 3) rfl q3
    replace q4 := kn (HF 4) rfl q4
    replace q5 := kn (HF 5) rfl q5
    replace q6 := kn (HF 6) rfl q6
    replace q7 := kn (HF 7) rfl q7
    replace q10 := kn (HF 10) rfl q10
    replace q11 := kn (HF 11) rfl q11
    replace q48 := kn (HF 48) rfl q48
    replace q49 := kn (HF 49) rfl q49
    replace q53 := kn (HF 53) rfl q53
    replace q54 := kn (HF 54) rfl q54
    have q55 := ksv (HF 55) rfl rfl rfl
    clear HF
    replace f14 := GR.v_ext _ f14 hE
    replace f16 := GR.v_ext _ f16 hE
    replace f71 := GR.v_ext _ f71 hE
    replace hB := Base.step hB hE hO; clear hE
    refine li_nil (nx_then (wp_seq ?_))
    refine wp_cond_b q55 (fun hc => ?_) (fun hc => ?_)
    ·
     replace h := Comp.run_b_t hc h; clear hc
     refine wp_skip (nx_then (wp_seq (wp_block (wp_seq ?_))))
     refine' region [_, _] mixed hA (.cons (fun _ _ hE hK hg => ok_move (kn (hK 54 rfl) rfl q54)) (.cons (fun _ _ hE hK hg => ok_assign (ksv (j := 0) (hK 56 rfl) rfl rfl rfl)) .nil)) ?zok19 ?zgd19 ?zk19
     case zok19 | zgd19 => kernel_rfl
     intro a48 w48 hA hE HF
     replace q3 := kn (HF 3) rfl q3
     replace q4 := kn (HF 4) rfl q4
     replace q5 := kn (HF 5) rfl q5
     replace q6 := kn (HF 6) rfl q6
     replace q7 := kn (HF 7) rfl q7
     replace q10 := kn (HF 10) rfl q10
     replace q11 := kn (HF 11) rfl q11
     have q12 := ksv (HF 12) rfl rfl rfl
     replace q48 := kn (HF 48) rfl q48
     replace q49 := kn (HF 49) rfl q49
     replace q53 := kn (HF 53) rfl q53
     replace q54 := kn (HF 54) rfl q54
     clear q55
     clear HF
     replace f14 := GR.v_ext _ f14 hE
     replace f16 := GR.v_ext _ f16 hE
     replace f71 := GR.v_ext _ f71 hE
     replace hB := Base.step hB hE hO; clear hE
     refine li_nil (nx_then ?_)
     obtain ⟨x80, hx80, h⟩ := Comp.run_bind h
     refine' region [_, _, _, _, SP.ptr rBool O79 x80, SP.isv (.bool x80), _, _, _, _, _, _, _, _] mixed hA (.cons (fun _ _ hE hK hg => ok_move (kn (hK 11 rfl) rfl q11)) (.cons (fun _ _ hE hK hg => ok_move (ksv (j := 0) (hK 57 rfl) rfl rfl rfl)) (.cons (fun _ _ hE hK hg => ok_move (kn (hK 7 rfl) rfl q7)) (.cons (fun _ _ hE hK hg => ok_move (kn (hK 12 rfl) rfl q12)) (.cons ?z20_4 (.cons ?z20_5 (.cons ?z20_6 (.cons (fun _ _ hE hK hg => ok_move (kn (hK 10 rfl) rfl q10)) (.cons (fun _ _ hE hK hg => ok_move (kn (hK 12 rfl) rfl q12)) (.cons ?z20_9 (.cons ?z20_10 (.cons ?z20_11 (.cons ?z20_12 (.cons (fun _ _ hE hK hg => ok_assign (ksv (j := 12) (hK 69 rfl) rfl rfl rfl)) .nil)))))))))))))) ?zok20 ?zgd20 ?zk20
     case z20_4 => intro a' w' hE hK hg; exact okl_idx (r := rBool) (O := O79) ty47 ty4 rfl (ksv (j := 2) (hK 59 rfl) rfl rfl hg) (rd_of (GR.v_ext _ f71 hE)) (ksv (j := 3) (hK 60 rfl) rfl rfl hg) (run_gdb hx80 hg)
     case z20_5 => intro a' w' hE hK hg; exact okl_ldr rBool (fun _ => rfl) ty4 rfl rfl rfl (kspS (φ := SP.ptr rBool O79 x80) (j := 4) (hK 61 rfl) rfl rfl hg) (fun _ _ _ h => rBool_v.1 h)
     case z20_6 => intro a' w' hE hK hg; exact ok_move (ksv (j := 5) (hK 62 rfl) rfl rfl hg)
     case z20_9 => intro a' w' hE hK hg; exact okb_andNot (ksv (j := 7) (hK 64 rfl) rfl rfl hg) (ksv (j := 8) (hK 65 rfl) rfl rfl hg)
     case z20_10 => intro a' w' hE hK hg; exact ok_eqlI (ksv (j := 9) (hK 66 rfl) rfl rfl hg) rfl
     case z20_11 => intro a' w' hE hK hg; exact ok_pick (ksv (j := 6) (hK 63 rfl) rfl rfl hg) (fun hb => ksv (j := 10) (hK 67 rfl) rfl rfl (act_g1 rfl hg hb)) (fun _ => rfl)
     case z20_12 => intro a' w' hE hK hg; exact ok_pick (ksv (j := 1) (hK 58 rfl) rfl rfl rfl) (fun _ => rfl) (fun hb => ksv (j := 11) (hK 68 rfl) rfl rfl (act_g1 rfl rfl hb))
     case zok20 | zgd20 => kernel_rfl
     intro a49 w49 hA hE HF
     replace q3 := kn (HF 3) rfl q3
     replace q4 := kn (HF 4) rfl q4
     replace q5 := kn (HF 5) rfl q5
     replace q6 := kn (HF 6) rfl q6
     replace q7 := kn (HF 7) rfl q7
     replace q10 := kn (HF 10) rfl q10
     have q11' := ksv (HF 11) rfl rfl rfl
     replace q11 := q11'; clear q11'
     replace q48 := kn (HF 48) rfl q48
     replace q49 := kn (HF 49) rfl q49
     replace q53 := kn (HF 53) rfl q53
     replace q54 := kn (HF 54) rfl q54
     clear q12
     clear HF
     replace f14 := GR.v_ext _ f14 hE
     replace f16 := GR.v_ext _ f16 hE
     replace f71 := GR.v_ext _ f71 hE
     replace hB := Base.step hB hE hO; clear hE
     obtain ⟨x81, hx_, h⟩ := Comp.run_bind h; replace hx_ := Comp.run_pure hx_; rw [hx_] at q11; clear hx_
     refine li_nil (nx_blk (nx_then ?_))
     refine' region [_, _] mixed hA (.cons (fun _ _ hE hK hg => ok_add (kn (hK 54 rfl) rfl q54) rfl) (.cons (fun _ _ hE hK hg => ok_move (ksv (j := 0) (hK 70 rfl) rfl rfl rfl)) .nil)) ?zok21 ?zgd21 ?zk21
     case zok21 | zgd21 => kernel_rfl
     intro a50 w50 hA hE HF
     replace q3 := kn (HF 3) rfl q3
     replace q4 := kn (HF 4) rfl q4
     replace q5 := kn (HF 5) rfl q5
     replace q6 := kn (HF 6) rfl q6
     replace q7 := kn (HF 7) rfl q7
     replace q10 := kn (HF 10) rfl q10
     replace q11 := kn (HF 11) rfl q11
     replace q48 := kn (HF 48) rfl q48
     replace q49 := kn (HF 49) rfl q49
     replace q53 := kn (HF 53) rfl q53
     have q54' := ksv (HF 54) rfl rfl rfl
     replace q54 := q54'; clear q54'
     clear HF
     replace f14 := GR.v_ext _ f14 hE
     replace f16 := GR.v_ext _ f16 hE
     replace f71 := GR.v_ext _ f71 hE
     replace hB := Base.step hB hE hO; clear hE
     refine li_nil (nx_then ?_)
     have h := hnext6 _ (Comp.run_pure h).symm
     refine ⟨m6, hlt6, ?_⟩
     exact ⟨_, _, _, hA, hB, q3, q4, f14, q5, f16, q6, q7, f71, q10, q11, q48, q49, q53, q54, h⟩
    ·
     replace h := Comp.run_b_f hc h; clear hc
     refine wp_exit (ex_then (ex_then (ex_same ?_)))
     have hd_ := hdone6 _ (Comp.run_pure h).symm; clear h
     subst hd_; have h := hk6; clear hk6; try dsimp only at h
     refine nx_then ?_
     exact ⟨_, _, hA, hB, q3, q4, f14, q5, f16, q6, q7, f71, q10, q11, q48, q49, h⟩
   intro a51 w51 hI
   clear hA hB h q3 q4 q5 q6 q7 q10 q11 q48 q49 f14 f16 f71
   obtain ⟨O85, x84, hA, hB, q3, q4, f14, q5, f16, q6, q7, f71, q10, q11, q48, q49, h⟩ := hI
   unfold colletlaw43_CourtWorlds_j5 at h
   refine wp_seq ?_
   obtain ⟨x86, hx86, h⟩ := Comp.run_bind h
   refine' region [_, _, _, _, SP.isv (.bool x86), _, _] mixed hA (.cons (fun _ _ hE hK hg => ok_move (kn (hK 4 rfl) rfl q4)) (.cons (fun _ _ hE hK hg => ok_move (kn (hK 5 rfl) rfl q5)) (.cons (fun _ _ hE hK hg => ok_move (kn (hK 6 rfl) rfl q6)) (.cons (fun _ _ hE hK hg => ok_move (kn (hK 10 rfl) rfl q10)) (.cons ?z22_4 (.cons (fun _ _ hE hK hg => ok_move (kn (hK 11 rfl) rfl q11)) (.cons (fun _ _ hE hK hg => ok_neqB ty4 (ksv (j := 4) (hK 75 rfl) rfl rfl rfl) (ksv (j := 5) (hK 76 rfl) rfl rfl rfl)) .nil))))))) ?zok22 ?zgd22 ?zk22
   case z22_4 => intro a' w' hE hK hg; have c_ := ok_court_Agrees (OkO.ext hB.ok hE) (GR.v_ext _ f14 hE) (GR.v_ext _ f16 hE) hx86; exact ok_call4 fn15 (ksv (j := 0) (hK 71 rfl) rfl rfl rfl) (ksv (j := 1) (hK 72 rfl) rfl rfl rfl) (ksv (j := 2) (hK 73 rfl) rfl rfl rfl) (ksv (j := 3) (hK 74 rfl) rfl rfl rfl) c_
   case zok22 | zgd22 => kernel_rfl
   intro a52 w52 hA hE HF
   replace q3 := kn (HF 3) rfl q3
   replace q4 := kn (HF 4) rfl q4
   replace q5 := kn (HF 5) rfl q5
   replace q6 := kn (HF 6) rfl q6
   replace q7 := kn (HF 7) rfl q7
   replace q48 := kn (HF 48) rfl q48
   replace q49 := kn (HF 49) rfl q49
   have q77 := ksv (HF 77) rfl rfl rfl
   clear q10
   clear q11
   clear HF
   replace f14 := GR.v_ext _ f14 hE
   replace f16 := GR.v_ext _ f16 hE
   replace f71 := GR.v_ext _ f71 hE
   replace hB := Base.step hB hE hO; clear hE
   refine li_nil (nx_then ?_)
   refine wp_cond_b q77 (fun hc => ?_) (fun hc => ?_)
   ·
    replace h := Comp.run_b_t hc h; clear hc
    refine wp_seq ?_
    refine' region [_] mixed hA (.cons (fun _ _ hE hK hg => ok_assign rfl) .nil) ?zok23 ?zgd23 ?zk23
    case zok23 | zgd23 => kernel_rfl
    intro a53 w53 hA hE HF
    have q2 := ksv (HF 2) rfl rfl rfl
    clear q3
    clear q4
    clear q5
    clear q6
    clear q7
    clear q48
    clear q49
    clear q77
    clear HF
    replace f14 := GR.v_ext _ f14 hE
    replace f16 := GR.v_ext _ f16 hE
    replace f71 := GR.v_ext _ f71 hE
    replace hB := Base.step hB hE hO; clear hE
    refine li_nil (nx_then (wp_ret (rt_blk (rt_then (rt_then (rt_blk (rt_then ?_)))))))
    have hd_ := hdone4 _ (Comp.run_pure h).symm; clear h
    subst hd_; have h := hk4; clear hk4; try dsimp only at h
    have h := Comp.run_pure h; subst h
    exact retPure Try.results4 hA q2 hB.ext rfl
   ·
    replace h := Comp.run_b_f hc h; clear hc
    refine wp_skip (nx_blk (nx_then ?_))
    refine' region [_, _] mixed hA (.cons (fun _ _ hE hK hg => ok_add (kn (hK 49 rfl) rfl q49) rfl) (.cons (fun _ _ hE hK hg => ok_move (ksv (j := 0) (hK 78 rfl) rfl rfl rfl)) .nil)) ?zok24 ?zgd24 ?zk24
    case zok24 | zgd24 => kernel_rfl
    intro a54 w54 hA hE HF
    replace q3 := kn (HF 3) rfl q3
    replace q4 := kn (HF 4) rfl q4
    replace q5 := kn (HF 5) rfl q5
    replace q6 := kn (HF 6) rfl q6
    replace q7 := kn (HF 7) rfl q7
    replace q48 := kn (HF 48) rfl q48
    have q49' := ksv (HF 49) rfl rfl rfl
    replace q49 := q49'; clear q49'
    clear q77
    clear HF
    replace f14 := GR.v_ext _ f14 hE
    replace f16 := GR.v_ext _ f16 hE
    replace f71 := GR.v_ext _ f71 hE
    replace hB := Base.step hB hE hO; clear hE
    refine li_nil (nx_then ?_)
    have h := hnext4 _ (Comp.run_pure h).symm
    refine ⟨m4, hlt4, ?_⟩
    exact ⟨_, _, hA, hB, q3, q4, f14, q5, f16, q6, q7, f71, q48, q49, h⟩
  ·
   replace h := Comp.run_b_f hc h; clear hc
   refine wp_exit (ex_then (ex_then (ex_same ?_)))
   have hd_ := hdone4 _ (Comp.run_pure h).symm; clear h
   subst hd_; have h := hk4; clear hk4; try dsimp only at h
   refine nx_then ?_
   exact ⟨_, hA, hB, q3, h⟩
 intro a55 w55 hI
 clear hA hB h q3 q4 q5 q6 q7 f14 f16 f71
 obtain ⟨O88, hA, hB, q3, h⟩ := hI
 unfold colletlaw43_CourtWorlds_j3 at h
 refine wp_seq ?_
 refine' region [_, _] mixed hA (.cons (fun _ _ hE hK hg => ok_move (kn (hK 3 rfl) rfl q3)) (.cons (fun _ _ hE hK hg => ok_assign (ksv (j := 0) (hK 79 rfl) rfl rfl rfl)) .nil)) ?zok25 ?zgd25 ?zk25
 case zok25 | zgd25 => kernel_rfl
 intro a56 w56 hA hE HF
 have q2 := ksv (HF 2) rfl rfl rfl
 clear q3
 clear HF
 replace hB := Base.step hB hE hO; clear hE
 refine li_nil (nx_then (wp_ret ?_))
 have h := Comp.run_pure h; subst h
 exact retPure Try.results4 hA q2 hB.ext rfl
end Go.Proofs.Ytebmpjdegajhgaa
end
section
set_option linter.unusedVariables false
set_option linter.unusedSimpArgs false
section
set_option linter.unusedVariables false
set_option linter.unusedSimpArgs false
namespace Go.Cor
open Go Go.Lift
theorem bits64 : IntKind.bits .i64 = 64 := rfl
theorem wrap_nat {n : Nat} (h : n < 9223372036854775808) : IntKind.wrap .i64 (n : Int) = (n : Int) := IntWalk.i64_in _ ⟨by omega, by omega⟩
theorem ofInt_nat (a : Nat) : BitVec.ofInt 64 (a : Int) = BitVec.ofNat 64 a := by simp
theorem andB_nat {a b : Nat} (ha : a < 9223372036854775808) (hb : b < 9223372036854775808) : andB .i64 (a : Int) (b : Int) = ((a &&& b : Nat) : Int) := by
 unfold andB
 rw [bits64, ofInt_nat, ofInt_nat, BitVec.toNat_and, BitVec.toNat_ofNat, BitVec.toNat_ofNat, Nat.mod_eq_of_lt (by omega), Nat.mod_eq_of_lt (by omega)]
 exact wrap_nat (Nat.lt_of_le_of_lt Nat.and_le_left ha)
theorem orB_nat {a b : Nat} (ha : a < 4611686018427387904) (hb : b < 4611686018427387904) : orB .i64 (a : Int) (b : Int) = ((a ||| b : Nat) : Int) := by
 unfold orB
 rw [bits64, ofInt_nat, ofInt_nat, BitVec.toNat_or, BitVec.toNat_ofNat, BitVec.toNat_ofNat, Nat.mod_eq_of_lt (by omega), Nat.mod_eq_of_lt (by omega)]
 have : a ||| b < 2 ^ 62 := Nat.or_lt_two_pow (by omega) (by omega)
 exact wrap_nat (by omega)
def without (a b : Nat) : Nat := a ^^^ (a &&& b)
theorem testBit_without (a b i : Nat) : (without a b).testBit i = (a.testBit i && !b.testBit i) := by
 unfold without
 rw [Nat.testBit_xor, Nat.testBit_and]
 cases a.testBit i <;> cases b.testBit i <;> rfl
theorem andNotB_nat {a b : Nat} (ha : a < 9223372036854775808) (hb : b < 9223372036854775808) : andNotB .i64 (a : Int) (b : Int) = ((without a b : Nat) : Int) := by
 unfold andNotB
 rw [bits64, ofInt_nat, ofInt_nat]
 have h : (BitVec.ofNat 64 a &&& ~~~ BitVec.ofNat 64 b).toNat = without a b := by
  refine Nat.eq_of_testBit_eq fun i => ?_
  rw [testBit_without]
  by_cases hi : i < 64
  ·rw [BitVec.testBit_toNat, BitVec.getLsbD_and, BitVec.getLsbD_not, BitVec.getLsbD_ofNat, BitVec.getLsbD_ofNat]
   simp [hi]
  ·rw [BitVec.testBit_toNat, BitVec.getLsbD_of_ge _ _ (by omega)]
   rw [Nat.testBit_lt_two_pow (x := a) (i := i)]
   ·rfl
   ·exact Nat.lt_of_lt_of_le (by omega : a < 2 ^ 64) (Nat.pow_le_pow_right (by omega) (by omega))
 rw [h]
 refine wrap_nat (Nat.lt_of_le_of_lt (Nat.le_of_testBit ?_) ha) 
 intro i hi; rw [testBit_without] at hi; simp at hi; exact hi.1
theorem shrF_nat {a k : Nat} (hk : k < 64) : shrF .i64 (a : Int) (k : Int) = ((a >>> k : Nat) : Int) := by
 unfold shrF
 rw [bits64, Int.toNat_natCast, Nat.min_eq_left (by omega), Nat.shiftRight_eq_div_pow]
 rw [Int.fdiv_eq_ediv_of_nonneg _ (by exact Int.le_of_lt (Int.pow_pos (by omega)))]
 simp
theorem shlF_nat {k : Nat} (hk : k < 62) : shlF .i64 1 (k : Int) = ((2 ^ k : Nat) : Int) := by
 unfold shlF
 rw [bits64, Int.toNat_natCast, Nat.min_eq_left (by omega)]
 have : 2 ^ k < 2 ^ 62 := Nat.pow_lt_pow_right (by omega) hk
 have h2 : (1 : Int) * 2 ^ k = ((2 ^ k : Nat) : Int) := by simp
 rw [h2]; exact wrap_nat (by omega)
theorem bit_eq {a k : Nat} (ha : a < 4611686018427387904) (hk : k < 62) : (decide (andB .i64 (shrF .i64 (a : Int) (k : Int)) 1 = 1)) = a.testBit k := by
 rw [shrF_nat (by omega)]
 have h1 : a >>> k ≤ a := Nat.shiftRight_le a k
 have := andB_nat (a := a >>> k) (b := 1) (by omega) (by omega)
 rw [show ((1 : Nat) : Int) = 1 from rfl] at this
 rw [this, Nat.and_one_is_mod, Nat.testBit_eq_decide_div_mod_eq, Nat.shiftRight_eq_div_pow]
 congr 1
 exact propext ⟨fun h => by omega, fun h => by omega⟩
def Sub (b a : Nat) : Prop := ∀ i, b.testBit i = true → a.testBit i = true
theorem Sub.refl (a : Nat) : Sub a a := fun _ h => h
theorem Sub.trans {a b c : Nat} (h : Sub a b) (k : Sub b c) : Sub a c := fun i hi => k i (h i hi)
theorem Sub.le {a b : Nat} (h : Sub a b) : a ≤ b := Nat.le_of_testBit h
def Meets (a b : Nat) : Prop := ∃ i, a.testBit i = true ∧ b.testBit i = true
theorem Meets.mono {a b c d : Nat} (h : Meets a b) (h1 : Sub a c) (h2 : Sub b d) : Meets c d := by
 obtain ⟨i, h3, h4⟩ := h; exact ⟨i, h1 i h3, h2 i h4⟩
def Hits (h : Nat) (L : List Nat) : Prop := ∀ s ∈ L, Meets h s
theorem Hits.mono {g h : Nat} {L : List Nat} (hg : Hits g L) (hs : Sub g h) : Hits h L := fun s hs' => (hg s hs').mono hs (Sub.refl s)
theorem testBit_pow {k i : Nat} : (2 ^ k).testBit i = decide (k = i) := Nat.testBit_two_pow
theorem bit_lt {n s i : Nat} (hs : s < 2 ^ n) (h : s.testBit i = true) : i < n := by
 refine Classical.byContradiction fun hk => ?_
 rw [Nat.testBit_lt_two_pow (Nat.lt_of_lt_of_le hs (Nat.pow_le_pow_right (by omega) (by omega)))] at h
 cases h
end Go.Cor
end
section
set_option linter.unusedVariables false
set_option linter.unusedSimpArgs false
namespace Go.Cor
open Go Go.Lift Go.F
theorem LIM_lt : LIM < 9223372036854775807 := by decide
theorem decide_lt_len {α : Type} {i : Nat} {xs : List α} : (decide ((i : Int) < (xs.length : Int))) = decide (i < xs.length) := by
 congr 1; exact propext ⟨fun h => by omega, fun h => by omega⟩
theorem keeps_iff {d : Array Int} {j : Nat} : Lib.keeps d j = true ↔ j = 0 ∨ d[j]! ≠ d[j - 1]! := by simp [Lib.keeps]
end Go.Cor
end
section
set_option linter.unusedVariables false
set_option linter.unusedSimpArgs false
namespace Go.Cor
open Go Go.Lift Go.F
def up (L : List Nat) : List Int := L.map fun (x : Nat) => (x : Int)
theorem up_len (L : List Nat) : (up L).length = L.length := List.length_map _
theorem mem_up' {L : List Nat} {z : Int} : z ∈ up L ↔ ∃ x : Nat, x ∈ L ∧ z = (x : Int) := by
 unfold up; rw [List.mem_map]
 exact ⟨fun ⟨y, h1, h2⟩ => ⟨y, h1, h2.symm⟩, fun ⟨y, h1, h2⟩ => ⟨y, h1, h2.symm⟩⟩
theorem up_append (a b : List Nat) : up (a ++ b) = up a ++ up b := List.map_append
theorem range_get {n i x : Nat} (h : (List.range n)[i]? = some x) : i < n ∧ x = i := by
 obtain ⟨h1, h2⟩ := List.getElem?_eq_some_iff.1 h
 simp at h1 h2; exact ⟨h1, h2.symm⟩
theorem contains_val {l : List Int} (hl : l.length ≤ LIM) {f : Int → Comp Bool} {p : Int → Bool} (hf : ∀ x ∈ l, (f x).val = some (p x)) : (slices_ContainsFunc_int_int l f).val = some (l.any p) := by
 unfold slices_ContainsFunc_int_int slices_IndexFunc_int_int
 have hL := LIM_lt
 have : ∃ e : Sum Int Unit, (Comp.loop (fun s => slices_IndexFunc_int_int_l2 l f s) 0).val = some e ∧ (l.any p = true → ∃ i : Nat, e = .inl (i : Int)) ∧ (l.any p = false → e = .inr ()) := by
  refine ⟨_, Comp.loop_foldE (σ := Nat) (fun _ i => ((i : Nat) : Int)) l (fun i x => if p x = true then .done (.inl (i : Int)) else .next (i + 1)) (fun _ => (.inr () : Sum Int Unit)) (fun j i => j = i) (body := fun s => slices_IndexFunc_int_int_l2 l f s) ?_ ?_ ?_ 0 rfl, ?_, ?_⟩
  ·intro s i x hx he
   subst he
   have hi := getElem?_len hx
   unfold slices_IndexFunc_int_int_l2
   rw [decide_lt_len, Comp.val_ite, if_pos (by simpa using hi), Comp.val_bind, idx_val hx, Option.bind_some, Comp.val_bind, hf x (List.mem_of_getElem? hx), Option.bind_some, Comp.val_ite]
   by_cases h : p x = true
   ·rw [if_pos h, if_pos h, Comp.val_pure]; rfl
   ·rw [if_neg h, if_neg h, Comp.wrap_succ (by omega)]; simp [Comp.Step.map]
  ·intro s i x s' _ he h
   by_cases hp : p x = true
   ·simp [hp] at h
   ·simp [hp] at h; omega
  ·intro s he
   unfold slices_IndexFunc_int_int_l2
   rw [Comp.val_ite, if_neg (by simp), Comp.val_pure]
  ·intro h
   have : ∀ (l : List Int) (j : Nat), l.any p = true → ∃ i : Nat, Comp.foldE (fun (i : Nat) x => if p x = true then Comp.Step.done (Sum.inl (i : Int)) else Comp.Step.next (i + 1)) (fun _ => (.inr () : Sum Int Unit)) j l = .inl (i : Int) := by
    intro l
    induction l with
    | nil => intro j h; simp at h
    | cons y l ih =>
     intro j h
     simp only [Comp.foldE]
     by_cases hy : p y = true
     ·simp only [hy, if_true]; exact ⟨j, rfl⟩
     ·simp only [hy]; exact ih (j + 1) (by simpa [hy] using h)
   exact this l 0 h
  ·intro h
   have : ∀ (l : List Int) (j : Nat), l.any p = false → Comp.foldE (fun (i : Nat) x => if p x = true then Comp.Step.done (Sum.inl (i : Int)) else Comp.Step.next (i + 1)) (fun _ => (.inr () : Sum Int Unit)) j l = .inr () := by
    intro l
    induction l with
    | nil => intro j h; rfl
    | cons y l ih =>
     intro j h
     simp only [Comp.foldE]
     have h' : p y = false ∧ l.any p = false := by simpa using h
     simp only [h'.1]; exact ih (j + 1) h'.2
   exact this l 0 h
 obtain ⟨e, h1, h2, h3⟩ := this
 rw [Comp.val_bind, Comp.val_bind, h1, Option.bind_some]
 cases ha : l.any p with
 | true => obtain ⟨i, rfl⟩ := h2 ha; simp
 | false => rw [h3 ha]; simp [slices_IndexFunc_int_int_j1]
end Go.Cor
end
section
set_option linter.unusedVariables false
set_option linter.unusedSimpArgs false
namespace Go.Cor
open Go Go.Lift Go.F
theorem wf_u8 {n : Int} (h : (Lit.int .u8 n).wf = true) : ∃ b : Nat, b < 256 ∧ n = (b : Int) := by
 have h2 : 0 ≤ n ∧ n < 256 := by
  simp [Lit.wf, IntKind.min, IntKind.max, IntKind.bits, IntKind.signed] at h
  omega
 exact ⟨n.toNat, by omega, by omega⟩
theorem mod_val {z : Int} {m : Nat} (hm : 0 < m) (hm2 : m ≤ 4611686018427387904) : ∃ k : Nat, k < m ∧ (colletref01_Mod z (m : Int)).val = some (k : Int) := by
 unfold colletref01_Mod
 have h1 : -(m : Int) < z.tmod m ∧ z.tmod m < m := ⟨Int.lt_tmod_of_pos _ (by omega), Int.tmod_lt_of_pos _ (by omega)⟩
 rw [Comp.val_ite, if_neg (by simp; omega), Comp.val_bind, rem_val (by omega), Option.bind_some, Comp.val_bind, rem_val (by omega), Option.bind_some, Comp.val_pure]
 rw [IntWalk.i64_in _ ⟨by omega, by omega⟩]
 have h2 : 0 ≤ z.tmod m + m := by omega
 refine ⟨((z.tmod m + m).tmod m).toNat, ?_, ?_⟩
 ·have h3 := Int.tmod_lt_of_pos (z.tmod m + m) (b := (m : Int)) (by omega)
  have h4 := Int.tmod_nonneg (m : Int) h2
  omega
 ·have h4 := Int.tmod_nonneg (m : Int) h2
  rw [Int.toNat_of_nonneg h4]
end Go.Cor
end
section
set_option linter.unusedVariables false
set_option linter.unusedSimpArgs false
namespace Go.Cor
open Go Go.Lift Go.F
end Go.Cor
end
section
namespace Go.Cor
open Go Go.Lift Go.F
def own (N : Nat) (P : Nat → Bool) : List Bool := (List.range N).map P
theorem any_take {α : Type} {p : α → Bool} {L : List α} {k : Nat} {x : α} (h : L[k]? = some x) : (L.take (k + 1)).any p = ((L.take k).any p || p x) := by
 rw [List.take_add_one, h, List.any_append]; simp
theorem without_le (s t : Nat) : without s t ≤ s := Sub.le fun i hi => by rw [testBit_without] at hi; simp at hi; exact hi.1
end Go.Cor
end
section
namespace Go.Cor
open Go Go.Lift Go.F
end Go.Cor
end
section
namespace Go.Cor
open Go Go.Lift Go.F
def popN : Nat → Nat → Nat
 | 0, _ => 0
 | k + 1, n => n % 2 + popN k (n / 2)
end Go.Cor
end
section
namespace Go.Cor
open Go Go.Lift Go.F
def U (z : Int) : Nat := (z % 18446744073709551616).toNat
def pop (z : Int) : Nat := popN 64 (U z)
def first (b : Int) (l : List Int) : Int := l.foldl (fun b x => if pop x < pop b then x else b) b
end Go.Cor
end
section
set_option linter.unusedVariables false
set_option linter.unusedSimpArgs false
namespace Go.Cor
open Go Go.Lift Go.F
end Go.Cor
end
section
set_option linter.unusedVariables false
set_option linter.unusedSimpArgs false
namespace Go.Cor
open Go Go.Lift Go.F
end Go.Cor
end
section
set_option linter.unusedVariables false
set_option linter.unusedSimpArgs false
namespace Go.Cor
open Go Go.Lift Go.F
end Go.Cor
end
section
set_option linter.unusedVariables false
set_option linter.unusedSimpArgs false
namespace Go.Cor
open Go Go.Lift Go.F
end Go.Cor
end
end
section
set_option linter.unusedVariables false
set_option linter.unusedSimpArgs false
namespace Go.Lift
open Go Go.Eng
variable {α β γ δ ε σ τ : Type}
def Ok (c : Comp α) (P : α → Prop) : Prop := ∃ a, c.val = some a ∧ P a
namespace Ok
theorem of_val {c : Comp α} {a : α} {P : α → Prop} (h : c.val = some a) : Ok c P ↔ P a := by
 constructor
 ·rintro ⟨b, h1, h2⟩; rw [h] at h1; cases h1; exact h2
 ·exact fun hp => ⟨a, h, hp⟩
theorem val {c : Comp α} {a : α} (h : Ok c (fun x => x = a)) : c.val = some a := by
 obtain ⟨b, h1, h2⟩ := h; rw [h1, h2]
theorem mono {c : Comp α} {P Q : α → Prop} (h : Ok c P) (i : ∀ a, P a → Q a) : Ok c Q := by
 obtain ⟨a, h1, h2⟩ := h; exact ⟨a, h1, i a h2⟩
theorem pure {a : α} {P : α → Prop} : Ok (Comp.pure a) P ↔ P a := of_val (Comp.val_pure a)
theorem bind {c : Comp α} {f : α → Comp β} {P : β → Prop} : Ok (c.bind f) P ↔ Ok c fun a => Ok (f a) P := by
 unfold Ok
 rw [Comp.val_bind]
 cases hc : c.val with
 | none => simp
 | some a => simp
theorem ite {p : Prop} [Decidable p] {c d : Comp α} {P : α → Prop} : Ok (if p then c else d) P ↔ if p then Ok c P else Ok d P := by split <;> rfl
theorem ite_i {p : Prop} [Decidable p] {c d : Comp α} {P : α → Prop} (h1 : p → Ok c P) (h2 : ¬ p → Ok d P) : Ok (if p then c else d) P := by
 split
 ·rename_i h; exact h1 h
 ·rename_i h; exact h2 h
theorem gd {g : Bool} {c : Comp α} {d : α} {P : α → Prop} : Ok (Comp.gd g c d) P ↔ if g = true then Ok c P else P d := by
 cases g with
 | true => exact Iff.rfl
 | false => exact pure
theorem idx {xs : List α} {i : Int} {P : α → Prop} {x : α} (h0 : 0 ≤ i) (h : xs[i.toNat]? = some x) : Ok (Lift.idx xs i) P ↔ P x := of_val (idx_val' h0 h)
theorem idxn {xs : List α} {i : Nat} {P : α → Prop} {x : α} (h : xs[i]? = some x) : Ok (Lift.idx xs (i : Int)) P ↔ P x := of_val (idx_val h)
theorem app {xs ys : List α} {P : List α → Prop} (h : xs.length + ys.length ≤ LIM) : Ok (Lift.app xs ys) P ↔ P (xs ++ ys) := of_val (app_val h)
theorem sub {xs : List α} {l h : Int} {P : List α → Prop} (hr : 0 ≤ l ∧ l ≤ h ∧ h ≤ xs.length) : Ok (Lift.sub xs l h) P ↔ P ((xs.take h.toNat).drop l.toNat) := of_val (sub_val hr)
theorem rem {a b : Int} {P : Int → Prop} (h : b ≠ 0) : Ok (Lift.rem a b) P ↔ P (a.tmod b) := of_val (rem_val h)
theorem upd {xs : List α} {i : Int} {x : α} {P : List α → Prop} (h : 0 ≤ i ∧ i < xs.length) : Ok (Lift.upd xs i x) P ↔ P (xs.set i.toNat x) := of_val (upd_val h)
theorem mk {n : Int} {z : α} {P : List α → Prop} (h : 0 ≤ n ∧ n ≤ LIM) : Ok (Lift.mk n z) P ↔ P (List.replicate n.toNat z) := of_val (mk_val h)
theorem nonneg {n : Int} {P : Unit → Prop} (h : 0 ≤ n) : Ok (Lift.nonneg n) P ↔ P () := of_val (nonneg_val h)
theorem loop {body : σ → Comp (Comp.Step σ ε)} (I : σ → Prop) (m : σ → Nat) {P : ε → Prop} {s : σ} (h0 : I s)
  (hb : ∀ s, I s → Ok (body s) fun t => match t with | .next s' => I s' ∧ m s' < m s | .done e => P e) : Ok (Comp.loop body s) P := by
 have key : ∀ k s, m s = k → I s → Ok (Comp.loop body s) P := by
  intro k
  induction k using Nat.strongRecOn with
  | _ k ih =>
   intro s hk hI
   obtain ⟨t, h1, h2⟩ := hb s hI
   cases t with
   | next s' =>
    obtain ⟨e, h3, h4⟩ := ih (m s') (by have := h2.2; omega) s' rfl h2.1
    exact ⟨e, by rw [Comp.val_loop, h1]; exact h3, h4⟩
   | done e => exact ⟨e, by rw [Comp.val_loop, h1]; rfl, h2⟩
 exact key _ s rfl h0
theorem count {body : σ → Comp (Comp.Step σ ε)} (N : Nat) (I : Nat → σ → Prop) {P : ε → Prop} {s : σ} (h0 : I 0 s)
  (hb : ∀ i s, i < N → I i s → Ok (body s) fun t => match t with | .next s' => I (i + 1) s' | .done e => P e)
  (he : ∀ s, I N s → Ok (body s) fun t => match t with | .next _ => False | .done e => P e) : Ok (Comp.loop body s) P := by
 have key : ∀ k i s, i + k = N → I i s → Ok (Comp.loop body s) P := by
  intro k
  induction k with
  | zero =>
   intro i s hi hI
   have : i = N := by omega
   subst this
   obtain ⟨t, h1, h2⟩ := he s hI
   cases t with
   | next _ => exact h2.elim
   | done e => exact ⟨e, by rw [Comp.val_loop, h1]; rfl, h2⟩
  | succ k ih =>
   intro i s hi hI
   obtain ⟨t, h1, h2⟩ := hb i s (by omega) hI
   cases t with
   | next s' =>
    obtain ⟨e, h3, h4⟩ := ih (i + 1) s' (by omega) h2
    exact ⟨e, by rw [Comp.val_loop, h1]; exact h3, h4⟩
   | done e => exact ⟨e, by rw [Comp.val_loop, h1]; rfl, h2⟩
 exact key N 0 s (by omega) h0
end Ok
theorem bif_or (b c : Bool) : (bif b then true else c) = (b || c) := by cases b <;> rfl
theorem bif_and (b c : Bool) : (bif b then c else false) = (b && c) := by cases b <;> rfl
end Go.Lift
end
