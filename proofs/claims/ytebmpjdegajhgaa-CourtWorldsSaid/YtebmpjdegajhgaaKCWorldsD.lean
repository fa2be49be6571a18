/- Lemmas behind a claim of this seat. No statement of the program stands here. -/
import Derived.Test.YtebmpjdegajhgaaKCWorldsC
set_option linter.unusedSimpArgs false
set_option linter.unusedVariables false
section
namespace Go.Proofs.Ytebmpjdegajhgaa
open Go Go.RowKit Go.Eng Go.Lift Go.F
set_option linter.unusedVariables false
set_option linter.unusedSimpArgs false
set_option maxRecDepth 100000
set_option maxHeartbeats 4000000 in
theorem ok_core_Hitting {O : Tags} {w0 : World} (hO : OkO O w0) {v_0 : Value} {x_0 : List Int} (h_0 : (rSl (rInt .i64)).v O w0 v_0 x_0) {x_1 : Int} {n : Nat} {y : ((List Int) × Int)} (h : (core_Hitting x_0 x_1).run n = some y) : Pure Try.prog 43 #[v_0, .int .i64 x_1] w0 (SP.tup2 (SP.ownr (rInt .i64) 3 (w0.heap.size) O y.1) (SP.isv (.int .i64 y.2))).holds := by
 unfold core_Hitting at h
 refine pure_of_wp Try.func43 rfl 67 Try.ntmps43 (by simp) fun a0 hA hs0 => ?_
 have q0 : a0.get 0 = v_0 := hs0 0 _ rfl
 have q1 : a0.get 1 = .int .i64 x_1 := hs0 1 _ rfl
 clear hs0
 have hB : Base (Fr w0) O w0 O w0 := Base.start hO
 refine wp_seq ?_
 refine' region [SP.vl (rBox (rInt .i64)) O x_1, _, _] mixed hA (.cons (fun _ _ hE hK hg => okl_boxV (r := (rInt .i64)) (fun _ => rfl) (OkO.ext hB.ok hE) (kn (hK 1 rfl) rfl q1) (by exact rInt_v.2 rfl)) (.cons (fun _ _ hE hK hg => ok_assign rfl) (.cons (fun _ _ hE hK hg => ok_assign rfl) .nil))) ?zok1 ?zgd1 ?zk1
 case zok1 | zgd1 => kernel_rfl
 intro a1 w1 hA hE HF
 replace q0 := kn (HF 0) rfl q0
 have f2 := ksp (HF 3) rfl rfl rfl
 obtain ⟨u1, q3'⟩ : ∃ u, a1.get 3 = u := ⟨_, rfl⟩
 rw [q3'] at f2
 have q3 := q3'; clear q3'
 clear q1
 clear HF
 replace h_0 := GR.v_ext _ h_0 hE
 replace hB := Base.step hB hE hO; clear hE
 refine li_nil (nx_then (wp_seq (wp_seq ?_)))
 refine' region [SP.isv (.int .i64 x_1), _, _, SP.isv (.int .i64 x_1), _, _] mixed hA (.cons (fun _ _ hE hK hg => okl_ldr (rInt .i64) (fun _ => rfl) ty3 rfl rfl (kn (hK 3 rfl) rfl q3) (ptr_of_box (fun _ => rfl) (GR.v_ext _ f2 hE)) (fun _ _ _ h => rInt_v.1 h)) (.cons (fun _ _ hE hK hg => ok_lss (ksv (j := 0) (hK 14 rfl) rfl rfl rfl) rfl) (.cons (fun _ _ hE hK hg => ok_move (ksv (j := 1) (hK 15 rfl) rfl rfl rfl)) (.cons (fun _ _ hE hK hg => okl_ldr (rInt .i64) (fun _ => rfl) ty3 rfl rfl (kn (hK 3 rfl) rfl q3) (ptr_of_box (fun _ => rfl) (GR.v_ext _ f2 hE)) (fun _ _ _ h => rInt_v.1 h)) (.cons ?z2_4 (.cons ?z2_5 .nil)))))) ?zok2 ?zgd2 ?zk2
 case z2_4 => intro a' w' hE hK hg; exact ok_gtr (ksv (j := 3) (hK 17 rfl) rfl rfl hg) rfl
 case z2_5 => intro a' w' hE hK hg; exact ok_pick (ksv (j := 2) (hK 16 rfl) rfl rfl rfl) (fun _ => rfl) (fun hb => ksv (j := 4) (hK 18 rfl) rfl rfl (act_g1 rfl rfl hb))
 case zok2 | zgd2 => kernel_rfl
 intro a2 w2 hA hE HF
 replace q0 := kn (HF 0) rfl q0
 replace q3 := kn (HF 3) rfl q3
 have q19 := ksv (HF 19) rfl rfl rfl
 clear HF
 replace h_0 := GR.v_ext _ h_0 hE
 replace f2 := GR.v_ext _ f2 hE
 replace hB := Base.step hB hE hO; clear hE
 obtain ⟨x3, hx_, h⟩ := Comp.run_bind h; replace hx_ := Comp.run_pure hx_; rw [hx_] at q19; clear hx_
 refine li_nil (nx_then ?_)
 refine wp_cond_b q19 (fun hc => ?_) (fun hc => ?_)
 ·
  replace h := Comp.run_b_t hc h; clear hc
  refine wp_seq ?_
  refine' region [_, _] mixed hA (.cons (fun _ _ hE hK hg => ok_assign rfl) (.cons (fun _ _ hE hK hg => ok_assign rfl) .nil)) ?zok3 ?zgd3 ?zk3
  case zok3 | zgd3 => kernel_rfl
  intro a3 w3 hA hE HF
  have q4 := ksv (HF 4) rfl rfl rfl
  have q5 := ksv (HF 5) rfl rfl rfl
  clear q0
  clear q3
  clear q19
  clear HF
  replace h_0 := GR.v_ext _ h_0 hE
  replace f2 := GR.v_ext _ f2 hE
  replace hB := Base.step hB hE hO; clear hE
  refine li_nil (nx_then (wp_ret (rt_then ?_)))
  have h := Comp.run_pure h; subst h
  exact retPure2 Try.results43 hA q4 q5 hB.ext ⟨_, _, rfl, (OwnR.nil _ _ _ _ _), rfl⟩
 ·
  replace h := Comp.run_b_f hc h; clear hc
  refine wp_skip (nx_then (wp_seq ?_))
  refine' region [SP.isv (.func (.func 65) #[] #[u1]), _] mixed hA (.cons (fun _ _ hE hK hg => ok_makeFunc map0 (map1 (kn (hK 3 rfl) rfl q3))) (.cons (fun _ _ hE hK hg => ok_assign (ksv (j := 0) (hK 20 rfl) rfl rfl rfl)) .nil)) ?zok4 ?zgd4 ?zk4
  case zok4 | zgd4 => kernel_rfl
  intro a4 w4 hA hE HF
  replace q0 := kn (HF 0) rfl q0
  replace q3 := kn (HF 3) rfl q3
  have q6 := ksv (HF 6) rfl rfl rfl
  clear q19
  clear HF
  replace h_0 := GR.v_ext _ h_0 hE
  replace f2 := GR.v_ext _ f2 hE
  replace hB := Base.step hB hE hO; clear hE
  have f4 : (rF1 Try.prog (rInt .i64) (RS.c (fun x => .bool x))).v O w4 (.func (.func 65) #[] #[u1]) (fun z0 => core_Hitting_f1 z0 x_1) := rF1_v.2 ⟨rfl, fun O' w' hO' hk v_0 x_0 hv_0 n_ y_ hy_ => by obtain rfl := rInt_v.1 hv_0; exact callV_func fn65 (ok_core_Hitting_f1 hO'  (GR.v_mono _ f2 hk) hy_)⟩
  refine li_nil (nx_then (wp_seq (wp_seq ?_)))
  obtain ⟨x5, hx5, h⟩ := Comp.run_bind h
  refine' region [_, _, SP.isv (.bool x5)] mixed hA (.cons (fun _ _ hE hK hg => ok_move (kn (hK 0 rfl) rfl q0)) (.cons (fun _ _ hE hK hg => ok_move (kn (hK 6 rfl) rfl q6)) (.cons ?z5_2 .nil))) ?zok5 ?zgd5 ?zk5
  case z5_2 => intro a' w' hE hK hg; have c_ := ok_slices_ContainsFunc_int_int (OkO.ext hB.ok hE) (GR.v_ext _ h_0 hE) (GR.v_ext _ f4 hE) hx5; exact ok_call2 fn48 (ksv (j := 0) (hK 21 rfl) rfl rfl rfl) (ksv (j := 1) (hK 22 rfl) rfl rfl rfl) c_
  case zok5 | zgd5 => kernel_rfl
  intro a5 w5 hA hE HF
  replace q0 := kn (HF 0) rfl q0
  replace q3 := kn (HF 3) rfl q3
  have q23 := ksv (HF 23) rfl rfl rfl
  clear q6
  clear HF
  replace h_0 := GR.v_ext _ h_0 hE
  replace f2 := GR.v_ext _ f2 hE
  replace f4 := GR.v_ext _ f4 hE
  replace hB := Base.step hB hE hO; clear hE
  refine li_nil (nx_then ?_)
  refine wp_cond_b q23 (fun hc => ?_) (fun hc => ?_)
  ·
   replace h := Comp.run_b_t hc h; clear hc
   refine wp_seq ?_
   refine' region [_, _] mixed hA (.cons (fun _ _ hE hK hg => ok_assign rfl) (.cons (fun _ _ hE hK hg => ok_assign rfl) .nil)) ?zok6 ?zgd6 ?zk6
   case zok6 | zgd6 => kernel_rfl
   intro a6 w6 hA hE HF
   have q4 := ksv (HF 4) rfl rfl rfl
   have q5 := ksv (HF 5) rfl rfl rfl
   clear q0
   clear q3
   clear q23
   clear HF
   replace h_0 := GR.v_ext _ h_0 hE
   replace f2 := GR.v_ext _ f2 hE
   replace hB := Base.step hB hE hO; clear hE
   refine li_nil (nx_then (wp_ret (rt_then ?_)))
   have h := Comp.run_pure h; subst h
   exact retPure2 Try.results43 hA q4 q5 hB.ext ⟨_, _, rfl, (OwnR.nil _ _ _ _ _), rfl⟩
  ·
   replace h := Comp.run_b_f hc h; clear hc
   refine wp_skip (nx_then (wp_seq ?_))
   refine' regionT [] hA .nil ?zok7 ?zgd7 ?zk7
   case zok7 | zgd7 => kernel_rfl
   intro a7 w7 hA hE HF
   replace q0 := kn (HF 0) rfl q0
   replace q3 := kn (HF 3) rfl q3
   clear q23
   clear HF
   replace h_0 := GR.v_ext _ h_0 hE
   replace f2 := GR.v_ext _ f2 hE
   replace hB := Base.step hB hE hO; clear hE
   refine l_ok (φ := SP.ownr (rInt .i64) 3 w7.heap.size O [0]) hO hB (by exact okl_buildSlice (r := (rInt .i64)) (fun _ => rfl) rfl hB.ok ty23 ty3 (Nat.le_refl _) (parts_cons rfl parts_nil) ⟨(by exact rInt_v.2 rfl), trivial⟩ rfl (by decide)) rfl fun u6 w8 hE hB' f7 => ?_
   clear hB'; obtain ⟨O8, hB', hX, f9⟩ := ownNew hO hB hE f7 rfl 1 (by decide)
   clear hB f7; have hB := hB'; clear hB'
   replace h_0 := GR.kx _ h_0 hX (by decide)
   replace f2 := GR.kx _ f2 hX (by decide)
   clear hX hE
   refine put_cont hA (by decide) fun a9 hA q_ hfr => ?_
   replace q0 := (hfr 0 rfl).trans q0
   replace q3 := (hfr 3 rfl).trans q3
   have q24 := q_; clear q_ hfr
   refine l_ok (φ := SP.isv (u6)) hO hB (by exact ok_assign q24) rfl fun u_ w10 hE hB' hv_ => ?_
   replace hv_ := Eq.symm hv_; subst hv_; clear hB; have hB := hB'; clear hB'
   replace h_0 := GR.v_ext _ h_0 hE
   replace f2 := GR.v_ext _ f2 hE
   replace f9 := f9.ext hE
   clear hE
   refine put_cont hA (by decide) fun a11 hA q_ hfr => ?_
   replace q0 := (hfr 0 rfl).trans q0
   replace q3 := (hfr 3 rfl).trans q3
   replace q24 := (hfr 24 rfl).trans q24
   have q7 := q_; clear q_ hfr
   refine li_nil (nx_then ?_)
   refine seq_join (fun a w => ∃ (O74 : Tags) (x71 : List Int) (u72 : Value), a.fit 67 ∧ Base (Fr w0) O w0 O74 w ∧ a.get 7 = u72 ∧ OwnL 2 (rInt .i64) 3 (Fr w0) O74 w u72 x71 ∧ (core_Hitting_j1 x71).run n = some y) ?_ ?_
   ·
    refine wp_seq ?_
    refine' region [_, _, _] mixed hA (.cons (fun _ _ hE hK hg => ok_move (kn (hK 0 rfl) rfl q0)) (.cons (fun _ _ hE hK hg => okl_len (r := (rInt .i64)) ty23 (ksv (j := 0) (hK 25 rfl) rfl rfl rfl) (rd_of (GR.v_ext _ h_0 hE))) (.cons (fun _ _ hE hK hg => ok_move rfl) .nil))) ?zok8 ?zgd8 ?zk8
    case zok8 | zgd8 => kernel_rfl
    intro a12 w12 hA hE HF
    replace q3 := kn (HF 3) rfl q3
    replace q7 := kn (HF 7) rfl q7
    have q25 := ksv (HF 25) rfl rfl rfl
    have q26 := ksv (HF 26) rfl rfl rfl
    have q27 := ksv (HF 27) rfl rfl rfl
    clear q0
    clear HF
    replace h_0 := GR.v_ext _ h_0 hE
    replace f2 := GR.v_ext _ f2 hE
    replace f9 := f9.ext hE
    replace hB := Base.step hB hE hO; clear hE
    refine li_nil (nx_then (wp_block ?_))
    obtain ⟨O14, hB', hX, f15⟩ := retagL (okB_fr hB) hB f9 2 (by decide) (by decide)
    clear f9 hB; have hB := hB'; clear hB'
    replace f2 := GR.kx _ f2 hX (by decide)
    replace h_0 := GR.kx _ h_0 hX (by decide)
    clear hX
    obtain ⟨e2, he2, hk2⟩ := Comp.run_bind h; clear h
    refine loop_m (fun m a w => ∃ (O16 : Tags) (x10 : List Int) (x13 : Int) (u11 : Value), a.fit 67 ∧ Base (Fr w0) O w0 O16 w ∧ a.get 3 = u1 ∧ (rBox (rInt .i64)).v O16 w u1 x_1 ∧ a.get 7 = u11 ∧ OwnL 2 (rInt .i64) 3 (Fr w0) O16 w u11 x10 ∧ a.get 25 = v_0 ∧ (rSl (rInt .i64)).v O16 w v_0 x_0 ∧ a.get 26 = .int .i64 (x_0.length : Int) ∧ a.get 27 = .int .i64 x13 ∧ Comp.loopN (fun s => core_Hitting_l2 x_0 x_1 s.1 s.2) n m (x10, x13) = some e2) (m := n) ?st2 ?_
    case st2 =>
     exact ⟨_, _, _, _, hA, hB, q3, f2, q7, f15, q25, h_0, q26, q27, Comp.run_loop he2⟩
    intro m_ a13 w13 hI
    clear hA hB he2 q3 q7 q25 q26 q27 f15 f2 h_0
    obtain ⟨O16, x10, x13, u11, hA, hB, q3, f2, q7, f12, q25, h_0, q26, q27, hl⟩ := hI
    obtain ⟨m2, hlt2, st2, h, hnext2, hdone2⟩ := Comp.loopN_succ hl; clear hl
    replace h : (core_Hitting_l2 x_0 x_1 x10 x13).run n = some st2 := h
    unfold core_Hitting_l2 at h
    refine wp_seq ?_
    refine' region [_] mixed hA (.cons (fun _ _ hE hK hg => ok_lss (kn (hK 27 rfl) rfl q27) (kn (hK 26 rfl) rfl q26)) .nil) ?zok9 ?zgd9 ?zk9
    case zok9 | zgd9 => kernel_rfl
    intro a14 w14 hA hE HF
    replace q3 := kn (HF 3) rfl q3
    replace q7 := kn (HF 7) rfl q7
    replace q25 := kn (HF 25) rfl q25
    replace q26 := kn (HF 26) rfl q26
    replace q27 := kn (HF 27) rfl q27
    have q28 := ksv (HF 28) rfl rfl rfl
    clear HF
    replace f2 := GR.v_ext _ f2 hE
    replace f12 := f12.ext hE
    replace h_0 := GR.v_ext _ h_0 hE
    replace hB := Base.step hB hE hO; clear hE
    refine li_nil (nx_then (wp_seq ?_))
    refine wp_cond_b q28 (fun hc => ?_) (fun hc => ?_)
    ·
     replace h := Comp.run_b_t hc h; clear hc
     refine wp_skip (nx_then (wp_seq (wp_block (wp_seq ?_))))
     obtain ⟨x17, hx17, h⟩ := Comp.run_bind h
     refine' region [SP.ptr (rInt .i64) O16 x17, SP.isv (.int .i64 x17), _] mixed hA (.cons (fun _ _ hE hK hg => okl_idx (r := (rInt .i64)) (O := O16) ty23 ty3 rfl (kn (hK 25 rfl) rfl q25) (rd_of (GR.v_ext _ h_0 hE)) (kn (hK 27 rfl) rfl q27) hx17) (.cons (fun _ _ hE hK hg => okl_ldr (rInt .i64) (fun _ => rfl) ty3 rfl rfl rfl (kspS (φ := SP.ptr (rInt .i64) O16 x17) (j := 0) (hK 29 rfl) rfl rfl rfl) (fun _ _ _ h => rInt_v.1 h)) (.cons (fun _ _ hE hK hg => ok_assign (ksv (j := 1) (hK 30 rfl) rfl rfl rfl)) .nil))) ?zok10 ?zgd10 ?zk10
     case zok10 | zgd10 => kernel_rfl
     intro a15 w15 hA hE HF
     replace q3 := kn (HF 3) rfl q3
     replace q7 := kn (HF 7) rfl q7
     have q9 := ksv (HF 9) rfl rfl rfl
     replace q25 := kn (HF 25) rfl q25
     replace q26 := kn (HF 26) rfl q26
     replace q27 := kn (HF 27) rfl q27
     clear q28
     clear HF
     replace f2 := GR.v_ext _ f2 hE
     replace f12 := f12.ext hE
     replace h_0 := GR.v_ext _ h_0 hE
     replace hB := Base.step hB hE hO; clear hE
     refine li_nil (nx_then (wp_seq ?_))
     refine' region [_] mixed hA (.cons (fun _ _ hE hK hg => ok_assign rfl) .nil) ?zok11 ?zgd11 ?zk11
     case zok11 | zgd11 => kernel_rfl
     intro a16 w16 hA hE HF
     replace q3 := kn (HF 3) rfl q3
     replace q7 := kn (HF 7) rfl q7
     replace q9 := kn (HF 9) rfl q9
     have q10 := ksv (HF 10) rfl rfl rfl
     replace q25 := kn (HF 25) rfl q25
     replace q26 := kn (HF 26) rfl q26
     replace q27 := kn (HF 27) rfl q27
     clear HF
     replace f2 := GR.v_ext _ f2 hE
     replace f12 := f12.ext hE
     replace h_0 := GR.v_ext _ h_0 hE
     replace hB := Base.step hB hE hO; clear hE
     refine li_nil (nx_then ?_)
     refine seq_join (fun a w => ∃ (O61 : Tags) (x56 : List Int) (u57 : Value), a.fit 67 ∧ Base (Fr w0) O w0 O61 w ∧ a.get 3 = u1 ∧ (rBox (rInt .i64)).v O61 w u1 x_1 ∧ a.get 10 = u57 ∧ (rSl (rInt .i64)).v O61 w u57 x56 ∧ a.get 25 = v_0 ∧ (rSl (rInt .i64)).v O61 w v_0 x_0 ∧ a.get 26 = .int .i64 (x_0.length : Int) ∧ a.get 27 = .int .i64 x13 ∧ (core_Hitting_j3 x13 x56).run n = some st2) ?_ ?_
     ·
      refine wp_seq ?_
      refine' region [_, _, _] mixed hA (.cons (fun _ _ hE hK hg => ok_move (kn (hK 7 rfl) rfl q7)) (.cons (fun _ _ hE hK hg => okl_len (r := (rInt .i64)) ty23 (ksv (j := 0) (hK 31 rfl) rfl rfl rfl) (OwnL.rd (OwnL.ext f12 hE))) (.cons (fun _ _ hE hK hg => ok_move rfl) .nil))) ?zok12 ?zgd12 ?zk12
      case zok12 | zgd12 => kernel_rfl
      intro a17 w17 hA hE HF
      replace q3 := kn (HF 3) rfl q3
      replace q9 := kn (HF 9) rfl q9
      replace q10 := kn (HF 10) rfl q10
      replace q25 := kn (HF 25) rfl q25
      replace q26 := kn (HF 26) rfl q26
      replace q27 := kn (HF 27) rfl q27
      have q31 := ksv (HF 31) rfl rfl rfl
      have q32 := ksv (HF 32) rfl rfl rfl
      have q33 := ksv (HF 33) rfl rfl rfl
      clear q7
      clear HF
      replace f2 := GR.v_ext _ f2 hE
      replace f12 := f12.ext hE
      replace h_0 := GR.v_ext _ h_0 hE
      replace hB := Base.step hB hE hO; clear hE
      refine li_nil (nx_then (wp_block ?_))
      obtain ⟨e4, he4, hk4⟩ := Comp.run_bind h; clear h
      refine loop_m (fun m a w => ∃ (O22 : Tags) (x18 : List Int) (x21 : Int) (u19 : Value), a.fit 67 ∧ Base (Fr w0) O w0 O22 w ∧ a.get 3 = u1 ∧ (rBox (rInt .i64)).v O22 w u1 x_1 ∧ a.get 9 = .int .i64 x17 ∧ a.get 10 = u19 ∧ OwnL 3 (rInt .i64) 3 (Fr w0) O22 w u19 x18 ∧ a.get 25 = v_0 ∧ (rSl (rInt .i64)).v O22 w v_0 x_0 ∧ a.get 26 = .int .i64 (x_0.length : Int) ∧ a.get 27 = .int .i64 x13 ∧ a.get 31 = u11 ∧ OwnL 2 (rInt .i64) 3 (Fr w0) O22 w u11 x10 ∧ a.get 32 = .int .i64 (x10.length : Int) ∧ a.get 33 = .int .i64 x21 ∧ Comp.loopN (fun s => core_Hitting_l4 x10 x17 x_1 s.1 s.2) n m (x18, x21) = some e4) (m := n) ?st4 ?_
      case st4 =>
       exact ⟨_, _, _, _, hA, hB, q3, f2, q9, q10, (OwnL.nil _ _ _ _ _ _), q25, h_0, q26, q27, q31, f12, q32, q33, Comp.run_loop he4⟩
      intro m_ a18 w18 hI
      clear hA hB he4 q3 q9 q10 q25 q26 q27 q31 q32 q33 f12 f2 h_0
      obtain ⟨O22, x18, x21, u19, hA, hB, q3, f2, q9, q10, f20, q25, h_0, q26, q27, q31, f12, q32, q33, hl⟩ := hI
      obtain ⟨m4, hlt4, st4, h, hnext4, hdone4⟩ := Comp.loopN_succ hl; clear hl
      replace h : (core_Hitting_l4 x10 x17 x_1 x18 x21).run n = some st4 := h
      unfold core_Hitting_l4 at h
      refine wp_seq ?_
      refine' region [_] mixed hA (.cons (fun _ _ hE hK hg => ok_lss (kn (hK 33 rfl) rfl q33) (kn (hK 32 rfl) rfl q32)) .nil) ?zok13 ?zgd13 ?zk13
      case zok13 | zgd13 => kernel_rfl
      intro a19 w19 hA hE HF
      replace q3 := kn (HF 3) rfl q3
      replace q9 := kn (HF 9) rfl q9
      replace q10 := kn (HF 10) rfl q10
      replace q25 := kn (HF 25) rfl q25
      replace q26 := kn (HF 26) rfl q26
      replace q27 := kn (HF 27) rfl q27
      replace q31 := kn (HF 31) rfl q31
      replace q32 := kn (HF 32) rfl q32
      replace q33 := kn (HF 33) rfl q33
      have q34 := ksv (HF 34) rfl rfl rfl
      clear HF
      replace f2 := GR.v_ext _ f2 hE
      replace f20 := f20.ext hE
      replace h_0 := GR.v_ext _ h_0 hE
      replace f12 := f12.ext hE
      replace hB := Base.step hB hE hO; clear hE
      refine li_nil (nx_then (wp_seq ?_))
      refine wp_cond_b q34 (fun hc => ?_) (fun hc => ?_)
      ·
       replace h := Comp.run_b_t hc h; clear hc
       refine wp_skip (nx_then ?_)
       refine seq_join (fun a w => ∃ (O53 : Tags) (x30 : List Int) (u31 : Value), a.fit 67 ∧ Base (Fr w0) O w0 O53 w ∧ a.get 3 = u1 ∧ (rBox (rInt .i64)).v O53 w u1 x_1 ∧ a.get 9 = .int .i64 x17 ∧ a.get 10 = u31 ∧ OwnL 3 (rInt .i64) 3 (Fr w0) O53 w u31 x30 ∧ a.get 25 = v_0 ∧ (rSl (rInt .i64)).v O53 w v_0 x_0 ∧ a.get 26 = .int .i64 (x_0.length : Int) ∧ a.get 27 = .int .i64 x13 ∧ a.get 31 = u11 ∧ OwnL 2 (rInt .i64) 3 (Fr w0) O53 w u11 x10 ∧ a.get 32 = .int .i64 (x10.length : Int) ∧ a.get 33 = .int .i64 x21 ∧ (core_Hitting_j5 x21 x30).run n = some st4) ?_ ?_
       ·
        refine wp_block (wp_seq ?_)
        obtain ⟨x23, hx23, h⟩ := Comp.run_bind h
        refine' region [SP.ptr (rInt .i64) O22 x23, SP.isv (.int .i64 x23), _] mixed hA (.cons (fun _ _ hE hK hg => okl_idx (r := (rInt .i64)) (O := O22) ty23 ty3 rfl (kn (hK 31 rfl) rfl q31) (OwnL.rd (OwnL.ext f12 hE)) (kn (hK 33 rfl) rfl q33) hx23) (.cons (fun _ _ hE hK hg => okl_ldr (rInt .i64) (fun _ => rfl) ty3 rfl rfl rfl (kspS (φ := SP.ptr (rInt .i64) O22 x23) (j := 0) (hK 35 rfl) rfl rfl rfl) (fun _ _ _ h => rInt_v.1 h)) (.cons (fun _ _ hE hK hg => ok_assign (ksv (j := 1) (hK 36 rfl) rfl rfl rfl)) .nil))) ?zok14 ?zgd14 ?zk14
        case zok14 | zgd14 => kernel_rfl
        intro a20 w20 hA hE HF
        replace q3 := kn (HF 3) rfl q3
        replace q9 := kn (HF 9) rfl q9
        replace q10 := kn (HF 10) rfl q10
        have q12 := ksv (HF 12) rfl rfl rfl
        replace q25 := kn (HF 25) rfl q25
        replace q26 := kn (HF 26) rfl q26
        replace q27 := kn (HF 27) rfl q27
        replace q31 := kn (HF 31) rfl q31
        replace q32 := kn (HF 32) rfl q32
        replace q33 := kn (HF 33) rfl q33
        clear q34
        clear HF
        replace f2 := GR.v_ext _ f2 hE
        replace f20 := f20.ext hE
        replace h_0 := GR.v_ext _ h_0 hE
        replace f12 := f12.ext hE
        replace hB := Base.step hB hE hO; clear hE
        refine li_nil (nx_then (wp_seq (wp_seq ?_)))
        refine' region [_, _, _, _] mixed hA (.cons (fun _ _ hE hK hg => ok_move (kn (hK 12 rfl) rfl q12)) (.cons (fun _ _ hE hK hg => ok_move (kn (hK 9 rfl) rfl q9)) (.cons (fun _ _ hE hK hg => okb_and (ksv (j := 0) (hK 37 rfl) rfl rfl rfl) (ksv (j := 1) (hK 38 rfl) rfl rfl rfl)) (.cons (fun _ _ hE hK hg => ok_neqI (ksv (j := 2) (hK 39 rfl) rfl rfl rfl) rfl) .nil)))) ?zok15 ?zgd15 ?zk15
        case zok15 | zgd15 => kernel_rfl
        intro a21 w21 hA hE HF
        replace q3 := kn (HF 3) rfl q3
        replace q9 := kn (HF 9) rfl q9
        replace q10 := kn (HF 10) rfl q10
        replace q12 := kn (HF 12) rfl q12
        replace q25 := kn (HF 25) rfl q25
        replace q26 := kn (HF 26) rfl q26
        replace q27 := kn (HF 27) rfl q27
        replace q31 := kn (HF 31) rfl q31
        replace q32 := kn (HF 32) rfl q32
        replace q33 := kn (HF 33) rfl q33
        have q40 := ksv (HF 40) rfl rfl rfl
        clear HF
        replace f2 := GR.v_ext _ f2 hE
        replace f20 := f20.ext hE
        replace h_0 := GR.v_ext _ h_0 hE
        replace f12 := f12.ext hE
        replace hB := Base.step hB hE hO; clear hE
        refine li_nil (nx_then ?_)
        refine wp_cond_b q40 (fun hc => ?_) (fun hc => ?_)
        ·
         replace h := Comp.run_b_t hc h; clear hc
         refine wp_seq ?_
         refine' regionT [_, _, SP.vl (rSl (rInt .i64)) O22 [x23]] hA (.cons (fun _ _ hE hK hg => ok_move (kn (hK 10 rfl) rfl q10)) (.cons (fun _ _ hE hK hg => ok_move (kn (hK 12 rfl) rfl q12)) (.cons (fun _ _ hE hK hg => okl_buildSliceV (r := (rInt .i64)) (fun _ => rfl) rfl (OkO.ext hB.ok hE) ty23 ty3 (parts_cons (ksv (j := 1) (hK 42 rfl) rfl rfl rfl) parts_nil) ⟨(by exact rInt_v.2 rfl), trivial⟩ rfl (by decide)) .nil))) ?zok16 ?zgd16 ?zk16
         case zok16 | zgd16 => kernel_rfl
         intro a22 w22 hA hE HF
         replace q3 := kn (HF 3) rfl q3
         replace q9 := kn (HF 9) rfl q9
         replace q10 := kn (HF 10) rfl q10
         replace q25 := kn (HF 25) rfl q25
         replace q26 := kn (HF 26) rfl q26
         replace q27 := kn (HF 27) rfl q27
         replace q31 := kn (HF 31) rfl q31
         replace q32 := kn (HF 32) rfl q32
         replace q33 := kn (HF 33) rfl q33
         have q41 := ksv (HF 41) rfl rfl rfl
         have f25 := ksp (HF 43) rfl rfl rfl
         obtain ⟨u24, q43'⟩ : ∃ u, a22.get 43 = u := ⟨_, rfl⟩
         rw [q43'] at f25
         have q43 := q43'; clear q43'
         clear q12
         clear q40
         clear HF
         replace f2 := GR.v_ext _ f2 hE
         replace f20 := f20.ext hE
         replace h_0 := GR.v_ext _ h_0 hE
         replace f12 := f12.ext hE
         replace hB := Base.step hB hE hO; clear hE
         obtain ⟨x26, hx26, h⟩ := Comp.run_bind h
         refine l_append (r := (rInt .i64)) (fun _ => rfl) rfl ty23 ty3 rfl (by decide) hO hB (okB_fr hB) q41 f20 q43 (rd_of f25) hx26 (by decide) fun u27 w23 O28 f29 hB' hX => ?_
         clear hB; have hB := hB'; clear hB'
         clear f20
         replace f2 := GR.kx _ f2 hX (by decide)
         replace h_0 := GR.kx _ h_0 hX (by decide)
         replace f12 := f12.kx hX (by decide) (by decide)
         replace f25 := GR.kx _ f25 hX (by decide)
         clear hX
         refine put_cont hA (by decide) fun a24 hA q_ hfr => ?_
         replace q3 := (hfr 3 rfl).trans q3
         replace q9 := (hfr 9 rfl).trans q9
         replace q10 := (hfr 10 rfl).trans q10
         replace q25 := (hfr 25 rfl).trans q25
         replace q26 := (hfr 26 rfl).trans q26
         replace q27 := (hfr 27 rfl).trans q27
         replace q31 := (hfr 31 rfl).trans q31
         replace q32 := (hfr 32 rfl).trans q32
         replace q33 := (hfr 33 rfl).trans q33
         replace q41 := (hfr 41 rfl).trans q41
         replace q43 := (hfr 43 rfl).trans q43
         have q44 := q_; clear q_ hfr
         refine l_ok (φ := SP.isv (u27)) hO hB (by exact ok_assign q44) rfl fun u_ w25 hE hB' hv_ => ?_
         replace hv_ := Eq.symm hv_; subst hv_; clear hB; have hB := hB'; clear hB'
         replace f2 := GR.v_ext _ f2 hE
         replace h_0 := GR.v_ext _ h_0 hE
         replace f12 := f12.ext hE
         replace f29 := f29.ext hE
         clear hE
         refine put_cont hA (by decide) fun a26 hA q_ hfr => ?_
         replace q3 := (hfr 3 rfl).trans q3
         replace q9 := (hfr 9 rfl).trans q9
         replace q25 := (hfr 25 rfl).trans q25
         replace q26 := (hfr 26 rfl).trans q26
         replace q27 := (hfr 27 rfl).trans q27
         replace q31 := (hfr 31 rfl).trans q31
         replace q32 := (hfr 32 rfl).trans q32
         replace q33 := (hfr 33 rfl).trans q33
         replace q44 := (hfr 44 rfl).trans q44
         clear q10
         have q10 := q_; clear q_ hfr
         refine li_nil (nx_then (wp_exit (ex_then (ex_same (nx_then ?_)))))
         exact ⟨_, _, _, hA, hB, q3, f2, q9, q10, f29, q25, h_0, q26, q27, q31, f12, q32, q33, h⟩
        ·
         replace h := Comp.run_b_f hc h; clear hc
         refine wp_skip (nx_then (wp_seq ?_))
         refine' region [SP.isv (.int .i64 x_1), _] mixed hA (.cons (fun _ _ hE hK hg => okl_ldr (rInt .i64) (fun _ => rfl) ty3 rfl rfl (kn (hK 3 rfl) rfl q3) (ptr_of_box (fun _ => rfl) (GR.v_ext _ f2 hE)) (fun _ _ _ h => rInt_v.1 h)) (.cons (fun _ _ hE hK hg => ok_move rfl) .nil)) ?zok17 ?zgd17 ?zk17
         case zok17 | zgd17 => kernel_rfl
         intro a27 w27 hA hE HF
         replace q3 := kn (HF 3) rfl q3
         replace q9 := kn (HF 9) rfl q9
         replace q10 := kn (HF 10) rfl q10
         replace q12 := kn (HF 12) rfl q12
         replace q25 := kn (HF 25) rfl q25
         replace q26 := kn (HF 26) rfl q26
         replace q27 := kn (HF 27) rfl q27
         replace q31 := kn (HF 31) rfl q31
         replace q32 := kn (HF 32) rfl q32
         replace q33 := kn (HF 33) rfl q33
         have q45 := ksv (HF 45) rfl rfl rfl
         have q46 := ksv (HF 46) rfl rfl rfl
         clear q40
         clear HF
         replace f2 := GR.v_ext _ f2 hE
         replace f20 := f20.ext hE
         replace h_0 := GR.v_ext _ h_0 hE
         replace f12 := f12.ext hE
         replace hB := Base.step hB hE hO; clear hE
         refine li_nil (nx_then (wp_block ?_))
         obtain ⟨e6, he6, hk6⟩ := Comp.run_bind h; clear h
         refine loop_m (fun m a w => ∃ (O37 : Tags) (x33 : List Int) (x36 : Int) (u34 : Value), a.fit 67 ∧ Base (Fr w0) O w0 O37 w ∧ a.get 3 = u1 ∧ (rBox (rInt .i64)).v O37 w u1 x_1 ∧ a.get 9 = .int .i64 x17 ∧ a.get 10 = u34 ∧ OwnL 3 (rInt .i64) 3 (Fr w0) O37 w u34 x33 ∧ a.get 12 = .int .i64 x23 ∧ a.get 25 = v_0 ∧ (rSl (rInt .i64)).v O37 w v_0 x_0 ∧ a.get 26 = .int .i64 (x_0.length : Int) ∧ a.get 27 = .int .i64 x13 ∧ a.get 31 = u11 ∧ OwnL 2 (rInt .i64) 3 (Fr w0) O37 w u11 x10 ∧ a.get 32 = .int .i64 (x10.length : Int) ∧ a.get 33 = .int .i64 x21 ∧ a.get 45 = .int .i64 x_1 ∧ a.get 46 = .int .i64 x36 ∧ Comp.loopN (fun s => core_Hitting_l6 x_1 x17 x23 s.1 s.2) n m (x33, x36) = some e6) (m := n) ?st6 ?_
         case st6 =>
          exact ⟨_, _, _, _, hA, hB, q3, f2, q9, q10, f20, q12, q25, h_0, q26, q27, q31, f12, q32, q33, q45, q46, Comp.run_loop he6⟩
         intro m_ a28 w28 hI
         clear hA hB he6 q3 q9 q10 q12 q25 q26 q27 q31 q32 q33 q45 q46 f12 f2 f20 h_0
         obtain ⟨O37, x33, x36, u34, hA, hB, q3, f2, q9, q10, f35, q12, q25, h_0, q26, q27, q31, f12, q32, q33, q45, q46, hl⟩ := hI
         obtain ⟨m6, hlt6, st6, h, hnext6, hdone6⟩ := Comp.loopN_succ hl; clear hl
         replace h : (core_Hitting_l6 x_1 x17 x23 x33 x36).run n = some st6 := h
         unfold core_Hitting_l6 at h
         refine wp_seq ?_
         refine' region [_] mixed hA (.cons (fun _ _ hE hK hg => ok_lss (kn (hK 46 rfl) rfl q46) (kn (hK 45 rfl) rfl q45)) .nil) ?zok18 ?zgd18 ?zk18
         case zok18 | zgd18 => kernel_rfl
         intro a29 w29 hA hE HF
         replace q3 := kn (HF 3) rfl q3
         replace q9 := kn (HF 9) rfl q9
         replace q10 := kn (HF 10) rfl q10
         replace q12 := kn (HF 12) rfl q12
         replace q25 := kn (HF 25) rfl q25
         replace q26 := kn (HF 26) rfl q26
         replace q27 := kn (HF 27) rfl q27
         replace q31 := kn (HF 31) rfl q31
         replace q32 := kn (HF 32) rfl q32
         replace q33 := kn (HF 33) rfl q33
         replace q45 := kn (HF 45) rfl q45
         replace q46 := kn (HF 46) rfl q46
         have q47 := ksv (HF 47) rfl rfl rfl
         clear HF
         replace f2 := GR.v_ext _ f2 hE
         replace f35 := f35.ext hE
         replace h_0 := GR.v_ext _ h_0 hE
         replace f12 := f12.ext hE
         replace hB := Base.step hB hE hO; clear hE
         refine li_nil (nx_then (wp_seq ?_))
         refine wp_cond_b q47 (fun hc => ?_) (fun hc => ?_)
         ·
          replace h := Comp.run_b_t hc h; clear hc
          refine wp_skip (nx_then ?_)
          refine seq_join (fun a w => ∃ (O50 : Tags) (x47 : List Int) (u48 : Value), a.fit 67 ∧ Base (Fr w0) O w0 O50 w ∧ a.get 3 = u1 ∧ (rBox (rInt .i64)).v O50 w u1 x_1 ∧ a.get 9 = .int .i64 x17 ∧ a.get 10 = u48 ∧ OwnL 3 (rInt .i64) 3 (Fr w0) O50 w u48 x47 ∧ a.get 12 = .int .i64 x23 ∧ a.get 25 = v_0 ∧ (rSl (rInt .i64)).v O50 w v_0 x_0 ∧ a.get 26 = .int .i64 (x_0.length : Int) ∧ a.get 27 = .int .i64 x13 ∧ a.get 31 = u11 ∧ OwnL 2 (rInt .i64) 3 (Fr w0) O50 w u11 x10 ∧ a.get 32 = .int .i64 (x10.length : Int) ∧ a.get 33 = .int .i64 x21 ∧ a.get 45 = .int .i64 x_1 ∧ a.get 46 = .int .i64 x36 ∧ (core_Hitting_j7 x36 x47).run n = some st6) ?_ ?_
          ·
           refine wp_block (wp_seq ?_)
           refine' region [_, _] mixed hA (.cons (fun _ _ hE hK hg => ok_move (kn (hK 46 rfl) rfl q46)) (.cons (fun _ _ hE hK hg => ok_assign (ksv (j := 0) (hK 48 rfl) rfl rfl rfl)) .nil)) ?zok19 ?zgd19 ?zk19
           case zok19 | zgd19 => kernel_rfl
           intro a30 w30 hA hE HF
           replace q3 := kn (HF 3) rfl q3
           replace q9 := kn (HF 9) rfl q9
           replace q10 := kn (HF 10) rfl q10
           replace q12 := kn (HF 12) rfl q12
           have q13 := ksv (HF 13) rfl rfl rfl
           replace q25 := kn (HF 25) rfl q25
           replace q26 := kn (HF 26) rfl q26
           replace q27 := kn (HF 27) rfl q27
           replace q31 := kn (HF 31) rfl q31
           replace q32 := kn (HF 32) rfl q32
           replace q33 := kn (HF 33) rfl q33
           replace q45 := kn (HF 45) rfl q45
           replace q46 := kn (HF 46) rfl q46
           clear q47
           clear HF
           replace f2 := GR.v_ext _ f2 hE
           replace f35 := f35.ext hE
           replace h_0 := GR.v_ext _ h_0 hE
           replace f12 := f12.ext hE
           replace hB := Base.step hB hE hO; clear hE
           refine li_nil (nx_then (wp_seq ?_))
           obtain ⟨x38, hx38, h⟩ := Comp.run_bind h
           refine' region [_, _, _, _, _] mixed hA (.cons (fun _ _ hE hK hg => ok_move (kn (hK 9 rfl) rfl q9)) (.cons (fun _ _ hE hK hg => ok_move (kn (hK 13 rfl) rfl q13)) (.cons (fun _ _ hE hK hg => okl_shr (ksv (j := 0) (hK 49 rfl) rfl rfl rfl) (ksv (j := 1) (hK 50 rfl) rfl rfl rfl) (run_nonneg hx38)) (.cons (fun _ _ hE hK hg => okb_and (ksv (j := 2) (hK 51 rfl) rfl rfl rfl) rfl) (.cons (fun _ _ hE hK hg => ok_eqlI (ksv (j := 3) (hK 52 rfl) rfl rfl rfl) rfl) .nil))))) ?zok20 ?zgd20 ?zk20
           case zok20 | zgd20 => kernel_rfl
           intro a31 w31 hA hE HF
           replace q3 := kn (HF 3) rfl q3
           replace q9 := kn (HF 9) rfl q9
           replace q10 := kn (HF 10) rfl q10
           replace q12 := kn (HF 12) rfl q12
           replace q13 := kn (HF 13) rfl q13
           replace q25 := kn (HF 25) rfl q25
           replace q26 := kn (HF 26) rfl q26
           replace q27 := kn (HF 27) rfl q27
           replace q31 := kn (HF 31) rfl q31
           replace q32 := kn (HF 32) rfl q32
           replace q33 := kn (HF 33) rfl q33
           replace q45 := kn (HF 45) rfl q45
           replace q46 := kn (HF 46) rfl q46
           have q53 := ksv (HF 53) rfl rfl rfl
           clear HF
           replace f2 := GR.v_ext _ f2 hE
           replace f35 := f35.ext hE
           replace h_0 := GR.v_ext _ h_0 hE
           replace f12 := f12.ext hE
           replace hB := Base.step hB hE hO; clear hE
           obtain ⟨x39, hx_, h⟩ := Comp.run_bind h; replace hx_ := Comp.run_pure hx_; rw [hx_] at q53; clear hx_
           refine li_nil (nx_then ?_)
           refine wp_cond_b q53 (fun hc => ?_) (fun hc => ?_)
           ·
            replace h := Comp.run_b_t hc h; clear hc
            obtain ⟨x40, hx40, h⟩ := Comp.run_bind h
            refine' regionT [_, _, _, _, _, SP.vl (rSl (rInt .i64)) O37 [(orB .i64 x23 (shlF .i64 1 x36))]] hA (.cons (fun _ _ hE hK hg => ok_move (kn (hK 10 rfl) rfl q10)) (.cons (fun _ _ hE hK hg => ok_move (kn (hK 12 rfl) rfl q12)) (.cons (fun _ _ hE hK hg => ok_move (kn (hK 13 rfl) rfl q13)) (.cons (fun _ _ hE hK hg => okl_shl rfl (ksv (j := 2) (hK 56 rfl) rfl rfl rfl) (run_nonneg hx40)) (.cons (fun _ _ hE hK hg => okb_or (ksv (j := 1) (hK 55 rfl) rfl rfl rfl) (ksv (j := 3) (hK 57 rfl) rfl rfl rfl)) (.cons (fun _ _ hE hK hg => okl_buildSliceV (r := (rInt .i64)) (fun _ => rfl) rfl (OkO.ext hB.ok hE) ty23 ty3 (parts_cons (ksv (j := 4) (hK 58 rfl) rfl rfl rfl) parts_nil) ⟨(by exact rInt_v.2 rfl), trivial⟩ rfl (by decide)) .nil)))))) ?zok21 ?zgd21 ?zk21
            case zok21 | zgd21 => kernel_rfl
            intro a32 w32 hA hE HF
            replace q3 := kn (HF 3) rfl q3
            replace q9 := kn (HF 9) rfl q9
            replace q10 := kn (HF 10) rfl q10
            replace q12 := kn (HF 12) rfl q12
            replace q25 := kn (HF 25) rfl q25
            replace q26 := kn (HF 26) rfl q26
            replace q27 := kn (HF 27) rfl q27
            replace q31 := kn (HF 31) rfl q31
            replace q32 := kn (HF 32) rfl q32
            replace q33 := kn (HF 33) rfl q33
            replace q45 := kn (HF 45) rfl q45
            replace q46 := kn (HF 46) rfl q46
            have q54 := ksv (HF 54) rfl rfl rfl
            have f42 := ksp (HF 59) rfl rfl rfl
            obtain ⟨u41, q59'⟩ : ∃ u, a32.get 59 = u := ⟨_, rfl⟩
            rw [q59'] at f42
            have q59 := q59'; clear q59'
            clear q13
            clear q53
            clear HF
            replace f2 := GR.v_ext _ f2 hE
            replace f35 := f35.ext hE
            replace h_0 := GR.v_ext _ h_0 hE
            replace f12 := f12.ext hE
            replace hB := Base.step hB hE hO; clear hE
            obtain ⟨x43, hx43, h⟩ := Comp.run_bind h
            refine l_append (r := (rInt .i64)) (fun _ => rfl) rfl ty23 ty3 rfl (by decide) hO hB (okB_fr hB) q54 f35 q59 (rd_of f42) hx43 (by decide) fun u44 w33 O45 f46 hB' hX => ?_
            clear hB; have hB := hB'; clear hB'
            clear f35
            replace f2 := GR.kx _ f2 hX (by decide)
            replace h_0 := GR.kx _ h_0 hX (by decide)
            replace f12 := f12.kx hX (by decide) (by decide)
            replace f42 := GR.kx _ f42 hX (by decide)
            clear hX
            refine put_cont hA (by decide) fun a34 hA q_ hfr => ?_
            replace q3 := (hfr 3 rfl).trans q3
            replace q9 := (hfr 9 rfl).trans q9
            replace q10 := (hfr 10 rfl).trans q10
            replace q12 := (hfr 12 rfl).trans q12
            replace q25 := (hfr 25 rfl).trans q25
            replace q26 := (hfr 26 rfl).trans q26
            replace q27 := (hfr 27 rfl).trans q27
            replace q31 := (hfr 31 rfl).trans q31
            replace q32 := (hfr 32 rfl).trans q32
            replace q33 := (hfr 33 rfl).trans q33
            replace q45 := (hfr 45 rfl).trans q45
            replace q46 := (hfr 46 rfl).trans q46
            replace q54 := (hfr 54 rfl).trans q54
            replace q59 := (hfr 59 rfl).trans q59
            have q60 := q_; clear q_ hfr
            refine l_ok (φ := SP.isv (u44)) hO hB (by exact ok_assign q60) rfl fun u_ w35 hE hB' hv_ => ?_
            replace hv_ := Eq.symm hv_; subst hv_; clear hB; have hB := hB'; clear hB'
            replace f2 := GR.v_ext _ f2 hE
            replace h_0 := GR.v_ext _ h_0 hE
            replace f12 := f12.ext hE
            replace f46 := f46.ext hE
            clear hE
            refine put_cont hA (by decide) fun a36 hA q_ hfr => ?_
            replace q3 := (hfr 3 rfl).trans q3
            replace q9 := (hfr 9 rfl).trans q9
            replace q12 := (hfr 12 rfl).trans q12
            replace q25 := (hfr 25 rfl).trans q25
            replace q26 := (hfr 26 rfl).trans q26
            replace q27 := (hfr 27 rfl).trans q27
            replace q31 := (hfr 31 rfl).trans q31
            replace q32 := (hfr 32 rfl).trans q32
            replace q33 := (hfr 33 rfl).trans q33
            replace q45 := (hfr 45 rfl).trans q45
            replace q46 := (hfr 46 rfl).trans q46
            replace q60 := (hfr 60 rfl).trans q60
            clear q10
            have q10 := q_; clear q_ hfr
            refine li_nil (nx_blk (nx_then ?_))
            exact ⟨_, _, _, hA, hB, q3, f2, q9, q10, f46, q12, q25, h_0, q26, q27, q31, f12, q32, q33, q45, q46, h⟩
           ·
            replace h := Comp.run_b_f hc h; clear hc
            refine wp_skip (nx_blk (nx_then ?_))
            exact ⟨_, _, _, hA, hB, q3, f2, q9, q10, f35, q12, q25, h_0, q26, q27, q31, f12, q32, q33, q45, q46, h⟩
          intro a37 w37 hI
          clear hA hB h q3 q9 q10 q12 q25 q26 q27 q31 q32 q33 q45 q46 q47 f12 f2 f35 h_0
          obtain ⟨O50, x47, u48, hA, hB, q3, f2, q9, q10, f49, q12, q25, h_0, q26, q27, q31, f12, q32, q33, q45, q46, h⟩ := hI
          unfold core_Hitting_j7 at h
          refine' region [_, _] mixed hA (.cons (fun _ _ hE hK hg => ok_add (kn (hK 46 rfl) rfl q46) rfl) (.cons (fun _ _ hE hK hg => ok_move (ksv (j := 0) (hK 61 rfl) rfl rfl rfl)) .nil)) ?zok22 ?zgd22 ?zk22
          case zok22 | zgd22 => kernel_rfl
          intro a38 w38 hA hE HF
          replace q3 := kn (HF 3) rfl q3
          replace q9 := kn (HF 9) rfl q9
          replace q10 := kn (HF 10) rfl q10
          replace q12 := kn (HF 12) rfl q12
          replace q25 := kn (HF 25) rfl q25
          replace q26 := kn (HF 26) rfl q26
          replace q27 := kn (HF 27) rfl q27
          replace q31 := kn (HF 31) rfl q31
          replace q32 := kn (HF 32) rfl q32
          replace q33 := kn (HF 33) rfl q33
          replace q45 := kn (HF 45) rfl q45
          have q46' := ksv (HF 46) rfl rfl rfl
          replace q46 := q46'; clear q46'
          clear HF
          replace f2 := GR.v_ext _ f2 hE
          replace f49 := f49.ext hE
          replace h_0 := GR.v_ext _ h_0 hE
          replace f12 := f12.ext hE
          replace hB := Base.step hB hE hO; clear hE
          refine li_nil (nx_then ?_)
          have h := hnext6 _ (Comp.run_pure h).symm
          refine ⟨m6, hlt6, ?_⟩
          exact ⟨_, _, _, _, hA, hB, q3, f2, q9, q10, f49, q12, q25, h_0, q26, q27, q31, f12, q32, q33, q45, q46, h⟩
         ·
          replace h := Comp.run_b_f hc h; clear hc
          refine wp_exit (ex_then (ex_then (ex_same ?_)))
          have hd_ := hdone6 _ (Comp.run_pure h).symm; clear h
          subst hd_; have h := hk6; clear hk6; try dsimp only at h
          refine nx_blk (nx_then ?_)
          exact ⟨_, _, _, hA, hB, q3, f2, q9, q10, f35, q25, h_0, q26, q27, q31, f12, q32, q33, h⟩
       intro a39 w39 hI
       clear hA hB h q3 q9 q10 q25 q26 q27 q31 q32 q33 q34 f12 f2 f20 h_0
       obtain ⟨O53, x30, u31, hA, hB, q3, f2, q9, q10, f32, q25, h_0, q26, q27, q31, f12, q32, q33, h⟩ := hI
       unfold core_Hitting_j5 at h
       refine' region [_, _] mixed hA (.cons (fun _ _ hE hK hg => ok_add (kn (hK 33 rfl) rfl q33) rfl) (.cons (fun _ _ hE hK hg => ok_move (ksv (j := 0) (hK 62 rfl) rfl rfl rfl)) .nil)) ?zok23 ?zgd23 ?zk23
       case zok23 | zgd23 => kernel_rfl
       intro a40 w40 hA hE HF
       replace q3 := kn (HF 3) rfl q3
       replace q9 := kn (HF 9) rfl q9
       replace q10 := kn (HF 10) rfl q10
       replace q25 := kn (HF 25) rfl q25
       replace q26 := kn (HF 26) rfl q26
       replace q27 := kn (HF 27) rfl q27
       replace q31 := kn (HF 31) rfl q31
       replace q32 := kn (HF 32) rfl q32
       have q33' := ksv (HF 33) rfl rfl rfl
       replace q33 := q33'; clear q33'
       clear HF
       replace f2 := GR.v_ext _ f2 hE
       replace f32 := f32.ext hE
       replace h_0 := GR.v_ext _ h_0 hE
       replace f12 := f12.ext hE
       replace hB := Base.step hB hE hO; clear hE
       refine li_nil (nx_then ?_)
       have h := hnext4 _ (Comp.run_pure h).symm
       refine ⟨m4, hlt4, ?_⟩
       exact ⟨_, _, _, _, hA, hB, q3, f2, q9, q10, f32, q25, h_0, q26, q27, q31, f12, q32, q33, h⟩
      ·
       replace h := Comp.run_b_f hc h; clear hc
       refine wp_exit (ex_then (ex_then (ex_same ?_)))
       have hd_ := hdone4 _ (Comp.run_pure h).symm; clear h
       subst hd_; have h := hk4; clear hk4; try dsimp only at h
       refine nx_then ?_
       obtain ⟨O59, hB', hX, f60⟩ := freezeL hO hB f20 (by decide)
       clear f20 hB; have hB := hB'; clear hB'
       replace f2 := GR.kx _ f2 hX (by decide)
       replace h_0 := GR.kx _ h_0 hX (by decide)
       replace f12 := f12.kx hX (by decide) (by decide)
       clear hX
       exact ⟨_, _, _, hA, hB, q3, f2, q10, f60, q25, h_0, q26, q27, h⟩
     intro a41 w41 hI
     clear hA hB h q3 q7 q9 q10 q25 q26 q27 f12 f2 h_0
     obtain ⟨O61, x56, u57, hA, hB, q3, f2, q10, f58, q25, h_0, q26, q27, h⟩ := hI
     unfold core_Hitting_j3 at h
     refine' regionT [_] hA (.cons (fun _ _ hE hK hg => ok_move (kn (hK 10 rfl) rfl q10)) .nil) ?zok24 ?zgd24 ?zk24
     case zok24 | zgd24 => kernel_rfl
     intro a42 w42 hA hE HF
     replace q3 := kn (HF 3) rfl q3
     replace q25 := kn (HF 25) rfl q25
     replace q26 := kn (HF 26) rfl q26
     replace q27 := kn (HF 27) rfl q27
     have q63 := ksv (HF 63) rfl rfl rfl
     clear q10
     clear HF
     replace f2 := GR.v_ext _ f2 hE
     replace f58 := GR.v_ext _ f58 hE
     replace h_0 := GR.v_ext _ h_0 hE
     replace hB := Base.step hB hE hO; clear hE
     obtain ⟨x62, hx62, h⟩ := Comp.run_bind h
     refine l_ok (φ := SP.ownr (rInt .i64) 3 w42.heap.size O61 x62) hO hB (by have c_ := ok_core_Minimal hB.ok f58 hx62; exact ok_weak (ok_call1 fn66 q63 c_) (fun _ _ _ h => h)) rfl fun u63 w43 hE hB' f64 => ?_
     clear hB'; obtain ⟨O65, hB', hX, f66⟩ := ownNew hO hB hE f64 rfl 4 (by decide)
     clear hB f64; have hB := hB'; clear hB'
     replace f2 := GR.kx _ f2 hX (by decide)
     replace h_0 := GR.kx _ h_0 hX (by decide)
     replace f58 := GR.kx _ f58 hX (by decide)
     clear hX hE
     refine put_cont hA (by decide) fun a44 hA q_ hfr => ?_
     replace q3 := (hfr 3 rfl).trans q3
     replace q25 := (hfr 25 rfl).trans q25
     replace q26 := (hfr 26 rfl).trans q26
     replace q27 := (hfr 27 rfl).trans q27
     replace q63 := (hfr 63 rfl).trans q63
     have q64 := q_; clear q_ hfr
     refine l_ok (φ := SP.isv (u63)) hO hB (by exact ok_assign q64) rfl fun u_ w45 hE hB' hv_ => ?_
     replace hv_ := Eq.symm hv_; subst hv_; clear hB; have hB := hB'; clear hB'
     replace f2 := GR.v_ext _ f2 hE
     replace h_0 := GR.v_ext _ h_0 hE
     replace f66 := f66.ext hE
     clear hE
     refine put_cont hA (by decide) fun a46 hA q_ hfr => ?_
     replace q3 := (hfr 3 rfl).trans q3
     replace q25 := (hfr 25 rfl).trans q25
     replace q26 := (hfr 26 rfl).trans q26
     replace q27 := (hfr 27 rfl).trans q27
     replace q64 := (hfr 64 rfl).trans q64
     have q7 := q_; clear q_ hfr
     refine li_nil (nx_blk (nx_then ?_))
     refine' region [_, _] mixed hA (.cons (fun _ _ hE hK hg => ok_add (kn (hK 27 rfl) rfl q27) rfl) (.cons (fun _ _ hE hK hg => ok_move (ksv (j := 0) (hK 65 rfl) rfl rfl rfl)) .nil)) ?zok25 ?zgd25 ?zk25
     case zok25 | zgd25 => kernel_rfl
     intro a47 w47 hA hE HF
     replace q3 := kn (HF 3) rfl q3
     replace q7 := kn (HF 7) rfl q7
     replace q25 := kn (HF 25) rfl q25
     replace q26 := kn (HF 26) rfl q26
     have q27' := ksv (HF 27) rfl rfl rfl
     replace q27 := q27'; clear q27'
     clear HF
     replace f2 := GR.v_ext _ f2 hE
     replace h_0 := GR.v_ext _ h_0 hE
     replace f66 := f66.ext hE
     replace hB := Base.step hB hE hO; clear hE
     refine li_nil (nx_then ?_)
     obtain ⟨O67, hB', hX, f68⟩ := retagL (okB_fr hB) hB f66 2 (by decide) (by decide)
     clear f66 hB; have hB := hB'; clear hB'
     replace f2 := GR.kx _ f2 hX (by decide)
     replace h_0 := GR.kx _ h_0 hX (by decide)
     clear hX
     have h := hnext2 _ (Comp.run_pure h).symm
     refine ⟨m2, hlt2, ?_⟩
     exact ⟨_, _, _, _, hA, hB, q3, f2, q7, f68, q25, h_0, q26, q27, h⟩
    ·
     replace h := Comp.run_b_f hc h; clear hc
     refine wp_exit (ex_then (ex_then (ex_same ?_)))
     have hd_ := hdone2 _ (Comp.run_pure h).symm; clear h
     subst hd_; have h := hk2; clear hk2; try dsimp only at h
     refine nx_then ?_
     exact ⟨_, _, _, hA, hB, q7, f12, h⟩
   intro a48 w48 hI
   clear hA hB h q0 q3 q7 f2 f9 h_0
   obtain ⟨O74, x71, u72, hA, hB, q7, f73, h⟩ := hI
   unfold core_Hitting_j1 at h
   refine wp_seq ?_
   refine' region [_, _, _] mixed hA (.cons (fun _ _ hE hK hg => ok_move (kn (hK 7 rfl) rfl q7)) (.cons (fun _ _ hE hK hg => ok_assign (ksv (j := 0) (hK 66 rfl) rfl rfl rfl)) (.cons (fun _ _ hE hK hg => ok_assign rfl) .nil))) ?zok26 ?zgd26 ?zk26
   case zok26 | zgd26 => kernel_rfl
   intro a49 w49 hA hE HF
   have q4 := ksv (HF 4) rfl rfl rfl
   have q5 := ksv (HF 5) rfl rfl rfl
   clear q7
   clear HF
   replace f73 := f73.ext hE
   replace hB := Base.step hB hE hO; clear hE
   refine li_nil (nx_then (wp_ret ?_))
   have h := Comp.run_pure h; subst h
   exact retPure2 Try.results43 hA q4 q5 hB.ext ⟨_, _, rfl, (OwnL.res f73 (by decide) hB.zero), rfl⟩
theorem ok_court_Explains_f1 {O : Tags} {w0 : World} (hO : OkO O w0) {x_0 : Int} {v_1 : Value} {x_1 : List api_Claim} (h_1 : (rBox (rSl r_api_Claim)).v O w0 v_1 x_1) {v_2 : Value} {x_2 : Int} (h_2 : (rBox (rInt .i64)).v O w0 v_2 x_2) {n : Nat} {y : Bool} (h : (court_Explains_f1 x_0 x_1 x_2).run n = some y) : Pure Try.prog 45 #[.int .i64 x_0, v_1, v_2] w0 (SP.isv (.bool y)).holds := by
 unfold court_Explains_f1 at h
 refine pure_of_wp Try.func45 rfl 28 Try.ntmps45 (by simp) fun a0 hA hs0 => ?_
 have q0 : a0.get 0 = .int .i64 x_0 := hs0 0 _ rfl
 have q1 : a0.get 1 = v_1 := hs0 1 _ rfl
 have q2 : a0.get 2 = v_2 := hs0 2 _ rfl
 clear hs0
 have hB : Base (Fr w0) O w0 O w0 := Base.start hO
 refine wp_seq ?_
 refine' region [_] mixed hA (.cons (fun _ _ hE hK hg => ok_assign rfl) .nil) ?zok1 ?zgd1 ?zk1
 case zok1 | zgd1 => kernel_rfl
 intro a1 w1 hA hE HF
 replace q0 := kn (HF 0) rfl q0
 replace q1 := kn (HF 1) rfl q1
 replace q2 := kn (HF 2) rfl q2
 clear HF
 replace h_1 := GR.v_ext _ h_1 hE
 replace h_2 := GR.v_ext _ h_2 hE
 replace hB := Base.step hB hE hO; clear hE
 refine li_nil (nx_then (wp_seq ?_))
 refine' region [_] mixed hA (.cons (fun _ _ hE hK hg => ok_assign rfl) .nil) ?zok2 ?zgd2 ?zk2
 case zok2 | zgd2 => kernel_rfl
 intro a2 w2 hA hE HF
 replace q0 := kn (HF 0) rfl q0
 replace q1 := kn (HF 1) rfl q1
 replace q2 := kn (HF 2) rfl q2
 have q5 := ksv (HF 5) rfl rfl rfl
 clear HF
 replace h_1 := GR.v_ext _ h_1 hE
 replace h_2 := GR.v_ext _ h_2 hE
 replace hB := Base.step hB hE hO; clear hE
 refine li_nil (nx_then ?_)
 refine seq_join (fun a w => ∃ (O26 : Tags) (x25 : Int), a.fit 28 ∧ Base (Fr w0) O w0 O26 w ∧ a.get 2 = v_2 ∧ (rBox (rInt .i64)).v O26 w v_2 x_2 ∧ a.get 5 = .int .i64 x25 ∧ (court_Explains_f1_j1 x_2 x25).run n = some y) ?_ ?_
 ·
  refine wp_seq ?_
  refine' region [SP.vl (rSl r_api_Claim) O x_1, _, _] mixed hA (.cons (fun _ _ hE hK hg => okl_ld (r := (rSl r_api_Claim)) (fun _ => rfl) ty27 rfl rfl (kn (hK 1 rfl) rfl q1) (ptr_of_box (fun _ => rfl) (GR.v_ext _ h_1 hE))) (.cons (fun _ _ hE hK hg => okl_len (r := r_api_Claim) ty27 rfl (rd_of (kspS (φ := SP.vl (rSl r_api_Claim) O x_1) (j := 0) (hK 8 rfl) rfl rfl rfl))) (.cons (fun _ _ hE hK hg => ok_move rfl) .nil))) ?zok3 ?zgd3 ?zk3
  case zok3 | zgd3 => kernel_rfl
  intro a3 w3 hA hE HF
  replace q0 := kn (HF 0) rfl q0
  replace q2 := kn (HF 2) rfl q2
  replace q5 := kn (HF 5) rfl q5
  have f2 := ksp (HF 8) rfl rfl rfl
  obtain ⟨u1, q8'⟩ : ∃ u, a3.get 8 = u := ⟨_, rfl⟩
  rw [q8'] at f2
  have q8 := q8'; clear q8'
  have q9 := ksv (HF 9) rfl rfl rfl
  have q10 := ksv (HF 10) rfl rfl rfl
  clear q1
  clear HF
  replace h_1 := GR.v_ext _ h_1 hE
  replace h_2 := GR.v_ext _ h_2 hE
  replace hB := Base.step hB hE hO; clear hE
  refine li_nil (nx_then (wp_block ?_))
  obtain ⟨e2, he2, hk2⟩ := Comp.run_bind h; clear h
  refine loop_m (fun m a w => ∃ (O5 : Tags) (x3 : Int) (x4 : Int), a.fit 28 ∧ Base (Fr w0) O w0 O5 w ∧ a.get 0 = .int .i64 x_0 ∧ a.get 2 = v_2 ∧ (rBox (rInt .i64)).v O5 w v_2 x_2 ∧ a.get 5 = .int .i64 x3 ∧ a.get 8 = u1 ∧ (rSl r_api_Claim).v O5 w u1 x_1 ∧ a.get 9 = .int .i64 (x_1.length : Int) ∧ a.get 10 = .int .i64 x4 ∧ Comp.loopN (fun s => court_Explains_f1_l2 x_1 x_0 s.1 s.2) n m (x3, x4) = some e2) (m := n) ?st2 ?_
  case st2 =>
   exact ⟨_, _, _, hA, hB, q0, q2, h_2, q5, q8, f2, q9, q10, Comp.run_loop he2⟩
  intro m_ a4 w4 hI
  clear hA hB he2 q0 q2 q5 q8 q9 q10 f2 h_2
  obtain ⟨O5, x3, x4, hA, hB, q0, q2, h_2, q5, q8, f2, q9, q10, hl⟩ := hI
  obtain ⟨m2, hlt2, st2, h, hnext2, hdone2⟩ := Comp.loopN_succ hl; clear hl
  replace h : (court_Explains_f1_l2 x_1 x_0 x3 x4).run n = some st2 := h
  unfold court_Explains_f1_l2 at h
  refine wp_seq ?_
  refine' region [_] mixed hA (.cons (fun _ _ hE hK hg => ok_lss (kn (hK 10 rfl) rfl q10) (kn (hK 9 rfl) rfl q9)) .nil) ?zok4 ?zgd4 ?zk4
  case zok4 | zgd4 => kernel_rfl
  intro a5 w5 hA hE HF
  replace q0 := kn (HF 0) rfl q0
  replace q2 := kn (HF 2) rfl q2
  replace q5 := kn (HF 5) rfl q5
  replace q8 := kn (HF 8) rfl q8
  replace q9 := kn (HF 9) rfl q9
  replace q10 := kn (HF 10) rfl q10
  have q11 := ksv (HF 11) rfl rfl rfl
  clear HF
  replace h_2 := GR.v_ext _ h_2 hE
  replace f2 := GR.v_ext _ f2 hE
  replace hB := Base.step hB hE hO; clear hE
  refine li_nil (nx_then (wp_seq ?_))
  refine wp_cond_b q11 (fun hc => ?_) (fun hc => ?_)
  ·
   replace h := Comp.run_b_t hc h; clear hc
   refine wp_skip (nx_then ?_)
   refine seq_join (fun a w => ∃ (O22 : Tags) (x21 : Int), a.fit 28 ∧ Base (Fr w0) O w0 O22 w ∧ a.get 0 = .int .i64 x_0 ∧ a.get 2 = v_2 ∧ (rBox (rInt .i64)).v O22 w v_2 x_2 ∧ a.get 5 = .int .i64 x21 ∧ a.get 8 = u1 ∧ (rSl r_api_Claim).v O22 w u1 x_1 ∧ a.get 9 = .int .i64 (x_1.length : Int) ∧ a.get 10 = .int .i64 x4 ∧ (court_Explains_f1_j3 x4 x21).run n = some st2) ?_ ?_
   ·
    refine wp_block (wp_seq ?_)
    obtain ⟨x6, hx6, h⟩ := Comp.run_bind h
    refine' regionT [_, SP.ptr r_api_Claim O5 x6, SP.vl r_api_Claim O5 x6] hA (.cons (fun _ _ hE hK hg => ok_move (kn (hK 10 rfl) rfl q10)) (.cons (fun _ _ hE hK hg => okl_idx (r := r_api_Claim) (O := O5) ty27 ty33 rfl (kn (hK 8 rfl) rfl q8) (rd_of (GR.v_ext _ f2 hE)) (kn (hK 10 rfl) rfl q10) hx6) (.cons (fun _ _ hE hK hg => okl_ld (r := r_api_Claim) fit_api_Claim ty33 rfl rfl rfl (kspS (φ := SP.ptr r_api_Claim O5 x6) (j := 1) (hK 13 rfl) rfl rfl rfl)) .nil))) ?zok5 ?zgd5 ?zk5
    case zok5 | zgd5 => kernel_rfl
    intro a6 w6 hA hE HF
    replace q0 := kn (HF 0) rfl q0
    replace q2 := kn (HF 2) rfl q2
    replace q5 := kn (HF 5) rfl q5
    replace q8 := kn (HF 8) rfl q8
    replace q9 := kn (HF 9) rfl q9
    replace q10 := kn (HF 10) rfl q10
    have q12 := ksv (HF 12) rfl rfl rfl
    have f8 := ksp (HF 14) rfl rfl rfl
    obtain ⟨u7, q14'⟩ : ∃ u, a6.get 14 = u := ⟨_, rfl⟩
    rw [q14'] at f8
    have q14 := q14'; clear q14'
    clear q11
    clear HF
    replace h_2 := GR.v_ext _ h_2 hE
    replace f2 := GR.v_ext _ f2 hE
    replace hB := Base.step hB hE hO; clear hE
    refine l_ok (φ := SP.box w6.heap.size #[.int .i64 0, .int .i64 0, .int .i64 0, .slice none 0 0, .slice none 0 0] 33) hO hB (by exact ok_alloc (Nat.le_refl _) ty33) rfl fun u9 w7 hE hB' f10 => ?_
    clear hB'; obtain ⟨O11, b13, hB', hX, e_, f12⟩ := boxNew hO hB hE f10 1 (by decide)
    subst e_; clear hB f10; have hB := hB'; clear hB'
    replace h_2 := GR.kx _ h_2 hX (by decide)
    replace f2 := GR.kx _ f2 hX (by decide)
    replace f8 := GR.kx _ f8 hX (by decide)
    clear hX hE
    refine put_cont hA (by decide) fun a8 hA q_ hfr => ?_
    replace q0 := (hfr 0 rfl).trans q0
    replace q2 := (hfr 2 rfl).trans q2
    replace q5 := (hfr 5 rfl).trans q5
    replace q8 := (hfr 8 rfl).trans q8
    replace q9 := (hfr 9 rfl).trans q9
    replace q10 := (hfr 10 rfl).trans q10
    replace q12 := (hfr 12 rfl).trans q12
    replace q14 := (hfr 14 rfl).trans q14
    have q7 := q_; clear q_ hfr
    refine l_ok (φ := SP.isv (.int .i64 x4)) hO hB (by exact ok_assign q12) rfl fun u_ w9 hE hB' hv_ => ?_
    replace hv_ := Eq.symm hv_; subst hv_; clear hB; have hB := hB'; clear hB'
    replace h_2 := GR.v_ext _ h_2 hE
    replace f2 := GR.v_ext _ f2 hE
    replace f8 := GR.v_ext _ f8 hE
    replace f12 := f12.ext hE
    clear hE
    refine put_cont hA (by decide) fun a10 hA q_ hfr => ?_
    replace q0 := (hfr 0 rfl).trans q0
    replace q2 := (hfr 2 rfl).trans q2
    replace q5 := (hfr 5 rfl).trans q5
    replace q7 := (hfr 7 rfl).trans q7
    replace q8 := (hfr 8 rfl).trans q8
    replace q9 := (hfr 9 rfl).trans q9
    replace q10 := (hfr 10 rfl).trans q10
    replace q12 := (hfr 12 rfl).trans q12
    replace q14 := (hfr 14 rfl).trans q14
    have q6 := q_; clear q_ hfr
    obtain ⟨u14, u16, e_, f15, f17⟩ := openV_api_Claim f8; subst e_
    refine l_storeSub (vs := [.int .i64 x6.Party, .int .i64 x6.Kind, .int .i64 x6.Gauge, u14, u16]) (cs' := #[.int .i64 x6.Party, .int .i64 x6.Kind, .int .i64 x6.Gauge, u14, u16]) hO hB (okB_fr hB) ty33 q7 q14 rfl (by intro c_ hc_; simp only [List.mem_cons, List.not_mem_nil, or_false] at hc_; rcases hc_ with rfl | rfl | rfl | rfl | rfl <;> first | rfl | assumption | exact sl_one f15 rfl rfl | exact sl_one f17 rfl rfl) f12 (by simp) rfl fun w11 f18 hB' hX => ?_
    clear hB f12; have hB := hB'; clear hB'
    replace h_2 := GR.kx _ h_2 hX (by decide)
    replace f2 := GR.kx _ f2 hX (by decide)
    replace f15 := GR.kx _ f15 hX (by decide)
    replace f17 := GR.kx _ f17 hX (by decide)
    clear hX
    refine li_nil (nx_then (wp_seq ?_))
    refine' region [SP.isv (.pointer (some ⟨b13, 1, none⟩)), SP.isv (.int .i64 x6.Kind), _] mixed hA (.cons (fun _ _ hE hK hg => ok_fieldAddr fl33_1 (kn (hK 7 rfl) rfl q7)) (.cons (fun _ _ hE hK hg => ok_loadOwn ty3 rfl (ksv (j := 0) (hK 15 rfl) rfl rfl rfl) (OwnB.ext f18 hE).own rfl) (.cons (fun _ _ hE hK hg => ok_eqlI (ksv (j := 1) (hK 16 rfl) rfl rfl rfl) rfl) .nil))) ?zok6 ?zgd6 ?zk6
    case zok6 | zgd6 => kernel_rfl
    intro a12 w12 hA hE HF
    replace q0 := kn (HF 0) rfl q0
    replace q2 := kn (HF 2) rfl q2
    replace q5 := kn (HF 5) rfl q5
    replace q6 := kn (HF 6) rfl q6
    replace q8 := kn (HF 8) rfl q8
    replace q9 := kn (HF 9) rfl q9
    replace q10 := kn (HF 10) rfl q10
    have q17 := ksv (HF 17) rfl rfl rfl
    clear q7
    clear HF
    replace h_2 := GR.v_ext _ h_2 hE
    replace f2 := GR.v_ext _ f2 hE
    replace f18 := f18.ext hE
    replace f15 := GR.v_ext _ f15 hE
    replace f17 := GR.v_ext _ f17 hE
    replace hB := Base.step hB hE hO; clear hE
    refine li_nil (nx_then ?_)
    refine wp_cond_b q17 (fun hc => ?_) (fun hc => ?_)
    ·
     replace h := Comp.run_b_t hc h; clear hc
     obtain ⟨x19, hx19, h⟩ := Comp.run_bind h
     refine' region [_, _, _, _, _, _, _] mixed hA (.cons (fun _ _ hE hK hg => ok_move (kn (hK 5 rfl) rfl q5)) (.cons (fun _ _ hE hK hg => ok_move (kn (hK 0 rfl) rfl q0)) (.cons (fun _ _ hE hK hg => ok_move (kn (hK 6 rfl) rfl q6)) (.cons (fun _ _ hE hK hg => okl_shr (ksv (j := 1) (hK 19 rfl) rfl rfl rfl) (ksv (j := 2) (hK 20 rfl) rfl rfl rfl) (run_nonneg hx19)) (.cons (fun _ _ hE hK hg => okb_and (ksv (j := 3) (hK 21 rfl) rfl rfl rfl) rfl) (.cons (fun _ _ hE hK hg => ok_add (ksv (j := 0) (hK 18 rfl) rfl rfl rfl) (ksv (j := 4) (hK 22 rfl) rfl rfl rfl)) (.cons (fun _ _ hE hK hg => ok_assign (ksv (j := 5) (hK 23 rfl) rfl rfl rfl)) .nil))))))) ?zok7 ?zgd7 ?zk7
     case zok7 | zgd7 => kernel_rfl
     intro a13 w13 hA hE HF
     replace q0 := kn (HF 0) rfl q0
     replace q2 := kn (HF 2) rfl q2
     have q5' := ksv (HF 5) rfl rfl rfl
     replace q5 := q5'; clear q5'
     replace q8 := kn (HF 8) rfl q8
     replace q9 := kn (HF 9) rfl q9
     replace q10 := kn (HF 10) rfl q10
     clear q6
     clear q17
     clear HF
     replace h_2 := GR.v_ext _ h_2 hE
     replace f2 := GR.v_ext _ f2 hE
     replace hB := Base.step hB hE hO; clear hE
     obtain ⟨x20, hx_, h⟩ := Comp.run_bind h; replace hx_ := Comp.run_pure hx_; rw [hx_] at q5; clear hx_
     refine li_nil (nx_blk (nx_then ?_))
     exact ⟨_, _, hA, hB, q0, q2, h_2, q5, q8, f2, q9, q10, h⟩
    ·
     replace h := Comp.run_b_f hc h; clear hc
     refine wp_skip (nx_blk (nx_then ?_))
     exact ⟨_, _, hA, hB, q0, q2, h_2, q5, q8, f2, q9, q10, h⟩
   intro a14 w14 hI
   clear hA hB h q0 q2 q5 q8 q9 q10 q11 f2 h_2
   obtain ⟨O22, x21, hA, hB, q0, q2, h_2, q5, q8, f2, q9, q10, h⟩ := hI
   unfold court_Explains_f1_j3 at h
   refine' region [_, _] mixed hA (.cons (fun _ _ hE hK hg => ok_add (kn (hK 10 rfl) rfl q10) rfl) (.cons (fun _ _ hE hK hg => ok_move (ksv (j := 0) (hK 24 rfl) rfl rfl rfl)) .nil)) ?zok8 ?zgd8 ?zk8
   case zok8 | zgd8 => kernel_rfl
   intro a15 w15 hA hE HF
   replace q0 := kn (HF 0) rfl q0
   replace q2 := kn (HF 2) rfl q2
   replace q5 := kn (HF 5) rfl q5
   replace q8 := kn (HF 8) rfl q8
   replace q9 := kn (HF 9) rfl q9
   have q10' := ksv (HF 10) rfl rfl rfl
   replace q10 := q10'; clear q10'
   clear HF
   replace h_2 := GR.v_ext _ h_2 hE
   replace f2 := GR.v_ext _ f2 hE
   replace hB := Base.step hB hE hO; clear hE
   refine li_nil (nx_then ?_)
   have h := hnext2 _ (Comp.run_pure h).symm
   refine ⟨m2, hlt2, ?_⟩
   exact ⟨_, _, _, hA, hB, q0, q2, h_2, q5, q8, f2, q9, q10, h⟩
  ·
   replace h := Comp.run_b_f hc h; clear hc
   refine wp_exit (ex_then (ex_then (ex_same ?_)))
   have hd_ := hdone2 _ (Comp.run_pure h).symm; clear h
   subst hd_; have h := hk2; clear hk2; try dsimp only at h
   refine nx_then ?_
   exact ⟨_, _, hA, hB, q2, h_2, q5, h⟩
 intro a16 w16 hI
 clear hA hB h q0 q1 q2 q5 h_1 h_2
 obtain ⟨O26, x25, hA, hB, q2, h_2, q5, h⟩ := hI
 unfold court_Explains_f1_j1 at h
 refine wp_seq ?_
 refine' region [_, SP.isv (.int .i64 x_2), _, _] mixed hA (.cons (fun _ _ hE hK hg => ok_move (kn (hK 5 rfl) rfl q5)) (.cons (fun _ _ hE hK hg => okl_ldr (rInt .i64) (fun _ => rfl) ty3 rfl rfl (kn (hK 2 rfl) rfl q2) (ptr_of_box (fun _ => rfl) (GR.v_ext _ h_2 hE)) (fun _ _ _ h => rInt_v.1 h)) (.cons (fun _ _ hE hK hg => ok_gtr (ksv (j := 0) (hK 25 rfl) rfl rfl rfl) (ksv (j := 1) (hK 26 rfl) rfl rfl rfl)) (.cons (fun _ _ hE hK hg => ok_assign (ksv (j := 2) (hK 27 rfl) rfl rfl rfl)) .nil)))) ?zok9 ?zgd9 ?zk9
 case zok9 | zgd9 => kernel_rfl
 intro a17 w17 hA hE HF
 have q4 := ksv (HF 4) rfl rfl rfl
 clear q2
 clear q5
 clear HF
 replace h_2 := GR.v_ext _ h_2 hE
 replace hB := Base.step hB hE hO; clear hE
 refine li_nil (nx_then (wp_ret ?_))
 have h := Comp.run_pure h; subst h
 exact retPure Try.results45 hA q4 hB.ext rfl
theorem ok_slices_DeleteFunc_int_int {O : Tags} {w0 : World} (hO : OkO O w0) {v_0 : Value} {x_0 : List Int} (h_0 : OwnA (rInt .i64) 3 O w0 v_0 x_0) {v_1 : Value} {x_1 : Int → Comp Bool} (h_1 : (rF1 Try.prog (rInt .i64) (RS.c (fun x => .bool x))).v O w0 v_1 x_1) {n : Nat} {y : (List Int)} (h : (slices_DeleteFunc_int_int x_0 x_1).run n = some y) : Calls Try.prog 44 #[v_0, v_1] w0 (IoPost (rInt .i64) 3 O w0 v_0 y fun v u' => v = u') := by
 unfold slices_DeleteFunc_int_int at h
 refine bio_of_wp Try.func44 rfl 42 Try.ntmps44 (by simp) fun a0 hA hs0 => ?_
 have q0 : a0.get 0 = v_0 := hs0 0 _ rfl
 have q1 : a0.get 1 = v_1 := hs0 1 _ rfl
 clear hs0
 obtain ⟨Oi_, hB, f1, hk_⟩ := sioStart hO h_0
 replace h_1 := GR.v_mono _ h_1 hk_
 clear hk_ h_0
 refine wp_seq ?_
 refine' region [_] mixed hA (.cons (fun _ _ hE hK hg => ok_assign rfl) .nil) ?zok1 ?zgd1 ?zk1
 case zok1 | zgd1 => kernel_rfl
 intro a1 w1 hA hE HF
 replace q0 := kn (HF 0) rfl q0
 replace q1 := kn (HF 1) rfl q1
 clear HF
 replace h_1 := GR.v_ext _ h_1 hE
 replace f1 := f1.ext hE
 replace hB := Base.step hB hE hO; clear hE
 refine li_nil (nx_then (wp_seq ?_))
 obtain ⟨x2, hx2, h⟩ := Comp.run_bind h
 refine' region [_, _, SP.isv (.int .i64 x2), _] mixed hA (.cons (fun _ _ hE hK hg => ok_move (kn (hK 0 rfl) rfl q0)) (.cons (fun _ _ hE hK hg => ok_move (kn (hK 1 rfl) rfl q1)) (.cons ?z2_2 (.cons (fun _ _ hE hK hg => ok_assign (ksv (j := 2) (hK 10 rfl) rfl rfl rfl)) .nil)))) ?zok2 ?zgd2 ?zk2
 case z2_2 => intro a' w' hE hK hg; have c_ := ok_slices_IndexFunc_int_int (okO_zero _) (OwnL.lend (OwnL.ext f1 hE)) (GR.lend _ (GR.v_ext _ h_1 hE)) hx2; exact ok_call2 fn67 (ksv (j := 0) (hK 8 rfl) rfl rfl rfl) (ksv (j := 1) (hK 9 rfl) rfl rfl rfl) c_
 case zok2 | zgd2 => kernel_rfl
 intro a2 w2 hA hE HF
 replace q0 := kn (HF 0) rfl q0
 replace q1 := kn (HF 1) rfl q1
 have q5 := ksv (HF 5) rfl rfl rfl
 clear HF
 replace f1 := f1.ext hE
 replace h_1 := GR.v_ext _ h_1 hE
 replace hB := Base.step hB hE hO; clear hE
 refine li_nil (nx_then (wp_seq (wp_seq ?_)))
 refine' region [_, _] mixed hA (.cons (fun _ _ hE hK hg => ok_move (kn (hK 5 rfl) rfl q5)) (.cons (fun _ _ hE hK hg => ok_eqlI (ksv (j := 0) (hK 11 rfl) rfl rfl rfl) rfl) .nil)) ?zok3 ?zgd3 ?zk3
 case zok3 | zgd3 => kernel_rfl
 intro a3 w3 hA hE HF
 replace q0 := kn (HF 0) rfl q0
 replace q1 := kn (HF 1) rfl q1
 replace q5 := kn (HF 5) rfl q5
 have q12 := ksv (HF 12) rfl rfl rfl
 clear HF
 replace f1 := f1.ext hE
 replace h_1 := GR.v_ext _ h_1 hE
 replace hB := Base.step hB hE hO; clear hE
 refine li_nil (nx_then ?_)
 refine wp_cond_b q12 (fun hc => ?_) (fun hc => ?_)
 ·
  replace h := Comp.run_b_t hc h; clear hc
  refine wp_seq ?_
  refine' region [_, _] mixed hA (.cons (fun _ _ hE hK hg => ok_move (kn (hK 0 rfl) rfl q0)) (.cons (fun _ _ hE hK hg => ok_assign (ksv (j := 0) (hK 13 rfl) rfl rfl rfl)) .nil)) ?zok4 ?zgd4 ?zk4
  case zok4 | zgd4 => kernel_rfl
  intro a4 w4 hA hE HF
  have q4 := ksv (HF 4) rfl rfl rfl
  clear q0
  clear q1
  clear q5
  clear q12
  clear HF
  replace f1 := f1.ext hE
  replace h_1 := GR.v_ext _ h_1 hE
  replace hB := Base.step hB hE hO; clear hE
  refine li_nil (nx_then (wp_ret (rt_then ?_)))
  have h := Comp.run_pure h; subst h
  exact retG1 Try.results44 hA (.tmp q4) (sioEnd hB f1 (by decide) rfl)
 ·
  replace h := Comp.run_b_f hc h; clear hc
  refine wp_skip (nx_then ?_)
  refine seq_join (fun a w => ∃ (O29 : Tags) (x25 : List Int) (x28 : Int) (u26 : Value), a.fit 42 ∧ Base (FrS w0 v_0) O w0 O29 w ∧ a.get 0 = u26 ∧ OwnL 1 (rInt .i64) 3 (FrS w0 v_0) O29 w u26 x25 ∧ a.get 5 = .int .i64 x28 ∧ (slices_DeleteFunc_int_int_j1 x25 x28).run n = some y) ?_ ?_
  ·
   refine wp_seq ?_
   refine' region [_, _, _] mixed hA (.cons (fun _ _ hE hK hg => ok_move (kn (hK 5 rfl) rfl q5)) (.cons (fun _ _ hE hK hg => ok_add (ksv (j := 0) (hK 14 rfl) rfl rfl rfl) rfl) (.cons (fun _ _ hE hK hg => ok_assign (ksv (j := 1) (hK 15 rfl) rfl rfl rfl)) .nil))) ?zok5 ?zgd5 ?zk5
   case zok5 | zgd5 => kernel_rfl
   intro a5 w5 hA hE HF
   replace q0 := kn (HF 0) rfl q0
   replace q1 := kn (HF 1) rfl q1
   replace q5 := kn (HF 5) rfl q5
   have q6 := ksv (HF 6) rfl rfl rfl
   clear q12
   clear HF
   replace f1 := f1.ext hE
   replace h_1 := GR.v_ext _ h_1 hE
   replace hB := Base.step hB hE hO; clear hE
   refine li_nil (nx_then (wp_block ?_))
   obtain ⟨e2, he2, hk2⟩ := Comp.run_bind h; clear h
   refine loop_m (fun m a w => ∃ (O8 : Tags) (x3 : List Int) (x6 : Int) (x7 : Int) (u4 : Value), a.fit 42 ∧ Base (FrS w0 v_0) O w0 O8 w ∧ a.get 0 = u4 ∧ OwnL 1 (rInt .i64) 3 (FrS w0 v_0) O8 w u4 x3 ∧ a.get 1 = v_1 ∧ (rF1 Try.prog (rInt .i64) (RS.c (fun x => .bool x))).v O8 w v_1 x_1 ∧ a.get 5 = .int .i64 x6 ∧ a.get 6 = .int .i64 x7 ∧ Comp.loopN (fun s => slices_DeleteFunc_int_int_l2 x_1 s.1 s.2.1 s.2.2) n m (x3, x6, x7) = some e2) (m := n) ?st2 ?_
   case st2 =>
    exact ⟨_, _, _, _, _, hA, hB, q0, f1, q1, h_1, q5, q6, Comp.run_loop he2⟩
   intro m_ a6 w6 hI
   clear hA hB he2 q0 q1 q5 q6 f1 h_1
   obtain ⟨O8, x3, x6, x7, u4, hA, hB, q0, f5, q1, h_1, q5, q6, hl⟩ := hI
   obtain ⟨m2, hlt2, st2, h, hnext2, hdone2⟩ := Comp.loopN_succ hl; clear hl
   replace h : (slices_DeleteFunc_int_int_l2 x_1 x3 x6 x7).run n = some st2 := h
   unfold slices_DeleteFunc_int_int_l2 at h
   refine wp_seq (wp_seq ?_)
   refine' region [_, _, _, _] mixed hA (.cons (fun _ _ hE hK hg => ok_move (kn (hK 6 rfl) rfl q6)) (.cons (fun _ _ hE hK hg => ok_move (kn (hK 0 rfl) rfl q0)) (.cons (fun _ _ hE hK hg => okl_len (r := (rInt .i64)) ty23 (ksv (j := 1) (hK 17 rfl) rfl rfl rfl) (OwnL.rd (OwnL.ext f5 hE))) (.cons (fun _ _ hE hK hg => ok_lss (ksv (j := 0) (hK 16 rfl) rfl rfl rfl) (ksv (j := 2) (hK 18 rfl) rfl rfl rfl)) .nil)))) ?zok6 ?zgd6 ?zk6
   case zok6 | zgd6 => kernel_rfl
   intro a7 w7 hA hE HF
   replace q0 := kn (HF 0) rfl q0
   replace q1 := kn (HF 1) rfl q1
   replace q5 := kn (HF 5) rfl q5
   replace q6 := kn (HF 6) rfl q6
   have q19 := ksv (HF 19) rfl rfl rfl
   clear HF
   replace f5 := f5.ext hE
   replace h_1 := GR.v_ext _ h_1 hE
   replace hB := Base.step hB hE hO; clear hE
   refine li_nil (nx_then ?_)
   refine wp_cond_b q19 (fun hc => ?_) (fun hc => ?_)
   ·
    replace h := Comp.run_b_t hc h; clear hc
    refine wp_skip (nx_then ?_)
    refine seq_join (fun a w => ∃ (O20 : Tags) (x16 : List Int) (x19 : Int) (u17 : Value), a.fit 42 ∧ Base (FrS w0 v_0) O w0 O20 w ∧ a.get 0 = u17 ∧ OwnL 1 (rInt .i64) 3 (FrS w0 v_0) O20 w u17 x16 ∧ a.get 1 = v_1 ∧ (rF1 Try.prog (rInt .i64) (RS.c (fun x => .bool x))).v O20 w v_1 x_1 ∧ a.get 5 = .int .i64 x19 ∧ a.get 6 = .int .i64 x7 ∧ (slices_DeleteFunc_int_int_j3 x7 x16 x19).run n = some st2) ?_ ?_
    ·
     refine wp_block (wp_seq ?_)
     obtain ⟨x9, hx9, h⟩ := Comp.run_bind h
     refine' region [_, _, SP.ptr (rInt .i64) O8 x9, SP.isv (.int .i64 x9), _] mixed hA (.cons (fun _ _ hE hK hg => ok_move (kn (hK 0 rfl) rfl q0)) (.cons (fun _ _ hE hK hg => ok_move (kn (hK 6 rfl) rfl q6)) (.cons (fun _ _ hE hK hg => okl_idx (r := (rInt .i64)) (O := O8) ty23 ty3 rfl (ksv (j := 0) (hK 22 rfl) rfl rfl rfl) (OwnL.rd (OwnL.ext f5 hE)) (ksv (j := 1) (hK 23 rfl) rfl rfl rfl) hx9) (.cons (fun _ _ hE hK hg => okl_ldr (rInt .i64) (fun _ => rfl) ty3 rfl rfl rfl (kspS (φ := SP.ptr (rInt .i64) O8 x9) (j := 2) (hK 24 rfl) rfl rfl rfl) (fun _ _ _ h => rInt_v.1 h)) (.cons (fun _ _ hE hK hg => ok_assign (ksv (j := 3) (hK 25 rfl) rfl rfl rfl)) .nil))))) ?zok7 ?zgd7 ?zk7
     case zok7 | zgd7 => kernel_rfl
     intro a8 w8 hA hE HF
     replace q0 := kn (HF 0) rfl q0
     replace q1 := kn (HF 1) rfl q1
     replace q5 := kn (HF 5) rfl q5
     replace q6 := kn (HF 6) rfl q6
     have q7 := ksv (HF 7) rfl rfl rfl
     clear q19
     clear HF
     replace f5 := f5.ext hE
     replace h_1 := GR.v_ext _ h_1 hE
     replace hB := Base.step hB hE hO; clear hE
     refine li_nil (nx_then (wp_seq ?_))
     obtain ⟨x10, hx10, h⟩ := Comp.run_bind h
     refine' region [_, _, SP.isv (.bool x10), _] mixed hA (.cons (fun _ _ hE hK hg => ok_move (kn (hK 1 rfl) rfl q1)) (.cons (fun _ _ hE hK hg => ok_move (kn (hK 7 rfl) rfl q7)) (.cons (fun _ _ hE hK hg => okl_callv1 (R := (RS.c (fun x => .bool x))) (ksv (j := 0) (hK 26 rfl) rfl rfl rfl) (show ((rF1 Try.prog (rInt .i64) (RS.c (fun x => .bool x)))).v O8 _ _ _ from (GR.v_ext _ h_1 hE)) (OkO.ext hB.ok hE) (ksv (j := 1) (hK 27 rfl) rfl rfl rfl) (by exact rInt_v.2 rfl) hx10) (.cons (fun _ _ hE hK hg => ok_not (ksv (j := 2) (hK 28 rfl) rfl rfl rfl)) .nil)))) ?zok8 ?zgd8 ?zk8
     case zok8 | zgd8 => kernel_rfl
     intro a9 w9 hA hE HF
     replace q0 := kn (HF 0) rfl q0
     replace q1 := kn (HF 1) rfl q1
     replace q5 := kn (HF 5) rfl q5
     replace q6 := kn (HF 6) rfl q6
     replace q7 := kn (HF 7) rfl q7
     have q29 := ksv (HF 29) rfl rfl rfl
     clear HF
     replace f5 := f5.ext hE
     replace h_1 := GR.v_ext _ h_1 hE
     replace hB := Base.step hB hE hO; clear hE
     refine li_nil (nx_then ?_)
     refine wp_cond_b q29 (fun hc => ?_) (fun hc => ?_)
     ·
      replace h := Comp.run_b_t hc h; clear hc
      refine wp_seq ?_
      obtain ⟨x11, hx11, h⟩ := Comp.run_bind h
      refine' regionT [_, _, _, SP.elt (u4) (Int.toNat x6 * 1)] hA (.cons (fun _ _ hE hK hg => ok_move (kn (hK 0 rfl) rfl q0)) (.cons (fun _ _ hE hK hg => ok_move (kn (hK 5 rfl) rfl q5)) (.cons (fun _ _ hE hK hg => ok_move (kn (hK 7 rfl) rfl q7)) (.cons (fun _ _ hE hK hg => okl_idxOwn rfl ty23 ty3 (ksv (j := 0) (hK 30 rfl) rfl rfl rfl) (OwnL.ext f5 hE) (ksv (j := 1) (hK 31 rfl) rfl rfl rfl) (idx_lt hx11)) .nil)))) ?zok9 ?zgd9 ?zk9
      case zok9 | zgd9 => kernel_rfl
      intro a10 w10 hA hE HF
      replace q0 := kn (HF 0) rfl q0
      replace q1 := kn (HF 1) rfl q1
      replace q5 := kn (HF 5) rfl q5
      replace q6 := kn (HF 6) rfl q6
      have q32 := ksv (HF 32) rfl rfl rfl
      have f13 := ksp (HF 33) rfl rfl rfl
      obtain ⟨u12, q33'⟩ : ∃ u, a10.get 33 = u := ⟨_, rfl⟩
      rw [q33'] at f13
      have q33 := q33'; clear q33'
      clear q7
      clear q29
      clear HF
      replace f5 := f5.ext hE
      replace h_1 := GR.v_ext _ h_1 hE
      replace hB := Base.step hB hE hO; clear hE
      obtain ⟨x15, hx15, h⟩ := Comp.run_bind h
      refine l_storeElt (r := (rInt .i64)) (fun _ => rfl) rfl hO hB (okB_self hB) ty3 q33 f13 f5 q32 (by exact rInt_v.2 rfl) hx15 (by decide) fun w11 f14 hB' hX => ?_
      clear hB; have hB := hB'; clear hB'
      replace h_1 := GR.kx _ h_1 hX (by decide)
      clear hX f5
      refine li_nil (nx_then ?_)
      refine' region [_, _, _] mixed hA (.cons (fun _ _ hE hK hg => ok_move (kn (hK 5 rfl) rfl q5)) (.cons (fun _ _ hE hK hg => ok_add (ksv (j := 0) (hK 34 rfl) rfl rfl rfl) rfl) (.cons (fun _ _ hE hK hg => ok_assign (ksv (j := 1) (hK 35 rfl) rfl rfl rfl)) .nil))) ?zok10 ?zgd10 ?zk10
      case zok10 | zgd10 => kernel_rfl
      intro a12 w12 hA hE HF
      replace q0 := kn (HF 0) rfl q0
      replace q1 := kn (HF 1) rfl q1
      have q5' := ksv (HF 5) rfl rfl rfl
      replace q5 := q5'; clear q5'
      replace q6 := kn (HF 6) rfl q6
      clear HF
      replace f14 := f14.ext hE
      replace h_1 := GR.v_ext _ h_1 hE
      replace hB := Base.step hB hE hO; clear hE
      refine li_nil (nx_blk (nx_then ?_))
      exact ⟨_, _, _, _, hA, hB, q0, f14, q1, h_1, q5, q6, h⟩
     ·
      replace h := Comp.run_b_f hc h; clear hc
      refine wp_skip (nx_blk (nx_then ?_))
      exact ⟨_, _, _, _, hA, hB, q0, f5, q1, h_1, q5, q6, h⟩
    intro a13 w13 hI
    clear hA hB h q0 q1 q5 q6 q19 f5 h_1
    obtain ⟨O20, x16, x19, u17, hA, hB, q0, f18, q1, h_1, q5, q6, h⟩ := hI
    unfold slices_DeleteFunc_int_int_j3 at h
    refine' region [_, _, _] mixed hA (.cons (fun _ _ hE hK hg => ok_move (kn (hK 6 rfl) rfl q6)) (.cons (fun _ _ hE hK hg => ok_add (ksv (j := 0) (hK 20 rfl) rfl rfl rfl) rfl) (.cons (fun _ _ hE hK hg => ok_assign (ksv (j := 1) (hK 21 rfl) rfl rfl rfl)) .nil))) ?zok11 ?zgd11 ?zk11
    case zok11 | zgd11 => kernel_rfl
    intro a14 w14 hA hE HF
    replace q0 := kn (HF 0) rfl q0
    replace q1 := kn (HF 1) rfl q1
    replace q5 := kn (HF 5) rfl q5
    have q6' := ksv (HF 6) rfl rfl rfl
    replace q6 := q6'; clear q6'
    clear HF
    replace f18 := f18.ext hE
    replace h_1 := GR.v_ext _ h_1 hE
    replace hB := Base.step hB hE hO; clear hE
    refine li_nil (nx_then ?_)
    have h := hnext2 _ (Comp.run_pure h).symm
    refine ⟨m2, hlt2, ?_⟩
    exact ⟨_, _, _, _, _, hA, hB, q0, f18, q1, h_1, q5, q6, h⟩
   ·
    replace h := Comp.run_b_f hc h; clear hc
    refine wp_exit (ex_then (ex_then (ex_same ?_)))
    have hd_ := hdone2 _ (Comp.run_pure h).symm; clear h
    subst hd_; have h := hk2; clear hk2; try dsimp only at h
    refine nx_then ?_
    exact ⟨_, _, _, _, hA, hB, q0, f5, q5, h⟩
  intro a15 w15 hI
  clear hA hB h q0 q1 q5 q12 f1 h_1
  obtain ⟨O29, x25, x28, u26, hA, hB, q0, f27, q5, h⟩ := hI
  unfold slices_DeleteFunc_int_int_j1 at h
  refine wp_seq ?_
  obtain ⟨x30, hx30, h⟩ := Comp.run_bind h
  refine' regionT [_, _, SP.isv ((sufV u26 (Int.toNat x28) 1))] hA (.cons (fun _ _ hE hK hg => ok_move (kn (hK 0 rfl) rfl q0)) (.cons (fun _ _ hE hK hg => ok_move (kn (hK 5 rfl) rfl q5)) (.cons (fun _ _ hE hK hg => okl_slice_s (r := (rInt .i64)) ty23 ty3 rfl (ksv (j := 0) (hK 36 rfl) rfl rfl rfl) (OwnL.lend (OwnL.ext f27 hE)) (ksv (j := 1) (hK 37 rfl) rfl rfl rfl) hx30) .nil))) ?zok12 ?zgd12 ?zk12
  case zok12 | zgd12 => kernel_rfl
  intro a16 w16 hA hE HF
  replace q0 := kn (HF 0) rfl q0
  replace q5 := kn (HF 5) rfl q5
  have q38 := ksv (HF 38) rfl rfl rfl
  clear HF
  replace f27 := f27.ext hE
  replace hB := Base.step hB hE hO; clear hE
  refine l_clear (r := (rInt .i64)) (z := .int .i64 0) (z0 := 0) (fun _ => rfl) rfl hO hB (okB_self hB) ty23 ty3 q38 f27 (by decide) hx30 (fun _ _ => rInt_v.2 rfl) fun w17 f31 hB' hX => ?_
  clear hB; have hB := hB'; clear hB'
  clear hX f27
  refine li_nil (nx_then (wp_seq ?_))
  obtain ⟨x32, hx32, h⟩ := Comp.run_bind h
  refine' region [_, _, SP.isv ((preV u26 x32.length)), _] mixed hA (.cons (fun _ _ hE hK hg => ok_move (kn (hK 0 rfl) rfl q0)) (.cons (fun _ _ hE hK hg => ok_move (kn (hK 5 rfl) rfl q5)) (.cons (fun _ _ hE hK hg => okl_slice_p (r := (rInt .i64)) ty23 ty3 rfl (ksv (j := 0) (hK 39 rfl) rfl rfl rfl) (OwnL.lend (OwnL.ext f31 hE)) (ksv (j := 1) (hK 40 rfl) rfl rfl rfl) hx32) (.cons (fun _ _ hE hK hg => ok_assign (ksv (j := 2) (hK 41 rfl) rfl rfl rfl)) .nil)))) ?zok13 ?zgd13 ?zk13
  case zok13 | zgd13 => kernel_rfl
  intro a18 w18 hA hE HF
  have q4 := ksv (HF 4) rfl rfl rfl
  clear q0
  clear q5
  clear HF
  replace f31 := f31.ext hE
  replace hB := Base.step hB hE hO; clear hE
  have f33 := OwnL.pre f31 hx32
  refine li_nil (nx_then (wp_ret ?_))
  have h := Comp.run_pure h; subst h
  exact retG1 Try.results44 hA (.tmp q4) (sioEnd hB f33 (by decide) rfl)
theorem ok_court_Explains {O : Tags} {w0 : World} (hO : OkO O w0) {v_0 : Value} {x_0 : List api_Claim} (h_0 : (rSl r_api_Claim).v O w0 v_0 x_0) {v_1 : Value} {x_1 : List api_Sight} (h_1 : (rSl r_api_Sight).v O w0 v_1 x_1) {x_2 : Int} {x_3 : Int} {n : Nat} {y : ((List Int) × Int)} (h : (court_Explains x_0 x_1 x_2 x_3).run n = some y) : Pure Try.prog 17 #[v_0, v_1, .int .i64 x_2, .int .i64 x_3] w0 (SP.tup2 (SP.ownr (rInt .i64) 3 (w0.heap.size) O y.1) (SP.isv (.int .i64 y.2))).holds := by
 unfold court_Explains at h
 refine pure_of_wp Try.func17 rfl 42 Try.ntmps17 (by simp) fun a0 hA hs0 => ?_
 have q0 : a0.get 0 = v_0 := hs0 0 _ rfl
 have q1 : a0.get 1 = v_1 := hs0 1 _ rfl
 have q2 : a0.get 2 = .int .i64 x_2 := hs0 2 _ rfl
 have q3 : a0.get 3 = .int .i64 x_3 := hs0 3 _ rfl
 clear hs0
 have hB : Base (Fr w0) O w0 O w0 := Base.start hO
 refine wp_seq ?_
 refine' region [SP.vl (rBox (rSl r_api_Claim)) O x_0, SP.vl (rBox (rInt .i64)) O x_3, _, _] mixed hA (.cons (fun _ _ hE hK hg => okl_boxV (r := (rSl r_api_Claim)) (fun _ => rfl) (OkO.ext hB.ok hE) (kn (hK 0 rfl) rfl q0) (GR.v_ext _ h_0 hE)) (.cons (fun _ _ hE hK hg => okl_boxV (r := (rInt .i64)) (fun _ => rfl) (OkO.ext hB.ok hE) (kn (hK 3 rfl) rfl q3) (by exact rInt_v.2 rfl)) (.cons (fun _ _ hE hK hg => ok_assign rfl) (.cons (fun _ _ hE hK hg => ok_assign rfl) .nil)))) ?zok1 ?zgd1 ?zk1
 case zok1 | zgd1 => kernel_rfl
 intro a1 w1 hA hE HF
 replace q1 := kn (HF 1) rfl q1
 replace q2 := kn (HF 2) rfl q2
 have f2 := ksp (HF 4) rfl rfl rfl
 obtain ⟨u1, q4'⟩ : ∃ u, a1.get 4 = u := ⟨_, rfl⟩
 rw [q4'] at f2
 have q4 := q4'; clear q4'
 have f4 := ksp (HF 7) rfl rfl rfl
 obtain ⟨u3, q7'⟩ : ∃ u, a1.get 7 = u := ⟨_, rfl⟩
 rw [q7'] at f4
 have q7 := q7'; clear q7'
 clear q0
 clear q3
 clear HF
 replace h_0 := GR.v_ext _ h_0 hE
 replace h_1 := GR.v_ext _ h_1 hE
 replace hB := Base.step hB hE hO; clear hE
 refine li_nil (nx_then (wp_seq ?_))
 obtain ⟨x5, hx5, h⟩ := Comp.run_bind h
 refine' region [SP.vl (rSl r_api_Claim) O x_0, _, _, SP.tup2 (SP.vl (rSl (rInt .i64)) O x5.1) (SP.isv (.int .i64 x5.2)), SP.tup2 (SP.vl (rSl (rInt .i64)) O x5.1) (SP.isv (.int .i64 x5.2)), SP.vl (rSl (rInt .i64)) O x5.1, SP.isv (.int .i64 x5.2), SP.vl (rSl (rInt .i64)) O x5.1, _] mixed hA (.cons (fun _ _ hE hK hg => okl_ld (r := (rSl r_api_Claim)) (fun _ => rfl) ty27 rfl rfl (kn (hK 4 rfl) rfl q4) (ptr_of_box (fun _ => rfl) (GR.v_ext _ f2 hE))) (.cons (fun _ _ hE hK hg => ok_move (kn (hK 1 rfl) rfl q1)) (.cons (fun _ _ hE hK hg => ok_move (kn (hK 2 rfl) rfl q2)) (.cons ?z2_3 (.cons (fun _ _ hE hK hg => ok_move_pr (φ := SP.tup2 (SP.vl (rSl (rInt .i64)) O x5.1) (SP.isv (.int .i64 x5.2))) (kspS (j := 3) (hK 17 rfl) rfl rfl rfl)) (.cons (fun _ _ hE hK hg => okl_ext0 (kspS (φ := SP.tup2 (SP.vl (rSl (rInt .i64)) O x5.1) (SP.isv (.int .i64 x5.2))) (j := 4) (hK 13 rfl) rfl rfl rfl)) (.cons (fun _ _ hE hK hg => okl_ext1 (kspS (φ := SP.tup2 (SP.vl (rSl (rInt .i64)) O x5.1) (SP.isv (.int .i64 x5.2))) (j := 4) (hK 13 rfl) rfl rfl rfl)) (.cons (fun _ _ hE hK hg => ok_assign_pr (φ := SP.vl (rSl (rInt .i64)) O x5.1) (kspS (j := 5) (hK 18 rfl) rfl rfl rfl)) (.cons (fun _ _ hE hK hg => ok_assign (ksv (j := 6) (hK 19 rfl) rfl rfl rfl)) .nil))))))))) ?zok2 ?zgd2 ?zk2
 case z2_3 => intro a' w' hE hK hg; have c_ := ok_court_Conflicts (OkO.ext hB.ok hE) (kspS (φ := SP.vl (rSl r_api_Claim) O x_0) (j := 0) (hK 14 rfl) rfl rfl rfl) (GR.v_ext _ h_1 hE) hx5; exact ok_weak (ok_call3 fn22 rfl (ksv (j := 1) (hK 15 rfl) rfl rfl rfl) (ksv (j := 2) (hK 16 rfl) rfl rfl rfl) c_) (fun _ _ _ ⟨a_, b_, e0_, h0_, h1_⟩ => ⟨a_, b_, e0_, (fun h => (OwnR.val h (fun g hg => (OkO.ext hB.ok hE) g (OwnR.ge h g hg).1))) h0_, h1_⟩)
 case zok2 | zgd2 => kernel_rfl
 intro a2 w2 hA hE HF
 replace q4 := kn (HF 4) rfl q4
 replace q7 := kn (HF 7) rfl q7
 have f7 := ksp (HF 10) rfl rfl rfl
 obtain ⟨u6, q10'⟩ : ∃ u, a2.get 10 = u := ⟨_, rfl⟩
 rw [q10'] at f7
 have q10 := q10'; clear q10'
 have q11 := ksv (HF 11) rfl rfl rfl
 clear q1
 clear q2
 clear HF
 replace h_1 := GR.v_ext _ h_1 hE
 replace f2 := GR.v_ext _ f2 hE
 replace f4 := GR.v_ext _ f4 hE
 replace hB := Base.step hB hE hO; clear hE
 refine li_nil (nx_then (wp_seq (wp_seq ?_)))
 refine' region [_, _] mixed hA (.cons (fun _ _ hE hK hg => ok_move (kn (hK 11 rfl) rfl q11)) (.cons (fun _ _ hE hK hg => ok_neqI (ksv (j := 0) (hK 20 rfl) rfl rfl rfl) rfl) .nil)) ?zok3 ?zgd3 ?zk3
 case zok3 | zgd3 => kernel_rfl
 intro a3 w3 hA hE HF
 replace q4 := kn (HF 4) rfl q4
 replace q7 := kn (HF 7) rfl q7
 replace q10 := kn (HF 10) rfl q10
 replace q11 := kn (HF 11) rfl q11
 have q21 := ksv (HF 21) rfl rfl rfl
 clear HF
 replace f2 := GR.v_ext _ f2 hE
 replace f4 := GR.v_ext _ f4 hE
 replace f7 := GR.v_ext _ f7 hE
 replace hB := Base.step hB hE hO; clear hE
 refine li_nil (nx_then ?_)
 refine wp_cond_b q21 (fun hc => ?_) (fun hc => ?_)
 ·
  replace h := Comp.run_b_t hc h; clear hc
  refine wp_seq ?_
  refine' region [_, _, _] mixed hA (.cons (fun _ _ hE hK hg => ok_move (kn (hK 11 rfl) rfl q11)) (.cons (fun _ _ hE hK hg => ok_assign rfl) (.cons (fun _ _ hE hK hg => ok_assign (ksv (j := 0) (hK 22 rfl) rfl rfl rfl)) .nil))) ?zok4 ?zgd4 ?zk4
  case zok4 | zgd4 => kernel_rfl
  intro a4 w4 hA hE HF
  have q8 := ksv (HF 8) rfl rfl rfl
  have q9 := ksv (HF 9) rfl rfl rfl
  clear q4
  clear q7
  clear q10
  clear q11
  clear q21
  clear HF
  replace f2 := GR.v_ext _ f2 hE
  replace f4 := GR.v_ext _ f4 hE
  replace f7 := GR.v_ext _ f7 hE
  replace hB := Base.step hB hE hO; clear hE
  refine li_nil (nx_then (wp_ret (rt_then ?_)))
  have h := Comp.run_pure h; subst h
  exact retPure2 Try.results17 hA q8 q9 hB.ext ⟨_, _, rfl, (OwnR.nil _ _ _ _ _), rfl⟩
 ·
  replace h := Comp.run_b_f hc h; clear hc
  refine wp_skip (nx_then (wp_seq (wp_seq ?_)))
  refine' region [SP.isv (.int .i64 x_3), _, _, SP.isv (.int .i64 x_3), _, _] mixed hA (.cons (fun _ _ hE hK hg => okl_ldr (rInt .i64) (fun _ => rfl) ty3 rfl rfl (kn (hK 7 rfl) rfl q7) (ptr_of_box (fun _ => rfl) (GR.v_ext _ f4 hE)) (fun _ _ _ h => rInt_v.1 h)) (.cons (fun _ _ hE hK hg => ok_lss (ksv (j := 0) (hK 23 rfl) rfl rfl rfl) rfl) (.cons (fun _ _ hE hK hg => ok_move (ksv (j := 1) (hK 24 rfl) rfl rfl rfl)) (.cons (fun _ _ hE hK hg => okl_ldr (rInt .i64) (fun _ => rfl) ty3 rfl rfl (kn (hK 7 rfl) rfl q7) (ptr_of_box (fun _ => rfl) (GR.v_ext _ f4 hE)) (fun _ _ _ h => rInt_v.1 h)) (.cons ?z5_4 (.cons ?z5_5 .nil)))))) ?zok5 ?zgd5 ?zk5
  case z5_4 => intro a' w' hE hK hg; exact ok_gtr (ksv (j := 3) (hK 26 rfl) rfl rfl hg) rfl
  case z5_5 => intro a' w' hE hK hg; exact ok_pick (ksv (j := 2) (hK 25 rfl) rfl rfl rfl) (fun _ => rfl) (fun hb => ksv (j := 4) (hK 27 rfl) rfl rfl (act_g1 rfl rfl hb))
  case zok5 | zgd5 => kernel_rfl
  intro a5 w5 hA hE HF
  replace q4 := kn (HF 4) rfl q4
  replace q7 := kn (HF 7) rfl q7
  replace q10 := kn (HF 10) rfl q10
  have q28 := ksv (HF 28) rfl rfl rfl
  clear q11
  clear q21
  clear HF
  replace f2 := GR.v_ext _ f2 hE
  replace f4 := GR.v_ext _ f4 hE
  replace f7 := GR.v_ext _ f7 hE
  replace hB := Base.step hB hE hO; clear hE
  obtain ⟨x8, hx_, h⟩ := Comp.run_bind h; replace hx_ := Comp.run_pure hx_; rw [hx_] at q28; clear hx_
  refine li_nil (nx_then ?_)
  refine wp_cond_b q28 (fun hc => ?_) (fun hc => ?_)
  ·
   replace h := Comp.run_b_t hc h; clear hc
   refine wp_seq ?_
   refine' region [_, _] mixed hA (.cons (fun _ _ hE hK hg => ok_assign rfl) (.cons (fun _ _ hE hK hg => ok_assign rfl) .nil)) ?zok6 ?zgd6 ?zk6
   case zok6 | zgd6 => kernel_rfl
   intro a6 w6 hA hE HF
   have q8 := ksv (HF 8) rfl rfl rfl
   have q9 := ksv (HF 9) rfl rfl rfl
   clear q4
   clear q7
   clear q10
   clear q28
   clear HF
   replace f2 := GR.v_ext _ f2 hE
   replace f4 := GR.v_ext _ f4 hE
   replace f7 := GR.v_ext _ f7 hE
   replace hB := Base.step hB hE hO; clear hE
   refine li_nil (nx_then (wp_ret (rt_then ?_)))
   have h := Comp.run_pure h; subst h
   exact retPure2 Try.results17 hA q8 q9 hB.ext ⟨_, _, rfl, (OwnR.nil _ _ _ _ _), rfl⟩
  ·
   replace h := Comp.run_b_f hc h; clear hc
   refine wp_skip (nx_then (wp_seq ?_))
   obtain ⟨x9, hx9, h⟩ := Comp.run_bind h
   refine' region [_, SP.vl (rSl r_api_Claim) O x_0, _, SP.tup2 (SP.ownr (rInt .i64) 3 w5.heap.size O x9.1) (SP.isv (.int .i64 x9.2)), SP.tup2 (SP.ownr (rInt .i64) 3 w5.heap.size O x9.1) (SP.isv (.int .i64 x9.2)), SP.ownr (rInt .i64) 3 w5.heap.size O x9.1, SP.isv (.int .i64 x9.2), SP.ownr (rInt .i64) 3 w5.heap.size O x9.1, _] mixed hA (.cons (fun _ _ hE hK hg => ok_move (kn (hK 10 rfl) rfl q10)) (.cons (fun _ _ hE hK hg => okl_ld (r := (rSl r_api_Claim)) (fun _ => rfl) ty27 rfl rfl (kn (hK 4 rfl) rfl q4) (ptr_of_box (fun _ => rfl) (GR.v_ext _ f2 hE))) (.cons (fun _ _ hE hK hg => okl_len (r := r_api_Claim) ty27 rfl (rd_of (kspS (φ := SP.vl (rSl r_api_Claim) O x_0) (j := 1) (hK 31 rfl) rfl rfl rfl))) (.cons ?z7_3 (.cons (fun _ _ hE hK hg => ok_move_pr (φ := SP.tup2 (SP.ownr (rInt .i64) 3 w5.heap.size O x9.1) (SP.isv (.int .i64 x9.2))) (kspS (j := 3) (hK 33 rfl) rfl rfl rfl)) (.cons (fun _ _ hE hK hg => okl_ext0 (kspS (φ := SP.tup2 (SP.ownr (rInt .i64) 3 w5.heap.size O x9.1) (SP.isv (.int .i64 x9.2))) (j := 4) (hK 29 rfl) rfl rfl rfl)) (.cons (fun _ _ hE hK hg => okl_ext1 (kspS (φ := SP.tup2 (SP.ownr (rInt .i64) 3 w5.heap.size O x9.1) (SP.isv (.int .i64 x9.2))) (j := 4) (hK 29 rfl) rfl rfl rfl)) (.cons (fun _ _ hE hK hg => ok_assign_pr (φ := SP.ownr (rInt .i64) 3 w5.heap.size O x9.1) (kspS (j := 5) (hK 34 rfl) rfl rfl rfl)) (.cons (fun _ _ hE hK hg => ok_assign (ksv (j := 6) (hK 35 rfl) rfl rfl rfl)) .nil))))))))) ?zok7 ?zgd7 ?zk7
   case z7_3 => intro a' w' hE hK hg; have c_ := ok_core_Hitting (OkO.ext hB.ok hE) (GR.v_ext _ f7 hE) hx9; exact ok_weak (ok_call2 fn43 (ksv (j := 0) (hK 30 rfl) rfl rfl rfl) (ksv (j := 2) (hK 32 rfl) rfl rfl rfl) c_) (fun _ _ _ ⟨a_, b_, e0_, h0_, h1_⟩ => ⟨a_, b_, e0_, (fun h => (OwnR.base h hE.size)) h0_, h1_⟩)
   case zok7 | zgd7 => kernel_rfl
   intro a7 w7 hA hE HF
   replace q4 := kn (HF 4) rfl q4
   replace q7 := kn (HF 7) rfl q7
   have q11 := ksv (HF 11) rfl rfl rfl
   have f11 := ksp (HF 12) rfl rfl rfl
   obtain ⟨u10, q12'⟩ : ∃ u, a7.get 12 = u := ⟨_, rfl⟩
   rw [q12'] at f11
   have q12 := q12'; clear q12'
   clear q10
   clear q28
   clear HF
   obtain ⟨O12, hB', hX, f13⟩ := ownNew hO hB hE f11 rfl 1 (by decide)
   clear hB f11; have hB := hB'; clear hB'
   replace f2 := GR.kx _ f2 hX (by decide)
   replace f4 := GR.kx _ f4 hX (by decide)
   replace f7 := GR.kx _ f7 hX (by decide)
   clear hX hE
   refine li_nil (nx_then (wp_seq (wp_seq ?_)))
   refine' region [_, _] mixed hA (.cons (fun _ _ hE hK hg => ok_move (kn (hK 11 rfl) rfl q11)) (.cons (fun _ _ hE hK hg => ok_neqI (ksv (j := 0) (hK 36 rfl) rfl rfl rfl) rfl) .nil)) ?zok8 ?zgd8 ?zk8
   case zok8 | zgd8 => kernel_rfl
   intro a8 w8 hA hE HF
   replace q4 := kn (HF 4) rfl q4
   replace q7 := kn (HF 7) rfl q7
   replace q11 := kn (HF 11) rfl q11
   replace q12 := kn (HF 12) rfl q12
   have q37 := ksv (HF 37) rfl rfl rfl
   clear HF
   replace f2 := GR.v_ext _ f2 hE
   replace f4 := GR.v_ext _ f4 hE
   replace f13 := f13.ext hE
   replace hB := Base.step hB hE hO; clear hE
   refine li_nil (nx_then ?_)
   refine wp_cond_b q37 (fun hc => ?_) (fun hc => ?_)
   ·
    replace h := Comp.run_b_t hc h; clear hc
    refine wp_seq ?_
    refine' region [_, _, _] mixed hA (.cons (fun _ _ hE hK hg => ok_move (kn (hK 11 rfl) rfl q11)) (.cons (fun _ _ hE hK hg => ok_assign rfl) (.cons (fun _ _ hE hK hg => ok_assign (ksv (j := 0) (hK 38 rfl) rfl rfl rfl)) .nil))) ?zok9 ?zgd9 ?zk9
    case zok9 | zgd9 => kernel_rfl
    intro a9 w9 hA hE HF
    have q8 := ksv (HF 8) rfl rfl rfl
    have q9 := ksv (HF 9) rfl rfl rfl
    clear q4
    clear q7
    clear q11
    clear q12
    clear q37
    clear HF
    replace f2 := GR.v_ext _ f2 hE
    replace f4 := GR.v_ext _ f4 hE
    replace f13 := f13.ext hE
    replace hB := Base.step hB hE hO; clear hE
    refine li_nil (nx_then (wp_ret (rt_then ?_)))
    have h := Comp.run_pure h; subst h
    exact retPure2 Try.results17 hA q8 q9 hB.ext ⟨_, _, rfl, (OwnR.nil _ _ _ _ _), rfl⟩
   ·
    replace h := Comp.run_b_f hc h; clear hc
    refine wp_skip (nx_then (wp_seq ?_))
    refine' regionT [_, SP.isv (.func (.func 45) #[] #[u1, u3])] hA (.cons (fun _ _ hE hK hg => ok_move (kn (hK 12 rfl) rfl q12)) (.cons (fun _ _ hE hK hg => ok_makeFunc map0 (map2 (kn (hK 4 rfl) rfl q4) (kn (hK 7 rfl) rfl q7))) .nil)) ?zok10 ?zgd10 ?zk10
    case zok10 | zgd10 => kernel_rfl
    intro a10 w10 hA hE HF
    have q39 := ksv (HF 39) rfl rfl rfl
    have q40 := ksv (HF 40) rfl rfl rfl
    clear q4
    clear q7
    clear q11
    clear q12
    clear q37
    clear HF
    replace f2 := GR.v_ext _ f2 hE
    replace f4 := GR.v_ext _ f4 hE
    replace f13 := f13.ext hE
    replace hB := Base.step hB hE hO; clear hE
    have f14 : (rF1 Try.prog (rInt .i64) (RS.c (fun x => .bool x))).v O12 w10 (.func (.func 45) #[] #[u1, u3]) (fun z0 => court_Explains_f1 z0 x_0 x_3) := rF1_v.2 ⟨rfl, fun O' w' hO' hk v_0 x_0 hv_0 n_ y_ hy_ => by obtain rfl := rInt_v.1 hv_0; exact callV_func fn45 (ok_court_Explains_f1 hO'  (GR.v_mono _ f2 hk) (GR.v_mono _ f4 hk) hy_)⟩
    obtain ⟨x15, hx15, h⟩ := Comp.run_bind h
    refine l_io (r := (rInt .i64)) (E := 3) (k := 1) hO hB (okB_fr hB) fn44 (map2 q39 q40) (ok_slices_DeleteFunc_int_int hB.ok (OwnL.argA f13 (by decide)) f14 hx15) f13 (by decide) fun u17 u16 w11 O18 f19 hB' hX hps => ?_
    clear hB; have hB := hB'; clear hB'
    clear f13
    replace hps : _ = _ := hps; subst hps
    replace f14 := GR.kx _ f14 hX (by decide)
    clear hX
    refine put_cont hA (by decide) fun a12 hA q_ hfr => ?_
    replace q39 := (hfr 39 rfl).trans q39
    replace q40 := (hfr 40 rfl).trans q40
    have q41 := q_; clear q_ hfr
    refine l_ok (φ := SP.isv (u17)) hO hB (by exact ok_assign q41) rfl fun u_ w13 hE hB' hv_ => ?_
    replace hv_ := Eq.symm hv_; subst hv_; clear hB; have hB := hB'; clear hB'
    replace f19 := f19.ext hE
    clear hE
    refine put_cont hA (by decide) fun a14 hA q_ hfr => ?_
    replace q41 := (hfr 41 rfl).trans q41
    have q8 := q_; clear q_ hfr
    refine l_ok (φ := SP.isv (.int .i64 0)) hO hB (by exact ok_assign rfl) rfl fun u_ w15 hE hB' hv_ => ?_
    replace hv_ := Eq.symm hv_; subst hv_; clear hB; have hB := hB'; clear hB'
    replace f19 := f19.ext hE
    clear hE
    refine put_cont hA (by decide) fun a16 hA q_ hfr => ?_
    replace q8 := (hfr 8 rfl).trans q8
    have q9 := q_; clear q_ hfr
    refine li_nil (nx_then (wp_ret ?_))
    have h := Comp.run_pure h; subst h
    exact retPure2 Try.results17 hA q8 q9 hB.ext ⟨_, _, rfl, (OwnL.res f19 (by decide) hB.zero), rfl⟩
theorem ok_colletlaw43_explains {O : Tags} {w0 : World} (hO : OkO O w0) {v_0 : Value} {x_0 : List api_Sight} (h_0 : (rSl r_api_Sight).v O w0 v_0 x_0) {x_1 : Int} {v_2 : Value} {x_2 : List Int} (h_2 : (rSl (rInt .i64)).v O w0 v_2 x_2) {n : Nat} {y : Bool} (h : (colletlaw43_explains x_0 x_1 x_2).run n = some y) : Pure Try.prog 34 #[v_0, .int .i64 x_1, v_2] w0 (SP.isv (.bool y)).holds := by
 unfold colletlaw43_explains at h
 refine pure_of_wp Try.func34 rfl 23 Try.ntmps34 (by simp) fun a0 hA hs0 => ?_
 have q0 : a0.get 0 = v_0 := hs0 0 _ rfl
 have q1 : a0.get 1 = .int .i64 x_1 := hs0 1 _ rfl
 have q2 : a0.get 2 = v_2 := hs0 2 _ rfl
 clear hs0
 have hB : Base (Fr w0) O w0 O w0 := Base.start hO
 refine wp_seq ?_
 refine' region [_] mixed hA (.cons (fun _ _ hE hK hg => ok_assign rfl) .nil) ?zok1 ?zgd1 ?zk1
 case zok1 | zgd1 => kernel_rfl
 intro a1 w1 hA hE HF
 replace q0 := kn (HF 0) rfl q0
 replace q1 := kn (HF 1) rfl q1
 replace q2 := kn (HF 2) rfl q2
 clear HF
 replace h_0 := GR.v_ext _ h_0 hE
 replace h_2 := GR.v_ext _ h_2 hE
 replace hB := Base.step hB hE hO; clear hE
 refine li_nil (nx_then (wp_seq ?_))
 obtain ⟨x1, hx1, h⟩ := Comp.run_bind h
 obtain ⟨x2, hx2, h⟩ := Comp.run_bind h
 refine' region [SP.vl (rSl r_api_Claim) O x1, _, _, SP.tup2 (SP.vl (rSl (rInt .i64)) O x2.1) (SP.isv (.int .i64 x2.2)), SP.tup2 (SP.vl (rSl (rInt .i64)) O x2.1) (SP.isv (.int .i64 x2.2)), SP.vl (rSl (rInt .i64)) O x2.1, SP.isv (.int .i64 x2.2), SP.vl (rSl (rInt .i64)) O x2.1, _] mixed hA (.cons ?z2_0 (.cons (fun _ _ hE hK hg => ok_move (kn (hK 0 rfl) rfl q0)) (.cons (fun _ _ hE hK hg => ok_move (kn (hK 1 rfl) rfl q1)) (.cons ?z2_3 (.cons (fun _ _ hE hK hg => ok_move_pr (φ := SP.tup2 (SP.vl (rSl (rInt .i64)) O x2.1) (SP.isv (.int .i64 x2.2))) (kspS (j := 3) (hK 13 rfl) rfl rfl rfl)) (.cons (fun _ _ hE hK hg => okl_ext0 (kspS (φ := SP.tup2 (SP.vl (rSl (rInt .i64)) O x2.1) (SP.isv (.int .i64 x2.2))) (j := 4) (hK 9 rfl) rfl rfl rfl)) (.cons (fun _ _ hE hK hg => okl_ext1 (kspS (φ := SP.tup2 (SP.vl (rSl (rInt .i64)) O x2.1) (SP.isv (.int .i64 x2.2))) (j := 4) (hK 9 rfl) rfl rfl rfl)) (.cons (fun _ _ hE hK hg => ok_assign_pr (φ := SP.vl (rSl (rInt .i64)) O x2.1) (kspS (j := 5) (hK 14 rfl) rfl rfl rfl)) (.cons (fun _ _ hE hK hg => ok_assign (ksv (j := 6) (hK 15 rfl) rfl rfl rfl)) .nil))))))))) ?zok2 ?zgd2 ?zk2
 case z2_0 => intro a' w' hE hK hg; have c_ := ok_colletlaw43_example (OkO.ext hB.ok hE)  hx1; exact ok_weak (ok_call0 fn32  c_) (fun _ _ _ h => (OwnR.val h (fun g hg => (OkO.ext hB.ok hE) g (OwnR.ge h g hg).1)))
 case z2_3 => intro a' w' hE hK hg; have c_ := ok_court_Explains (OkO.ext hB.ok hE) (kspS (φ := SP.vl (rSl r_api_Claim) O x1) (j := 0) (hK 10 rfl) rfl rfl rfl) (GR.v_ext _ h_0 hE) hx2; exact ok_weak (ok_call4 fn17 rfl (ksv (j := 1) (hK 11 rfl) rfl rfl rfl) rfl (ksv (j := 2) (hK 12 rfl) rfl rfl rfl) c_) (fun _ _ _ ⟨a_, b_, e0_, h0_, h1_⟩ => ⟨a_, b_, e0_, (fun h => (OwnR.val h (fun g hg => (OkO.ext hB.ok hE) g (OwnR.ge h g hg).1))) h0_, h1_⟩)
 case zok2 | zgd2 => kernel_rfl
 intro a2 w2 hA hE HF
 replace q2 := kn (HF 2) rfl q2
 have f4 := ksp (HF 7) rfl rfl rfl
 obtain ⟨u3, q7'⟩ : ∃ u, a2.get 7 = u := ⟨_, rfl⟩
 rw [q7'] at f4
 have q7 := q7'; clear q7'
 have q8 := ksv (HF 8) rfl rfl rfl
 clear q0
 clear q1
 clear HF
 replace h_0 := GR.v_ext _ h_0 hE
 replace h_2 := GR.v_ext _ h_2 hE
 replace hB := Base.step hB hE hO; clear hE
 refine li_nil (nx_then (wp_seq ?_))
 obtain ⟨x5, hx5, h⟩ := Comp.run_bind h
 refine' region [_, _, _, _, _, SP.isv (.bool x5), _, _] mixed hA (.cons (fun _ _ hE hK hg => ok_move (kn (hK 8 rfl) rfl q8)) (.cons (fun _ _ hE hK hg => ok_eqlI (ksv (j := 0) (hK 16 rfl) rfl rfl rfl) rfl) (.cons (fun _ _ hE hK hg => ok_move (ksv (j := 1) (hK 17 rfl) rfl rfl rfl)) (.cons (fun _ _ hE hK hg => ok_move (kn (hK 7 rfl) rfl q7)) (.cons (fun _ _ hE hK hg => ok_move (kn (hK 2 rfl) rfl q2)) (.cons ?z3_5 (.cons ?z3_6 (.cons (fun _ _ hE hK hg => ok_assign (ksv (j := 6) (hK 22 rfl) rfl rfl rfl)) .nil)))))))) ?zok3 ?zgd3 ?zk3
 case z3_5 => intro a' w' hE hK hg; have c_ := ok_colletref04_SameInts (OkO.ext hB.ok hE) (GR.v_ext _ f4 hE) (GR.v_ext _ h_2 hE) (run_gdb hx5 hg); exact ok_call2 fn21 (ksv (j := 3) (hK 19 rfl) rfl rfl hg) (ksv (j := 4) (hK 20 rfl) rfl rfl hg) c_
 case z3_6 => intro a' w' hE hK hg; exact ok_pick (ksv (j := 2) (hK 18 rfl) rfl rfl rfl) (fun hb => ksv (j := 5) (hK 21 rfl) rfl rfl (act_g1 rfl rfl hb)) (fun _ => rfl)
 case zok3 | zgd3 => kernel_rfl
 intro a3 w3 hA hE HF
 have q6 := ksv (HF 6) rfl rfl rfl
 clear q2
 clear q7
 clear q8
 clear HF
 replace h_2 := GR.v_ext _ h_2 hE
 replace f4 := GR.v_ext _ f4 hE
 replace hB := Base.step hB hE hO; clear hE
 obtain ⟨x6, hx_, h⟩ := Comp.run_bind h; replace hx_ := Comp.run_pure hx_; rw [hx_] at q6; clear hx_
 refine li_nil (nx_then (wp_ret ?_))
 have h := Comp.run_pure h; subst h
 exact retPure Try.results34 hA q6 hB.ext rfl
theorem ok_court_Certain_f1 {O : Tags} {w0 : World} (hO : OkO O w0) {x_0 : Int} {v_1 : Value} {x_1 : Int} (h_1 : (rBox (rInt .i64)).v O w0 v_1 x_1) {n : Nat} {y : Bool} (h : (court_Certain_f1 x_0 x_1).run n = some y) : Pure Try.prog 49 #[.int .i64 x_0, v_1] w0 (SP.isv (.bool y)).holds := by
 unfold court_Certain_f1 at h
 refine pure_of_wp Try.func49 rfl 8 Try.ntmps49 (by simp) fun a0 hA hs0 => ?_
 have q0 : a0.get 0 = .int .i64 x_0 := hs0 0 _ rfl
 have q1 : a0.get 1 = v_1 := hs0 1 _ rfl
 clear hs0
 have hB : Base (Fr w0) O w0 O w0 := Base.start hO
 refine wp_seq ?_
 refine' region [_] mixed hA (.cons (fun _ _ hE hK hg => ok_assign rfl) .nil) ?zok1 ?zgd1 ?zk1
 case zok1 | zgd1 => kernel_rfl
 intro a1 w1 hA hE HF
 replace q0 := kn (HF 0) rfl q0
 replace q1 := kn (HF 1) rfl q1
 clear HF
 replace h_1 := GR.v_ext _ h_1 hE
 replace hB := Base.step hB hE hO; clear hE
 refine li_nil (nx_then (wp_seq ?_))
 refine' region [_, SP.isv (.int .i64 x_1), _, _, _] mixed hA (.cons (fun _ _ hE hK hg => ok_move (kn (hK 0 rfl) rfl q0)) (.cons (fun _ _ hE hK hg => okl_ldr (rInt .i64) (fun _ => rfl) ty3 rfl rfl (kn (hK 1 rfl) rfl q1) (ptr_of_box (fun _ => rfl) (GR.v_ext _ h_1 hE)) (fun _ _ _ h => rInt_v.1 h)) (.cons (fun _ _ hE hK hg => okb_and (ksv (j := 0) (hK 4 rfl) rfl rfl rfl) (ksv (j := 1) (hK 5 rfl) rfl rfl rfl)) (.cons (fun _ _ hE hK hg => ok_eqlI (ksv (j := 2) (hK 6 rfl) rfl rfl rfl) rfl) (.cons (fun _ _ hE hK hg => ok_assign (ksv (j := 3) (hK 7 rfl) rfl rfl rfl)) .nil))))) ?zok2 ?zgd2 ?zk2
 case zok2 | zgd2 => kernel_rfl
 intro a2 w2 hA hE HF
 have q3 := ksv (HF 3) rfl rfl rfl
 clear q0
 clear q1
 clear HF
 replace h_1 := GR.v_ext _ h_1 hE
 replace hB := Base.step hB hE hO; clear hE
 refine li_nil (nx_then (wp_ret ?_))
 have h := Comp.run_pure h; subst h
 exact retPure Try.results49 hA q3 hB.ext rfl
theorem ok_court_Certain {O : Tags} {w0 : World} (hO : OkO O w0) {v_0 : Value} {x_0 : List api_Claim} (h_0 : (rSl r_api_Claim).v O w0 v_0 x_0) {v_1 : Value} {x_1 : List api_Sight} (h_1 : (rSl r_api_Sight).v O w0 v_1 x_1) {x_2 : Int} {x_3 : Int} {n : Nat} {y : ((List Int) × Int)} (h : (court_Certain x_0 x_1 x_2 x_3).run n = some y) : Pure Try.prog 19 #[v_0, v_1, .int .i64 x_2, .int .i64 x_3] w0 (SP.tup2 (SP.ownr (rInt .i64) 3 (w0.heap.size) O y.1) (SP.isv (.int .i64 y.2))).holds := by
 unfold court_Certain at h
 refine pure_of_wp Try.func19 rfl 60 Try.ntmps19 (by simp) fun a0 hA hs0 => ?_
 have q0 : a0.get 0 = v_0 := hs0 0 _ rfl
 have q1 : a0.get 1 = v_1 := hs0 1 _ rfl
 have q2 : a0.get 2 = .int .i64 x_2 := hs0 2 _ rfl
 have q3 : a0.get 3 = .int .i64 x_3 := hs0 3 _ rfl
 clear hs0
 have hB : Base (Fr w0) O w0 O w0 := Base.start hO
 refine wp_seq ?_
 refine' region [_, _] mixed hA (.cons (fun _ _ hE hK hg => ok_assign rfl) (.cons (fun _ _ hE hK hg => ok_assign rfl) .nil)) ?zok1 ?zgd1 ?zk1
 case zok1 | zgd1 => kernel_rfl
 intro a1 w1 hA hE HF
 replace q0 := kn (HF 0) rfl q0
 replace q1 := kn (HF 1) rfl q1
 replace q2 := kn (HF 2) rfl q2
 replace q3 := kn (HF 3) rfl q3
 clear HF
 replace h_0 := GR.v_ext _ h_0 hE
 replace h_1 := GR.v_ext _ h_1 hE
 replace hB := Base.step hB hE hO; clear hE
 refine li_nil (nx_then (wp_seq ?_))
 obtain ⟨x1, hx1, h⟩ := Comp.run_bind h
 refine' region [_, _, _, _, SP.tup2 (SP.vl (rSl (rInt .i64)) O x1.1) (SP.isv (.int .i64 x1.2)), SP.tup2 (SP.vl (rSl (rInt .i64)) O x1.1) (SP.isv (.int .i64 x1.2)), SP.vl (rSl (rInt .i64)) O x1.1, SP.isv (.int .i64 x1.2), SP.vl (rSl (rInt .i64)) O x1.1, _] mixed hA (.cons (fun _ _ hE hK hg => ok_move (kn (hK 0 rfl) rfl q0)) (.cons (fun _ _ hE hK hg => ok_move (kn (hK 1 rfl) rfl q1)) (.cons (fun _ _ hE hK hg => ok_move (kn (hK 2 rfl) rfl q2)) (.cons (fun _ _ hE hK hg => ok_move (kn (hK 3 rfl) rfl q3)) (.cons ?z2_4 (.cons (fun _ _ hE hK hg => ok_move_pr (φ := SP.tup2 (SP.vl (rSl (rInt .i64)) O x1.1) (SP.isv (.int .i64 x1.2))) (kspS (j := 4) (hK 22 rfl) rfl rfl rfl)) (.cons (fun _ _ hE hK hg => okl_ext0 (kspS (φ := SP.tup2 (SP.vl (rSl (rInt .i64)) O x1.1) (SP.isv (.int .i64 x1.2))) (j := 5) (hK 17 rfl) rfl rfl rfl)) (.cons (fun _ _ hE hK hg => okl_ext1 (kspS (φ := SP.tup2 (SP.vl (rSl (rInt .i64)) O x1.1) (SP.isv (.int .i64 x1.2))) (j := 5) (hK 17 rfl) rfl rfl rfl)) (.cons (fun _ _ hE hK hg => ok_assign_pr (φ := SP.vl (rSl (rInt .i64)) O x1.1) (kspS (j := 6) (hK 23 rfl) rfl rfl rfl)) (.cons (fun _ _ hE hK hg => ok_assign (ksv (j := 7) (hK 24 rfl) rfl rfl rfl)) .nil)))))))))) ?zok2 ?zgd2 ?zk2
 case z2_4 => intro a' w' hE hK hg; have c_ := ok_court_Explains (OkO.ext hB.ok hE) (GR.v_ext _ h_0 hE) (GR.v_ext _ h_1 hE) hx1; exact ok_weak (ok_call4 fn17 (ksv (j := 0) (hK 18 rfl) rfl rfl rfl) (ksv (j := 1) (hK 19 rfl) rfl rfl rfl) (ksv (j := 2) (hK 20 rfl) rfl rfl rfl) (ksv (j := 3) (hK 21 rfl) rfl rfl rfl) c_) (fun _ _ _ ⟨a_, b_, e0_, h0_, h1_⟩ => ⟨a_, b_, e0_, (fun h => (OwnR.val h (fun g hg => (OkO.ext hB.ok hE) g (OwnR.ge h g hg).1))) h0_, h1_⟩)
 case zok2 | zgd2 => kernel_rfl
 intro a2 w2 hA hE HF
 replace q0 := kn (HF 0) rfl q0
 have f3 := ksp (HF 10) rfl rfl rfl
 obtain ⟨u2, q10'⟩ : ∃ u, a2.get 10 = u := ⟨_, rfl⟩
 rw [q10'] at f3
 have q10 := q10'; clear q10'
 have q11 := ksv (HF 11) rfl rfl rfl
 clear q1
 clear q2
 clear q3
 clear HF
 replace h_0 := GR.v_ext _ h_0 hE
 replace h_1 := GR.v_ext _ h_1 hE
 replace hB := Base.step hB hE hO; clear hE
 refine li_nil (nx_then (wp_seq (wp_seq ?_)))
 refine' region [_, _] mixed hA (.cons (fun _ _ hE hK hg => ok_move (kn (hK 11 rfl) rfl q11)) (.cons (fun _ _ hE hK hg => ok_neqI (ksv (j := 0) (hK 25 rfl) rfl rfl rfl) rfl) .nil)) ?zok3 ?zgd3 ?zk3
 case zok3 | zgd3 => kernel_rfl
 intro a3 w3 hA hE HF
 replace q0 := kn (HF 0) rfl q0
 replace q10 := kn (HF 10) rfl q10
 replace q11 := kn (HF 11) rfl q11
 have q26 := ksv (HF 26) rfl rfl rfl
 clear HF
 replace h_0 := GR.v_ext _ h_0 hE
 replace f3 := GR.v_ext _ f3 hE
 replace hB := Base.step hB hE hO; clear hE
 refine li_nil (nx_then ?_)
 refine wp_cond_b q26 (fun hc => ?_) (fun hc => ?_)
 ·
  replace h := Comp.run_b_t hc h; clear hc
  refine wp_seq ?_
  refine' region [_, _, _] mixed hA (.cons (fun _ _ hE hK hg => ok_move (kn (hK 11 rfl) rfl q11)) (.cons (fun _ _ hE hK hg => ok_assign rfl) (.cons (fun _ _ hE hK hg => ok_assign (ksv (j := 0) (hK 27 rfl) rfl rfl rfl)) .nil))) ?zok4 ?zgd4 ?zk4
  case zok4 | zgd4 => kernel_rfl
  intro a4 w4 hA hE HF
  have q8 := ksv (HF 8) rfl rfl rfl
  have q9 := ksv (HF 9) rfl rfl rfl
  clear q0
  clear q10
  clear q11
  clear q26
  clear HF
  replace h_0 := GR.v_ext _ h_0 hE
  replace f3 := GR.v_ext _ f3 hE
  replace hB := Base.step hB hE hO; clear hE
  refine li_nil (nx_then (wp_ret (rt_then ?_)))
  have h := Comp.run_pure h; subst h
  exact retPure2 Try.results19 hA q8 q9 hB.ext ⟨_, _, rfl, (OwnR.nil _ _ _ _ _), rfl⟩
 ·
  replace h := Comp.run_b_f hc h; clear hc
  refine wp_skip (nx_then (wp_seq (wp_seq ?_)))
  refine' region [_, _, _] mixed hA (.cons (fun _ _ hE hK hg => ok_move (kn (hK 10 rfl) rfl q10)) (.cons (fun _ _ hE hK hg => okl_len (r := (rInt .i64)) ty23 (ksv (j := 0) (hK 28 rfl) rfl rfl rfl) (rd_of (GR.v_ext _ f3 hE))) (.cons (fun _ _ hE hK hg => ok_eqlI (ksv (j := 1) (hK 29 rfl) rfl rfl rfl) rfl) .nil))) ?zok5 ?zgd5 ?zk5
  case zok5 | zgd5 => kernel_rfl
  intro a5 w5 hA hE HF
  replace q0 := kn (HF 0) rfl q0
  replace q10 := kn (HF 10) rfl q10
  have q30 := ksv (HF 30) rfl rfl rfl
  clear q11
  clear q26
  clear HF
  replace h_0 := GR.v_ext _ h_0 hE
  replace f3 := GR.v_ext _ f3 hE
  replace hB := Base.step hB hE hO; clear hE
  refine li_nil (nx_then ?_)
  refine wp_cond_b q30 (fun hc => ?_) (fun hc => ?_)
  ·
   replace h := Comp.run_b_t hc h; clear hc
   refine wp_seq ?_
   refine' region [_, _] mixed hA (.cons (fun _ _ hE hK hg => ok_assign rfl) (.cons (fun _ _ hE hK hg => ok_assign rfl) .nil)) ?zok6 ?zgd6 ?zk6
   case zok6 | zgd6 => kernel_rfl
   intro a6 w6 hA hE HF
   have q8 := ksv (HF 8) rfl rfl rfl
   have q9 := ksv (HF 9) rfl rfl rfl
   clear q0
   clear q10
   clear q30
   clear HF
   replace h_0 := GR.v_ext _ h_0 hE
   replace f3 := GR.v_ext _ f3 hE
   replace hB := Base.step hB hE hO; clear hE
   refine li_nil (nx_then (wp_ret (rt_then ?_)))
   have h := Comp.run_pure h; subst h
   exact retPure2 Try.results19 hA q8 q9 hB.ext ⟨_, _, rfl, (OwnR.nil _ _ _ _ _), rfl⟩
  ·
   replace h := Comp.run_b_f hc h; clear hc
   refine wp_skip (nx_then (wp_seq ?_))
   refine' region [_] mixed hA (.cons (fun _ _ hE hK hg => ok_assign rfl) .nil) ?zok7 ?zgd7 ?zk7
   case zok7 | zgd7 => kernel_rfl
   intro a7 w7 hA hE HF
   replace q0 := kn (HF 0) rfl q0
   replace q10 := kn (HF 10) rfl q10
   have q12 := ksv (HF 12) rfl rfl rfl
   clear q30
   clear HF
   replace h_0 := GR.v_ext _ h_0 hE
   replace f3 := GR.v_ext _ f3 hE
   replace hB := Base.step hB hE hO; clear hE
   refine li_nil (nx_then ?_)
   refine seq_join (fun a w => ∃ (O56 : Tags) (x53 : List Int) (u54 : Value), a.fit 60 ∧ Base (Fr w0) O w0 O56 w ∧ a.get 12 = u54 ∧ OwnL 1 (rInt .i64) 3 (Fr w0) O56 w u54 x53 ∧ (court_Certain_j1 x53).run n = some y) ?_ ?_
   ·
    refine wp_seq ?_
    refine' region [_] mixed hA (.cons (fun _ _ hE hK hg => ok_assign rfl) .nil) ?zok8 ?zgd8 ?zk8
    case zok8 | zgd8 => kernel_rfl
    intro a8 w8 hA hE HF
    replace q0 := kn (HF 0) rfl q0
    replace q10 := kn (HF 10) rfl q10
    replace q12 := kn (HF 12) rfl q12
    have q13 := ksv (HF 13) rfl rfl rfl
    clear HF
    replace h_0 := GR.v_ext _ h_0 hE
    replace f3 := GR.v_ext _ f3 hE
    replace hB := Base.step hB hE hO; clear hE
    refine li_nil (nx_then (wp_block ?_))
    obtain ⟨e2, he2, hk2⟩ := Comp.run_bind h; clear h
    refine loop_m (fun m a w => ∃ (O8 : Tags) (x4 : List Int) (x7 : Int) (u5 : Value), a.fit 60 ∧ Base (Fr w0) O w0 O8 w ∧ a.get 0 = v_0 ∧ (rSl r_api_Claim).v O8 w v_0 x_0 ∧ a.get 10 = u2 ∧ (rSl (rInt .i64)).v O8 w u2 x1.1 ∧ a.get 12 = u5 ∧ OwnL 1 (rInt .i64) 3 (Fr w0) O8 w u5 x4 ∧ a.get 13 = .int .i64 x7 ∧ Comp.loopN (fun s => court_Certain_l2 x_0 x1 s.1 s.2) n m (x4, x7) = some e2) (m := n) ?st2 ?_
    case st2 =>
     exact ⟨_, _, _, _, hA, hB, q0, h_0, q10, f3, q12, (OwnL.nil _ _ _ _ _ _), q13, Comp.run_loop he2⟩
    intro m_ a9 w9 hI
    clear hA hB he2 q0 q10 q12 q13 f3 h_0
    obtain ⟨O8, x4, x7, u5, hA, hB, q0, h_0, q10, f3, q12, f6, q13, hl⟩ := hI
    obtain ⟨m2, hlt2, st2, h, hnext2, hdone2⟩ := Comp.loopN_succ hl; clear hl
    replace h : (court_Certain_l2 x_0 x1 x4 x7).run n = some st2 := h
    unfold court_Certain_l2 at h
    refine wp_seq (wp_seq ?_)
    refine' region [_, _] mixed hA (.cons (fun _ _ hE hK hg => ok_move (kn (hK 13 rfl) rfl q13)) (.cons (fun _ _ hE hK hg => ok_lss (ksv (j := 0) (hK 31 rfl) rfl rfl rfl) rfl) .nil)) ?zok9 ?zgd9 ?zk9
    case zok9 | zgd9 => kernel_rfl
    intro a10 w10 hA hE HF
    replace q0 := kn (HF 0) rfl q0
    replace q10 := kn (HF 10) rfl q10
    replace q12 := kn (HF 12) rfl q12
    replace q13 := kn (HF 13) rfl q13
    have q32 := ksv (HF 32) rfl rfl rfl
    clear HF
    replace h_0 := GR.v_ext _ h_0 hE
    replace f3 := GR.v_ext _ f3 hE
    replace f6 := f6.ext hE
    replace hB := Base.step hB hE hO; clear hE
    refine li_nil (nx_then ?_)
    refine wp_cond_b q32 (fun hc => ?_) (fun hc => ?_)
    ·
     replace h := Comp.run_b_t hc h; clear hc
     refine wp_skip (nx_then ?_)
     refine seq_join (fun a w => ∃ (O50 : Tags) (x47 : List Int) (u48 : Value), a.fit 60 ∧ Base (Fr w0) O w0 O50 w ∧ a.get 0 = v_0 ∧ (rSl r_api_Claim).v O50 w v_0 x_0 ∧ a.get 10 = u2 ∧ (rSl (rInt .i64)).v O50 w u2 x1.1 ∧ a.get 12 = u48 ∧ OwnL 1 (rInt .i64) 3 (Fr w0) O50 w u48 x47 ∧ a.get 13 = .int .i64 x7 ∧ (court_Certain_j3 x7 x47).run n = some st2) ?_ ?_
     ·
      refine wp_block (wp_seq ?_)
      refine' regionT [SP.box w10.heap.size #[.int .i64 0] 3] hA (.cons (fun _ _ hE hK hg => ok_alloc hE.size ty3) .nil) ?zok10 ?zgd10 ?zk10
      case zok10 | zgd10 => kernel_rfl
      intro a11 w11 hA hE HF
      replace q0 := kn (HF 0) rfl q0
      replace q10 := kn (HF 10) rfl q10
      replace q12 := kn (HF 12) rfl q12
      replace q13 := kn (HF 13) rfl q13
      have f10 := ksp (HF 14) rfl rfl rfl
      obtain ⟨u9, q14'⟩ : ∃ u, a11.get 14 = u := ⟨_, rfl⟩
      rw [q14'] at f10
      have q14 := q14'; clear q14'
      clear q32
      clear HF
      obtain ⟨O11, b12, hB', hX, e_, f13⟩ := boxNew hO hB hE f10 2 (by decide)
      subst e_
      clear hB f10; have hB := hB'; clear hB'
      replace h_0 := GR.kx _ h_0 hX (by decide)
      replace f3 := GR.kx _ f3 hX (by decide)
      replace f6 := f6.kx hX (by decide) (by decide)
      clear hX hE
      refine l_store1 (cs' := #[.int .i64 0]) hO hB (okB_fr hB) ty3 q14 rfl rfl rfl f13 (by simp) rfl fun w12 f14 hB' hX => ?_
      clear hB f13; have hB := hB'; clear hB'
      replace h_0 := GR.kx _ h_0 hX (by decide)
      replace f3 := GR.kx _ f3 hX (by decide)
      replace f6 := f6.kx hX (by decide) (by decide)
      clear hX
      refine li_nil (nx_then ?_)
      refine seq_join (fun a w => ∃ (O37 : Tags) (x36 : Int), a.fit 60 ∧ Base (Fr w0) O w0 O37 w ∧ a.get 0 = v_0 ∧ (rSl r_api_Claim).v O37 w v_0 x_0 ∧ a.get 10 = u2 ∧ (rSl (rInt .i64)).v O37 w u2 x1.1 ∧ a.get 12 = u5 ∧ OwnL 1 (rInt .i64) 3 (Fr w0) O37 w u5 x4 ∧ a.get 13 = .int .i64 x7 ∧ a.get 14 = .pointer (some ⟨b12, 0, none⟩) ∧ OwnB 2 (Fr w0) O37 w b12 #[.int .i64 x36] 3 ∧ (court_Certain_j4 x1 x4 x7 x36).run n = some st2) ?_ ?_
      ·
       refine wp_seq ?_
       refine' region [_, _, _] mixed hA (.cons (fun _ _ hE hK hg => ok_move (kn (hK 0 rfl) rfl q0)) (.cons (fun _ _ hE hK hg => okl_len (r := r_api_Claim) ty27 (ksv (j := 0) (hK 35 rfl) rfl rfl rfl) (rd_of (GR.v_ext _ h_0 hE))) (.cons (fun _ _ hE hK hg => ok_move rfl) .nil))) ?zok11 ?zgd11 ?zk11
       case zok11 | zgd11 => kernel_rfl
       intro a13 w13 hA hE HF
       replace q0 := kn (HF 0) rfl q0
       replace q10 := kn (HF 10) rfl q10
       replace q12 := kn (HF 12) rfl q12
       replace q13 := kn (HF 13) rfl q13
       replace q14 := kn (HF 14) rfl q14
       have q35 := ksv (HF 35) rfl rfl rfl
       have q36 := ksv (HF 36) rfl rfl rfl
       have q37 := ksv (HF 37) rfl rfl rfl
       clear HF
       replace h_0 := GR.v_ext _ h_0 hE
       replace f3 := GR.v_ext _ f3 hE
       replace f6 := f6.ext hE
       replace f14 := f14.ext hE
       replace hB := Base.step hB hE hO; clear hE
       refine li_nil (nx_then (wp_block ?_))
       obtain ⟨e5, he5, hk5⟩ := Comp.run_bind h; clear h
       refine loop_m (fun m a w => ∃ (O17 : Tags) (x15 : Int) (x16 : Int), a.fit 60 ∧ Base (Fr w0) O w0 O17 w ∧ a.get 0 = v_0 ∧ (rSl r_api_Claim).v O17 w v_0 x_0 ∧ a.get 10 = u2 ∧ (rSl (rInt .i64)).v O17 w u2 x1.1 ∧ a.get 12 = u5 ∧ OwnL 1 (rInt .i64) 3 (Fr w0) O17 w u5 x4 ∧ a.get 13 = .int .i64 x7 ∧ a.get 14 = .pointer (some ⟨b12, 0, none⟩) ∧ a.get 35 = v_0 ∧ a.get 36 = .int .i64 (x_0.length : Int) ∧ a.get 37 = .int .i64 x15 ∧ OwnB 2 (Fr w0) O17 w b12 #[.int .i64 x16] 3 ∧ Comp.loopN (fun s => court_Certain_l5 x_0 x7 s.1 s.2) n m (x15, x16) = some e5) (m := n) ?st5 ?_
       case st5 =>
        exact ⟨_, _, _, hA, hB, q0, h_0, q10, f3, q12, f6, q13, q14, q35, q36, q37, f14, Comp.run_loop he5⟩
       intro m_ a14 w14 hI
       clear hA hB he5 q0 q10 q12 q13 q14 q35 q36 q37 f14 f3 f6 h_0
       obtain ⟨O17, x15, x16, hA, hB, q0, h_0, q10, f3, q12, f6, q13, q14, q35, q36, q37, f14, hl⟩ := hI
       obtain ⟨m5, hlt5, st5, h, hnext5, hdone5⟩ := Comp.loopN_succ hl; clear hl
       replace h : (court_Certain_l5 x_0 x7 x15 x16).run n = some st5 := h
       unfold court_Certain_l5 at h
       refine wp_seq ?_
       refine' region [_] mixed hA (.cons (fun _ _ hE hK hg => ok_lss (kn (hK 37 rfl) rfl q37) (kn (hK 36 rfl) rfl q36)) .nil) ?zok12 ?zgd12 ?zk12
       case zok12 | zgd12 => kernel_rfl
       intro a15 w15 hA hE HF
       replace q0 := kn (HF 0) rfl q0
       replace q10 := kn (HF 10) rfl q10
       replace q12 := kn (HF 12) rfl q12
       replace q13 := kn (HF 13) rfl q13
       replace q14 := kn (HF 14) rfl q14
       replace q35 := kn (HF 35) rfl q35
       replace q36 := kn (HF 36) rfl q36
       replace q37 := kn (HF 37) rfl q37
       have q38 := ksv (HF 38) rfl rfl rfl
       clear HF
       replace h_0 := GR.v_ext _ h_0 hE
       replace f3 := GR.v_ext _ f3 hE
       replace f6 := f6.ext hE
       replace f14 := f14.ext hE
       replace hB := Base.step hB hE hO; clear hE
       refine li_nil (nx_then (wp_seq ?_))
       refine wp_cond_b q38 (fun hc => ?_) (fun hc => ?_)
       ·
        replace h := Comp.run_b_t hc h; clear hc
        refine wp_skip (nx_then ?_)
        refine seq_join (fun a w => ∃ (O34 : Tags) (x33 : Int), a.fit 60 ∧ Base (Fr w0) O w0 O34 w ∧ a.get 0 = v_0 ∧ (rSl r_api_Claim).v O34 w v_0 x_0 ∧ a.get 10 = u2 ∧ (rSl (rInt .i64)).v O34 w u2 x1.1 ∧ a.get 12 = u5 ∧ OwnL 1 (rInt .i64) 3 (Fr w0) O34 w u5 x4 ∧ a.get 13 = .int .i64 x7 ∧ a.get 14 = .pointer (some ⟨b12, 0, none⟩) ∧ a.get 35 = v_0 ∧ a.get 36 = .int .i64 (x_0.length : Int) ∧ a.get 37 = .int .i64 x15 ∧ OwnB 2 (Fr w0) O34 w b12 #[.int .i64 x33] 3 ∧ (court_Certain_j6 x15 x33).run n = some st5) ?_ ?_
        ·
         refine wp_block (wp_seq ?_)
         obtain ⟨x18, hx18, h⟩ := Comp.run_bind h
         refine' regionT [_, SP.ptr r_api_Claim O17 x18, SP.vl r_api_Claim O17 x18] hA (.cons (fun _ _ hE hK hg => ok_move (kn (hK 37 rfl) rfl q37)) (.cons (fun _ _ hE hK hg => okl_idx (r := r_api_Claim) (O := O17) ty27 ty33 rfl (kn (hK 35 rfl) rfl q35) (rd_of (GR.v_ext _ h_0 hE)) (kn (hK 37 rfl) rfl q37) hx18) (.cons (fun _ _ hE hK hg => okl_ld (r := r_api_Claim) fit_api_Claim ty33 rfl rfl rfl (kspS (φ := SP.ptr r_api_Claim O17 x18) (j := 1) (hK 40 rfl) rfl rfl rfl)) .nil))) ?zok13 ?zgd13 ?zk13
         case zok13 | zgd13 => kernel_rfl
         intro a16 w16 hA hE HF
         replace q0 := kn (HF 0) rfl q0
         replace q10 := kn (HF 10) rfl q10
         replace q12 := kn (HF 12) rfl q12
         replace q13 := kn (HF 13) rfl q13
         replace q14 := kn (HF 14) rfl q14
         replace q35 := kn (HF 35) rfl q35
         replace q36 := kn (HF 36) rfl q36
         replace q37 := kn (HF 37) rfl q37
         have q39 := ksv (HF 39) rfl rfl rfl
         have f20 := ksp (HF 41) rfl rfl rfl
         obtain ⟨u19, q41'⟩ : ∃ u, a16.get 41 = u := ⟨_, rfl⟩
         rw [q41'] at f20
         have q41 := q41'; clear q41'
         clear q38
         clear HF
         replace h_0 := GR.v_ext _ h_0 hE
         replace f3 := GR.v_ext _ f3 hE
         replace f6 := f6.ext hE
         replace f14 := f14.ext hE
         replace hB := Base.step hB hE hO; clear hE
         refine l_ok (φ := SP.box w16.heap.size #[.int .i64 0, .int .i64 0, .int .i64 0, .slice none 0 0, .slice none 0 0] 33) hO hB (by exact ok_alloc (Nat.le_refl _) ty33) rfl fun u21 w17 hE hB' f22 => ?_
         clear hB'; obtain ⟨O23, b25, hB', hX, e_, f24⟩ := boxNew hO hB hE f22 3 (by decide)
         subst e_; clear hB f22; have hB := hB'; clear hB'
         replace h_0 := GR.kx _ h_0 hX (by decide)
         replace f3 := GR.kx _ f3 hX (by decide)
         replace f6 := f6.kx hX (by decide) (by decide)
         replace f20 := GR.kx _ f20 hX (by decide)
         replace f14 := f14.kx hX (by decide)
         clear hX hE
         refine put_cont hA (by decide) fun a18 hA q_ hfr => ?_
         replace q0 := (hfr 0 rfl).trans q0
         replace q10 := (hfr 10 rfl).trans q10
         replace q12 := (hfr 12 rfl).trans q12
         replace q13 := (hfr 13 rfl).trans q13
         replace q14 := (hfr 14 rfl).trans q14
         replace q35 := (hfr 35 rfl).trans q35
         replace q36 := (hfr 36 rfl).trans q36
         replace q37 := (hfr 37 rfl).trans q37
         replace q39 := (hfr 39 rfl).trans q39
         replace q41 := (hfr 41 rfl).trans q41
         have q16 := q_; clear q_ hfr
         refine l_ok (φ := SP.isv (.int .i64 x15)) hO hB (by exact ok_assign q39) rfl fun u_ w19 hE hB' hv_ => ?_
         replace hv_ := Eq.symm hv_; subst hv_; clear hB; have hB := hB'; clear hB'
         replace h_0 := GR.v_ext _ h_0 hE
         replace f3 := GR.v_ext _ f3 hE
         replace f6 := f6.ext hE
         replace f20 := GR.v_ext _ f20 hE
         replace f14 := f14.ext hE
         replace f24 := f24.ext hE
         clear hE
         refine put_cont hA (by decide) fun a20 hA q_ hfr => ?_
         replace q0 := (hfr 0 rfl).trans q0
         replace q10 := (hfr 10 rfl).trans q10
         replace q12 := (hfr 12 rfl).trans q12
         replace q13 := (hfr 13 rfl).trans q13
         replace q14 := (hfr 14 rfl).trans q14
         replace q16 := (hfr 16 rfl).trans q16
         replace q35 := (hfr 35 rfl).trans q35
         replace q36 := (hfr 36 rfl).trans q36
         replace q37 := (hfr 37 rfl).trans q37
         replace q39 := (hfr 39 rfl).trans q39
         replace q41 := (hfr 41 rfl).trans q41
         have q15 := q_; clear q_ hfr
         obtain ⟨u26, u28, e_, f27, f29⟩ := openV_api_Claim f20; subst e_
         refine l_storeSub (vs := [.int .i64 x18.Party, .int .i64 x18.Kind, .int .i64 x18.Gauge, u26, u28]) (cs' := #[.int .i64 x18.Party, .int .i64 x18.Kind, .int .i64 x18.Gauge, u26, u28]) hO hB (okB_fr hB) ty33 q16 q41 rfl (by intro c_ hc_; simp only [List.mem_cons, List.not_mem_nil, or_false] at hc_; rcases hc_ with rfl | rfl | rfl | rfl | rfl <;> first | rfl | assumption | exact sl_one f27 rfl rfl | exact sl_one f29 rfl rfl) f24 (by simp) rfl fun w21 f30 hB' hX => ?_
         clear hB f24; have hB := hB'; clear hB'
         replace h_0 := GR.kx _ h_0 hX (by decide)
         replace f3 := GR.kx _ f3 hX (by decide)
         replace f6 := f6.kx hX (by decide) (by decide)
         replace f27 := GR.kx _ f27 hX (by decide)
         replace f29 := GR.kx _ f29 hX (by decide)
         replace f14 := f14.kx hX (by decide)
         clear hX
         refine li_nil (nx_then (wp_seq ?_))
         refine' region [SP.isv (.pointer (some ⟨b25, 0, none⟩)), SP.isv (.int .i64 x18.Party), _, _] mixed hA (.cons (fun _ _ hE hK hg => ok_fieldAddr fl33_0 (kn (hK 16 rfl) rfl q16)) (.cons (fun _ _ hE hK hg => ok_loadOwn ty3 rfl (ksv (j := 0) (hK 42 rfl) rfl rfl rfl) (OwnB.ext f30 hE).own rfl) (.cons (fun _ _ hE hK hg => ok_move (kn (hK 13 rfl) rfl q13)) (.cons (fun _ _ hE hK hg => ok_eqlI (ksv (j := 1) (hK 43 rfl) rfl rfl rfl) (ksv (j := 2) (hK 44 rfl) rfl rfl rfl)) .nil)))) ?zok14 ?zgd14 ?zk14
         case zok14 | zgd14 => kernel_rfl
         intro a22 w22 hA hE HF
         replace q0 := kn (HF 0) rfl q0
         replace q10 := kn (HF 10) rfl q10
         replace q12 := kn (HF 12) rfl q12
         replace q13 := kn (HF 13) rfl q13
         replace q14 := kn (HF 14) rfl q14
         replace q15 := kn (HF 15) rfl q15
         replace q35 := kn (HF 35) rfl q35
         replace q36 := kn (HF 36) rfl q36
         replace q37 := kn (HF 37) rfl q37
         have q45 := ksv (HF 45) rfl rfl rfl
         clear q16
         clear HF
         replace h_0 := GR.v_ext _ h_0 hE
         replace f3 := GR.v_ext _ f3 hE
         replace f6 := f6.ext hE
         replace f14 := f14.ext hE
         replace f30 := f30.ext hE
         replace f27 := GR.v_ext _ f27 hE
         replace f29 := GR.v_ext _ f29 hE
         replace hB := Base.step hB hE hO; clear hE
         refine li_nil (nx_then ?_)
         refine wp_cond_b q45 (fun hc => ?_) (fun hc => ?_)
         ·
          replace h := Comp.run_b_t hc h; clear hc
          obtain ⟨x31, hx31, h⟩ := Comp.run_bind h
          refine' region [SP.isv (.int .i64 x16), _, _, _] mixed hA (.cons (fun _ _ hE hK hg => ok_loadOwn ty3 rfl (kn (hK 14 rfl) rfl q14) (OwnB.ext f14 hE).own rfl) (.cons (fun _ _ hE hK hg => ok_move (kn (hK 15 rfl) rfl q15)) (.cons (fun _ _ hE hK hg => okl_shl rfl (ksv (j := 1) (hK 47 rfl) rfl rfl rfl) (run_nonneg hx31)) (.cons (fun _ _ hE hK hg => okb_or (ksv (j := 0) (hK 46 rfl) rfl rfl rfl) (ksv (j := 2) (hK 48 rfl) rfl rfl rfl)) .nil)))) ?zok15 ?zgd15 ?zk15
          case zok15 | zgd15 => kernel_rfl
          intro a23 w23 hA hE HF
          replace q0 := kn (HF 0) rfl q0
          replace q10 := kn (HF 10) rfl q10
          replace q12 := kn (HF 12) rfl q12
          replace q13 := kn (HF 13) rfl q13
          replace q14 := kn (HF 14) rfl q14
          replace q35 := kn (HF 35) rfl q35
          replace q36 := kn (HF 36) rfl q36
          replace q37 := kn (HF 37) rfl q37
          have q49 := ksv (HF 49) rfl rfl rfl
          clear q15
          clear q45
          clear HF
          replace h_0 := GR.v_ext _ h_0 hE
          replace f3 := GR.v_ext _ f3 hE
          replace f6 := f6.ext hE
          replace f14 := f14.ext hE
          replace hB := Base.step hB hE hO; clear hE
          refine l_store1 (cs' := #[.int .i64 (orB .i64 x16 (shlF .i64 1 x15))]) hO hB (okB_fr hB) ty3 q14 q49 rfl rfl f14 (by simp) rfl fun w24 f32 hB' hX => ?_
          clear hB f14; have hB := hB'; clear hB'
          replace h_0 := GR.kx _ h_0 hX (by decide)
          replace f3 := GR.kx _ f3 hX (by decide)
          replace f6 := f6.kx hX (by decide) (by decide)
          clear hX
          refine li_nil (nx_blk (nx_then ?_))
          exact ⟨_, _, hA, hB, q0, h_0, q10, f3, q12, f6, q13, q14, q35, q36, q37, f32, h⟩
         ·
          replace h := Comp.run_b_f hc h; clear hc
          refine wp_skip (nx_blk (nx_then ?_))
          exact ⟨_, _, hA, hB, q0, h_0, q10, f3, q12, f6, q13, q14, q35, q36, q37, f14, h⟩
        intro a25 w25 hI
        clear hA hB h q0 q10 q12 q13 q14 q35 q36 q37 q38 f14 f3 f6 h_0
        obtain ⟨O34, x33, hA, hB, q0, h_0, q10, f3, q12, f6, q13, q14, q35, q36, q37, f32, h⟩ := hI
        unfold court_Certain_j6 at h
        refine' region [_, _] mixed hA (.cons (fun _ _ hE hK hg => ok_add (kn (hK 37 rfl) rfl q37) rfl) (.cons (fun _ _ hE hK hg => ok_move (ksv (j := 0) (hK 50 rfl) rfl rfl rfl)) .nil)) ?zok16 ?zgd16 ?zk16
        case zok16 | zgd16 => kernel_rfl
        intro a26 w26 hA hE HF
        replace q0 := kn (HF 0) rfl q0
        replace q10 := kn (HF 10) rfl q10
        replace q12 := kn (HF 12) rfl q12
        replace q13 := kn (HF 13) rfl q13
        replace q14 := kn (HF 14) rfl q14
        replace q35 := kn (HF 35) rfl q35
        replace q36 := kn (HF 36) rfl q36
        have q37' := ksv (HF 37) rfl rfl rfl
        replace q37 := q37'; clear q37'
        clear HF
        replace h_0 := GR.v_ext _ h_0 hE
        replace f3 := GR.v_ext _ f3 hE
        replace f6 := f6.ext hE
        replace f32 := f32.ext hE
        replace hB := Base.step hB hE hO; clear hE
        refine li_nil (nx_then ?_)
        have h := hnext5 _ (Comp.run_pure h).symm
        refine ⟨m5, hlt5, ?_⟩
        exact ⟨_, _, _, hA, hB, q0, h_0, q10, f3, q12, f6, q13, q14, q35, q36, q37, f32, h⟩
       ·
        replace h := Comp.run_b_f hc h; clear hc
        refine wp_exit (ex_then (ex_then (ex_same ?_)))
        have hd_ := hdone5 _ (Comp.run_pure h).symm; clear h
        subst hd_; have h := hk5; clear hk5; try dsimp only at h
        refine nx_then ?_
        exact ⟨_, _, hA, hB, q0, h_0, q10, f3, q12, f6, q13, q14, f14, h⟩
      intro a27 w27 hI
      clear hA hB h q0 q10 q12 q13 q14 f14 f3 f6 h_0
      obtain ⟨O37, x36, hA, hB, q0, h_0, q10, f3, q12, f6, q13, q14, f14, h⟩ := hI
      unfold court_Certain_j4 at h
      refine wp_seq ?_
      obtain ⟨O38, hB', hX, f39⟩ := freezeB (r := (rInt .i64)) (x := x36) hO hB f14 (by decide) rfl
      clear f14 hB; have hB := hB'; clear hB'
      replace h_0 := GR.kx _ h_0 hX (by decide)
      replace f3 := GR.kx _ f3 hX (by decide)
      replace f6 := f6.kx hX (by decide) (by decide)
      clear hX
      obtain ⟨x40, hx40, h⟩ := Comp.run_bind h
      refine' region [_, SP.isv (.func (.func 49) #[] #[.pointer (some ⟨b12, 0, none⟩)]), SP.isv (.bool x40), _] mixed hA (.cons (fun _ _ hE hK hg => ok_move (kn (hK 10 rfl) rfl q10)) (.cons (fun _ _ hE hK hg => ok_makeFunc map0 (map1 (kn (hK 14 rfl) rfl q14))) (.cons ?z17_2 (.cons (fun _ _ hE hK hg => ok_not (ksv (j := 2) (hK 53 rfl) rfl rfl rfl)) .nil)))) ?zok17 ?zgd17 ?zk17
      case z17_2 => intro a' w' hE hK hg; have c_ := ok_slices_ContainsFunc_int_int (OkO.ext hB.ok hE) (GR.v_ext _ f3 hE) (show (rF1 Try.prog (rInt .i64) (RS.c (fun x => .bool x))).v O38 _ (.func (.func 49) #[] #[.pointer (some ⟨b12, 0, none⟩)]) (fun z0 => court_Certain_f1 z0 x36) from rF1_v.2 ⟨rfl, fun O' w' hO' hk v_0 x_0 hv_0 n_ y_ hy_ => by obtain rfl := rInt_v.1 hv_0; exact callV_func fn49 (ok_court_Certain_f1 hO'  (GR.v_mono _ (GR.v_ext _ f39 hE) hk) hy_)⟩) hx40; exact ok_call2 fn48 (ksv (j := 0) (hK 51 rfl) rfl rfl rfl) (ksv (j := 1) (hK 52 rfl) rfl rfl rfl) c_
      case zok17 | zgd17 => kernel_rfl
      intro a28 w28 hA hE HF
      replace q0 := kn (HF 0) rfl q0
      replace q10 := kn (HF 10) rfl q10
      replace q12 := kn (HF 12) rfl q12
      replace q13 := kn (HF 13) rfl q13
      have q54 := ksv (HF 54) rfl rfl rfl
      clear q14
      clear HF
      replace h_0 := GR.v_ext _ h_0 hE
      replace f3 := GR.v_ext _ f3 hE
      replace f6 := f6.ext hE
      replace f39 := GR.v_ext _ f39 hE
      replace hB := Base.step hB hE hO; clear hE
      refine li_nil (nx_then ?_)
      refine wp_cond_b q54 (fun hc => ?_) (fun hc => ?_)
      ·
       replace h := Comp.run_b_t hc h; clear hc
       refine' regionT [_, _, SP.vl (rSl (rInt .i64)) O38 [x7]] hA (.cons (fun _ _ hE hK hg => ok_move (kn (hK 12 rfl) rfl q12)) (.cons (fun _ _ hE hK hg => ok_move (kn (hK 13 rfl) rfl q13)) (.cons (fun _ _ hE hK hg => okl_buildSliceV (r := (rInt .i64)) (fun _ => rfl) rfl (OkO.ext hB.ok hE) ty23 ty3 (parts_cons (ksv (j := 1) (hK 56 rfl) rfl rfl rfl) parts_nil) ⟨(by exact rInt_v.2 rfl), trivial⟩ rfl (by decide)) .nil))) ?zok18 ?zgd18 ?zk18
       case zok18 | zgd18 => kernel_rfl
       intro a29 w29 hA hE HF
       replace q0 := kn (HF 0) rfl q0
       replace q10 := kn (HF 10) rfl q10
       replace q12 := kn (HF 12) rfl q12
       replace q13 := kn (HF 13) rfl q13
       have q55 := ksv (HF 55) rfl rfl rfl
       have f42 := ksp (HF 57) rfl rfl rfl
       obtain ⟨u41, q57'⟩ : ∃ u, a29.get 57 = u := ⟨_, rfl⟩
       rw [q57'] at f42
       have q57 := q57'; clear q57'
       clear q54
       clear HF
       replace h_0 := GR.v_ext _ h_0 hE
       replace f3 := GR.v_ext _ f3 hE
       replace f6 := f6.ext hE
       replace hB := Base.step hB hE hO; clear hE
       obtain ⟨x43, hx43, h⟩ := Comp.run_bind h
       refine l_append (r := (rInt .i64)) (fun _ => rfl) rfl ty23 ty3 rfl (by decide) hO hB (okB_fr hB) q55 f6 q57 (rd_of f42) hx43 (by decide) fun u44 w30 O45 f46 hB' hX => ?_
       clear hB; have hB := hB'; clear hB'
       clear f6
       replace h_0 := GR.kx _ h_0 hX (by decide)
       replace f3 := GR.kx _ f3 hX (by decide)
       replace f42 := GR.kx _ f42 hX (by decide)
       clear hX
       refine put_cont hA (by decide) fun a31 hA q_ hfr => ?_
       replace q0 := (hfr 0 rfl).trans q0
       replace q10 := (hfr 10 rfl).trans q10
       replace q12 := (hfr 12 rfl).trans q12
       replace q13 := (hfr 13 rfl).trans q13
       replace q55 := (hfr 55 rfl).trans q55
       replace q57 := (hfr 57 rfl).trans q57
       have q58 := q_; clear q_ hfr
       refine l_ok (φ := SP.isv (u44)) hO hB (by exact ok_assign q58) rfl fun u_ w32 hE hB' hv_ => ?_
       replace hv_ := Eq.symm hv_; subst hv_; clear hB; have hB := hB'; clear hB'
       replace h_0 := GR.v_ext _ h_0 hE
       replace f3 := GR.v_ext _ f3 hE
       replace f46 := f46.ext hE
       clear hE
       refine put_cont hA (by decide) fun a33 hA q_ hfr => ?_
       replace q0 := (hfr 0 rfl).trans q0
       replace q10 := (hfr 10 rfl).trans q10
       replace q13 := (hfr 13 rfl).trans q13
       replace q58 := (hfr 58 rfl).trans q58
       clear q12
       have q12 := q_; clear q_ hfr
       refine li_nil (nx_blk (nx_then ?_))
       exact ⟨_, _, _, hA, hB, q0, h_0, q10, f3, q12, f46, q13, h⟩
      ·
       replace h := Comp.run_b_f hc h; clear hc
       refine wp_skip (nx_blk (nx_then ?_))
       exact ⟨_, _, _, hA, hB, q0, h_0, q10, f3, q12, f6, q13, h⟩
     intro a34 w34 hI
     clear hA hB h q0 q10 q12 q13 q32 f3 f6 h_0
     obtain ⟨O50, x47, u48, hA, hB, q0, h_0, q10, f3, q12, f49, q13, h⟩ := hI
     unfold court_Certain_j3 at h
     refine' region [_, _, _] mixed hA (.cons (fun _ _ hE hK hg => ok_move (kn (hK 13 rfl) rfl q13)) (.cons (fun _ _ hE hK hg => ok_add (ksv (j := 0) (hK 33 rfl) rfl rfl rfl) rfl) (.cons (fun _ _ hE hK hg => ok_assign (ksv (j := 1) (hK 34 rfl) rfl rfl rfl)) .nil))) ?zok19 ?zgd19 ?zk19
     case zok19 | zgd19 => kernel_rfl
     intro a35 w35 hA hE HF
     replace q0 := kn (HF 0) rfl q0
     replace q10 := kn (HF 10) rfl q10
     replace q12 := kn (HF 12) rfl q12
     have q13' := ksv (HF 13) rfl rfl rfl
     replace q13 := q13'; clear q13'
     clear HF
     replace h_0 := GR.v_ext _ h_0 hE
     replace f3 := GR.v_ext _ f3 hE
     replace f49 := f49.ext hE
     replace hB := Base.step hB hE hO; clear hE
     refine li_nil (nx_then ?_)
     have h := hnext2 _ (Comp.run_pure h).symm
     refine ⟨m2, hlt2, ?_⟩
     exact ⟨_, _, _, _, hA, hB, q0, h_0, q10, f3, q12, f49, q13, h⟩
    ·
     replace h := Comp.run_b_f hc h; clear hc
     refine wp_exit (ex_then (ex_then (ex_same ?_)))
     have hd_ := hdone2 _ (Comp.run_pure h).symm; clear h
     subst hd_; have h := hk2; clear hk2; try dsimp only at h
     refine nx_then ?_
     exact ⟨_, _, _, hA, hB, q12, f6, h⟩
   intro a36 w36 hI
   clear hA hB h q0 q10 q12 f3 h_0
   obtain ⟨O56, x53, u54, hA, hB, q12, f55, h⟩ := hI
   unfold court_Certain_j1 at h
   refine wp_seq ?_
   refine' region [_, _, _] mixed hA (.cons (fun _ _ hE hK hg => ok_move (kn (hK 12 rfl) rfl q12)) (.cons (fun _ _ hE hK hg => ok_assign (ksv (j := 0) (hK 59 rfl) rfl rfl rfl)) (.cons (fun _ _ hE hK hg => ok_assign rfl) .nil))) ?zok20 ?zgd20 ?zk20
   case zok20 | zgd20 => kernel_rfl
   intro a37 w37 hA hE HF
   have q8 := ksv (HF 8) rfl rfl rfl
   have q9 := ksv (HF 9) rfl rfl rfl
   clear q12
   clear HF
   replace f55 := f55.ext hE
   replace hB := Base.step hB hE hO; clear hE
   refine li_nil (nx_then (wp_ret ?_))
   have h := Comp.run_pure h; subst h
   exact retPure2 Try.results19 hA q8 q9 hB.ext ⟨_, _, rfl, (OwnL.res f55 (by decide) hB.zero), rfl⟩
theorem ok_colletlaw43_certain {O : Tags} {w0 : World} (hO : OkO O w0) {v_0 : Value} {x_0 : List api_Sight} (h_0 : (rSl r_api_Sight).v O w0 v_0 x_0) {x_1 : Int} {v_2 : Value} {x_2 : List Int} (h_2 : (rSl (rInt .i64)).v O w0 v_2 x_2) {n : Nat} {y : Bool} (h : (colletlaw43_certain x_0 x_1 x_2).run n = some y) : Pure Try.prog 35 #[v_0, .int .i64 x_1, v_2] w0 (SP.isv (.bool y)).holds := by
 unfold colletlaw43_certain at h
 refine pure_of_wp Try.func35 rfl 23 Try.ntmps35 (by simp) fun a0 hA hs0 => ?_
 have q0 : a0.get 0 = v_0 := hs0 0 _ rfl
 have q1 : a0.get 1 = .int .i64 x_1 := hs0 1 _ rfl
 have q2 : a0.get 2 = v_2 := hs0 2 _ rfl
 clear hs0
 have hB : Base (Fr w0) O w0 O w0 := Base.start hO
 refine wp_seq ?_
 refine' region [_] mixed hA (.cons (fun _ _ hE hK hg => ok_assign rfl) .nil) ?zok1 ?zgd1 ?zk1
 case zok1 | zgd1 => kernel_rfl
 intro a1 w1 hA hE HF
 replace q0 := kn (HF 0) rfl q0
 replace q1 := kn (HF 1) rfl q1
 replace q2 := kn (HF 2) rfl q2
 clear HF
 replace h_0 := GR.v_ext _ h_0 hE
 replace h_2 := GR.v_ext _ h_2 hE
 replace hB := Base.step hB hE hO; clear hE
 refine li_nil (nx_then (wp_seq ?_))
 obtain ⟨x1, hx1, h⟩ := Comp.run_bind h
 obtain ⟨x2, hx2, h⟩ := Comp.run_bind h
 refine' region [SP.vl (rSl r_api_Claim) O x1, _, _, SP.tup2 (SP.vl (rSl (rInt .i64)) O x2.1) (SP.isv (.int .i64 x2.2)), SP.tup2 (SP.vl (rSl (rInt .i64)) O x2.1) (SP.isv (.int .i64 x2.2)), SP.vl (rSl (rInt .i64)) O x2.1, SP.isv (.int .i64 x2.2), SP.vl (rSl (rInt .i64)) O x2.1, _] mixed hA (.cons ?z2_0 (.cons (fun _ _ hE hK hg => ok_move (kn (hK 0 rfl) rfl q0)) (.cons (fun _ _ hE hK hg => ok_move (kn (hK 1 rfl) rfl q1)) (.cons ?z2_3 (.cons (fun _ _ hE hK hg => ok_move_pr (φ := SP.tup2 (SP.vl (rSl (rInt .i64)) O x2.1) (SP.isv (.int .i64 x2.2))) (kspS (j := 3) (hK 13 rfl) rfl rfl rfl)) (.cons (fun _ _ hE hK hg => okl_ext0 (kspS (φ := SP.tup2 (SP.vl (rSl (rInt .i64)) O x2.1) (SP.isv (.int .i64 x2.2))) (j := 4) (hK 9 rfl) rfl rfl rfl)) (.cons (fun _ _ hE hK hg => okl_ext1 (kspS (φ := SP.tup2 (SP.vl (rSl (rInt .i64)) O x2.1) (SP.isv (.int .i64 x2.2))) (j := 4) (hK 9 rfl) rfl rfl rfl)) (.cons (fun _ _ hE hK hg => ok_assign_pr (φ := SP.vl (rSl (rInt .i64)) O x2.1) (kspS (j := 5) (hK 14 rfl) rfl rfl rfl)) (.cons (fun _ _ hE hK hg => ok_assign (ksv (j := 6) (hK 15 rfl) rfl rfl rfl)) .nil))))))))) ?zok2 ?zgd2 ?zk2
 case z2_0 => intro a' w' hE hK hg; have c_ := ok_colletlaw43_example (OkO.ext hB.ok hE)  hx1; exact ok_weak (ok_call0 fn32  c_) (fun _ _ _ h => (OwnR.val h (fun g hg => (OkO.ext hB.ok hE) g (OwnR.ge h g hg).1)))
 case z2_3 => intro a' w' hE hK hg; have c_ := ok_court_Certain (OkO.ext hB.ok hE) (kspS (φ := SP.vl (rSl r_api_Claim) O x1) (j := 0) (hK 10 rfl) rfl rfl rfl) (GR.v_ext _ h_0 hE) hx2; exact ok_weak (ok_call4 fn19 rfl (ksv (j := 1) (hK 11 rfl) rfl rfl rfl) rfl (ksv (j := 2) (hK 12 rfl) rfl rfl rfl) c_) (fun _ _ _ ⟨a_, b_, e0_, h0_, h1_⟩ => ⟨a_, b_, e0_, (fun h => (OwnR.val h (fun g hg => (OkO.ext hB.ok hE) g (OwnR.ge h g hg).1))) h0_, h1_⟩)
 case zok2 | zgd2 => kernel_rfl
 intro a2 w2 hA hE HF
 replace q2 := kn (HF 2) rfl q2
 have f4 := ksp (HF 7) rfl rfl rfl
 obtain ⟨u3, q7'⟩ : ∃ u, a2.get 7 = u := ⟨_, rfl⟩
 rw [q7'] at f4
 have q7 := q7'; clear q7'
 have q8 := ksv (HF 8) rfl rfl rfl
 clear q0
 clear q1
 clear HF
 replace h_0 := GR.v_ext _ h_0 hE
 replace h_2 := GR.v_ext _ h_2 hE
 replace hB := Base.step hB hE hO; clear hE
 refine li_nil (nx_then (wp_seq ?_))
 obtain ⟨x5, hx5, h⟩ := Comp.run_bind h
 refine' region [_, _, _, _, _, SP.isv (.bool x5), _, _] mixed hA (.cons (fun _ _ hE hK hg => ok_move (kn (hK 8 rfl) rfl q8)) (.cons (fun _ _ hE hK hg => ok_eqlI (ksv (j := 0) (hK 16 rfl) rfl rfl rfl) rfl) (.cons (fun _ _ hE hK hg => ok_move (ksv (j := 1) (hK 17 rfl) rfl rfl rfl)) (.cons (fun _ _ hE hK hg => ok_move (kn (hK 7 rfl) rfl q7)) (.cons (fun _ _ hE hK hg => ok_move (kn (hK 2 rfl) rfl q2)) (.cons ?z3_5 (.cons ?z3_6 (.cons (fun _ _ hE hK hg => ok_assign (ksv (j := 6) (hK 22 rfl) rfl rfl rfl)) .nil)))))))) ?zok3 ?zgd3 ?zk3
 case z3_5 => intro a' w' hE hK hg; have c_ := ok_colletref04_SameInts (OkO.ext hB.ok hE) (GR.v_ext _ f4 hE) (GR.v_ext _ h_2 hE) (run_gdb hx5 hg); exact ok_call2 fn21 (ksv (j := 3) (hK 19 rfl) rfl rfl hg) (ksv (j := 4) (hK 20 rfl) rfl rfl hg) c_
 case z3_6 => intro a' w' hE hK hg; exact ok_pick (ksv (j := 2) (hK 18 rfl) rfl rfl rfl) (fun hb => ksv (j := 5) (hK 21 rfl) rfl rfl (act_g1 rfl rfl hb)) (fun _ => rfl)
 case zok3 | zgd3 => kernel_rfl
 intro a3 w3 hA hE HF
 have q6 := ksv (HF 6) rfl rfl rfl
 clear q2
 clear q7
 clear q8
 clear HF
 replace h_2 := GR.v_ext _ h_2 hE
 replace f4 := GR.v_ext _ f4 hE
 replace hB := Base.step hB hE hO; clear hE
 obtain ⟨x6, hx_, h⟩ := Comp.run_bind h; replace hx_ := Comp.run_pure hx_; rw [hx_] at q6; clear hx_
 refine li_nil (nx_then (wp_ret ?_))
 have h := Comp.run_pure h; subst h
 exact retPure Try.results35 hA q6 hB.ext rfl
theorem ok_colletlaw43_sanity {O : Tags} {w0 : World} (hO : OkO O w0)  {n : Nat} {y : Bool} (h : (colletlaw43_sanity).run n = some y) : Pure Try.prog 8 #[] w0 (SP.isv (.bool y)).holds := by
 unfold colletlaw43_sanity at h
 refine pure_of_wp Try.func8 rfl 114 Try.ntmps8 (by simp) fun a0 hA hs0 => ?_
 clear hs0
 have hB : Base (Fr w0) O w0 O w0 := Base.start hO
 refine wp_seq ?_
 refine' region [_] mixed hA (.cons (fun _ _ hE hK hg => ok_assign rfl) .nil) ?zok1 ?zgd1 ?zk1
 case zok1 | zgd1 => kernel_rfl
 intro a1 w1 hA hE HF
 clear HF
 replace hB := Base.step hB hE hO; clear hE
 refine li_nil (nx_then (wp_seq ?_))
 refine' regionT [SP.isv (.agg #[.int .i64 0, .int .i64 0, .bool true]), SP.isv (.agg #[.int .i64 0, .int .i64 0, .bool false]), SP.box w1.heap.size #[.int .i64 0, .int .i64 0, .bool false] 64] hA (.cons (fun _ _ hE hK hg => okl_build plc64 ty64 (pk_cons (v := .bool true) rfl pk_nil) rfl (.cons rfl rfl rfl (leb rfl) .nil) rfl) (.cons (fun _ _ hE hK hg => okl_build plc64 ty64 pk_nil rfl .nil rfl) (.cons (fun _ _ hE hK hg => ok_alloc hE.size ty64) .nil))) ?zok2 ?zgd2 ?zk2
 case zok2 | zgd2 => kernel_rfl
 intro a2 w2 hA hE HF
 have f2 := ksp (HF 1) rfl rfl rfl
 obtain ⟨u1, q1'⟩ : ∃ u, a2.get 1 = u := ⟨_, rfl⟩
 rw [q1'] at f2
 have q1 := q1'; clear q1'
 have q13 := ksv (HF 13) rfl rfl rfl
 have q14 := ksv (HF 14) rfl rfl rfl
 clear HF
 obtain ⟨O3, b4, hB', hX, e_, f5⟩ := boxNew hO hB hE f2 1 (by decide)
 subst e_
 clear hB f2; have hB := hB'; clear hB'
 clear hX hE
 refine l_ok (φ := SP.box w2.heap.size #[.int .i64 0, .int .i64 0, .bool false] 64) hO hB (by exact ok_alloc (Nat.le_refl _) ty64) rfl fun u6 w3 hE hB' f7 => ?_
 clear hB'; obtain ⟨O8, b10, hB', hX, e_, f9⟩ := boxNew hO hB hE f7 2 (by decide)
 subst e_; clear hB f7; have hB := hB'; clear hB'
 replace f5 := f5.kx hX (by decide)
 clear hX hE
 refine put_cont hA (by decide) fun a4 hA q_ hfr => ?_
 replace q1 := (hfr 1 rfl).trans q1
 replace q13 := (hfr 13 rfl).trans q13
 replace q14 := (hfr 14 rfl).trans q14
 have q2 := q_; clear q_ hfr
 refine l_storeSub (vs := [.int .i64 0, .int .i64 0, .bool true]) (cs' := #[.int .i64 0, .int .i64 0, .bool true]) hO hB (okB_fr hB) ty64 q1 q13 rfl (by simp [Value.oneCell']) f5 (by simp) rfl fun w5 f11 hB' hX => ?_
 clear hB f5; have hB := hB'; clear hB'
 replace f9 := f9.kx hX (by decide)
 clear hX
 refine l_storeSub (vs := [.int .i64 0, .int .i64 0, .bool false]) (cs' := #[.int .i64 0, .int .i64 0, .bool false]) hO hB (okB_fr hB) ty64 q2 q14 rfl (by simp [Value.oneCell']) f9 (by simp) rfl fun w6 f12 hB' hX => ?_
 clear hB f9; have hB := hB'; clear hB'
 replace f11 := f11.kx hX (by decide)
 clear hX
 refine li_nil (nx_then (wp_seq ?_))
 refine' region [SP.isv (.agg #[.int .i64 0, .int .i64 0, .bool false]), SP.isv (.agg #[.int .i64 0, .int .i64 1, .bool true]), SP.vl (rSl r_api_Sight) O8 [(api_Sight.mk 0 0 false), (api_Sight.mk 0 1 true)], SP.vl (rSl r_api_Sight) O8 [(api_Sight.mk 0 0 false), (api_Sight.mk 0 1 true)]] mixed hA (.cons (fun _ _ hE hK hg => ok_loadOwnAgg ty64 rfl (kn (hK 2 rfl) rfl q2) (OwnB.ext f12 hE).own rfl) (.cons (fun _ _ hE hK hg => okl_build plc64 ty64 (pk_cons (v := .int .i64 1) rfl (pk_cons (v := .bool true) rfl pk_nil)) rfl (.cons rfl rfl rfl (leb rfl) (.cons rfl rfl rfl (leb rfl) .nil)) rfl) (.cons ?z3_2 (.cons (fun _ _ hE hK hg => ok_assign_pr (φ := SP.vl (rSl r_api_Sight) O8 [(api_Sight.mk 0 0 false), (api_Sight.mk 0 1 true)]) (kspS (j := 2) (hK 17 rfl) rfl rfl rfl)) .nil)))) ?zok3 ?zgd3 ?zk3
 case z3_2 => intro a' w' hE hK hg; exact okl_buildSliceV (r := r_api_Sight) fit_api_Sight rfl (OkO.ext hB.ok hE) ty28 ty64 (parts_cons (ksv (j := 0) (hK 15 rfl) rfl rfl rfl) (parts_cons (ksv (j := 1) (hK 16 rfl) rfl rfl rfl) parts_nil)) ⟨(by first | exact (rC_v (x := (api_Sight.mk 0 0 false))).2 rfl | exact ⟨_, rfl, rfl⟩), ⟨(by first | exact (rC_v (x := (api_Sight.mk 0 1 true))).2 rfl | exact ⟨_, rfl, rfl⟩), trivial⟩⟩ rfl (by decide)
 case zok3 | zgd3 => kernel_rfl
 intro a7 w7 hA hE HF
 replace q1 := kn (HF 1) rfl q1
 replace q2 := kn (HF 2) rfl q2
 have f14 := ksp (HF 3) rfl rfl rfl
 obtain ⟨u13, q3'⟩ : ∃ u, a7.get 3 = u := ⟨_, rfl⟩
 rw [q3'] at f14
 have q3 := q3'; clear q3'
 clear HF
 replace f11 := f11.ext hE
 replace f12 := f12.ext hE
 replace hB := Base.step hB hE hO; clear hE
 refine li_nil (nx_then (wp_seq ?_))
 obtain ⟨x15, hx15, h⟩ := Comp.run_bind h
 obtain ⟨x16, hx16, h⟩ := Comp.run_bind h
 obtain ⟨x17, hx17, h⟩ := Comp.run_bind h
 obtain ⟨x18, hx18, h⟩ := Comp.run_bind h
 obtain ⟨x19, hx19, h⟩ := Comp.run_bind h
 obtain ⟨x20, hx20, h⟩ := Comp.run_bind h
 refine' region [SP.vl (rSl r_api_Claim) O8 x15, _, SP.isv (.bool x16), _, SP.vl (rSl r_api_Claim) O8 x17, _, SP.isv (.bool x18), _, _, _, SP.vl (rSl (rInt .i64)) O8 [0], SP.isv (.bool x19), _, _, _, SP.isv (.bool x20), _, _] mixed hA (.cons ?z4_0 (.cons (fun _ _ hE hK hg => ok_move (kn (hK 3 rfl) rfl q3)) (.cons ?z4_2 (.cons (fun _ _ hE hK hg => ok_move (ksv (j := 2) (hK 20 rfl) rfl rfl rfl)) (.cons ?z4_4 (.cons (fun _ _ hE hK hg => ok_move (kn (hK 3 rfl) rfl q3)) (.cons ?z4_6 (.cons ?z4_7 (.cons (fun _ _ hE hK hg => ok_move (ksv (j := 7) (hK 25 rfl) rfl rfl rfl)) (.cons (fun _ _ hE hK hg => ok_move (kn (hK 3 rfl) rfl q3)) (.cons (fun _ _ hE hK hg => okl_buildSliceV (r := (rInt .i64)) (fun _ => rfl) rfl (OkO.ext hB.ok hE) ty23 ty3 (parts_cons rfl parts_nil) ⟨(by exact rInt_v.2 rfl), trivial⟩ rfl (by decide)) (.cons ?z4_11 (.cons ?z4_12 (.cons (fun _ _ hE hK hg => ok_move (ksv (j := 12) (hK 30 rfl) rfl rfl rfl)) (.cons (fun _ _ hE hK hg => ok_move (kn (hK 3 rfl) rfl q3)) (.cons ?z4_15 (.cons ?z4_16 (.cons (fun _ _ hE hK hg => ok_assign (ksv (j := 16) (hK 34 rfl) rfl rfl rfl)) .nil)))))))))))))))))) ?zok4 ?zgd4 ?zk4
 case z4_0 => intro a' w' hE hK hg; have c_ := ok_colletlaw43_example (OkO.ext hB.ok hE)  hx15; exact ok_weak (ok_call0 fn32  c_) (fun _ _ _ h => (OwnR.val h (fun g hg => (OkO.ext hB.ok hE) g (OwnR.ge h g hg).1)))
 case z4_2 => intro a' w' hE hK hg; have c_ := ok_court_Agrees (OkO.ext hB.ok hE) (kspS (φ := SP.vl (rSl r_api_Claim) O8 x15) (j := 0) (hK 18 rfl) rfl rfl rfl) (GR.v_ext _ f14 hE) hx16; exact ok_call4 fn15 rfl (ksv (j := 1) (hK 19 rfl) rfl rfl rfl) rfl rfl c_
 case z4_4 => intro a' w' hE hK hg; have c_ := ok_colletlaw43_example (OkO.ext hB.ok hE)  (run_gdb hx17 hg); exact ok_weak (ok_call0 fn32  c_) (fun _ _ _ h => (OwnR.val h (fun g hg => (OkO.ext hB.ok hE) g (OwnR.ge h g hg).1)))
 case z4_6 => intro a' w' hE hK hg; have c_ := ok_colletlaw43_conflicts (OkO.ext hB.ok hE) (kspS (φ := SP.vl (rSl r_api_Claim) O8 x17) (j := 4) (hK 22 rfl) rfl rfl hg) (GR.v_ext _ f14 hE) (rSl_nil _ _ _ 0) (run_gdb hx18 hg); exact ok_call3 fn33 rfl (ksv (j := 5) (hK 23 rfl) rfl rfl hg) rfl c_
 case z4_7 => intro a' w' hE hK hg; exact ok_pick (ksv (j := 3) (hK 21 rfl) rfl rfl rfl) (fun hb => ksv (j := 6) (hK 24 rfl) rfl rfl (act_g1 rfl rfl hb)) (fun _ => rfl)
 case z4_11 => intro a' w' hE hK hg; have c_ := ok_colletlaw43_explains (OkO.ext hB.ok hE) (GR.v_ext _ f14 hE) (kspS (φ := SP.vl (rSl (rInt .i64)) O8 [0]) (j := 10) (hK 28 rfl) rfl rfl hg) (run_gdb hx19 hg); exact ok_call3 fn34 (ksv (j := 9) (hK 27 rfl) rfl rfl hg) rfl rfl c_
 case z4_12 => intro a' w' hE hK hg; exact ok_pick (ksv (j := 8) (hK 26 rfl) rfl rfl rfl) (fun hb => ksv (j := 11) (hK 29 rfl) rfl rfl (act_g1 rfl rfl hb)) (fun _ => rfl)
 case z4_15 => intro a' w' hE hK hg; have c_ := ok_colletlaw43_certain (OkO.ext hB.ok hE) (GR.v_ext _ f14 hE) (rSl_nil _ _ _ 0) (run_gdb hx20 hg); exact ok_call3 fn35 (ksv (j := 14) (hK 32 rfl) rfl rfl hg) rfl rfl c_
 case z4_16 => intro a' w' hE hK hg; exact ok_pick (ksv (j := 13) (hK 31 rfl) rfl rfl rfl) (fun hb => ksv (j := 15) (hK 33 rfl) rfl rfl (act_g1 rfl rfl hb)) (fun _ => rfl)
 case zok4 | zgd4 => kernel_rfl
 intro a8 w8 hA hE HF
 replace q1 := kn (HF 1) rfl q1
 replace q2 := kn (HF 2) rfl q2
 have q4 := ksv (HF 4) rfl rfl rfl
 clear q3
 clear HF
 replace f14 := GR.v_ext _ f14 hE
 replace f11 := f11.ext hE
 replace f12 := f12.ext hE
 replace hB := Base.step hB hE hO; clear hE
 obtain ⟨x21, hx_, h⟩ := Comp.run_bind h; replace hx_ := Comp.run_pure hx_; rw [hx_] at q4; clear hx_
 refine li_nil (nx_then (wp_seq ?_))
 refine' region [SP.isv (.agg #[.int .i64 0, .int .i64 0, .bool true]), SP.vl (rSl r_api_Sight) O8 [(api_Sight.mk 0 0 true)], SP.vl (rSl r_api_Sight) O8 [(api_Sight.mk 0 0 true)]] mixed hA (.cons (fun _ _ hE hK hg => ok_loadOwnAgg ty64 rfl (kn (hK 1 rfl) rfl q1) (OwnB.ext f11 hE).own rfl) (.cons ?z5_1 (.cons (fun _ _ hE hK hg => ok_assign_pr (φ := SP.vl (rSl r_api_Sight) O8 [(api_Sight.mk 0 0 true)]) (kspS (j := 1) (hK 36 rfl) rfl rfl rfl)) .nil))) ?zok5 ?zgd5 ?zk5
 case z5_1 => intro a' w' hE hK hg; exact okl_buildSliceV (r := r_api_Sight) fit_api_Sight rfl (OkO.ext hB.ok hE) ty28 ty64 (parts_cons (ksv (j := 0) (hK 35 rfl) rfl rfl rfl) parts_nil) ⟨(by first | exact (rC_v (x := (api_Sight.mk 0 0 true))).2 rfl | exact ⟨_, rfl, rfl⟩), trivial⟩ rfl (by decide)
 case zok5 | zgd5 => kernel_rfl
 intro a9 w9 hA hE HF
 replace q1 := kn (HF 1) rfl q1
 replace q2 := kn (HF 2) rfl q2
 replace q4 := kn (HF 4) rfl q4
 have f23 := ksp (HF 5) rfl rfl rfl
 obtain ⟨u22, q5'⟩ : ∃ u, a9.get 5 = u := ⟨_, rfl⟩
 rw [q5'] at f23
 have q5 := q5'; clear q5'
 clear HF
 replace f11 := f11.ext hE
 replace f12 := f12.ext hE
 replace hB := Base.step hB hE hO; clear hE
 refine li_nil (nx_then (wp_seq ?_))
 obtain ⟨x24, hx24, h⟩ := Comp.run_bind h
 obtain ⟨x25, hx25, h⟩ := Comp.run_bind h
 obtain ⟨x26, hx26, h⟩ := Comp.run_bind h
 obtain ⟨x27, hx27, h⟩ := Comp.run_bind h
 obtain ⟨x28, hx28, h⟩ := Comp.run_bind h
 obtain ⟨x29, hx29, h⟩ := Comp.run_bind h
 refine' region [SP.vl (rSl r_api_Claim) O8 x24, _, SP.vl (rSl (rInt .i64)) O8 [10], SP.isv (.bool x25), _, _, SP.vl (rSl (rInt .i64)) O8 [2], SP.isv (.bool x26), _, _, _, SP.vl (rSl (rInt .i64)) O8 [2, 8], SP.isv (.bool x27), _, _, _, SP.vl (rSl (rInt .i64)) O8 [0], SP.isv (.bool x28), _, _, _, SP.isv (.bool x29), _, _] mixed hA (.cons ?z6_0 (.cons (fun _ _ hE hK hg => ok_move (kn (hK 5 rfl) rfl q5)) (.cons (fun _ _ hE hK hg => okl_buildSliceV (r := (rInt .i64)) (fun _ => rfl) rfl (OkO.ext hB.ok hE) ty23 ty3 (parts_cons rfl parts_nil) ⟨(by exact rInt_v.2 rfl), trivial⟩ rfl (by decide)) (.cons ?z6_3 (.cons (fun _ _ hE hK hg => ok_move (ksv (j := 3) (hK 40 rfl) rfl rfl rfl)) (.cons (fun _ _ hE hK hg => ok_move (kn (hK 5 rfl) rfl q5)) (.cons (fun _ _ hE hK hg => okl_buildSliceV (r := (rInt .i64)) (fun _ => rfl) rfl (OkO.ext hB.ok hE) ty23 ty3 (parts_cons rfl parts_nil) ⟨(by exact rInt_v.2 rfl), trivial⟩ rfl (by decide)) (.cons ?z6_7 (.cons ?z6_8 (.cons (fun _ _ hE hK hg => ok_move (ksv (j := 8) (hK 45 rfl) rfl rfl rfl)) (.cons (fun _ _ hE hK hg => ok_move (kn (hK 5 rfl) rfl q5)) (.cons (fun _ _ hE hK hg => okl_buildSliceV (r := (rInt .i64)) (fun _ => rfl) rfl (OkO.ext hB.ok hE) ty23 ty3 (parts_cons rfl (parts_cons rfl parts_nil)) ⟨(by exact rInt_v.2 rfl), ⟨(by exact rInt_v.2 rfl), trivial⟩⟩ rfl (by decide)) (.cons ?z6_12 (.cons ?z6_13 (.cons (fun _ _ hE hK hg => ok_move (ksv (j := 13) (hK 50 rfl) rfl rfl rfl)) (.cons (fun _ _ hE hK hg => ok_move (kn (hK 5 rfl) rfl q5)) (.cons (fun _ _ hE hK hg => okl_buildSliceV (r := (rInt .i64)) (fun _ => rfl) rfl (OkO.ext hB.ok hE) ty23 ty3 (parts_cons rfl parts_nil) ⟨(by exact rInt_v.2 rfl), trivial⟩ rfl (by decide)) (.cons ?z6_17 (.cons ?z6_18 (.cons (fun _ _ hE hK hg => ok_move (ksv (j := 18) (hK 55 rfl) rfl rfl rfl)) (.cons (fun _ _ hE hK hg => ok_move (kn (hK 5 rfl) rfl q5)) (.cons ?z6_21 (.cons ?z6_22 (.cons (fun _ _ hE hK hg => ok_assign (ksv (j := 22) (hK 59 rfl) rfl rfl rfl)) .nil)))))))))))))))))))))))) ?zok6 ?zgd6 ?zk6
 case z6_0 => intro a' w' hE hK hg; have c_ := ok_colletlaw43_example (OkO.ext hB.ok hE)  hx24; exact ok_weak (ok_call0 fn32  c_) (fun _ _ _ h => (OwnR.val h (fun g hg => (OkO.ext hB.ok hE) g (OwnR.ge h g hg).1)))
 case z6_3 => intro a' w' hE hK hg; have c_ := ok_colletlaw43_conflicts (OkO.ext hB.ok hE) (kspS (φ := SP.vl (rSl r_api_Claim) O8 x24) (j := 0) (hK 37 rfl) rfl rfl rfl) (GR.v_ext _ f23 hE) (kspS (φ := SP.vl (rSl (rInt .i64)) O8 [10]) (j := 2) (hK 39 rfl) rfl rfl rfl) hx25; exact ok_call3 fn33 rfl (ksv (j := 1) (hK 38 rfl) rfl rfl rfl) rfl c_
 case z6_7 => intro a' w' hE hK hg; have c_ := ok_colletlaw43_explains (OkO.ext hB.ok hE) (GR.v_ext _ f23 hE) (kspS (φ := SP.vl (rSl (rInt .i64)) O8 [2]) (j := 6) (hK 43 rfl) rfl rfl hg) (run_gdb hx26 hg); exact ok_call3 fn34 (ksv (j := 5) (hK 42 rfl) rfl rfl hg) rfl rfl c_
 case z6_8 => intro a' w' hE hK hg; exact ok_pick (ksv (j := 4) (hK 41 rfl) rfl rfl rfl) (fun hb => ksv (j := 7) (hK 44 rfl) rfl rfl (act_g1 rfl rfl hb)) (fun _ => rfl)
 case z6_12 => intro a' w' hE hK hg; have c_ := ok_colletlaw43_explains (OkO.ext hB.ok hE) (GR.v_ext _ f23 hE) (kspS (φ := SP.vl (rSl (rInt .i64)) O8 [2, 8]) (j := 11) (hK 48 rfl) rfl rfl hg) (run_gdb hx27 hg); exact ok_call3 fn34 (ksv (j := 10) (hK 47 rfl) rfl rfl hg) rfl rfl c_
 case z6_13 => intro a' w' hE hK hg; exact ok_pick (ksv (j := 9) (hK 46 rfl) rfl rfl rfl) (fun hb => ksv (j := 12) (hK 49 rfl) rfl rfl (act_g1 rfl rfl hb)) (fun _ => rfl)
 case z6_17 => intro a' w' hE hK hg; have c_ := ok_colletlaw43_certain (OkO.ext hB.ok hE) (GR.v_ext _ f23 hE) (kspS (φ := SP.vl (rSl (rInt .i64)) O8 [0]) (j := 16) (hK 53 rfl) rfl rfl hg) (run_gdb hx28 hg); exact ok_call3 fn35 (ksv (j := 15) (hK 52 rfl) rfl rfl hg) rfl rfl c_
 case z6_18 => intro a' w' hE hK hg; exact ok_pick (ksv (j := 14) (hK 51 rfl) rfl rfl rfl) (fun hb => ksv (j := 17) (hK 54 rfl) rfl rfl (act_g1 rfl rfl hb)) (fun _ => rfl)
 case z6_21 => intro a' w' hE hK hg; have c_ := ok_colletlaw43_certain (OkO.ext hB.ok hE) (GR.v_ext _ f23 hE) (rSl_nil _ _ _ 0) (run_gdb hx29 hg); exact ok_call3 fn35 (ksv (j := 20) (hK 57 rfl) rfl rfl hg) rfl rfl c_
 case z6_22 => intro a' w' hE hK hg; exact ok_pick (ksv (j := 19) (hK 56 rfl) rfl rfl rfl) (fun hb => ksv (j := 21) (hK 58 rfl) rfl rfl (act_g1 rfl rfl hb)) (fun _ => rfl)
 case zok6 | zgd6 => kernel_rfl
 intro a10 w10 hA hE HF
 replace q1 := kn (HF 1) rfl q1
 replace q2 := kn (HF 2) rfl q2
 replace q4 := kn (HF 4) rfl q4
 have q6 := ksv (HF 6) rfl rfl rfl
 clear q5
 clear HF
 replace f23 := GR.v_ext _ f23 hE
 replace f11 := f11.ext hE
 replace f12 := f12.ext hE
 replace hB := Base.step hB hE hO; clear hE
 obtain ⟨x30, hx_, h⟩ := Comp.run_bind h; replace hx_ := Comp.run_pure hx_; rw [hx_] at q6; clear hx_
 refine li_nil (nx_then (wp_seq ?_))
 refine' region [SP.isv (.agg #[.int .i64 0, .int .i64 0, .bool true]), SP.isv (.agg #[.int .i64 0, .int .i64 0, .bool false]), SP.vl (rSl r_api_Sight) O8 [(api_Sight.mk 0 0 true), (api_Sight.mk 0 0 false)], SP.vl (rSl r_api_Sight) O8 [(api_Sight.mk 0 0 true), (api_Sight.mk 0 0 false)]] mixed hA (.cons (fun _ _ hE hK hg => ok_loadOwnAgg ty64 rfl (kn (hK 1 rfl) rfl q1) (OwnB.ext f11 hE).own rfl) (.cons (fun _ _ hE hK hg => ok_loadOwnAgg ty64 rfl (kn (hK 2 rfl) rfl q2) (OwnB.ext f12 hE).own rfl) (.cons ?z7_2 (.cons (fun _ _ hE hK hg => ok_assign_pr (φ := SP.vl (rSl r_api_Sight) O8 [(api_Sight.mk 0 0 true), (api_Sight.mk 0 0 false)]) (kspS (j := 2) (hK 62 rfl) rfl rfl rfl)) .nil)))) ?zok7 ?zgd7 ?zk7
 case z7_2 => intro a' w' hE hK hg; exact okl_buildSliceV (r := r_api_Sight) fit_api_Sight rfl (OkO.ext hB.ok hE) ty28 ty64 (parts_cons (ksv (j := 0) (hK 60 rfl) rfl rfl rfl) (parts_cons (ksv (j := 1) (hK 61 rfl) rfl rfl rfl) parts_nil)) ⟨(by first | exact (rC_v (x := (api_Sight.mk 0 0 true))).2 rfl | exact ⟨_, rfl, rfl⟩), ⟨(by first | exact (rC_v (x := (api_Sight.mk 0 0 false))).2 rfl | exact ⟨_, rfl, rfl⟩), trivial⟩⟩ rfl (by decide)
 case zok7 | zgd7 => kernel_rfl
 intro a11 w11 hA hE HF
 replace q4 := kn (HF 4) rfl q4
 replace q6 := kn (HF 6) rfl q6
 have f32 := ksp (HF 7) rfl rfl rfl
 obtain ⟨u31, q7'⟩ : ∃ u, a11.get 7 = u := ⟨_, rfl⟩
 rw [q7'] at f32
 have q7 := q7'; clear q7'
 clear q1
 clear q2
 clear HF
 replace f11 := f11.ext hE
 replace f12 := f12.ext hE
 replace hB := Base.step hB hE hO; clear hE
 refine li_nil (nx_then (wp_seq ?_))
 obtain ⟨x33, hx33, h⟩ := Comp.run_bind h
 obtain ⟨x34, hx34, h⟩ := Comp.run_bind h
 refine' region [SP.vl (rSl r_api_Claim) O8 x33, _, SP.tup2 (SP.vl (rSl (rInt .i64)) O8 x34.1) (SP.isv (.int .i64 x34.2)), SP.tup2 (SP.vl (rSl (rInt .i64)) O8 x34.1) (SP.isv (.int .i64 x34.2)), SP.vl (rSl (rInt .i64)) O8 x34.1, SP.isv (.int .i64 x34.2), SP.vl (rSl (rInt .i64)) O8 x34.1, _] mixed hA (.cons ?z8_0 (.cons (fun _ _ hE hK hg => ok_move (kn (hK 7 rfl) rfl q7)) (.cons ?z8_2 (.cons (fun _ _ hE hK hg => ok_move_pr (φ := SP.tup2 (SP.vl (rSl (rInt .i64)) O8 x34.1) (SP.isv (.int .i64 x34.2))) (kspS (j := 2) (hK 66 rfl) rfl rfl rfl)) (.cons (fun _ _ hE hK hg => okl_ext0 (kspS (φ := SP.tup2 (SP.vl (rSl (rInt .i64)) O8 x34.1) (SP.isv (.int .i64 x34.2))) (j := 3) (hK 63 rfl) rfl rfl rfl)) (.cons (fun _ _ hE hK hg => okl_ext1 (kspS (φ := SP.tup2 (SP.vl (rSl (rInt .i64)) O8 x34.1) (SP.isv (.int .i64 x34.2))) (j := 3) (hK 63 rfl) rfl rfl rfl)) (.cons (fun _ _ hE hK hg => ok_assign_pr (φ := SP.vl (rSl (rInt .i64)) O8 x34.1) (kspS (j := 4) (hK 67 rfl) rfl rfl rfl)) (.cons (fun _ _ hE hK hg => ok_assign (ksv (j := 5) (hK 68 rfl) rfl rfl rfl)) .nil)))))))) ?zok8 ?zgd8 ?zk8
 case z8_0 => intro a' w' hE hK hg; have c_ := ok_colletlaw43_example (OkO.ext hB.ok hE)  hx33; exact ok_weak (ok_call0 fn32  c_) (fun _ _ _ h => (OwnR.val h (fun g hg => (OkO.ext hB.ok hE) g (OwnR.ge h g hg).1)))
 case z8_2 => intro a' w' hE hK hg; have c_ := ok_court_Certain (OkO.ext hB.ok hE) (kspS (φ := SP.vl (rSl r_api_Claim) O8 x33) (j := 0) (hK 64 rfl) rfl rfl rfl) (GR.v_ext _ f32 hE) hx34; exact ok_weak (ok_call4 fn19 rfl (ksv (j := 1) (hK 65 rfl) rfl rfl rfl) rfl rfl c_) (fun _ _ _ ⟨a_, b_, e0_, h0_, h1_⟩ => ⟨a_, b_, e0_, (fun h => (OwnR.val h (fun g hg => (OkO.ext hB.ok hE) g (OwnR.ge h g hg).1))) h0_, h1_⟩)
 case zok8 | zgd8 => kernel_rfl
 intro a12 w12 hA hE HF
 replace q4 := kn (HF 4) rfl q4
 replace q6 := kn (HF 6) rfl q6
 replace q7 := kn (HF 7) rfl q7
 have q9 := ksv (HF 9) rfl rfl rfl
 clear HF
 replace f32 := GR.v_ext _ f32 hE
 replace hB := Base.step hB hE hO; clear hE
 refine li_nil (nx_then (wp_seq ?_))
 obtain ⟨x35, hx35, h⟩ := Comp.run_bind h
 obtain ⟨x36, hx36, h⟩ := Comp.run_bind h
 obtain ⟨x37, hx37, h⟩ := Comp.run_bind h
 refine' region [SP.vl (rSl r_api_Claim) O8 x35, _, SP.vl (rSl (rInt .i64)) O8 [8], SP.isv (.bool x36), _, _, SP.isv (.bool x37), _, _, _, _, _, _] mixed hA (.cons ?z9_0 (.cons (fun _ _ hE hK hg => ok_move (kn (hK 7 rfl) rfl q7)) (.cons (fun _ _ hE hK hg => okl_buildSliceV (r := (rInt .i64)) (fun _ => rfl) rfl (OkO.ext hB.ok hE) ty23 ty3 (parts_cons rfl parts_nil) ⟨(by exact rInt_v.2 rfl), trivial⟩ rfl (by decide)) (.cons ?z9_3 (.cons (fun _ _ hE hK hg => ok_move (ksv (j := 3) (hK 72 rfl) rfl rfl rfl)) (.cons (fun _ _ hE hK hg => ok_move (kn (hK 7 rfl) rfl q7)) (.cons ?z9_6 (.cons ?z9_7 (.cons (fun _ _ hE hK hg => ok_move (ksv (j := 7) (hK 76 rfl) rfl rfl rfl)) (.cons (fun _ _ hE hK hg => ok_move (kn (hK 9 rfl) rfl q9)) (.cons ?z9_10 (.cons ?z9_11 (.cons (fun _ _ hE hK hg => ok_assign (ksv (j := 11) (hK 80 rfl) rfl rfl rfl)) .nil))))))))))))) ?zok9 ?zgd9 ?zk9
 case z9_0 => intro a' w' hE hK hg; have c_ := ok_colletlaw43_example (OkO.ext hB.ok hE)  hx35; exact ok_weak (ok_call0 fn32  c_) (fun _ _ _ h => (OwnR.val h (fun g hg => (OkO.ext hB.ok hE) g (OwnR.ge h g hg).1)))
 case z9_3 => intro a' w' hE hK hg; have c_ := ok_colletlaw43_conflicts (OkO.ext hB.ok hE) (kspS (φ := SP.vl (rSl r_api_Claim) O8 x35) (j := 0) (hK 69 rfl) rfl rfl rfl) (GR.v_ext _ f32 hE) (kspS (φ := SP.vl (rSl (rInt .i64)) O8 [8]) (j := 2) (hK 71 rfl) rfl rfl rfl) hx36; exact ok_call3 fn33 rfl (ksv (j := 1) (hK 70 rfl) rfl rfl rfl) rfl c_
 case z9_6 => intro a' w' hE hK hg; have c_ := ok_colletlaw43_explains (OkO.ext hB.ok hE) (GR.v_ext _ f32 hE) (rSl_nil _ _ _ 0) (run_gdb hx37 hg); exact ok_call3 fn34 (ksv (j := 5) (hK 74 rfl) rfl rfl hg) rfl rfl c_
 case z9_7 => intro a' w' hE hK hg; exact ok_pick (ksv (j := 4) (hK 73 rfl) rfl rfl rfl) (fun hb => ksv (j := 6) (hK 75 rfl) rfl rfl (act_g1 rfl rfl hb)) (fun _ => rfl)
 case z9_10 => intro a' w' hE hK hg; exact ok_eqlI (ksv (j := 9) (hK 78 rfl) rfl rfl hg) rfl
 case z9_11 => intro a' w' hE hK hg; exact ok_pick (ksv (j := 8) (hK 77 rfl) rfl rfl rfl) (fun hb => ksv (j := 10) (hK 79 rfl) rfl rfl (act_g1 rfl rfl hb)) (fun _ => rfl)
 case zok9 | zgd9 => kernel_rfl
 intro a13 w13 hA hE HF
 replace q4 := kn (HF 4) rfl q4
 replace q6 := kn (HF 6) rfl q6
 have q10 := ksv (HF 10) rfl rfl rfl
 clear q7
 clear q9
 clear HF
 replace f32 := GR.v_ext _ f32 hE
 replace hB := Base.step hB hE hO; clear hE
 obtain ⟨x38, hx_, h⟩ := Comp.run_bind h; replace hx_ := Comp.run_pure hx_; rw [hx_] at q10; clear hx_
 refine li_nil (nx_then (wp_seq ?_))
 refine' region [SP.isv (.agg #[.int .i64 0, .int .i64 1, .bool false]), SP.vl (rSl r_api_Sight) O8 [(api_Sight.mk 0 1 false)], SP.vl (rSl r_api_Sight) O8 [(api_Sight.mk 0 1 false)]] mixed hA (.cons (fun _ _ hE hK hg => okl_build plc64 ty64 (pk_cons (v := .int .i64 1) rfl pk_nil) rfl (.cons rfl rfl rfl (leb rfl) .nil) rfl) (.cons ?z10_1 (.cons (fun _ _ hE hK hg => ok_assign_pr (φ := SP.vl (rSl r_api_Sight) O8 [(api_Sight.mk 0 1 false)]) (kspS (j := 1) (hK 82 rfl) rfl rfl rfl)) .nil))) ?zok10 ?zgd10 ?zk10
 case z10_1 => intro a' w' hE hK hg; exact okl_buildSliceV (r := r_api_Sight) fit_api_Sight rfl (OkO.ext hB.ok hE) ty28 ty64 (parts_cons (ksv (j := 0) (hK 81 rfl) rfl rfl rfl) parts_nil) ⟨(by first | exact (rC_v (x := (api_Sight.mk 0 1 false))).2 rfl | exact ⟨_, rfl, rfl⟩), trivial⟩ rfl (by decide)
 case zok10 | zgd10 => kernel_rfl
 intro a14 w14 hA hE HF
 replace q4 := kn (HF 4) rfl q4
 replace q6 := kn (HF 6) rfl q6
 replace q10 := kn (HF 10) rfl q10
 have f40 := ksp (HF 11) rfl rfl rfl
 obtain ⟨u39, q11'⟩ : ∃ u, a14.get 11 = u := ⟨_, rfl⟩
 rw [q11'] at f40
 have q11 := q11'; clear q11'
 clear HF
 replace hB := Base.step hB hE hO; clear hE
 refine li_nil (nx_then (wp_seq ?_))
 obtain ⟨x41, hx41, h⟩ := Comp.run_bind h
 obtain ⟨x42, hx42, h⟩ := Comp.run_bind h
 obtain ⟨x43, hx43, h⟩ := Comp.run_bind h
 obtain ⟨x44, hx44, h⟩ := Comp.run_bind h
 obtain ⟨x45, hx45, h⟩ := Comp.run_bind h
 refine' regionX (draw := true) (fun S_ a_ w_ => ∃ O_ : Tags, Base (Fr w0) O w0 O_ w_ ∧ Keep 0 O8 w14 O_ w_ ∧ (S_ 2 = true → (rSl r_api_Claim).v O_ w_ (a_.get 85) x43) ∧ (S_ 3 = true → PtrZ r_api_Claim O_ w_ (a_.get 86) x44) ∧ (S_ 4 = true → r_api_Claim.v O_ w_ (a_.get 87) x44) ∧ (S_ 5 = true → (rSl r_api_Claim).v O_ w_ (a_.get 88) [x44]) ∧ (S_ 6 = true → (rSl r_api_Claim).v O_ w_ (a_.get 89) x45) ∧ (S_ 7 = true → (rSl r_api_Claim).v O_ w_ (a_.get 12) x45) ∧ (S_ 0 = true → S_ 1 = false → OwnL 3 r_api_Claim 33 (Fr w0) O_ w_ (a_.get 83) x41) ∧ (S_ 1 = true → S_ 6 = false → OwnL 3 r_api_Claim 33 (Fr w0) O_ w_ (a_.get 84) x42) ∧ (S_ 6 = true → OwnL 3 r_api_Claim 33 (Fr w0) O_ w_ (.slice none 0 0) [])) [SP.tt, SP.tt, SP.tt, SP.tt, SP.tt, SP.tt, SP.tt, SP.tt] mixed hA (.cons (stE_tt _) (.cons (stE_tt _) (.cons (stE_tt _) (.cons (stE_tt _) (.cons (stE_tt _) (.cons (stE_tt _) (.cons (stE_tt _) (.cons (stE_tt _) .nil)))))))) (.cons ?z11_0 (.cons ?z11_1 (.cons ?z11_2 (.cons ?z11_3 (.cons ?z11_4 (.cons ?z11_5 (.cons ?z11_6 (.cons ?z11_7 .nil)))))))) ?zsk11 ?zst11 ?zok11 ?zgd11 ?zk11
 case z11_0 =>
  intro S_ a' w' hA_ hJ_ hS_ hafter_ hbef_ hK hg K_ Q_ hK_
  obtain ⟨O_, hB_, k0_, m2_, m3_, m4_, m5_, m6_, m7_, v0_0_, v0_1_, v0_2_⟩ := hJ_
  refine x_ok (φ := SP.ownr r_api_Claim 33 w'.heap.size O_ x41) (by have c_ := ok_colletlaw43_example hB_.ok  hx41; exact ok_weak (ok_call0 fn32  c_) (fun _ _ _ h => h)) fun v_ w2 hE hv_ => ?_
  obtain ⟨O2_, hB2_, hX_, f_⟩ := ownNew hO hB_ hE hv_ rfl 3 (by decide)
  exact hK_ v_ w2 ⟨O2_, hB2_, (k0_.trans (KX.keep hX_ (by decide))), fun h_ => put_other (d := some 83) (t := 85) (φ := fun u_ => (rSl r_api_Claim).v O2_ w2 u_ x43) ((GR.v_mono _ (m2_ (addS_off rfl h_)) (KX.keep hX_ (by decide)))) (by decide), fun h_ => put_other (d := some 83) (t := 86) (φ := fun u_ => PtrZ r_api_Claim O2_ w2 u_ x44) ((PtrZ.keep (m3_ (addS_off rfl h_)) (KX.keep hX_ (by decide)) (by decide) fit_api_Claim)) (by decide), fun h_ => put_other (d := some 83) (t := 87) (φ := fun u_ => r_api_Claim.v O2_ w2 u_ x44) ((GR.v_mono _ (m4_ (addS_off rfl h_)) (KX.keep hX_ (by decide)))) (by decide), fun h_ => put_other (d := some 83) (t := 88) (φ := fun u_ => (rSl r_api_Claim).v O2_ w2 u_ [x44]) ((GR.v_mono _ (m5_ (addS_off rfl h_)) (KX.keep hX_ (by decide)))) (by decide), fun h_ => put_other (d := some 83) (t := 89) (φ := fun u_ => (rSl r_api_Claim).v O2_ w2 u_ x45) ((GR.v_mono _ (m6_ (addS_off rfl h_)) (KX.keep hX_ (by decide)))) (by decide), fun h_ => put_other (d := some 83) (t := 12) (φ := fun u_ => (rSl r_api_Claim).v O2_ w2 u_ x45) ((GR.v_mono _ (m7_ (addS_off rfl h_)) (KX.keep hX_ (by decide)))) (by decide), fun hp_ hq_ => put_me (φ := fun u_ => OwnL 3 r_api_Claim 33 (Fr w0) O2_ w2 (u_) x41) hA_ (by decide) f_, fun hp_ hq_ => no_tf (addS_off rfl hp_) (hafter_ 1 (by kernel_rfl)), fun hp_ => no_tf (addS_off rfl hp_) (hafter_ 6 (by kernel_rfl))⟩ trivial
 case z11_1 =>
  intro S_ a' w' hA_ hJ_ hS_ hafter_ hbef_ hK hg K_ Q_ hK_
  obtain ⟨O_, hB_, k0_, m2_, m3_, m4_, m5_, m6_, m7_, v0_0_, v0_1_, v0_2_⟩ := hJ_
  refine x_ok (φ := SP.isv (preV (a'.get 83) x42.length)) (okl_slice_p (r := r_api_Claim) ty27 ty33 rfl rfl (OwnL.lend (v0_0_ (addS_off rfl (hbef_ 0 (by kernel_rfl))) hS_)) rfl hx42) fun v_ w2 hE hv_ => ?_
  replace hv_ : v_ = preV (a'.get 83) x42.length := hv_
  have hB2_ := Base.step hB_ hE hO
  exact hK_ v_ w2 ⟨O_, hB2_, (k0_.trans (KX.keep (KX.ext hE) (by decide))), fun h_ => put_other (d := some 84) (t := 85) (φ := fun u_ => (rSl r_api_Claim).v O_ w2 u_ x43) ((GR.v_mono _ (m2_ (addS_off rfl h_)) (KX.keep (KX.ext hE) (by decide)))) (by decide), fun h_ => put_other (d := some 84) (t := 86) (φ := fun u_ => PtrZ r_api_Claim O_ w2 u_ x44) ((PtrZ.keep (m3_ (addS_off rfl h_)) (KX.keep (KX.ext hE) (by decide)) (by decide) fit_api_Claim)) (by decide), fun h_ => put_other (d := some 84) (t := 87) (φ := fun u_ => r_api_Claim.v O_ w2 u_ x44) ((GR.v_mono _ (m4_ (addS_off rfl h_)) (KX.keep (KX.ext hE) (by decide)))) (by decide), fun h_ => put_other (d := some 84) (t := 88) (φ := fun u_ => (rSl r_api_Claim).v O_ w2 u_ [x44]) ((GR.v_mono _ (m5_ (addS_off rfl h_)) (KX.keep (KX.ext hE) (by decide)))) (by decide), fun h_ => put_other (d := some 84) (t := 89) (φ := fun u_ => (rSl r_api_Claim).v O_ w2 u_ x45) ((GR.v_mono _ (m6_ (addS_off rfl h_)) (KX.keep (KX.ext hE) (by decide)))) (by decide), fun h_ => put_other (d := some 84) (t := 12) (φ := fun u_ => (rSl r_api_Claim).v O_ w2 u_ x45) ((GR.v_mono _ (m7_ (addS_off rfl h_)) (KX.keep (KX.ext hE) (by decide)))) (by decide), fun hp_ hq_ => addS_me hq_, fun hp_ hq_ => put_me (φ := fun u_ => OwnL 3 r_api_Claim 33 (Fr w0) O_ w2 (u_) x42) hA_ (by decide) (by rw [hv_]; exact OwnL.pre (OwnL.ext (v0_0_ (addS_off rfl (hbef_ 0 (by kernel_rfl))) hS_) hE) hx42), fun hp_ => no_tf (addS_off rfl hp_) (hafter_ 6 (by kernel_rfl))⟩ trivial
 case z11_2 =>
  intro S_ a' w' hA_ hJ_ hS_ hafter_ hbef_ hK hg K_ Q_ hK_
  obtain ⟨O_, hB_, k0_, m2_, m3_, m4_, m5_, m6_, m7_, v0_0_, v0_1_, v0_2_⟩ := hJ_
  refine x_ok (φ := SP.vl (rSl r_api_Claim) O_ x43) (by have c_ := ok_colletlaw43_example hB_.ok  hx43; exact ok_weak (ok_call0 fn32  c_) (fun _ _ _ h => (OwnR.val h (fun g hg => hB_.ok g (OwnR.ge h g hg).1)))) fun v_ w2 hE hv_ => ?_
  have hB2_ := Base.step hB_ hE hO
  exact hK_ v_ w2 ⟨O_, hB2_, (k0_.trans (KX.keep (KX.ext hE) (by decide))), fun _ => put_me (φ := fun u_ => (rSl r_api_Claim).v O_ w2 u_ x43) hA_ (by decide) hv_, fun h_ => put_other (d := some 85) (t := 86) (φ := fun u_ => PtrZ r_api_Claim O_ w2 u_ x44) ((PtrZ.keep (m3_ (addS_off rfl h_)) (KX.keep (KX.ext hE) (by decide)) (by decide) fit_api_Claim)) (by decide), fun h_ => put_other (d := some 85) (t := 87) (φ := fun u_ => r_api_Claim.v O_ w2 u_ x44) ((GR.v_mono _ (m4_ (addS_off rfl h_)) (KX.keep (KX.ext hE) (by decide)))) (by decide), fun h_ => put_other (d := some 85) (t := 88) (φ := fun u_ => (rSl r_api_Claim).v O_ w2 u_ [x44]) ((GR.v_mono _ (m5_ (addS_off rfl h_)) (KX.keep (KX.ext hE) (by decide)))) (by decide), fun h_ => put_other (d := some 85) (t := 89) (φ := fun u_ => (rSl r_api_Claim).v O_ w2 u_ x45) ((GR.v_mono _ (m6_ (addS_off rfl h_)) (KX.keep (KX.ext hE) (by decide)))) (by decide), fun h_ => put_other (d := some 85) (t := 12) (φ := fun u_ => (rSl r_api_Claim).v O_ w2 u_ x45) ((GR.v_mono _ (m7_ (addS_off rfl h_)) (KX.keep (KX.ext hE) (by decide)))) (by decide), fun hp_ hq_ => put_other (d := some 85) (t := 83) (φ := fun u_ => OwnL 3 r_api_Claim 33 (Fr w0) O_ w2 (u_) x41) (OwnL.kx (v0_0_ (addS_off rfl hp_) (addS_no hq_)) (KX.ext hE) (by decide) (by decide)) (by decide), fun hp_ hq_ => put_other (d := some 85) (t := 84) (φ := fun u_ => OwnL 3 r_api_Claim 33 (Fr w0) O_ w2 (u_) x42) (OwnL.kx (v0_1_ (addS_off rfl hp_) (addS_no hq_)) (KX.ext hE) (by decide) (by decide)) (by decide), fun hp_ => OwnL.kx (v0_2_ (addS_off rfl hp_)) (KX.ext hE) (by decide) (by decide)⟩ trivial
 case z11_3 =>
  intro S_ a' w' hA_ hJ_ hS_ hafter_ hbef_ hK hg K_ Q_ hK_
  obtain ⟨O_, hB_, k0_, m2_, m3_, m4_, m5_, m6_, m7_, v0_0_, v0_1_, v0_2_⟩ := hJ_
  refine x_ok (φ := SP.ptrz r_api_Claim O_ x44 (of_decide_eq_true rfl) fit_api_Claim) (by exact okl_idxZ (r := r_api_Claim) (by decide) fit_api_Claim ty27 ty33 rfl rfl (m2_ (addS_off rfl (hbef_ 2 (by kernel_rfl)))) rfl hx44) fun v_ w2 hE hv_ => ?_
  have hB2_ := Base.step hB_ hE hO
  exact hK_ v_ w2 ⟨O_, hB2_, (k0_.trans (KX.keep (KX.ext hE) (by decide))), fun h_ => put_other (d := some 86) (t := 85) (φ := fun u_ => (rSl r_api_Claim).v O_ w2 u_ x43) ((GR.v_mono _ (m2_ (addS_off rfl h_)) (KX.keep (KX.ext hE) (by decide)))) (by decide), fun _ => put_me (φ := fun u_ => PtrZ r_api_Claim O_ w2 u_ x44) hA_ (by decide) hv_, fun h_ => put_other (d := some 86) (t := 87) (φ := fun u_ => r_api_Claim.v O_ w2 u_ x44) ((GR.v_mono _ (m4_ (addS_off rfl h_)) (KX.keep (KX.ext hE) (by decide)))) (by decide), fun h_ => put_other (d := some 86) (t := 88) (φ := fun u_ => (rSl r_api_Claim).v O_ w2 u_ [x44]) ((GR.v_mono _ (m5_ (addS_off rfl h_)) (KX.keep (KX.ext hE) (by decide)))) (by decide), fun h_ => put_other (d := some 86) (t := 89) (φ := fun u_ => (rSl r_api_Claim).v O_ w2 u_ x45) ((GR.v_mono _ (m6_ (addS_off rfl h_)) (KX.keep (KX.ext hE) (by decide)))) (by decide), fun h_ => put_other (d := some 86) (t := 12) (φ := fun u_ => (rSl r_api_Claim).v O_ w2 u_ x45) ((GR.v_mono _ (m7_ (addS_off rfl h_)) (KX.keep (KX.ext hE) (by decide)))) (by decide), fun hp_ hq_ => put_other (d := some 86) (t := 83) (φ := fun u_ => OwnL 3 r_api_Claim 33 (Fr w0) O_ w2 (u_) x41) (OwnL.kx (v0_0_ (addS_off rfl hp_) (addS_no hq_)) (KX.ext hE) (by decide) (by decide)) (by decide), fun hp_ hq_ => put_other (d := some 86) (t := 84) (φ := fun u_ => OwnL 3 r_api_Claim 33 (Fr w0) O_ w2 (u_) x42) (OwnL.kx (v0_1_ (addS_off rfl hp_) (addS_no hq_)) (KX.ext hE) (by decide) (by decide)) (by decide), fun hp_ => OwnL.kx (v0_2_ (addS_off rfl hp_)) (KX.ext hE) (by decide) (by decide)⟩ trivial
 case z11_4 =>
  intro S_ a' w' hA_ hJ_ hS_ hafter_ hbef_ hK hg K_ Q_ hK_
  obtain ⟨O_, hB_, k0_, m2_, m3_, m4_, m5_, m6_, m7_, v0_0_, v0_1_, v0_2_⟩ := hJ_
  refine x_ok (φ := SP.vl r_api_Claim O_ x44) (by exact okl_ld (r := r_api_Claim) fit_api_Claim ty33 rfl rfl rfl (PtrZ.ptr (m3_ (addS_off rfl (hbef_ 3 (by kernel_rfl)))))) fun v_ w2 hE hv_ => ?_
  have hB2_ := Base.step hB_ hE hO
  exact hK_ v_ w2 ⟨O_, hB2_, (k0_.trans (KX.keep (KX.ext hE) (by decide))), fun h_ => put_other (d := some 87) (t := 85) (φ := fun u_ => (rSl r_api_Claim).v O_ w2 u_ x43) ((GR.v_mono _ (m2_ (addS_off rfl h_)) (KX.keep (KX.ext hE) (by decide)))) (by decide), fun h_ => put_other (d := some 87) (t := 86) (φ := fun u_ => PtrZ r_api_Claim O_ w2 u_ x44) ((PtrZ.keep (m3_ (addS_off rfl h_)) (KX.keep (KX.ext hE) (by decide)) (by decide) fit_api_Claim)) (by decide), fun _ => put_me (φ := fun u_ => r_api_Claim.v O_ w2 u_ x44) hA_ (by decide) hv_, fun h_ => put_other (d := some 87) (t := 88) (φ := fun u_ => (rSl r_api_Claim).v O_ w2 u_ [x44]) ((GR.v_mono _ (m5_ (addS_off rfl h_)) (KX.keep (KX.ext hE) (by decide)))) (by decide), fun h_ => put_other (d := some 87) (t := 89) (φ := fun u_ => (rSl r_api_Claim).v O_ w2 u_ x45) ((GR.v_mono _ (m6_ (addS_off rfl h_)) (KX.keep (KX.ext hE) (by decide)))) (by decide), fun h_ => put_other (d := some 87) (t := 12) (φ := fun u_ => (rSl r_api_Claim).v O_ w2 u_ x45) ((GR.v_mono _ (m7_ (addS_off rfl h_)) (KX.keep (KX.ext hE) (by decide)))) (by decide), fun hp_ hq_ => put_other (d := some 87) (t := 83) (φ := fun u_ => OwnL 3 r_api_Claim 33 (Fr w0) O_ w2 (u_) x41) (OwnL.kx (v0_0_ (addS_off rfl hp_) (addS_no hq_)) (KX.ext hE) (by decide) (by decide)) (by decide), fun hp_ hq_ => put_other (d := some 87) (t := 84) (φ := fun u_ => OwnL 3 r_api_Claim 33 (Fr w0) O_ w2 (u_) x42) (OwnL.kx (v0_1_ (addS_off rfl hp_) (addS_no hq_)) (KX.ext hE) (by decide) (by decide)) (by decide), fun hp_ => OwnL.kx (v0_2_ (addS_off rfl hp_)) (KX.ext hE) (by decide) (by decide)⟩ trivial
 case z11_5 =>
  intro S_ a' w' hA_ hJ_ hS_ hafter_ hbef_ hK hg K_ Q_ hK_
  obtain ⟨O_, hB_, k0_, m2_, m3_, m4_, m5_, m6_, m7_, v0_0_, v0_1_, v0_2_⟩ := hJ_
  refine x_ok (φ := SP.vl (rSl r_api_Claim) O_ [x44]) (by exact okl_buildSliceV (r := r_api_Claim) fit_api_Claim rfl hB_.ok ty27 ty33 (parts_cons rfl parts_nil) ⟨(m4_ (addS_off rfl (hbef_ 4 (by kernel_rfl)))), trivial⟩ rfl (by decide)) fun v_ w2 hE hv_ => ?_
  have hB2_ := Base.step hB_ hE hO
  exact hK_ v_ w2 ⟨O_, hB2_, (k0_.trans (KX.keep (KX.ext hE) (by decide))), fun h_ => put_other (d := some 88) (t := 85) (φ := fun u_ => (rSl r_api_Claim).v O_ w2 u_ x43) ((GR.v_mono _ (m2_ (addS_off rfl h_)) (KX.keep (KX.ext hE) (by decide)))) (by decide), fun h_ => put_other (d := some 88) (t := 86) (φ := fun u_ => PtrZ r_api_Claim O_ w2 u_ x44) ((PtrZ.keep (m3_ (addS_off rfl h_)) (KX.keep (KX.ext hE) (by decide)) (by decide) fit_api_Claim)) (by decide), fun h_ => put_other (d := some 88) (t := 87) (φ := fun u_ => r_api_Claim.v O_ w2 u_ x44) ((GR.v_mono _ (m4_ (addS_off rfl h_)) (KX.keep (KX.ext hE) (by decide)))) (by decide), fun _ => put_me (φ := fun u_ => (rSl r_api_Claim).v O_ w2 u_ [x44]) hA_ (by decide) hv_, fun h_ => put_other (d := some 88) (t := 89) (φ := fun u_ => (rSl r_api_Claim).v O_ w2 u_ x45) ((GR.v_mono _ (m6_ (addS_off rfl h_)) (KX.keep (KX.ext hE) (by decide)))) (by decide), fun h_ => put_other (d := some 88) (t := 12) (φ := fun u_ => (rSl r_api_Claim).v O_ w2 u_ x45) ((GR.v_mono _ (m7_ (addS_off rfl h_)) (KX.keep (KX.ext hE) (by decide)))) (by decide), fun hp_ hq_ => put_other (d := some 88) (t := 83) (φ := fun u_ => OwnL 3 r_api_Claim 33 (Fr w0) O_ w2 (u_) x41) (OwnL.kx (v0_0_ (addS_off rfl hp_) (addS_no hq_)) (KX.ext hE) (by decide) (by decide)) (by decide), fun hp_ hq_ => put_other (d := some 88) (t := 84) (φ := fun u_ => OwnL 3 r_api_Claim 33 (Fr w0) O_ w2 (u_) x42) (OwnL.kx (v0_1_ (addS_off rfl hp_) (addS_no hq_)) (KX.ext hE) (by decide) (by decide)) (by decide), fun hp_ => OwnL.kx (v0_2_ (addS_off rfl hp_)) (KX.ext hE) (by decide) (by decide)⟩ trivial
 case z11_6 =>
  intro S_ a' w' hA_ hJ_ hS_ hafter_ hbef_ hK hg K_ Q_ hK_
  obtain ⟨O_, hB_, k0_, m2_, m3_, m4_, m5_, m6_, m7_, v0_0_, v0_1_, v0_2_⟩ := hJ_
  refine x_append (r := r_api_Claim) fit_api_Claim rfl ty27 ty33 rfl (by decide) hO hB_ (okB_fr hB_) rfl (v0_1_ (addS_off rfl (hbef_ 1 (by kernel_rfl))) hS_) rfl (rd_of (m5_ (addS_off rfl (hbef_ 5 (by kernel_rfl))))) hx45 (by decide) fun u_ w2 O2_ f_ hB2_ hX_ => ?_
  obtain ⟨O3_, hB3_, hX3_, f3_⟩ := freezeL hO hB2_ f_ (by decide)
  have hX4_ := KX.trans_same hX_ hX3_
  exact hK_ u_ w2 ⟨O3_, hB3_, (k0_.trans (KX.keep hX4_ (by decide))), fun h_ => put_other (d := some 89) (t := 85) (φ := fun u_ => (rSl r_api_Claim).v O3_ w2 u_ x43) ((GR.v_mono _ (m2_ (addS_off rfl h_)) (KX.keep hX4_ (by decide)))) (by decide), fun h_ => put_other (d := some 89) (t := 86) (φ := fun u_ => PtrZ r_api_Claim O3_ w2 u_ x44) ((PtrZ.keep (m3_ (addS_off rfl h_)) (KX.keep hX4_ (by decide)) (by decide) fit_api_Claim)) (by decide), fun h_ => put_other (d := some 89) (t := 87) (φ := fun u_ => r_api_Claim.v O3_ w2 u_ x44) ((GR.v_mono _ (m4_ (addS_off rfl h_)) (KX.keep hX4_ (by decide)))) (by decide), fun h_ => put_other (d := some 89) (t := 88) (φ := fun u_ => (rSl r_api_Claim).v O3_ w2 u_ [x44]) ((GR.v_mono _ (m5_ (addS_off rfl h_)) (KX.keep hX4_ (by decide)))) (by decide), fun _ => put_me (φ := fun u_ => (rSl r_api_Claim).v O3_ w2 u_ x45) hA_ (by decide) f3_, fun h_ => put_other (d := some 89) (t := 12) (φ := fun u_ => (rSl r_api_Claim).v O3_ w2 u_ x45) ((GR.v_mono _ (m7_ (addS_off rfl h_)) (KX.keep hX4_ (by decide)))) (by decide), fun hp_ hq_ => no_tf (hbef_ 1 (by kernel_rfl)) hq_, fun hp_ hq_ => addS_me hq_, fun hp_ => (OwnL.nil _ _ _ _ _ _)⟩ trivial
 case z11_7 =>
  intro S_ a' w' hA_ hJ_ hS_ hafter_ hbef_ hK hg K_ Q_ hK_
  obtain ⟨O_, hB_, k0_, m2_, m3_, m4_, m5_, m6_, m7_, v0_0_, v0_1_, v0_2_⟩ := hJ_
  refine x_ok (φ := SP.isv (a'.get 89)) (ok_assign rfl) fun v_ w2 hE hv_ => ?_
  replace hv_ : v_ = a'.get 89 := hv_
  have hB2_ := Base.step hB_ hE hO
  exact hK_ v_ w2 ⟨O_, hB2_, (k0_.trans (KX.keep (KX.ext hE) (by decide))), fun h_ => put_other (d := some 12) (t := 85) (φ := fun u_ => (rSl r_api_Claim).v O_ w2 u_ x43) ((GR.v_mono _ (m2_ (addS_off rfl h_)) (KX.keep (KX.ext hE) (by decide)))) (by decide), fun h_ => put_other (d := some 12) (t := 86) (φ := fun u_ => PtrZ r_api_Claim O_ w2 u_ x44) ((PtrZ.keep (m3_ (addS_off rfl h_)) (KX.keep (KX.ext hE) (by decide)) (by decide) fit_api_Claim)) (by decide), fun h_ => put_other (d := some 12) (t := 87) (φ := fun u_ => r_api_Claim.v O_ w2 u_ x44) ((GR.v_mono _ (m4_ (addS_off rfl h_)) (KX.keep (KX.ext hE) (by decide)))) (by decide), fun h_ => put_other (d := some 12) (t := 88) (φ := fun u_ => (rSl r_api_Claim).v O_ w2 u_ [x44]) ((GR.v_mono _ (m5_ (addS_off rfl h_)) (KX.keep (KX.ext hE) (by decide)))) (by decide), fun h_ => put_other (d := some 12) (t := 89) (φ := fun u_ => (rSl r_api_Claim).v O_ w2 u_ x45) ((GR.v_mono _ (m6_ (addS_off rfl h_)) (KX.keep (KX.ext hE) (by decide)))) (by decide), fun _ => put_me (φ := fun u_ => (rSl r_api_Claim).v O_ w2 u_ x45) hA_ (by decide) (by rw [hv_]; exact (GR.v_mono _ (m6_ (addS_off rfl (hbef_ 6 (by kernel_rfl)))) (KX.keep (KX.ext hE) (by decide)))), fun hp_ hq_ => put_other (d := some 12) (t := 83) (φ := fun u_ => OwnL 3 r_api_Claim 33 (Fr w0) O_ w2 (u_) x41) (OwnL.kx (v0_0_ (addS_off rfl hp_) (addS_no hq_)) (KX.ext hE) (by decide) (by decide)) (by decide), fun hp_ hq_ => put_other (d := some 12) (t := 84) (φ := fun u_ => OwnL 3 r_api_Claim 33 (Fr w0) O_ w2 (u_) x42) (OwnL.kx (v0_1_ (addS_off rfl hp_) (addS_no hq_)) (KX.ext hE) (by decide) (by decide)) (by decide), fun hp_ => OwnL.kx (v0_2_ (addS_off rfl hp_)) (KX.ext hE) (by decide) (by decide)⟩ trivial
 case zsk11 =>
  intro i_ o_ S_ a_ w_ ho_ hact_ hA_ hS_ hbef_ hJ_
  obtain ⟨O_, hB_, k0_, m2_, m3_, m4_, m5_, m6_, m7_, v0_0_, v0_1_, v0_2_⟩ := hJ_
  exact ⟨O_, hB_, k0_, fun h_ => by obtain ⟨h1_, h2_⟩ := skip_off (j := 2) hact_ rfl h_; exact put_other (t := 85) (φ := fun u_ => (rSl r_api_Claim).v O_ w_ u_ x43) (m2_ h1_) (uniqDst_ne (j := 2) (by kernel_rfl) ho_ h2_), fun h_ => by obtain ⟨h1_, h2_⟩ := skip_off (j := 3) hact_ rfl h_; exact put_other (t := 86) (φ := fun u_ => PtrZ r_api_Claim O_ w_ u_ x44) (m3_ h1_) (uniqDst_ne (j := 3) (by kernel_rfl) ho_ h2_), fun h_ => by obtain ⟨h1_, h2_⟩ := skip_off (j := 4) hact_ rfl h_; exact put_other (t := 87) (φ := fun u_ => r_api_Claim.v O_ w_ u_ x44) (m4_ h1_) (uniqDst_ne (j := 4) (by kernel_rfl) ho_ h2_), fun h_ => by obtain ⟨h1_, h2_⟩ := skip_off (j := 5) hact_ rfl h_; exact put_other (t := 88) (φ := fun u_ => (rSl r_api_Claim).v O_ w_ u_ [x44]) (m5_ h1_) (uniqDst_ne (j := 5) (by kernel_rfl) ho_ h2_), fun h_ => by obtain ⟨h1_, h2_⟩ := skip_off (j := 6) hact_ rfl h_; exact put_other (t := 89) (φ := fun u_ => (rSl r_api_Claim).v O_ w_ u_ x45) (m6_ h1_) (uniqDst_ne (j := 6) (by kernel_rfl) ho_ h2_), fun h_ => by obtain ⟨h1_, h2_⟩ := skip_off (j := 7) hact_ rfl h_; exact put_other (t := 12) (φ := fun u_ => (rSl r_api_Claim).v O_ w_ u_ x45) (m7_ h1_) (uniqDst_ne (j := 7) (by kernel_rfl) ho_ h2_), fun hp_ hq_ => by obtain ⟨h1_, h2_⟩ := skip_off (j := 0) hact_ rfl hp_; exact put_other (t := 83) (φ := fun u_ => OwnL 3 r_api_Claim 33 (Fr w0) O_ w_ (u_) x41) (v0_0_ h1_ (addS_no hq_)) (uniqDst_ne (j := 0) (by kernel_rfl) ho_ h2_), fun hp_ hq_ => by obtain ⟨h1_, h2_⟩ := skip_off (j := 1) hact_ rfl hp_; exact put_other (t := 84) (φ := fun u_ => OwnL 3 r_api_Claim 33 (Fr w0) O_ w_ (u_) x42) (v0_1_ h1_ (addS_no hq_)) (uniqDst_ne (j := 1) (by kernel_rfl) ho_ h2_), fun hp_ => by obtain ⟨h1_, h2_⟩ := skip_off (j := 6) hact_ rfl hp_; exact (v0_2_ h1_)⟩
 case zst11 => exact fun w1_ hE_ => ⟨O8, (Base.step hB hE_ hO), (Keep.ext hE_), fun h_ => no_ft h_, fun h_ => no_ft h_, fun h_ => no_ft h_, fun h_ => no_ft h_, fun h_ => no_ft h_, fun h_ => no_ft h_, fun hp_ => no_ft hp_, fun hp_ => no_ft hp_, fun hp_ => no_ft hp_⟩
 case zok11 | zgd11 => kernel_rfl
 intro a15 w15 hA HF hJ_
 obtain ⟨O46, hB_, k0_, m2_, m3_, m4_, m5_, m6_, m7_, v0_0_, v0_1_, v0_2_⟩ := hJ_
 replace q4 := kn (HF 4) rfl q4
 replace q6 := kn (HF 6) rfl q6
 replace q10 := kn (HF 10) rfl q10
 replace q11 := kn (HF 11) rfl q11
 have f48 := m7_ rfl
 obtain ⟨u47, q12'⟩ : ∃ u, a15.get 12 = u := ⟨_, rfl⟩
 rw [q12'] at f48
 have q12 := q12'; clear q12'
 clear HF
 replace f40 := GR.v_mono _ f40 k0_
 clear hB; have hB := hB_; clear hB_
 clear k0_ m2_ m3_ m4_ m5_ m6_ m7_ v0_0_ v0_1_ v0_2_
 refine nx_then (wp_seq ?_)
 obtain ⟨x49, hx49, h⟩ := Comp.run_bind h
 obtain ⟨x50, hx50, h⟩ := Comp.run_bind h
 obtain ⟨x51, hx51, h⟩ := Comp.run_bind h
 obtain ⟨x52, hx52, h⟩ := Comp.run_bind h
 obtain ⟨x53, hx53, h⟩ := Comp.run_bind h
 refine' region [_, _, _, _, _, _, _, _, SP.vl (rSl r_api_Claim) O46 x49, _, SP.isv (.bool x50), _, _, _, _, SP.vl (rSl (rInt .i64)) O46 [7], SP.isv (.bool x51), _, _, SP.vl (rSl r_api_Claim) O46 x52, SP.isv (.agg #[.int .i64 5, .int .i64 0, .bool true]), SP.vl (rSl r_api_Sight) O46 [(api_Sight.mk 5 0 true)], SP.isv (.bool x53), _, _] mixed hA (.cons (fun _ _ hE hK hg => ok_move (kn (hK 4 rfl) rfl q4)) (.cons (fun _ _ hE hK hg => ok_move (ksv (j := 0) (hK 90 rfl) rfl rfl rfl)) (.cons (fun _ _ hE hK hg => ok_move (kn (hK 6 rfl) rfl q6)) (.cons ?z12_3 (.cons (fun _ _ hE hK hg => ok_move (ksv (j := 3) (hK 93 rfl) rfl rfl rfl)) (.cons (fun _ _ hE hK hg => ok_move (kn (hK 10 rfl) rfl q10)) (.cons ?z12_6 (.cons (fun _ _ hE hK hg => ok_move (ksv (j := 6) (hK 96 rfl) rfl rfl rfl)) (.cons ?z12_8 (.cons (fun _ _ hE hK hg => ok_move (kn (hK 11 rfl) rfl q11)) (.cons ?z12_10 (.cons ?z12_11 (.cons (fun _ _ hE hK hg => ok_move (ksv (j := 11) (hK 101 rfl) rfl rfl rfl)) (.cons (fun _ _ hE hK hg => ok_move (kn (hK 12 rfl) rfl q12)) (.cons (fun _ _ hE hK hg => ok_move (kn (hK 11 rfl) rfl q11)) (.cons (fun _ _ hE hK hg => okl_buildSliceV (r := (rInt .i64)) (fun _ => rfl) rfl (OkO.ext hB.ok hE) ty23 ty3 (parts_cons rfl parts_nil) ⟨(by exact rInt_v.2 rfl), trivial⟩ rfl (by decide)) (.cons ?z12_16 (.cons ?z12_17 (.cons (fun _ _ hE hK hg => ok_move (ksv (j := 17) (hK 107 rfl) rfl rfl rfl)) (.cons ?z12_19 (.cons (fun _ _ hE hK hg => okl_build plc64 ty64 (pk_cons (v := .int .i64 5) rfl (pk_cons (v := .bool true) rfl pk_nil)) rfl (.cons rfl rfl rfl (leb rfl) (.cons rfl rfl rfl (leb rfl) .nil)) rfl) (.cons ?z12_21 (.cons ?z12_22 (.cons ?z12_23 (.cons (fun _ _ hE hK hg => ok_assign (ksv (j := 23) (hK 113 rfl) rfl rfl rfl)) .nil))))))))))))))))))))))))) ?zok12 ?zgd12 ?zk12
 case z12_3 => intro a' w' hE hK hg; exact ok_pick (ksv (j := 1) (hK 91 rfl) rfl rfl rfl) (fun hb => ksv (j := 2) (hK 92 rfl) rfl rfl (act_g1 rfl rfl hb)) (fun _ => rfl)
 case z12_6 => intro a' w' hE hK hg; exact ok_pick (ksv (j := 4) (hK 94 rfl) rfl rfl rfl) (fun hb => ksv (j := 5) (hK 95 rfl) rfl rfl (act_g1 rfl rfl hb)) (fun _ => rfl)
 case z12_8 => intro a' w' hE hK hg; have c_ := ok_colletlaw43_example (OkO.ext hB.ok hE)  (run_gdb hx49 hg); exact ok_weak (ok_call0 fn32  c_) (fun _ _ _ h => (OwnR.val h (fun g hg => (OkO.ext hB.ok hE) g (OwnR.ge h g hg).1)))
 case z12_10 => intro a' w' hE hK hg; have c_ := ok_colletlaw43_conflicts (OkO.ext hB.ok hE) (kspS (φ := SP.vl (rSl r_api_Claim) O46 x49) (j := 8) (hK 98 rfl) rfl rfl hg) (GR.v_ext _ f40 hE) (rSl_nil _ _ _ 0) (run_gdb hx50 hg); exact ok_call3 fn33 rfl (ksv (j := 9) (hK 99 rfl) rfl rfl hg) rfl c_
 case z12_11 => intro a' w' hE hK hg; exact ok_pick (ksv (j := 7) (hK 97 rfl) rfl rfl rfl) (fun hb => ksv (j := 10) (hK 100 rfl) rfl rfl (act_g1 rfl rfl hb)) (fun _ => rfl)
 case z12_16 => intro a' w' hE hK hg; have c_ := ok_colletlaw43_conflicts (OkO.ext hB.ok hE) (GR.v_ext _ f48 hE) (GR.v_ext _ f40 hE) (kspS (φ := SP.vl (rSl (rInt .i64)) O46 [7]) (j := 15) (hK 105 rfl) rfl rfl hg) (run_gdb hx51 hg); exact ok_call3 fn33 (ksv (j := 13) (hK 103 rfl) rfl rfl hg) (ksv (j := 14) (hK 104 rfl) rfl rfl hg) rfl c_
 case z12_17 => intro a' w' hE hK hg; exact ok_pick (ksv (j := 12) (hK 102 rfl) rfl rfl rfl) (fun hb => ksv (j := 16) (hK 106 rfl) rfl rfl (act_g1 rfl rfl hb)) (fun _ => rfl)
 case z12_19 => intro a' w' hE hK hg; have c_ := ok_colletlaw43_example (OkO.ext hB.ok hE)  (run_gdb hx52 hg); exact ok_weak (ok_call0 fn32  c_) (fun _ _ _ h => (OwnR.val h (fun g hg => (OkO.ext hB.ok hE) g (OwnR.ge h g hg).1)))
 case z12_21 => intro a' w' hE hK hg; exact okl_buildSliceV (r := r_api_Sight) fit_api_Sight rfl (OkO.ext hB.ok hE) ty28 ty64 (parts_cons (ksv (j := 20) (hK 110 rfl) rfl rfl hg) parts_nil) ⟨(by first | exact (rC_v (x := (api_Sight.mk 5 0 true))).2 rfl | exact ⟨_, rfl, rfl⟩), trivial⟩ rfl (by decide)
 case z12_22 => intro a' w' hE hK hg; have c_ := ok_colletlaw43_conflicts (OkO.ext hB.ok hE) (kspS (φ := SP.vl (rSl r_api_Claim) O46 x52) (j := 19) (hK 109 rfl) rfl rfl hg) (kspS (φ := SP.vl (rSl r_api_Sight) O46 [(api_Sight.mk 5 0 true)]) (j := 21) (hK 111 rfl) rfl rfl hg) (rSl_nil _ _ _ 0) (run_gdb hx53 hg); exact ok_call3 fn33 rfl rfl rfl c_
 case z12_23 => intro a' w' hE hK hg; exact ok_pick (ksv (j := 18) (hK 108 rfl) rfl rfl rfl) (fun hb => ksv (j := 22) (hK 112 rfl) rfl rfl (act_g1 rfl rfl hb)) (fun _ => rfl)
 case zok12 | zgd12 => kernel_rfl
 intro a16 w16 hA hE HF
 have q0 := ksv (HF 0) rfl rfl rfl
 clear q4
 clear q6
 clear q10
 clear q11
 clear q12
 clear HF
 replace f40 := GR.v_ext _ f40 hE
 replace f48 := GR.v_ext _ f48 hE
 replace hB := Base.step hB hE hO; clear hE
 obtain ⟨x54, hx_, h⟩ := Comp.run_bind h; replace hx_ := Comp.run_pure hx_; rw [hx_] at q0; clear hx_
 refine li_nil (nx_then (wp_ret ?_))
 have h := Comp.run_pure h; subst h
 exact retPure Try.results8 hA q0 hB.ext rfl
theorem ok_colletref01_Mod {O : Tags} {w0 : World} (hO : OkO O w0) {x_0 : Int} {x_1 : Int} {n : Nat} {y : Int} (h : (colletref01_Mod x_0 x_1).run n = some y) : Pure Try.prog 12 #[.int .i64 x_0, .int .i64 x_1] w0 (SP.isv (.int .i64 y)).holds := by
 unfold colletref01_Mod at h
 refine pure_of_wp Try.func12 rfl 14 Try.ntmps12 (by simp) fun a0 hA hs0 => ?_
 have q0 : a0.get 0 = .int .i64 x_0 := hs0 0 _ rfl
 have q1 : a0.get 1 = .int .i64 x_1 := hs0 1 _ rfl
 clear hs0
 have hB : Base (Fr w0) O w0 O w0 := Base.start hO
 refine wp_seq ?_
 refine' region [_] mixed hA (.cons (fun _ _ hE hK hg => ok_assign rfl) .nil) ?zok1 ?zgd1 ?zk1
 case zok1 | zgd1 => kernel_rfl
 intro a1 w1 hA hE HF
 replace q0 := kn (HF 0) rfl q0
 replace q1 := kn (HF 1) rfl q1
 clear HF
 replace hB := Base.step hB hE hO; clear hE
 refine li_nil (nx_then (wp_seq (wp_seq ?_)))
 refine' region [_, _] mixed hA (.cons (fun _ _ hE hK hg => ok_move (kn (hK 1 rfl) rfl q1)) (.cons (fun _ _ hE hK hg => ok_lss (ksv (j := 0) (hK 5 rfl) rfl rfl rfl) rfl) .nil)) ?zok2 ?zgd2 ?zk2
 case zok2 | zgd2 => kernel_rfl
 intro a2 w2 hA hE HF
 replace q0 := kn (HF 0) rfl q0
 replace q1 := kn (HF 1) rfl q1
 have q6 := ksv (HF 6) rfl rfl rfl
 clear HF
 replace hB := Base.step hB hE hO; clear hE
 refine li_nil (nx_then ?_)
 refine wp_cond_b q6 (fun hc => ?_) (fun hc => ?_)
 ·
  replace h := Comp.run_b_t hc h; clear hc
  refine wp_seq ?_
  refine' region [_] mixed hA (.cons (fun _ _ hE hK hg => ok_assign rfl) .nil) ?zok3 ?zgd3 ?zk3
  case zok3 | zgd3 => kernel_rfl
  intro a3 w3 hA hE HF
  have q4 := ksv (HF 4) rfl rfl rfl
  clear q0
  clear q1
  clear q6
  clear HF
  replace hB := Base.step hB hE hO; clear hE
  refine li_nil (nx_then (wp_ret (rt_then ?_)))
  have h := Comp.run_pure h; subst h
  exact retPure Try.results12 hA q4 hB.ext rfl
 ·
  replace h := Comp.run_b_f hc h; clear hc
  refine wp_skip (nx_then (wp_seq ?_))
  obtain ⟨x1, hx1, h⟩ := Comp.run_bind h
  obtain ⟨x2, hx2, h⟩ := Comp.run_bind h
  refine' region [_, _, SP.isv (.int .i64 x1), _, _, _, SP.isv (.int .i64 x2), _] mixed hA (.cons (fun _ _ hE hK hg => ok_move (kn (hK 0 rfl) rfl q0)) (.cons (fun _ _ hE hK hg => ok_move (kn (hK 1 rfl) rfl q1)) (.cons (fun _ _ hE hK hg => ok_isv (ok_rem (ksv (j := 0) (hK 7 rfl) rfl rfl rfl) (ksv (j := 1) (hK 8 rfl) rfl rfl rfl) (run_rem hx1).1) (congrArg _ (run_rem hx1).2)) (.cons (fun _ _ hE hK hg => ok_move (kn (hK 1 rfl) rfl q1)) (.cons (fun _ _ hE hK hg => ok_add (ksv (j := 2) (hK 9 rfl) rfl rfl rfl) (ksv (j := 3) (hK 10 rfl) rfl rfl rfl)) (.cons (fun _ _ hE hK hg => ok_move (kn (hK 1 rfl) rfl q1)) (.cons (fun _ _ hE hK hg => ok_isv (ok_rem (ksv (j := 4) (hK 11 rfl) rfl rfl rfl) (ksv (j := 5) (hK 12 rfl) rfl rfl rfl) (run_rem hx2).1) (congrArg _ (run_rem hx2).2)) (.cons (fun _ _ hE hK hg => ok_assign (ksv (j := 6) (hK 13 rfl) rfl rfl rfl)) .nil)))))))) ?zok4 ?zgd4 ?zk4
  case zok4 | zgd4 => kernel_rfl
  intro a4 w4 hA hE HF
  have q4 := ksv (HF 4) rfl rfl rfl
  clear q0
  clear q1
  clear q6
  clear HF
  replace hB := Base.step hB hE hO; clear hE
  refine li_nil (nx_then (wp_ret ?_))
  have h := Comp.run_pure h; subst h
  exact retPure Try.results12 hA q4 hB.ext rfl
theorem ok_colletref01_Draw_Next {O : Tags} {w0 : World} (hO : OkO O w0) {b_0 : Nat} {x_0 : colletref01_Draw} (h_0 : BoxA r_colletref01_Draw 88 O w0 b_0 x_0) {x_1 : Int} {n : Nat} {y : (colletref01_Draw × Int)} (h : (colletref01_Draw_Next x_0 x_1).run n = some y) : Calls Try.prog 54 #[.pointer (some ⟨b_0, 0, none⟩), .int .i64 x_1] w0 (BioPost r_colletref01_Draw 88 O w0 b_0 y.1 (SP.isv (.int .i64 y.2))) := by
 unfold colletref01_Draw_Next at h
 refine bio_of_wp Try.func54 rfl 35 Try.ntmps54 (by simp) fun a0 hA hs0 => ?_
 have q0 : a0.get 0 = .pointer (some ⟨b_0, 0, none⟩) := hs0 0 _ rfl
 have q1 : a0.get 1 = .int .i64 x_1 := hs0 1 _ rfl
 clear hs0
 obtain ⟨Oi_, cs_, hB, hb_, hr_, hk_⟩ := bioStart hO h_0
 clear hk_ h_0
 obtain ⟨u1, e_, f2⟩ := openR_colletref01_Draw hr_; subst e_
 refine wp_seq ?_
 refine' region [_] mixed hA (.cons (fun _ _ hE hK hg => ok_assign rfl) .nil) ?zok1 ?zgd1 ?zk1
 case zok1 | zgd1 => kernel_rfl
 intro a1 w1 hA hE HF
 replace q0 := kn (HF 0) rfl q0
 replace q1 := kn (HF 1) rfl q1
 clear HF
 replace hb_ := hb_.ext hE
 replace f2 := GR.v_ext _ f2 hE
 replace hB := Base.step hB hE hO; clear hE
 refine li_nil (nx_then (wp_seq (wp_seq ?_)))
 refine' region [_, SP.isv (.pointer (some ⟨b_0, 0, none⟩)), SP.isv (.pointer (some ⟨b_0, 1, none⟩)), SP.isv (.int .i64 x_0.At), _, SP.isv (.pointer (some ⟨b_0, 0, none⟩)), SP.isv (.pointer (some ⟨b_0, 0, none⟩)), SP.isv (u1), _, _] mixed hA (.cons (fun _ _ hE hK hg => ok_move (kn (hK 0 rfl) rfl q0)) (.cons (fun _ _ hE hK hg => ok_nilChk (ksv (j := 0) (hK 5 rfl) rfl rfl rfl)) (.cons (fun _ _ hE hK hg => ok_fieldAddr fl88_1 (ksv (j := 1) (hK 6 rfl) rfl rfl rfl)) (.cons (fun _ _ hE hK hg => ok_loadOwn ty3 rfl (ksv (j := 2) (hK 7 rfl) rfl rfl rfl) (OwnB.ext hb_ hE).own rfl) (.cons (fun _ _ hE hK hg => ok_move (kn (hK 0 rfl) rfl q0)) (.cons (fun _ _ hE hK hg => ok_nilChk (ksv (j := 4) (hK 9 rfl) rfl rfl rfl)) (.cons (fun _ _ hE hK hg => ok_fieldAddr fl88_0 (ksv (j := 5) (hK 10 rfl) rfl rfl rfl)) (.cons (fun _ _ hE hK hg => ok_loadOwn ty23 rfl (ksv (j := 6) (hK 11 rfl) rfl rfl rfl) (OwnB.ext hb_ hE).own rfl) (.cons (fun _ _ hE hK hg => okl_len (r := (rInt .i64)) ty23 (ksv (j := 7) (hK 12 rfl) rfl rfl rfl) (rd_of (GR.v_ext _ f2 hE))) (.cons (fun _ _ hE hK hg => ok_geq (ksv (j := 3) (hK 8 rfl) rfl rfl rfl) (ksv (j := 8) (hK 13 rfl) rfl rfl rfl)) .nil)))))))))) ?zok2 ?zgd2 ?zk2
 case zok2 | zgd2 => kernel_rfl
 intro a2 w2 hA hE HF
 replace q0 := kn (HF 0) rfl q0
 replace q1 := kn (HF 1) rfl q1
 have q14 := ksv (HF 14) rfl rfl rfl
 clear HF
 replace hb_ := hb_.ext hE
 replace f2 := GR.v_ext _ f2 hE
 replace hB := Base.step hB hE hO; clear hE
 refine li_nil (nx_then ?_)
 refine wp_cond_b q14 (fun hc => ?_) (fun hc => ?_)
 ·
  replace h := Comp.run_b_t hc h; clear hc
  refine wp_seq ?_
  refine' region [_] mixed hA (.cons (fun _ _ hE hK hg => ok_assign rfl) .nil) ?zok3 ?zgd3 ?zk3
  case zok3 | zgd3 => kernel_rfl
  intro a3 w3 hA hE HF
  have q4 := ksv (HF 4) rfl rfl rfl
  clear q0
  clear q1
  clear q14
  clear HF
  replace hb_ := hb_.ext hE
  replace f2 := GR.v_ext _ f2 hE
  replace hB := Base.step hB hE hO; clear hE
  refine li_nil (nx_then (wp_ret (rt_then ?_)))
  have h := Comp.run_pure h; subst h
  exact retG1 Try.results54 hA (.tmp q4) (bioEnd hB hb_ ⟨_, _, rfl, (rel_ofF (r := (rSl (rInt .i64))) f2 rfl rfl), ⟨_, _, rfl, rfl, rfl⟩⟩ rfl)
 ·
  replace h := Comp.run_b_f hc h; clear hc
  refine wp_skip (nx_then (wp_seq ?_))
  refine' regionT [_, SP.isv (.pointer (some ⟨b_0, 0, none⟩)), SP.isv (.pointer (some ⟨b_0, 1, none⟩)), SP.isv (.int .i64 x_0.At), _, SP.isv (.pointer (some ⟨b_0, 0, none⟩)), SP.isv (.pointer (some ⟨b_0, 1, none⟩))] hA (.cons (fun _ _ hE hK hg => ok_move (kn (hK 0 rfl) rfl q0)) (.cons (fun _ _ hE hK hg => ok_nilChk (ksv (j := 0) (hK 15 rfl) rfl rfl rfl)) (.cons (fun _ _ hE hK hg => ok_fieldAddr fl88_1 (ksv (j := 1) (hK 16 rfl) rfl rfl rfl)) (.cons (fun _ _ hE hK hg => ok_loadOwn ty3 rfl (ksv (j := 2) (hK 17 rfl) rfl rfl rfl) (OwnB.ext hb_ hE).own rfl) (.cons (fun _ _ hE hK hg => ok_add (ksv (j := 3) (hK 18 rfl) rfl rfl rfl) rfl) (.cons (fun _ _ hE hK hg => ok_nilChk (ksv (j := 0) (hK 15 rfl) rfl rfl rfl)) (.cons (fun _ _ hE hK hg => ok_fieldAddr fl88_1 (ksv (j := 5) (hK 20 rfl) rfl rfl rfl)) .nil))))))) ?zok4 ?zgd4 ?zk4
  case zok4 | zgd4 => kernel_rfl
  intro a4 w4 hA hE HF
  replace q0 := kn (HF 0) rfl q0
  replace q1 := kn (HF 1) rfl q1
  have q19 := ksv (HF 19) rfl rfl rfl
  have q21 := ksv (HF 21) rfl rfl rfl
  clear q14
  clear HF
  replace hb_ := hb_.ext hE
  replace f2 := GR.v_ext _ f2 hE
  replace hB := Base.step hB hE hO; clear hE
  refine l_store1 (cs' := #[u1, .int .i64 (IntKind.wrap .i64 (x_0.At + 1))]) hO hB (okB_self hB) ty3 q21 q19 rfl rfl hb_ (by simp) rfl fun w5 f3 hB' hX => ?_
  clear hB hb_; have hB := hB'; clear hB'
  replace f2 := GR.kx _ f2 hX (by decide)
  clear hX
  refine li_nil (nx_then (wp_seq ?_))
  obtain ⟨x4, hx4, h⟩ := Comp.run_bind h
  obtain ⟨x5, hx5, h⟩ := Comp.run_bind h
  refine' region [_, SP.isv (.pointer (some ⟨b_0, 0, none⟩)), SP.isv (.pointer (some ⟨b_0, 0, none⟩)), SP.isv (u1), _, SP.isv (.pointer (some ⟨b_0, 0, none⟩)), SP.isv (.pointer (some ⟨b_0, 1, none⟩)), SP.isv (.int .i64 (IntKind.wrap .i64 (x_0.At + 1))), _, SP.ptr (rInt .i64) Oi_ x4, SP.isv (.int .i64 x4), _, SP.isv (.int .i64 x5), _] mixed hA (.cons (fun _ _ hE hK hg => ok_move (kn (hK 0 rfl) rfl q0)) (.cons (fun _ _ hE hK hg => ok_nilChk (ksv (j := 0) (hK 22 rfl) rfl rfl rfl)) (.cons (fun _ _ hE hK hg => ok_fieldAddr fl88_0 (ksv (j := 1) (hK 23 rfl) rfl rfl rfl)) (.cons (fun _ _ hE hK hg => ok_loadOwn ty23 rfl (ksv (j := 2) (hK 24 rfl) rfl rfl rfl) (OwnB.ext f3 hE).own rfl) (.cons (fun _ _ hE hK hg => ok_move (kn (hK 0 rfl) rfl q0)) (.cons (fun _ _ hE hK hg => ok_nilChk (ksv (j := 4) (hK 26 rfl) rfl rfl rfl)) (.cons (fun _ _ hE hK hg => ok_fieldAddr fl88_1 (ksv (j := 5) (hK 27 rfl) rfl rfl rfl)) (.cons (fun _ _ hE hK hg => ok_loadOwn ty3 rfl (ksv (j := 6) (hK 28 rfl) rfl rfl rfl) (OwnB.ext f3 hE).own rfl) (.cons (fun _ _ hE hK hg => ok_sub (ksv (j := 7) (hK 29 rfl) rfl rfl rfl) rfl) (.cons (fun _ _ hE hK hg => okl_idx (r := (rInt .i64)) (O := Oi_) ty23 ty3 rfl (ksv (j := 3) (hK 25 rfl) rfl rfl rfl) (rd_of (GR.v_ext _ f2 hE)) (ksv (j := 8) (hK 30 rfl) rfl rfl rfl) hx4) (.cons (fun _ _ hE hK hg => okl_ldr (rInt .i64) (fun _ => rfl) ty3 rfl rfl rfl (kspS (φ := SP.ptr (rInt .i64) Oi_ x4) (j := 9) (hK 31 rfl) rfl rfl rfl) (fun _ _ _ h => rInt_v.1 h)) (.cons (fun _ _ hE hK hg => ok_move (kn (hK 1 rfl) rfl q1)) (.cons ?z5_12 (.cons (fun _ _ hE hK hg => ok_assign (ksv (j := 12) (hK 34 rfl) rfl rfl rfl)) .nil)))))))))))))) ?zok5 ?zgd5 ?zk5
  case z5_12 => intro a' w' hE hK hg; have c_ := ok_colletref01_Mod (OkO.ext hB.ok hE)  hx5; exact ok_call2 fn12 (ksv (j := 10) (hK 32 rfl) rfl rfl rfl) (ksv (j := 11) (hK 33 rfl) rfl rfl rfl) c_
  case zok5 | zgd5 => kernel_rfl
  intro a6 w6 hA hE HF
  have q4 := ksv (HF 4) rfl rfl rfl
  clear q0
  clear q1
  clear HF
  replace f3 := f3.ext hE
  replace f2 := GR.v_ext _ f2 hE
  replace hB := Base.step hB hE hO; clear hE
  refine li_nil (nx_then (wp_ret ?_))
  have h := Comp.run_pure h; subst h
  exact retG1 Try.results54 hA (.tmp q4) (bioEnd hB f3 ⟨_, _, rfl, (rel_ofF (r := (rSl (rInt .i64))) f2 rfl rfl), ⟨_, _, rfl, rfl, rfl⟩⟩ rfl)
theorem ok_colletref43_Subset {O : Tags} {w0 : World} (hO : OkO O w0) {x_0 : Int} {x_1 : Int} {n : Nat} {y : (List Int)} (h : (colletref43_Subset x_0 x_1).run n = some y) : Pure Try.prog 55 #[.int .i64 x_0, .int .i64 x_1] w0 (SP.ownr (rInt .i64) 3 (w0.heap.size) O y).holds := by
 unfold colletref43_Subset at h
 refine pure_of_wp Try.func55 rfl 22 Try.ntmps55 (by simp) fun a0 hA hs0 => ?_
 have q0 : a0.get 0 = .int .i64 x_0 := hs0 0 _ rfl
 have q1 : a0.get 1 = .int .i64 x_1 := hs0 1 _ rfl
 clear hs0
 have hB : Base (Fr w0) O w0 O w0 := Base.start hO
 refine wp_seq ?_
 refine' region [_] mixed hA (.cons (fun _ _ hE hK hg => ok_assign rfl) .nil) ?zok1 ?zgd1 ?zk1
 case zok1 | zgd1 => kernel_rfl
 intro a1 w1 hA hE HF
 replace q0 := kn (HF 0) rfl q0
 replace q1 := kn (HF 1) rfl q1
 clear HF
 replace hB := Base.step hB hE hO; clear hE
 refine li_nil (nx_then (wp_seq ?_))
 refine' region [_] mixed hA (.cons (fun _ _ hE hK hg => ok_assign rfl) .nil) ?zok2 ?zgd2 ?zk2
 case zok2 | zgd2 => kernel_rfl
 intro a2 w2 hA hE HF
 replace q0 := kn (HF 0) rfl q0
 replace q1 := kn (HF 1) rfl q1
 have q5 := ksv (HF 5) rfl rfl rfl
 clear HF
 replace hB := Base.step hB hE hO; clear hE
 refine li_nil (nx_then ?_)
 refine seq_join (fun a w => ∃ (O23 : Tags) (x20 : List Int) (u21 : Value), a.fit 22 ∧ Base (Fr w0) O w0 O23 w ∧ a.get 5 = u21 ∧ OwnL 1 (rInt .i64) 3 (Fr w0) O23 w u21 x20 ∧ (colletref43_Subset_j1 x20).run n = some y) ?_ ?_
 ·
  refine wp_seq ?_
  refine' region [_] mixed hA (.cons (fun _ _ hE hK hg => ok_assign rfl) .nil) ?zok3 ?zgd3 ?zk3
  case zok3 | zgd3 => kernel_rfl
  intro a3 w3 hA hE HF
  replace q0 := kn (HF 0) rfl q0
  replace q1 := kn (HF 1) rfl q1
  replace q5 := kn (HF 5) rfl q5
  have q6 := ksv (HF 6) rfl rfl rfl
  clear HF
  replace hB := Base.step hB hE hO; clear hE
  refine li_nil (nx_then (wp_block ?_))
  obtain ⟨e2, he2, hk2⟩ := Comp.run_bind h; clear h
  refine loop_m (fun m a w => ∃ (O5 : Tags) (x1 : List Int) (x4 : Int) (u2 : Value), a.fit 22 ∧ Base (Fr w0) O w0 O5 w ∧ a.get 0 = .int .i64 x_0 ∧ a.get 1 = .int .i64 x_1 ∧ a.get 5 = u2 ∧ OwnL 1 (rInt .i64) 3 (Fr w0) O5 w u2 x1 ∧ a.get 6 = .int .i64 x4 ∧ Comp.loopN (fun s => colletref43_Subset_l2 x_1 x_0 s.1 s.2) n m (x1, x4) = some e2) (m := n) ?st2 ?_
  case st2 =>
   exact ⟨_, _, _, _, hA, hB, q0, q1, q5, (OwnL.nil _ _ _ _ _ _), q6, Comp.run_loop he2⟩
  intro m_ a4 w4 hI
  clear hA hB he2 q0 q1 q5 q6
  obtain ⟨O5, x1, x4, u2, hA, hB, q0, q1, q5, f3, q6, hl⟩ := hI
  obtain ⟨m2, hlt2, st2, h, hnext2, hdone2⟩ := Comp.loopN_succ hl; clear hl
  replace h : (colletref43_Subset_l2 x_1 x_0 x1 x4).run n = some st2 := h
  unfold colletref43_Subset_l2 at h
  refine wp_seq (wp_seq ?_)
  refine' region [_, _, _] mixed hA (.cons (fun _ _ hE hK hg => ok_move (kn (hK 6 rfl) rfl q6)) (.cons (fun _ _ hE hK hg => ok_move (kn (hK 1 rfl) rfl q1)) (.cons (fun _ _ hE hK hg => ok_lss (ksv (j := 0) (hK 7 rfl) rfl rfl rfl) (ksv (j := 1) (hK 8 rfl) rfl rfl rfl)) .nil))) ?zok4 ?zgd4 ?zk4
  case zok4 | zgd4 => kernel_rfl
  intro a5 w5 hA hE HF
  replace q0 := kn (HF 0) rfl q0
  replace q1 := kn (HF 1) rfl q1
  replace q5 := kn (HF 5) rfl q5
  replace q6 := kn (HF 6) rfl q6
  have q9 := ksv (HF 9) rfl rfl rfl
  clear HF
  replace f3 := f3.ext hE
  replace hB := Base.step hB hE hO; clear hE
  refine li_nil (nx_then ?_)
  refine wp_cond_b q9 (fun hc => ?_) (fun hc => ?_)
  ·
   replace h := Comp.run_b_t hc h; clear hc
   refine wp_skip (nx_then ?_)
   refine seq_join (fun a w => ∃ (O17 : Tags) (x14 : List Int) (u15 : Value), a.fit 22 ∧ Base (Fr w0) O w0 O17 w ∧ a.get 0 = .int .i64 x_0 ∧ a.get 1 = .int .i64 x_1 ∧ a.get 5 = u15 ∧ OwnL 1 (rInt .i64) 3 (Fr w0) O17 w u15 x14 ∧ a.get 6 = .int .i64 x4 ∧ (colletref43_Subset_j3 x4 x14).run n = some st2) ?_ ?_
   ·
    refine wp_block (wp_seq ?_)
    obtain ⟨x6, hx6, h⟩ := Comp.run_bind h
    refine' region [_, _, _, _, _] mixed hA (.cons (fun _ _ hE hK hg => ok_move (kn (hK 0 rfl) rfl q0)) (.cons (fun _ _ hE hK hg => ok_move (kn (hK 6 rfl) rfl q6)) (.cons (fun _ _ hE hK hg => okl_shr (ksv (j := 0) (hK 12 rfl) rfl rfl rfl) (ksv (j := 1) (hK 13 rfl) rfl rfl rfl) (run_nonneg hx6)) (.cons (fun _ _ hE hK hg => okb_and (ksv (j := 2) (hK 14 rfl) rfl rfl rfl) rfl) (.cons (fun _ _ hE hK hg => ok_eqlI (ksv (j := 3) (hK 15 rfl) rfl rfl rfl) rfl) .nil))))) ?zok5 ?zgd5 ?zk5
    case zok5 | zgd5 => kernel_rfl
    intro a6 w6 hA hE HF
    replace q0 := kn (HF 0) rfl q0
    replace q1 := kn (HF 1) rfl q1
    replace q5 := kn (HF 5) rfl q5
    replace q6 := kn (HF 6) rfl q6
    have q16 := ksv (HF 16) rfl rfl rfl
    clear q9
    clear HF
    replace f3 := f3.ext hE
    replace hB := Base.step hB hE hO; clear hE
    obtain ⟨x7, hx_, h⟩ := Comp.run_bind h; replace hx_ := Comp.run_pure hx_; rw [hx_] at q16; clear hx_
    refine li_nil (nx_then ?_)
    refine wp_cond_b q16 (fun hc => ?_) (fun hc => ?_)
    ·
     replace h := Comp.run_b_t hc h; clear hc
     refine' regionT [_, _, SP.vl (rSl (rInt .i64)) O5 [x4]] hA (.cons (fun _ _ hE hK hg => ok_move (kn (hK 5 rfl) rfl q5)) (.cons (fun _ _ hE hK hg => ok_move (kn (hK 6 rfl) rfl q6)) (.cons (fun _ _ hE hK hg => okl_buildSliceV (r := (rInt .i64)) (fun _ => rfl) rfl (OkO.ext hB.ok hE) ty23 ty3 (parts_cons (ksv (j := 1) (hK 18 rfl) rfl rfl rfl) parts_nil) ⟨(by exact rInt_v.2 rfl), trivial⟩ rfl (by decide)) .nil))) ?zok6 ?zgd6 ?zk6
     case zok6 | zgd6 => kernel_rfl
     intro a7 w7 hA hE HF
     replace q0 := kn (HF 0) rfl q0
     replace q1 := kn (HF 1) rfl q1
     replace q5 := kn (HF 5) rfl q5
     replace q6 := kn (HF 6) rfl q6
     have q17 := ksv (HF 17) rfl rfl rfl
     have f9 := ksp (HF 19) rfl rfl rfl
     obtain ⟨u8, q19'⟩ : ∃ u, a7.get 19 = u := ⟨_, rfl⟩
     rw [q19'] at f9
     have q19 := q19'; clear q19'
     clear q16
     clear HF
     replace f3 := f3.ext hE
     replace hB := Base.step hB hE hO; clear hE
     obtain ⟨x10, hx10, h⟩ := Comp.run_bind h
     refine l_append (r := (rInt .i64)) (fun _ => rfl) rfl ty23 ty3 rfl (by decide) hO hB (okB_fr hB) q17 f3 q19 (rd_of f9) hx10 (by decide) fun u11 w8 O12 f13 hB' hX => ?_
     clear hB; have hB := hB'; clear hB'
     clear f3
     replace f9 := GR.kx _ f9 hX (by decide)
     clear hX
     refine put_cont hA (by decide) fun a9 hA q_ hfr => ?_
     replace q0 := (hfr 0 rfl).trans q0
     replace q1 := (hfr 1 rfl).trans q1
     replace q5 := (hfr 5 rfl).trans q5
     replace q6 := (hfr 6 rfl).trans q6
     replace q17 := (hfr 17 rfl).trans q17
     replace q19 := (hfr 19 rfl).trans q19
     have q20 := q_; clear q_ hfr
     refine l_ok (φ := SP.isv (u11)) hO hB (by exact ok_assign q20) rfl fun u_ w10 hE hB' hv_ => ?_
     replace hv_ := Eq.symm hv_; subst hv_; clear hB; have hB := hB'; clear hB'
     replace f13 := f13.ext hE
     clear hE
     refine put_cont hA (by decide) fun a11 hA q_ hfr => ?_
     replace q0 := (hfr 0 rfl).trans q0
     replace q1 := (hfr 1 rfl).trans q1
     replace q6 := (hfr 6 rfl).trans q6
     replace q20 := (hfr 20 rfl).trans q20
     clear q5
     have q5 := q_; clear q_ hfr
     refine li_nil (nx_blk (nx_then ?_))
     exact ⟨_, _, _, hA, hB, q0, q1, q5, f13, q6, h⟩
    ·
     replace h := Comp.run_b_f hc h; clear hc
     refine wp_skip (nx_blk (nx_then ?_))
     exact ⟨_, _, _, hA, hB, q0, q1, q5, f3, q6, h⟩
   intro a12 w12 hI
   clear hA hB h q0 q1 q5 q6 q9 f3
   obtain ⟨O17, x14, u15, hA, hB, q0, q1, q5, f16, q6, h⟩ := hI
   unfold colletref43_Subset_j3 at h
   refine' region [_, _, _] mixed hA (.cons (fun _ _ hE hK hg => ok_move (kn (hK 6 rfl) rfl q6)) (.cons (fun _ _ hE hK hg => ok_add (ksv (j := 0) (hK 10 rfl) rfl rfl rfl) rfl) (.cons (fun _ _ hE hK hg => ok_assign (ksv (j := 1) (hK 11 rfl) rfl rfl rfl)) .nil))) ?zok7 ?zgd7 ?zk7
   case zok7 | zgd7 => kernel_rfl
   intro a13 w13 hA hE HF
   replace q0 := kn (HF 0) rfl q0
   replace q1 := kn (HF 1) rfl q1
   replace q5 := kn (HF 5) rfl q5
   have q6' := ksv (HF 6) rfl rfl rfl
   replace q6 := q6'; clear q6'
   clear HF
   replace f16 := f16.ext hE
   replace hB := Base.step hB hE hO; clear hE
   refine li_nil (nx_then ?_)
   have h := hnext2 _ (Comp.run_pure h).symm
   refine ⟨m2, hlt2, ?_⟩
   exact ⟨_, _, _, _, hA, hB, q0, q1, q5, f16, q6, h⟩
  ·
   replace h := Comp.run_b_f hc h; clear hc
   refine wp_exit (ex_then (ex_then (ex_same ?_)))
   have hd_ := hdone2 _ (Comp.run_pure h).symm; clear h
   subst hd_; have h := hk2; clear hk2; try dsimp only at h
   refine nx_then ?_
   exact ⟨_, _, _, hA, hB, q5, f3, h⟩
 intro a14 w14 hI
 clear hA hB h q0 q1 q5
 obtain ⟨O23, x20, u21, hA, hB, q5, f22, h⟩ := hI
 unfold colletref43_Subset_j1 at h
 refine wp_seq ?_
 refine' region [_, _] mixed hA (.cons (fun _ _ hE hK hg => ok_move (kn (hK 5 rfl) rfl q5)) (.cons (fun _ _ hE hK hg => ok_assign (ksv (j := 0) (hK 21 rfl) rfl rfl rfl)) .nil)) ?zok8 ?zgd8 ?zk8
 case zok8 | zgd8 => kernel_rfl
 intro a15 w15 hA hE HF
 have q4 := ksv (HF 4) rfl rfl rfl
 clear q5
 clear HF
 replace f22 := f22.ext hE
 replace hB := Base.step hB hE hO; clear hE
 refine li_nil (nx_then (wp_ret ?_))
 have h := Comp.run_pure h; subst h
 exact retPure Try.results55 hA q4 hB.ext (OwnL.res f22 (by decide) hB.zero)
end Go.Proofs.Ytebmpjdegajhgaa
end
