/- Lemmas behind a claim of this seat. No statement of the program stands here. -/
import Derived.Test.YtebmpjdegajhgaaKCFormsE
set_option linter.unusedSimpArgs false
set_option linter.unusedVariables false
section
namespace Go.Proofs.Ytebmpjdegajhgaa
open Go Go.RowKit Go.Eng Go.Lift Go.F
set_option linter.unusedVariables false
set_option linter.unusedSimpArgs false
set_option maxRecDepth 100000
theorem ok_colletref43_claim {O : Tags} {w0 : World} (hO : OkO O w0) {v_0 : Value} {x_0 : api_Claim} (h_0 : zA.v O w0 v_0 x_0) {x_1 : Int} {n : Nat} {y : Int} (h : (colletref43_claim x_0 x_1).run n = some y) : Pure Try.prog 39 #[v_0, .int .i64 x_1] w0 (SP.isv (.int .i64 y)).holds := by
 unfold colletref43_claim at h
 refine zW Try.func39 rfl 89 Try.ntmps39 (by simp) fun a0 hA hs0 => ?_
 have q0 : a0.get 0 = v_0 := hs0 0 _ rfl
 have q1 : a0.get 1 = .int .i64 x_1 := hs0 1 _ rfl
 clear hs0
 have hB : Base (Fr w0) O w0 O w0 := Base.start hO
 refine wp_seq ?_
 refine' rb [SP.vl (rBox zA) O x_0, _] mixed hA hB hO (cn (fun hE hK => okl_boxV (r := zA) zK (OkO.ext hB.ok hE) (kq hK q0) (vx h_0 hE)) (cn (fun hE hK => zC rfl) .nil)) ?zk1
 intro a1 w1 hA hE hB HF; replace q1 := kf HF q1; obtain ⟨u1, q2, f2⟩ := kx (HF 2) rfl rfl rfl; clear q0 HF; replace h_0 := vx h_0 hE; clear hE; refine zE (zB (wp_seq (wp_seq ?_)))
 refine' rb [SP.ptr (rInt .i64) O x_0.Party, SP.isv (.int .i64 x_0.Party), _, _, SP.ptr (rInt .i64) O x_0.Party, SP.isv (.int .i64 x_0.Party), _, _] mixed hA hB hO (cn (fun hE hK => yN (S := zA) zK rfl (fun _ => rfl) sb_api_Claim_0 fl33_0 (kq hK q2) (vx f2 hE)) (cn (fun hE hK => za (rInt .i64) (fun _ => rfl) ty3 rfl rfl rfl (kp (SP.ptr (rInt .i64) O x_0.Party) 0 hK 5 rfl) (fun _ _ _ h => zU.1 h)) (cn (fun hE hK => zy (ks 1 hK 6 rfl) rfl) (cn (fun hE hK => zJ (ks 2 hK 7 rfl)) (cn (fun hE hK => yN (S := zA) zK rfl (fun _ => rfl) sb_api_Claim_0 fl33_0 (kq hK q2) (vx f2 hE)) (.cons (fun _ _ hE hK hg => za (rInt .i64) (fun _ => rfl) ty3 rfl rfl rfl (kspS (φ := SP.ptr (rInt .i64) O x_0.Party) (j := 4) (hK 9 rfl) rfl rfl hg) (fun _ _ _ h => zU.1 h)) (.cons (fun _ _ hE hK hg => ok_geq (kg 5 hK 10 rfl hg) rfl) (cn (fun hE hK => zV (ks 3 hK 8 rfl) (fun _ => rfl) (fun hb => kg 6 hK 11 rfl (zf rfl rfl hb))) .nil)))))))) ?zk2
 intro a2 w2 hA hE hB HF; replace q1 := kf HF q1; replace q2 := kf HF q2; have q12 := ksv (HF 12) rfl rfl rfl; clear HF; replace f2 := vx f2 hE; clear hE
 obtain ⟨x3, hx_, h⟩ := Comp.run_bind h; replace hx_ := Comp.run_pure hx_; rw [hx_] at q12; clear hx_
 refine zE (zB ?_)
 revert h; refine cnd q12 (fun h => ?_) (fun h => ?_)
 ·
  refine wp_seq ?_
  refine' rb [_] mixed hA hB hO (cn (fun hE hK => zC rfl) .nil) ?zk3
  intro a3 w3 hA hE hB HF; have q4 := ksv (HF 4) rfl rfl rfl; clear q1 q2 q12 HF; replace f2 := vx f2 hE; clear hE; refine zE (zB (wp_ret (zN ?_)))
  have h := Comp.run_pure h; subst h
  exact zb Try.results39 hA q4 hB.ext rfl
 ·
  refine wp_skip (zB (wp_seq (wp_seq ?_)))
  refine' rb [SP.ptr (rInt .i64) O x_0.Kind, SP.isv (.int .i64 x_0.Kind), _, _, SP.ptr (rInt .i64) O x_0.Kind, SP.isv (.int .i64 x_0.Kind), _, _] mixed hA hB hO (cn (fun hE hK => yN (S := zA) zK rfl (fun _ => rfl) yS fl33_1 (kq hK q2) (vx f2 hE)) (cn (fun hE hK => za (rInt .i64) (fun _ => rfl) ty3 rfl rfl rfl (kp (SP.ptr (rInt .i64) O x_0.Kind) 0 hK 13 rfl) (fun _ _ _ h => zU.1 h)) (cn (fun hE hK => zy (ks 1 hK 14 rfl) rfl) (cn (fun hE hK => zJ (ks 2 hK 15 rfl)) (cn (fun hE hK => yN (S := zA) zK rfl (fun _ => rfl) yS fl33_1 (kq hK q2) (vx f2 hE)) (.cons (fun _ _ hE hK hg => za (rInt .i64) (fun _ => rfl) ty3 rfl rfl rfl (kspS (φ := SP.ptr (rInt .i64) O x_0.Kind) (j := 4) (hK 17 rfl) rfl rfl hg) (fun _ _ _ h => zU.1 h)) (.cons (fun _ _ hE hK hg => ok_gtr (kg 5 hK 18 rfl hg) rfl) (cn (fun hE hK => zV (ks 3 hK 16 rfl) (fun _ => rfl) (fun hb => kg 6 hK 19 rfl (zf rfl rfl hb))) .nil)))))))) ?zk4
  intro a4 w4 hA hE hB HF; replace q1 := kf HF q1; replace q2 := kf HF q2; have q20 := ksv (HF 20) rfl rfl rfl; clear q12 HF; replace f2 := vx f2 hE; clear hE
  obtain ⟨x4, hx_, h⟩ := Comp.run_bind h; replace hx_ := Comp.run_pure hx_; rw [hx_] at q20; clear hx_
  refine zE (zB ?_)
  revert h; refine cnd q20 (fun h => ?_) (fun h => ?_)
  ·
   refine wp_seq ?_
   refine' rb [_] mixed hA hB hO (cn (fun hE hK => zC rfl) .nil) ?zk5
   intro a5 w5 hA hE hB HF; have q4 := ksv (HF 4) rfl rfl rfl; clear q1 q2 q20 HF; replace f2 := vx f2 hE; clear hE; refine zE (zB (wp_ret (zN ?_)))
   have h := Comp.run_pure h; subst h
   exact zb Try.results39 hA q4 hB.ext rfl
  ·
   refine wp_skip (zB (wp_seq (wp_seq ?_))); obtain ⟨x5, hx5, h⟩ := Comp.run_bind h; obtain ⟨x6, hx6, h⟩ := Comp.run_bind h
   refine' rb [SP.ptr (rSl (rInt .i64)) O x_0.Sure, SP.vl (rSl (rInt .i64)) O x_0.Sure, SP.isv (.bool x5), _, _, SP.ptr (rSl (rInt .i64)) O x_0.Touched, SP.vl (rSl (rInt .i64)) O x_0.Touched, SP.isv (.bool x6), _, _] mixed hA hB hO (cn (fun hE hK => yN (S := zA) zK rfl (fun _ => rfl) gp fl33_3 (kq hK q2) (vx f2 hE)) (cn (fun hE hK => vC (r := (rSl (rInt .i64))) (fun _ => rfl) ty23 rfl rfl rfl (kp (SP.ptr (rSl (rInt .i64)) O x_0.Sure) 0 hK 21 rfl)) (cn (fun hE hK => ok_call1 fn60 rfl (ok_colletref43_increases (OkO.ext hB.ok hE) (kp (SP.vl (rSl (rInt .i64)) O x_0.Sure) 1 hK 22 rfl) hx5)) (cn (fun hE hK => jz (ks 2 hK 23 rfl)) (cn (fun hE hK => zJ (ks 3 hK 24 rfl)) (cn (fun hE hK => yN (S := zA) zK rfl (fun _ => rfl) go fl33_4 (kq hK q2) (vx f2 hE)) (.cons (fun _ _ hE hK hg => vC (r := (rSl (rInt .i64))) (fun _ => rfl) ty23 rfl rfl rfl (kspS (φ := SP.ptr (rSl (rInt .i64)) O x_0.Touched) (j := 5) (hK 26 rfl) rfl rfl hg)) (.cons (fun _ _ hE hK hg => ok_call1 fn60 rfl (ok_colletref43_increases (OkO.ext hB.ok hE) (kspS (φ := SP.vl (rSl (rInt .i64)) O x_0.Touched) (j := 6) (hK 27 rfl) rfl rfl hg) (zr hx6 hg))) (.cons (fun _ _ hE hK hg => jz (kg 7 hK 28 rfl hg)) (cn (fun hE hK => zV (ks 4 hK 25 rfl) (fun _ => rfl) (fun hb => kg 8 hK 29 rfl (zf rfl rfl hb))) .nil)))))))))) ?zk6
   intro a6 w6 hA hE hB HF; replace q1 := kf HF q1; replace q2 := kf HF q2; have q30 := ksv (HF 30) rfl rfl rfl; clear q20 HF; replace f2 := vx f2 hE; clear hE; refine zE (zB ?_)
   revert h; refine cnd q30 (fun h => ?_) (fun h => ?_)
   ·
    refine wp_seq ?_
    refine' rb [_] mixed hA hB hO (cn (fun hE hK => zC rfl) .nil) ?zk7
    intro a7 w7 hA hE hB HF; have q4 := ksv (HF 4) rfl rfl rfl; clear q1 q2 q30 HF; replace f2 := vx f2 hE; clear hE; refine zE (zB (wp_ret (zN ?_)))
    have h := Comp.run_pure h; subst h
    exact zb Try.results39 hA q4 hB.ext rfl
   ·
    refine wp_skip (zB (wp_seq (wp_seq ?_))); obtain ⟨x7, hx7, h⟩ := Comp.run_bind h; obtain ⟨x8, hx8, h⟩ := Comp.run_bind h
    refine' rb [SP.ptr (rSl (rInt .i64)) O x_0.Sure, SP.vl (rSl (rInt .i64)) O x_0.Sure, _, SP.isv (.bool x7), _, _, SP.ptr (rSl (rInt .i64)) O x_0.Touched, SP.vl (rSl (rInt .i64)) O x_0.Touched, _, SP.isv (.bool x8), _, _] mixed hA hB hO (cn (fun hE hK => yN (S := zA) zK rfl (fun _ => rfl) gp fl33_3 (kq hK q2) (vx f2 hE)) (cn (fun hE hK => vC (r := (rSl (rInt .i64))) (fun _ => rfl) ty23 rfl rfl rfl (kp (SP.ptr (rSl (rInt .i64)) O x_0.Sure) 0 hK 31 rfl)) (mv q1 (cn (fun hE hK => zz fn61 rfl (ks 2 hK 33 rfl) (ok_colletref43_below (OkO.ext hB.ok hE) (kp (SP.vl (rSl (rInt .i64)) O x_0.Sure) 1 hK 32 rfl) hx7)) (cn (fun hE hK => jz (ks 3 hK 34 rfl)) (cn (fun hE hK => zJ (ks 4 hK 35 rfl)) (cn (fun hE hK => yN (S := zA) zK rfl (fun _ => rfl) go fl33_4 (kq hK q2) (vx f2 hE)) (.cons (fun _ _ hE hK hg => vC (r := (rSl (rInt .i64))) (fun _ => rfl) ty23 rfl rfl rfl (kspS (φ := SP.ptr (rSl (rInt .i64)) O x_0.Touched) (j := 6) (hK 37 rfl) rfl rfl hg)) (mv q1 (.cons (fun _ _ hE hK hg => zz fn61 rfl (kg 8 hK 39 rfl hg) (ok_colletref43_below (OkO.ext hB.ok hE) (kspS (φ := SP.vl (rSl (rInt .i64)) O x_0.Touched) (j := 7) (hK 38 rfl) rfl rfl hg) (zr hx8 hg))) (.cons (fun _ _ hE hK hg => jz (kg 9 hK 40 rfl hg)) (cn (fun hE hK => zV (ks 5 hK 36 rfl) (fun _ => rfl) (fun hb => kg 10 hK 41 rfl (zf rfl rfl hb))) .nil)))))))))))) ?zk8
    intro a8 w8 hA hE hB HF; replace q2 := kf HF q2; have q42 := ksv (HF 42) rfl rfl rfl; clear q1 q30 HF; replace f2 := vx f2 hE; clear hE; refine zE (zB ?_)
    revert h; refine cnd q42 (fun h => ?_) (fun h => ?_)
    ·
     refine wp_seq ?_
     refine' rb [_] mixed hA hB hO (cn (fun hE hK => zC rfl) .nil) ?zk9
     intro a9 w9 hA hE hB HF; have q4 := ksv (HF 4) rfl rfl rfl; clear q2 q42 HF; replace f2 := vx f2 hE; clear hE; refine zE (zB (wp_ret (zN ?_)))
     have h := Comp.run_pure h; subst h
     exact zb Try.results39 hA q4 hB.ext rfl
    ·
     refine wp_skip (zB (wp_seq (wp_seq ?_))); obtain ⟨x9, hx9, h⟩ := Comp.run_bind h
     refine' rb [SP.ptr (rInt .i64) O x_0.Gauge, SP.isv (.int .i64 x_0.Gauge), _, _, SP.ptr (rInt .i64) O x_0.Kind, SP.isv (.int .i64 x_0.Kind), _, _, _, SP.ptr (rSl (rInt .i64)) O x_0.Sure, SP.vl (rSl (rInt .i64)) O x_0.Sure, _, _, _, SP.ptr (rInt .i64) O x_0.Kind, SP.isv (.int .i64 x_0.Kind), _, _, _, _, SP.ptr (rSl (rInt .i64)) O x_0.Touched, SP.vl (rSl (rInt .i64)) O x_0.Touched, _, _, _, SP.ptr (rInt .i64) O x_0.Kind, SP.isv (.int .i64 x_0.Kind), _, _, _, _, SP.ptr (rSl (rInt .i64)) O x_0.Sure, SP.vl (rSl (rInt .i64)) O x_0.Sure, SP.ptr (rSl (rInt .i64)) O x_0.Touched, SP.vl (rSl (rInt .i64)) O x_0.Touched, SP.isv (.bool x9), _, _] mixed hA hB hO (cn (fun hE hK => yN (S := zA) zK rfl (fun _ => rfl) gq fl33_2 (kq hK q2) (vx f2 hE)) (cn (fun hE hK => za (rInt .i64) (fun _ => rfl) ty3 rfl rfl rfl (kp (SP.ptr (rInt .i64) O x_0.Gauge) 0 hK 43 rfl) (fun _ _ _ h => zU.1 h)) (cn (fun hE hK => gR (ks 1 hK 44 rfl) rfl) (cn (fun hE hK => zJ (ks 2 hK 45 rfl)) (cn (fun hE hK => yN (S := zA) zK rfl (fun _ => rfl) yS fl33_1 (kq hK q2) (vx f2 hE)) (.cons (fun _ _ hE hK hg => za (rInt .i64) (fun _ => rfl) ty3 rfl rfl rfl (kspS (φ := SP.ptr (rInt .i64) O x_0.Kind) (j := 4) (hK 47 rfl) rfl rfl hg) (fun _ _ _ h => zU.1 h)) (.cons (fun _ _ hE hK hg => gR (kg 5 hK 48 rfl hg) rfl) (cn (fun hE hK => zV (ks 3 hK 46 rfl) (fun hb => kg 6 hK 49 rfl (zf rfl rfl hb)) (fun _ => rfl)) (cn (fun hE hK => zJ (ks 7 hK 50 rfl)) (cn (fun hE hK => yN (S := zA) zK rfl (fun _ => rfl) gp fl33_3 (kq hK q2) (vx f2 hE)) (.cons (fun _ _ hE hK hg => vC (r := (rSl (rInt .i64))) (fun _ => rfl) ty23 rfl rfl rfl (kspS (φ := SP.ptr (rSl (rInt .i64)) O x_0.Sure) (j := 9) (hK 52 rfl) rfl rfl hg)) (.cons (fun _ _ hE hK hg => zg (r := (rInt .i64)) ty23 rfl (rd_of (kspS (φ := SP.vl (rSl (rInt .i64)) O x_0.Sure) (j := 10) (hK 53 rfl) rfl rfl hg))) (.cons (fun _ _ hE hK hg => ok_gtr (kg 11 hK 54 rfl hg) rfl) (.cons (fun _ _ hE hK hg => zJ (kg 12 hK 55 rfl hg)) (cn (fun hE hK => yN (S := zA) zK rfl (fun _ => rfl) yS fl33_1 (kq hK q2) (vx f2 hE)) (.cons (fun _ _ hE hK hg => za (rInt .i64) (fun _ => rfl) ty3 rfl rfl rfl (kspS (φ := SP.ptr (rInt .i64) O x_0.Kind) (j := 14) (hK 57 rfl) rfl rfl hg) (fun _ _ _ h => zU.1 h)) (.cons (fun _ _ hE hK hg => gR (kg 15 hK 58 rfl hg) rfl) (.cons (fun _ _ hE hK hg => zV (kg 13 hK 56 rfl hg) (fun hb => kg 16 hK 59 rfl (zf rfl hg hb)) (fun _ => rfl)) (cn (fun hE hK => zV (ks 8 hK 51 rfl) (fun _ => rfl) (fun hb => kg 17 hK 60 rfl (zf rfl rfl hb))) (cn (fun hE hK => zJ (ks 18 hK 61 rfl)) (cn (fun hE hK => yN (S := zA) zK rfl (fun _ => rfl) go fl33_4 (kq hK q2) (vx f2 hE)) (.cons (fun _ _ hE hK hg => vC (r := (rSl (rInt .i64))) (fun _ => rfl) ty23 rfl rfl rfl (kspS (φ := SP.ptr (rSl (rInt .i64)) O x_0.Touched) (j := 20) (hK 63 rfl) rfl rfl hg)) (.cons (fun _ _ hE hK hg => zg (r := (rInt .i64)) ty23 rfl (rd_of (kspS (φ := SP.vl (rSl (rInt .i64)) O x_0.Touched) (j := 21) (hK 64 rfl) rfl rfl hg))) (.cons (fun _ _ hE hK hg => ok_gtr (kg 22 hK 65 rfl hg) rfl) (.cons (fun _ _ hE hK hg => zJ (kg 23 hK 66 rfl hg)) (cn (fun hE hK => yN (S := zA) zK rfl (fun _ => rfl) yS fl33_1 (kq hK q2) (vx f2 hE)) (.cons (fun _ _ hE hK hg => za (rInt .i64) (fun _ => rfl) ty3 rfl rfl rfl (kspS (φ := SP.ptr (rInt .i64) O x_0.Kind) (j := 25) (hK 68 rfl) rfl rfl hg) (fun _ _ _ h => zU.1 h)) (.cons (fun _ _ hE hK hg => yO (kg 26 hK 69 rfl hg) rfl) (.cons (fun _ _ hE hK hg => zV (kg 24 hK 67 rfl hg) (fun hb => kg 27 hK 70 rfl (zf rfl hg hb)) (fun _ => rfl)) (cn (fun hE hK => zV (ks 19 hK 62 rfl) (fun _ => rfl) (fun hb => kg 28 hK 71 rfl (zf rfl rfl hb))) (cn (fun hE hK => zJ (ks 29 hK 72 rfl)) (cn (fun hE hK => yN (S := zA) zK rfl (fun _ => rfl) gp fl33_3 (kq hK q2) (vx f2 hE)) (.cons (fun _ _ hE hK hg => vC (r := (rSl (rInt .i64))) (fun _ => rfl) ty23 rfl rfl rfl (kspS (φ := SP.ptr (rSl (rInt .i64)) O x_0.Sure) (j := 31) (hK 74 rfl) rfl rfl hg)) (cn (fun hE hK => yN (S := zA) zK rfl (fun _ => rfl) go fl33_4 (kq hK q2) (vx f2 hE)) (.cons (fun _ _ hE hK hg => vC (r := (rSl (rInt .i64))) (fun _ => rfl) ty23 rfl rfl rfl (kspS (φ := SP.ptr (rSl (rInt .i64)) O x_0.Touched) (j := 33) (hK 76 rfl) rfl rfl hg)) (.cons (fun _ _ hE hK hg => zz fn62 rfl rfl (ok_colletref43_within (OkO.ext hB.ok hE) (kspS (φ := SP.vl (rSl (rInt .i64)) O x_0.Sure) (j := 32) (hK 75 rfl) rfl rfl hg) (kspS (φ := SP.vl (rSl (rInt .i64)) O x_0.Touched) (j := 34) (hK 77 rfl) rfl rfl hg) (zr hx9 hg))) (.cons (fun _ _ hE hK hg => jz (kg 35 hK 78 rfl hg)) (cn (fun hE hK => zV (ks 30 hK 73 rfl) (fun _ => rfl) (fun hb => kg 36 hK 79 rfl (zf rfl rfl hb))) .nil)))))))))))))))))))))))))))))))))))))) ?zk10
     intro a10 w10 hA hE hB HF; replace q2 := kf HF q2; have q80 := ksv (HF 80) rfl rfl rfl; clear q42 HF; replace f2 := vx f2 hE; clear hE
     obtain ⟨x10, hx_, h⟩ := Comp.run_bind h; replace hx_ := Comp.run_pure hx_; rw [hx_] at q80; clear hx_
     refine zE (zB ?_)
     revert h; refine cnd q80 (fun h => ?_) (fun h => ?_)
     ·
      refine wp_seq ?_
      refine' rb [_] mixed hA hB hO (cn (fun hE hK => zC rfl) .nil) ?zk11
      intro a11 w11 hA hE hB HF; have q4 := ksv (HF 4) rfl rfl rfl; clear q2 q80 HF; replace f2 := vx f2 hE; clear hE; refine zE (zB (wp_ret (zN ?_)))
      have h := Comp.run_pure h; subst h
      exact zb Try.results39 hA q4 hB.ext rfl
     ·
      refine wp_skip (zB (wp_seq (wp_seq ?_)))
      refine' rb [SP.ptr (rInt .i64) O x_0.Gauge, SP.isv (.int .i64 x_0.Gauge), _, _, SP.ptr (rInt .i64) O x_0.Gauge, SP.isv (.int .i64 x_0.Gauge), _, _] mixed hA hB hO (cn (fun hE hK => yN (S := zA) zK rfl (fun _ => rfl) gq fl33_2 (kq hK q2) (vx f2 hE)) (cn (fun hE hK => za (rInt .i64) (fun _ => rfl) ty3 rfl rfl rfl (kp (SP.ptr (rInt .i64) O x_0.Gauge) 0 hK 81 rfl) (fun _ _ _ h => zU.1 h)) (cn (fun hE hK => zy (ks 1 hK 82 rfl) rfl) (cn (fun hE hK => zJ (ks 2 hK 83 rfl)) (cn (fun hE hK => yN (S := zA) zK rfl (fun _ => rfl) gq fl33_2 (kq hK q2) (vx f2 hE)) (.cons (fun _ _ hE hK hg => za (rInt .i64) (fun _ => rfl) ty3 rfl rfl rfl (kspS (φ := SP.ptr (rInt .i64) O x_0.Gauge) (j := 4) (hK 85 rfl) rfl rfl hg) (fun _ _ _ h => zU.1 h)) (.cons (fun _ _ hE hK hg => ok_geq (kg 5 hK 86 rfl hg) rfl) (cn (fun hE hK => zV (ks 3 hK 84 rfl) (fun _ => rfl) (fun hb => kg 6 hK 87 rfl (zf rfl rfl hb))) .nil)))))))) ?zk12
      intro a12 w12 hA hE hB HF; have q88 := ksv (HF 88) rfl rfl rfl; clear q2 q80 HF; replace f2 := vx f2 hE; clear hE
      obtain ⟨x11, hx_, h⟩ := Comp.run_bind h; replace hx_ := Comp.run_pure hx_; rw [hx_] at q88; clear hx_
      refine zE (zB ?_)
      revert h; refine cnd q88 (fun h => ?_) (fun h => ?_)
      ·
       refine wp_seq ?_
       refine' rb [_] mixed hA hB hO (cn (fun hE hK => zC rfl) .nil) ?zk13
       intro a13 w13 hA hE hB HF; have q4 := ksv (HF 4) rfl rfl rfl; clear q88 HF; clear hE; refine zE (zB (wp_ret (zN ?_)))
       have h := Comp.run_pure h; subst h
       exact zb Try.results39 hA q4 hB.ext rfl
      ·
       refine wp_skip (zB (wp_seq ?_))
       refine' rb [_] mixed hA hB hO (cn (fun hE hK => zC rfl) .nil) ?zk14
       intro a14 w14 hA hE hB HF; have q4 := ksv (HF 4) rfl rfl rfl; clear q88 HF; clear hE; refine zE (zB (wp_ret ?_))
       have h := Comp.run_pure h; subst h
       exact zb Try.results39 hA q4 hB.ext rfl
theorem ok_colletref43_Check {O : Tags} {w0 : World} (hO : OkO O w0) {v_0 : Value} {x_0 : List api_Claim} (h_0 : (rSl zA).v O w0 v_0 x_0) {v_1 : Value} {x_1 : List api_Sight} (h_1 : (rSl zD).v O w0 v_1 x_1) {x_2 : Int} {n : Nat} {y : Int} (h : (gl x_0 x_1 x_2).run n = some y) : Pure Try.prog 14 #[v_0, v_1, .int .i64 x_2] w0 (SP.isv (.int .i64 y)).holds := by
 unfold gl at h
 refine zW Try.func14 rfl 122 Try.ntmps14 (by simp) fun a0 hA hs0 => ?_
 have q0 : a0.get 0 = v_0 := hs0 0 _ rfl
 have q1 : a0.get 1 = v_1 := hs0 1 _ rfl
 have q2 : a0.get 2 = .int .i64 x_2 := hs0 2 _ rfl
 clear hs0
 have hB : Base (Fr w0) O w0 O w0 := Base.start hO
 refine wp_seq ?_
 refine' rb [_] mixed hA hB hO (cn (fun hE hK => zC rfl) .nil) ?zk1
 intro a1 w1 hA hE hB HF; refine kr3 HF q0 q1 q2 ?_; clear q0 q1 q2; intro q0 q1 q2; clear HF; replace h_0 := vx h_0 hE; replace h_1 := vx h_1 hE; clear hE; refine zE (zB (wp_seq (wp_seq ?_)))
 refine' rb [_, _, _, _, _, _] mixed hA hB hO (mv q2 (cn (fun hE hK => zy (ks 0 hK 11 rfl) rfl) (cn (fun hE hK => zJ (ks 1 hK 12 rfl)) (mv q2 (.cons (fun _ _ hE hK hg => ok_gtr (kg 3 hK 14 rfl hg) rfl) (cn (fun hE hK => zV (ks 2 hK 13 rfl) (fun _ => rfl) (fun hb => kg 4 hK 15 rfl (zf rfl rfl hb))) .nil)))))) ?zk2
 intro a2 w2 hA hE hB HF; refine kr3 HF q0 q1 q2 ?_; clear q0 q1 q2; intro q0 q1 q2; have q16 := ksv (HF 16) rfl rfl rfl; clear HF; replace h_0 := vx h_0 hE; replace h_1 := vx h_1 hE; clear hE
 obtain ⟨x1, hx_, h⟩ := Comp.run_bind h; replace hx_ := Comp.run_pure hx_; rw [hx_] at q16; clear hx_
 refine zE (zB ?_)
 revert h; refine cnd q16 (fun h => ?_) (fun h => ?_)
 ·
  refine wp_seq ?_
  refine' rb [_] mixed hA hB hO (cn (fun hE hK => zC rfl) .nil) ?zk3
  intro a3 w3 hA hE hB HF; have q6 := ksv (HF 6) rfl rfl rfl; clear q0 q1 q2 q16 HF; replace h_0 := vx h_0 hE; replace h_1 := vx h_1 hE; clear hE; refine zE (zB (wp_ret (zN ?_)))
  have h := Comp.run_pure h; subst h
  exact zb Try.results14 hA q6 hB.ext rfl
 ·
  refine wp_skip (zB (wp_seq (wp_seq ?_)))
  refine' rb [_, _, _, _, _, _, _, _] mixed hA hB hO (mv q0 (cn (fun hE hK => zg (r := zA) ty27 (ks 0 hK 17 rfl) (rd_of (vx h_0 hE))) (cn (fun hE hK => ok_gtr (ks 1 hK 18 rfl) rfl) (cn (fun hE hK => zJ (ks 2 hK 19 rfl)) (mv q1 (.cons (fun _ _ hE hK hg => zg (r := zD) ty28 (kg 4 hK 21 rfl hg) (rd_of (vx h_1 hE))) (.cons (fun _ _ hE hK hg => ok_gtr (kg 5 hK 22 rfl hg) rfl) (cn (fun hE hK => zV (ks 3 hK 20 rfl) (fun _ => rfl) (fun hb => kg 6 hK 23 rfl (zf rfl rfl hb))) .nil)))))))) ?zk4
  intro a4 w4 hA hE hB HF; refine kr3 HF q0 q1 q2 ?_; clear q0 q1 q2; intro q0 q1 q2; have q24 := ksv (HF 24) rfl rfl rfl; clear q16 HF; replace h_0 := vx h_0 hE; replace h_1 := vx h_1 hE; clear hE
  obtain ⟨x2, hx_, h⟩ := Comp.run_bind h; replace hx_ := Comp.run_pure hx_; rw [hx_] at q24; clear hx_
  refine zE (zB ?_)
  revert h; refine cnd q24 (fun h => ?_) (fun h => ?_)
  ·
   refine wp_seq ?_
   refine' rb [_] mixed hA hB hO (cn (fun hE hK => zC rfl) .nil) ?zk5
   intro a5 w5 hA hE hB HF; have q6 := ksv (HF 6) rfl rfl rfl; clear q0 q1 q2 q24 HF; replace h_0 := vx h_0 hE; replace h_1 := vx h_1 hE; clear hE; refine zE (zB (wp_ret (zN ?_)))
   have h := Comp.run_pure h; subst h
   exact zb Try.results14 hA q6 hB.ext rfl
  ·
   refine wp_skip (zB ?_)
   refine zY (fun a w => ∃ (O18 : Tags), a.fit 122 ∧ Base (Fr w0) O w0 O18 w ∧ a.get 1 = v_1 ∧ (rSl zD).v O18 w v_1 x_1 ∧ a.get 2 = .int .i64 x_2 ∧ (jU x_1 x_2 ).run n = some y) ?_ ?_
   ·
    refine wp_seq ?_
    refine' rb [_] mixed hA hB hO (cn (fun hE hK => zC rfl) .nil) ?zk6
    intro a6 w6 hA hE hB HF; refine kr3 HF q0 q1 q2 ?_; clear q0 q1 q2; intro q0 q1 q2; have q7 := ksv (HF 7) rfl rfl rfl; clear q24 HF; replace h_0 := vx h_0 hE; replace h_1 := vx h_1 hE; clear hE; refine zE (zB (wp_block ?_))
    obtain ⟨e2, he2, hk2⟩ := Comp.run_bind h; clear h
    refine yt (fun m a w => ∃ (O4 : Tags) (x3 : Int), a.fit 122 ∧ Base (Fr w0) O w0 O4 w ∧ a.get 0 = v_0 ∧ (rSl zA).v O4 w v_0 x_0 ∧ a.get 1 = v_1 ∧ (rSl zD).v O4 w v_1 x_1 ∧ a.get 2 = .int .i64 x_2 ∧ a.get 7 = .int .i64 x3 ∧ Comp.loopN (fun s => vO x_0 x_2 s) n m x3 = some e2) (m := n) ?st2 ?_
    case st2 =>
     exact ⟨_, _, hA, hB, q0, h_0, q1, h_1, q2, q7, Comp.zk he2⟩
    intro m_ a7 w7 hI
    clear hA hB he2 q0 q1 q2 q7 h_0 h_1
    obtain ⟨O4, x3, hA, hB, q0, h_0, q1, h_1, q2, q7, hl⟩ := hI
    obtain ⟨m2, hlt2, st2, h, hnext2, hdone2⟩ := Comp.zZ hl; clear hl
    replace h : (vO x_0 x_2 x3).run n = some st2 := h
    unfold vO at h; refine wp_seq (wp_seq ?_)
    refine' rb [_, _, _, _] mixed hA hB hO (mv q7 (mv q0 (cn (fun hE hK => zg (r := zA) ty27 (ks 1 hK 26 rfl) (rd_of (vx h_0 hE))) (cn (fun hE hK => zy (ks 0 hK 25 rfl) (ks 2 hK 27 rfl)) .nil)))) ?zk7
    intro a8 w8 hA hE hB HF; refine kr4 HF q0 q1 q2 q7 ?_; clear q0 q1 q2 q7; intro q0 q1 q2 q7; have q28 := ksv (HF 28) rfl rfl rfl; clear HF; replace h_0 := vx h_0 hE; replace h_1 := vx h_1 hE; clear hE; refine zE (zB ?_)
    revert h; refine cnd q28 (fun h => ?_) (fun h => ?_)
    ·
     refine wp_skip (zB (wp_seq (wp_block (wp_seq ?_)))); obtain ⟨x5, hx5, h⟩ := Comp.run_bind h; obtain ⟨x6, hx6, h⟩ := Comp.run_bind h
     refine' rb [_, _, SP.ptr zA O4 x5, SP.vl zA O4 x5, _, SP.isv (.int .i64 x6), _] mixed hA hB hO (mv q0 (mv q7 (cn (fun hE hK => zp (r := zA) (O := O4) ty27 ty33 rfl (ks 0 hK 31 rfl) (rd_of (vx h_0 hE)) (ks 1 hK 32 rfl) hx5) (cn (fun hE hK => vC (r := zA) zK ty33 rfl rfl rfl (kp (SP.ptr zA O4 x5) 2 hK 33 rfl)) (mv q2 (cn (fun hE hK => zz fn39 rfl (ks 4 hK 35 rfl) (ok_colletref43_claim (OkO.ext hB.ok hE) (kp (SP.vl zA O4 x5) 3 hK 34 rfl) hx6)) (cn (fun hE hK => zC (ks 5 hK 36 rfl)) .nil))))))) ?zk8
     intro a9 w9 hA hE hB HF; refine kr4 HF q0 q1 q2 q7 ?_; clear q0 q1 q2 q7; intro q0 q1 q2 q7; have q8 := ksv (HF 8) rfl rfl rfl; clear q28 HF; replace h_0 := vx h_0 hE; replace h_1 := vx h_1 hE; clear hE; refine zE (zB (wp_seq (wp_seq ?_)))
     refine' rb [_, _] mixed hA hB hO (mv q8 (cn (fun hE hK => gR (ks 0 hK 37 rfl) rfl) .nil)) ?zk9
     intro a10 w10 hA hE hB HF; refine kr5 HF q0 q1 q2 q7 q8 ?_; clear q0 q1 q2 q7 q8; intro q0 q1 q2 q7 q8; have q38 := ksv (HF 38) rfl rfl rfl; clear HF; replace h_0 := vx h_0 hE; replace h_1 := vx h_1 hE; clear hE; refine zE (zB ?_)
     revert h; refine cnd q38 (fun h => ?_) (fun h => ?_)
     ·
      refine wp_seq ?_
      refine' rb [_, _] mixed hA hB hO (mv q8 (cn (fun hE hK => zC (ks 0 hK 39 rfl)) .nil)) ?zk10
      intro a11 w11 hA hE hB HF; have q6 := ksv (HF 6) rfl rfl rfl; clear q0 q1 q2 q7 q8 q38 HF; replace h_0 := vx h_0 hE; replace h_1 := vx h_1 hE; clear hE; refine zE (zB (wp_ret (zN (yA (zN (zN (yA (zN ?_))))))))
      have hd_ := hdone2 _ (Comp.run_pure h).symm; clear h
      subst hd_; have h := hk2; clear hk2; try dsimp only at h
      have h := Comp.run_pure h; subst h
      exact zb Try.results14 hA q6 hB.ext rfl
     ·
      refine wp_skip (zB (wp_seq ?_))
      refine' rb [_] mixed hA hB hO (cn (fun hE hK => zC rfl) .nil) ?zk11
      intro a12 w12 hA hE hB HF; refine kr4 HF q0 q1 q2 q7 ?_; clear q0 q1 q2 q7; intro q0 q1 q2 q7; have q9 := ksv (HF 9) rfl rfl rfl; clear q8 q38 HF; replace h_0 := vx h_0 hE; replace h_1 := vx h_1 hE; clear hE; refine zE (zB (wp_block ?_))
      obtain ⟨e3, he3, hk3⟩ := Comp.run_bind h; clear h
      refine yt (fun m a w => ∃ (O9 : Tags) (x8 : Int), a.fit 122 ∧ Base (Fr w0) O w0 O9 w ∧ a.get 0 = v_0 ∧ (rSl zA).v O9 w v_0 x_0 ∧ a.get 1 = v_1 ∧ (rSl zD).v O9 w v_1 x_1 ∧ a.get 2 = .int .i64 x_2 ∧ a.get 7 = .int .i64 x3 ∧ a.get 9 = .int .i64 x8 ∧ Comp.loopN (fun s => yf x3 x_0 s) n m x8 = some e3) (m := n) ?st3 ?_
      case st3 =>
       exact ⟨_, _, hA, hB, q0, h_0, q1, h_1, q2, q7, q9, Comp.zk he3⟩
      intro m_ a13 w13 hI
      clear hA hB he3 q0 q1 q2 q7 q9 h_0 h_1
      obtain ⟨O9, x8, hA, hB, q0, h_0, q1, h_1, q2, q7, q9, hl⟩ := hI
      obtain ⟨m3, hlt3, st3, h, hnext3, hdone3⟩ := Comp.zZ hl; clear hl
      replace h : (yf x3 x_0 x8).run n = some st3 := h
      unfold yf at h; refine wp_seq (wp_seq ?_)
      refine' rb [_, _, _] mixed hA hB hO (mv q9 (mv q7 (cn (fun hE hK => zy (ks 0 hK 40 rfl) (ks 1 hK 41 rfl)) .nil))) ?zk12
      intro a14 w14 hA hE hB HF; refine kr5 HF q0 q1 q2 q7 q9 ?_; clear q0 q1 q2 q7 q9; intro q0 q1 q2 q7 q9; have q42 := ksv (HF 42) rfl rfl rfl; clear HF; replace h_0 := vx h_0 hE; replace h_1 := vx h_1 hE; clear hE; refine zE (zB ?_)
      revert h; refine cnd q42 (fun h => ?_) (fun h => ?_)
      ·
       refine wp_skip (zB (wp_seq (wp_block (wp_seq ?_)))); obtain ⟨x10, hx10, h⟩ := Comp.run_bind h; obtain ⟨x11, hx11, h⟩ := Comp.run_bind h; obtain ⟨x12, hx12, h⟩ := Comp.run_bind h; obtain ⟨x13, hx13, h⟩ := Comp.run_bind h; obtain ⟨x14, hx14, h⟩ := Comp.run_bind h; obtain ⟨x15, hx15, h⟩ := Comp.run_bind h
       refine' rb [_, _, SP.ptr zA O9 x10, SP.ptr (rInt .i64) O9 x10.Kind, SP.isv (.int .i64 x10.Kind), _, _, SP.ptr zA O9 x11, SP.ptr (rInt .i64) O9 x11.Kind, SP.isv (.int .i64 x11.Kind), _, _, _, _, SP.ptr zA O9 x12, SP.ptr (rInt .i64) O9 x12.Kind, SP.isv (.int .i64 x12.Kind), _, _, _, _, SP.ptr zA O9 x13, SP.ptr (rInt .i64) O9 x13.Kind, SP.isv (.int .i64 x13.Kind), _, _, _, _, SP.ptr zA O9 x14, SP.ptr (rInt .i64) O9 x14.Gauge, SP.isv (.int .i64 x14.Gauge), _, _, SP.ptr zA O9 x15, SP.ptr (rInt .i64) O9 x15.Gauge, SP.isv (.int .i64 x15.Gauge), _, _, _, _] mixed hA hB hO (mv q0 (mv q9 (cn (fun hE hK => zp (r := zA) (O := O9) ty27 ty33 rfl (ks 0 hK 45 rfl) (rd_of (vx h_0 hE)) (ks 1 hK 46 rfl) hx10) (cn (fun hE hK => jw (S := zA) rfl (fun _ => rfl) yS fl33_1 rfl (kp (SP.ptr zA O9 x10) 2 hK 47 rfl)) (cn (fun hE hK => za (rInt .i64) (fun _ => rfl) ty3 rfl rfl rfl (kp (SP.ptr (rInt .i64) O9 x10.Kind) 3 hK 48 rfl) (fun _ _ _ h => zU.1 h)) (mv q0 (mv q7 (cn (fun hE hK => zp (r := zA) (O := O9) ty27 ty33 rfl (ks 5 hK 50 rfl) (rd_of (vx h_0 hE)) (ks 6 hK 51 rfl) hx11) (cn (fun hE hK => jw (S := zA) rfl (fun _ => rfl) yS fl33_1 rfl (kp (SP.ptr zA O9 x11) 7 hK 52 rfl)) (cn (fun hE hK => za (rInt .i64) (fun _ => rfl) ty3 rfl rfl rfl (kp (SP.ptr (rInt .i64) O9 x11.Kind) 8 hK 53 rfl) (fun _ _ _ h => zU.1 h)) (cn (fun hE hK => yO (ks 4 hK 49 rfl) (ks 9 hK 54 rfl)) (cn (fun hE hK => zJ (ks 10 hK 55 rfl)) (mv q0 (mv q7 (.cons (fun _ _ hE hK hg => zp (r := zA) (O := O9) ty27 ty33 rfl (kg 12 hK 57 rfl hg) (rd_of (vx h_0 hE)) (kg 13 hK 58 rfl hg) (zr hx12 hg)) (.cons (fun _ _ hE hK hg => jw (S := zA) rfl (fun _ => rfl) yS fl33_1 rfl (kspS (φ := SP.ptr zA O9 x12) (j := 14) (hK 59 rfl) rfl rfl hg)) (.cons (fun _ _ hE hK hg => za (rInt .i64) (fun _ => rfl) ty3 rfl rfl rfl (kspS (φ := SP.ptr (rInt .i64) O9 x12.Kind) (j := 15) (hK 60 rfl) rfl rfl hg) (fun _ _ _ h => zU.1 h)) (.cons (fun _ _ hE hK hg => yO (kg 16 hK 61 rfl hg) rfl) (.cons (fun _ _ hE hK hg => zJ (kg 17 hK 62 rfl hg)) (mv q0 (mv q7 (.cons (fun _ _ hE hK hg => zp (r := zA) (O := O9) ty27 ty33 rfl (kg 19 hK 64 rfl hg) (rd_of (vx h_0 hE)) (kg 20 hK 65 rfl hg) (zr hx13 hg)) (.cons (fun _ _ hE hK hg => jw (S := zA) rfl (fun _ => rfl) yS fl33_1 rfl (kspS (φ := SP.ptr zA O9 x13) (j := 21) (hK 66 rfl) rfl rfl hg)) (.cons (fun _ _ hE hK hg => za (rInt .i64) (fun _ => rfl) ty3 rfl rfl rfl (kspS (φ := SP.ptr (rInt .i64) O9 x13.Kind) (j := 22) (hK 67 rfl) rfl rfl hg) (fun _ _ _ h => zU.1 h)) (.cons (fun _ _ hE hK hg => yO (kg 23 hK 68 rfl hg) rfl) (.cons (fun _ _ hE hK hg => zJ (kg 24 hK 69 rfl hg)) (mv q0 (mv q9 (.cons (fun _ _ hE hK hg => zp (r := zA) (O := O9) ty27 ty33 rfl (kg 26 hK 71 rfl hg) (rd_of (vx h_0 hE)) (kg 27 hK 72 rfl hg) (zr hx14 hg)) (.cons (fun _ _ hE hK hg => jw (S := zA) rfl (fun _ => rfl) gq fl33_2 rfl (kspS (φ := SP.ptr zA O9 x14) (j := 28) (hK 73 rfl) rfl rfl hg)) (.cons (fun _ _ hE hK hg => za (rInt .i64) (fun _ => rfl) ty3 rfl rfl rfl (kspS (φ := SP.ptr (rInt .i64) O9 x14.Gauge) (j := 29) (hK 74 rfl) rfl rfl hg) (fun _ _ _ h => zU.1 h)) (mv q0 (mv q7 (.cons (fun _ _ hE hK hg => zp (r := zA) (O := O9) ty27 ty33 rfl (kg 31 hK 76 rfl hg) (rd_of (vx h_0 hE)) (kg 32 hK 77 rfl hg) (zr hx15 hg)) (.cons (fun _ _ hE hK hg => jw (S := zA) rfl (fun _ => rfl) gq fl33_2 rfl (kspS (φ := SP.ptr zA O9 x15) (j := 33) (hK 78 rfl) rfl rfl hg)) (.cons (fun _ _ hE hK hg => za (rInt .i64) (fun _ => rfl) ty3 rfl rfl rfl (kspS (φ := SP.ptr (rInt .i64) O9 x15.Gauge) (j := 34) (hK 79 rfl) rfl rfl hg) (fun _ _ _ h => zU.1 h)) (.cons (fun _ _ hE hK hg => yO (kg 30 hK 75 rfl hg) (kg 35 hK 80 rfl hg)) (.cons (fun _ _ hE hK hg => zV (kg 25 hK 70 rfl hg) (fun hb => kg 36 hK 81 rfl (zf rfl hg hb)) (fun _ => rfl)) (.cons (fun _ _ hE hK hg => zV (kg 18 hK 63 rfl hg) (fun _ => rfl) (fun hb => kg 37 hK 82 rfl (zf rfl hg hb))) (cn (fun hE hK => zV (ks 11 hK 56 rfl) (fun hb => kg 38 hK 83 rfl (zf rfl rfl hb)) (fun _ => rfl)) .nil)))))))))))))))))))))))))))))))))))))))) ?zk13
       intro a15 w15 hA hE hB HF; refine kr5 HF q0 q1 q2 q7 q9 ?_; clear q0 q1 q2 q7 q9; intro q0 q1 q2 q7 q9; have q84 := ksv (HF 84) rfl rfl rfl; clear q42 HF; replace h_0 := vx h_0 hE; replace h_1 := vx h_1 hE; clear hE
       obtain ⟨x16, hx_, h⟩ := Comp.run_bind h; replace hx_ := Comp.run_pure hx_; rw [hx_] at q84; clear hx_
       refine zE (zB ?_)
       revert h; refine cnd q84 (fun h => ?_) (fun h => ?_)
       ·
        refine wp_seq ?_
        refine' rb [_] mixed hA hB hO (cn (fun hE hK => zC rfl) .nil) ?zk14
        intro a16 w16 hA hE hB HF; have q6 := ksv (HF 6) rfl rfl rfl; clear q0 q1 q2 q7 q9 q84 HF; replace h_0 := vx h_0 hE; replace h_1 := vx h_1 hE; clear hE; refine zE (zB (wp_ret (yA (zN (zN (yA (yA (zN (zN (yA (zN ?_)))))))))))
        have hd_ := hdone3 _ (Comp.run_pure h).symm; clear h
        subst hd_; have h := hk3; clear hk3; try dsimp only at h
        have hd_ := hdone2 _ (Comp.run_pure h).symm; clear h
        subst hd_; have h := hk2; clear hk2; try dsimp only at h
        have h := Comp.run_pure h; subst h
        exact zb Try.results14 hA q6 hB.ext rfl
       ·
        refine wp_skip (zm (zB ?_))
        refine' rb [_, _, _] mixed hA hB hO (mv q9 (cn (fun hE hK => yP (ks 0 hK 43 rfl) rfl) (cn (fun hE hK => zC (ks 1 hK 44 rfl)) .nil))) ?zk15
        intro a17 w17 hA hE hB HF; refine kr4 HF q0 q1 q2 q7 ?_; clear q0 q1 q2 q7; intro q0 q1 q2 q7; replace q9 := ksv (HF 9) rfl rfl rfl; clear q84 HF; replace h_0 := vx h_0 hE; replace h_1 := vx h_1 hE; clear hE; refine zE (zB ?_)
        have h := hnext3 _ (Comp.run_pure h).symm
        refine ⟨m3, hlt3, ?_⟩
        exact ⟨_, _, hA, hB, q0, h_0, q1, h_1, q2, q7, q9, h⟩
      ·
       refine wp_exit (zT (zT (zw ?_)))
       have hd_ := hdone3 _ (Comp.run_pure h).symm; clear h
       subst hd_; have h := hk3; clear hk3; try dsimp only at h
       refine zm (zB ?_)
       refine' rb [_, _, _] mixed hA hB hO (mv q7 (cn (fun hE hK => yP (ks 0 hK 29 rfl) rfl) (cn (fun hE hK => zC (ks 1 hK 30 rfl)) .nil))) ?zk16
       intro a18 w18 hA hE hB HF; refine kr3 HF q0 q1 q2 ?_; clear q0 q1 q2; intro q0 q1 q2; replace q7 := ksv (HF 7) rfl rfl rfl; clear q9 q42 HF; replace h_0 := vx h_0 hE; replace h_1 := vx h_1 hE; clear hE; refine zE (zB ?_)
       have h := hnext2 _ (Comp.run_pure h).symm
       refine ⟨m2, hlt2, ?_⟩
       exact ⟨_, _, hA, hB, q0, h_0, q1, h_1, q2, q7, h⟩
    ·
     refine wp_exit (zT (zT (zw ?_)))
     have hd_ := hdone2 _ (Comp.run_pure h).symm; clear h
     subst hd_; have h := hk2; clear hk2; try dsimp only at h
     refine zB ?_
     exact ⟨_, hA, hB, q1, h_1, q2, h⟩
   intro a19 w19 hI
   clear hA hB h q0 q1 q2 q24 h_0 h_1
   obtain ⟨O18, hA, hB, q1, h_1, q2, h⟩ := hI
   unfold jU at h
   refine zY (fun a w => ∃ (O27 : Tags), a.fit 122 ∧ Base (Fr w0) O w0 O27 w ∧ (colletref43_Check_j4 ).run n = some y) ?_ ?_
   ·
    refine wp_seq ?_
    refine' rb [_] mixed hA hB hO (cn (fun hE hK => zC rfl) .nil) ?zk17
    intro a20 w20 hA hE hB HF; replace q1 := kf HF q1; replace q2 := kf HF q2; have q10 := ksv (HF 10) rfl rfl rfl; clear HF; replace h_1 := vx h_1 hE; clear hE; refine zE (zB (wp_block ?_))
    obtain ⟨e5, he5, hk5⟩ := Comp.run_bind h; clear h
    refine yt (fun m a w => ∃ (O20 : Tags) (x19 : Int), a.fit 122 ∧ Base (Fr w0) O w0 O20 w ∧ a.get 1 = v_1 ∧ (rSl zD).v O20 w v_1 x_1 ∧ a.get 2 = .int .i64 x_2 ∧ a.get 10 = .int .i64 x19 ∧ Comp.loopN (fun s => yx x_1 x_2 s) n m x19 = some e5) (m := n) ?st5 ?_
    case st5 =>
     exact ⟨_, _, hA, hB, q1, h_1, q2, q10, Comp.zk he5⟩
    intro m_ a21 w21 hI
    clear hA hB he5 q1 q2 q10 h_1
    obtain ⟨O20, x19, hA, hB, q1, h_1, q2, q10, hl⟩ := hI
    obtain ⟨m5, hlt5, st5, h, hnext5, hdone5⟩ := Comp.zZ hl; clear hl
    replace h : (yx x_1 x_2 x19).run n = some st5 := h
    unfold yx at h; refine wp_seq (wp_seq ?_)
    refine' rb [_, _, _, _] mixed hA hB hO (mv q10 (mv q1 (cn (fun hE hK => zg (r := zD) ty28 (ks 1 hK 86 rfl) (rd_of (vx h_1 hE))) (cn (fun hE hK => zy (ks 0 hK 85 rfl) (ks 2 hK 87 rfl)) .nil)))) ?zk18
    intro a22 w22 hA hE hB HF; refine kr3 HF q1 q2 q10 ?_; clear q1 q2 q10; intro q1 q2 q10; have q88 := ksv (HF 88) rfl rfl rfl; clear HF; replace h_1 := vx h_1 hE; clear hE; refine zE (zB ?_)
    revert h; refine cnd q88 (fun h => ?_) (fun h => ?_)
    ·
     refine wp_skip (zB (wp_seq (wp_block (wp_seq ?_)))); obtain ⟨x21, hx21, h⟩ := Comp.run_bind h; obtain ⟨x22, hx22, h⟩ := Comp.run_bind h; obtain ⟨x23, hx23, h⟩ := Comp.run_bind h; obtain ⟨x24, hx24, h⟩ := Comp.run_bind h
     refine' rb [_, _, SP.ptr zD O20 x21, SP.ptr (rInt .i64) O20 x21.Gauge, SP.isv (.int .i64 x21.Gauge), _, _, _, _, SP.ptr zD O20 x22, SP.ptr (rInt .i64) O20 x22.Gauge, SP.isv (.int .i64 x22.Gauge), _, _, _, _, _, SP.ptr zD O20 x23, SP.ptr (rInt .i64) O20 x23.Cell, SP.isv (.int .i64 x23.Cell), _, _, _, _, _, SP.ptr zD O20 x24, SP.ptr (rInt .i64) O20 x24.Cell, SP.isv (.int .i64 x24.Cell), _, _, _] mixed hA hB hO (mv q1 (mv q10 (cn (fun hE hK => zp (r := zD) (O := O20) ty28 ty64 rfl (ks 0 hK 91 rfl) (rd_of (vx h_1 hE)) (ks 1 hK 92 rfl) hx21) (cn (fun hE hK => jw (S := zD) rfl (fun _ => rfl) sb_api_Sight_0 fl64_0 rfl (kp (SP.ptr zD O20 x21) 2 hK 93 rfl)) (cn (fun hE hK => za (rInt .i64) (fun _ => rfl) ty3 rfl rfl rfl (kp (SP.ptr (rInt .i64) O20 x21.Gauge) 3 hK 94 rfl) (fun _ _ _ h => zU.1 h)) (cn (fun hE hK => zy (ks 4 hK 95 rfl) rfl) (cn (fun hE hK => zJ (ks 5 hK 96 rfl)) (mv q1 (mv q10 (.cons (fun _ _ hE hK hg => zp (r := zD) (O := O20) ty28 ty64 rfl (kg 7 hK 98 rfl hg) (rd_of (vx h_1 hE)) (kg 8 hK 99 rfl hg) (zr hx22 hg)) (.cons (fun _ _ hE hK hg => jw (S := zD) rfl (fun _ => rfl) sb_api_Sight_0 fl64_0 rfl (kspS (φ := SP.ptr zD O20 x22) (j := 9) (hK 100 rfl) rfl rfl hg)) (.cons (fun _ _ hE hK hg => za (rInt .i64) (fun _ => rfl) ty3 rfl rfl rfl (kspS (φ := SP.ptr (rInt .i64) O20 x22.Gauge) (j := 10) (hK 101 rfl) rfl rfl hg) (fun _ _ _ h => zU.1 h)) (.cons (fun _ _ hE hK hg => ok_geq (kg 11 hK 102 rfl hg) rfl) (cn (fun hE hK => zV (ks 6 hK 97 rfl) (fun _ => rfl) (fun hb => kg 12 hK 103 rfl (zf rfl rfl hb))) (cn (fun hE hK => zJ (ks 13 hK 104 rfl)) (mv q1 (mv q10 (.cons (fun _ _ hE hK hg => zp (r := zD) (O := O20) ty28 ty64 rfl (kg 15 hK 106 rfl hg) (rd_of (vx h_1 hE)) (kg 16 hK 107 rfl hg) (zr hx23 hg)) (.cons (fun _ _ hE hK hg => jw (S := zD) rfl (fun _ => rfl) sb_api_Sight_1 fl64_1 rfl (kspS (φ := SP.ptr zD O20 x23) (j := 17) (hK 108 rfl) rfl rfl hg)) (.cons (fun _ _ hE hK hg => za (rInt .i64) (fun _ => rfl) ty3 rfl rfl rfl (kspS (φ := SP.ptr (rInt .i64) O20 x23.Cell) (j := 18) (hK 109 rfl) rfl rfl hg) (fun _ _ _ h => zU.1 h)) (.cons (fun _ _ hE hK hg => zy (kg 19 hK 110 rfl hg) rfl) (cn (fun hE hK => zV (ks 14 hK 105 rfl) (fun _ => rfl) (fun hb => kg 20 hK 111 rfl (zf rfl rfl hb))) (cn (fun hE hK => zJ (ks 21 hK 112 rfl)) (mv q1 (mv q10 (.cons (fun _ _ hE hK hg => zp (r := zD) (O := O20) ty28 ty64 rfl (kg 23 hK 114 rfl hg) (rd_of (vx h_1 hE)) (kg 24 hK 115 rfl hg) (zr hx24 hg)) (.cons (fun _ _ hE hK hg => jw (S := zD) rfl (fun _ => rfl) sb_api_Sight_1 fl64_1 rfl (kspS (φ := SP.ptr zD O20 x24) (j := 25) (hK 116 rfl) rfl rfl hg)) (.cons (fun _ _ hE hK hg => za (rInt .i64) (fun _ => rfl) ty3 rfl rfl rfl (kspS (φ := SP.ptr (rInt .i64) O20 x24.Cell) (j := 26) (hK 117 rfl) rfl rfl hg) (fun _ _ _ h => zU.1 h)) (mv q2 (.cons (fun _ _ hE hK hg => ok_geq (kg 27 hK 118 rfl hg) (kg 28 hK 119 rfl hg)) (cn (fun hE hK => zV (ks 22 hK 113 rfl) (fun _ => rfl) (fun hb => kg 29 hK 120 rfl (zf rfl rfl hb))) .nil))))))))))))))))))))))))))))))) ?zk19
     intro a23 w23 hA hE hB HF; refine kr3 HF q1 q2 q10 ?_; clear q1 q2 q10; intro q1 q2 q10; have q121 := ksv (HF 121) rfl rfl rfl; clear q88 HF; replace h_1 := vx h_1 hE; clear hE
     obtain ⟨x25, hx_, h⟩ := Comp.run_bind h; replace hx_ := Comp.run_pure hx_; rw [hx_] at q121; clear hx_
     refine zE (zB ?_)
     revert h; refine cnd q121 (fun h => ?_) (fun h => ?_)
     ·
      refine wp_seq ?_
      refine' rb [_] mixed hA hB hO (cn (fun hE hK => zC rfl) .nil) ?zk20
      intro a24 w24 hA hE hB HF; have q6 := ksv (HF 6) rfl rfl rfl; clear q1 q2 q10 q121 HF; replace h_1 := vx h_1 hE; clear hE; refine zE (zB (wp_ret (yA (zN (zN (yA (zN ?_)))))))
      have hd_ := hdone5 _ (Comp.run_pure h).symm; clear h
      subst hd_; have h := hk5; clear hk5; try dsimp only at h
      have h := Comp.run_pure h; subst h
      exact zb Try.results14 hA q6 hB.ext rfl
     ·
      refine wp_skip (zm (zB ?_))
      refine' rb [_, _, _] mixed hA hB hO (mv q10 (cn (fun hE hK => yP (ks 0 hK 89 rfl) rfl) (cn (fun hE hK => zC (ks 1 hK 90 rfl)) .nil))) ?zk21
      intro a25 w25 hA hE hB HF; replace q1 := kf HF q1; replace q2 := kf HF q2; replace q10 := ksv (HF 10) rfl rfl rfl; clear q121 HF; replace h_1 := vx h_1 hE; clear hE; refine zE (zB ?_)
      have h := hnext5 _ (Comp.run_pure h).symm
      refine ⟨m5, hlt5, ?_⟩
      exact ⟨_, _, hA, hB, q1, h_1, q2, q10, h⟩
    ·
     refine wp_exit (zT (zT (zw ?_)))
     have hd_ := hdone5 _ (Comp.run_pure h).symm; clear h
     subst hd_; have h := hk5; clear hk5; try dsimp only at h
     refine zB ?_
     exact ⟨_, hA, hB, h⟩
   intro a26 w26 hI
   clear hA hB h q1 q2 h_1
   obtain ⟨O27, hA, hB, h⟩ := hI
   unfold colletref43_Check_j4 at h; refine wp_seq ?_
   refine' rb [_] mixed hA hB hO (cn (fun hE hK => zC rfl) .nil) ?zk22
   intro a27 w27 hA hE hB HF; have q6 := ksv (HF 6) rfl rfl rfl; clear HF; clear hE; refine zE (zB (wp_ret ?_))
   have h := Comp.run_pure h; subst h
   exact zb Try.results14 hA q6 hB.ext rfl
theorem ok_colletref43_said {O : Tags} {w0 : World} (hO : OkO O w0) {v_0 : Value} {x_0 : List api_Claim} (h_0 : (rSl zA).v O w0 v_0 x_0) {v_1 : Value} {x_1 : List api_Sight} (h_1 : (rSl zD).v O w0 v_1 x_1) {x_2 : Int} {x_3 : Int} {x_4 : Bool} {n : Nat} {y : Bool} (h : (jy x_0 x_1 x_2 x_3 x_4).run n = some y) : Pure Try.prog 63 #[v_0, v_1, .int .i64 x_2, .int .i64 x_3, .bool x_4] w0 (SP.isv (.bool y)).holds := by
 unfold jy at h
 refine zW Try.func63 rfl 67 Try.ntmps63 (by simp) fun a0 hA hs0 => ?_
 have q0 : a0.get 0 = v_0 := hs0 0 _ rfl
 have q1 : a0.get 1 = v_1 := hs0 1 _ rfl
 have q2 : a0.get 2 = .int .i64 x_2 := hs0 2 _ rfl
 have q3 : a0.get 3 = .int .i64 x_3 := hs0 3 _ rfl
 have q4 : a0.get 4 = .bool x_4 := hs0 4 _ rfl
 clear hs0
 have hB : Base (Fr w0) O w0 O w0 := Base.start hO
 refine wp_seq ?_
 refine' rb [_] mixed hA hB hO (cn (fun hE hK => zC rfl) .nil) ?zk1
 intro a1 w1 hA hE hB HF; refine kr5 HF q0 q1 q2 q3 q4 ?_; clear q0 q1 q2 q3 q4; intro q0 q1 q2 q3 q4; clear HF; replace h_0 := vx h_0 hE; replace h_1 := vx h_1 hE; clear hE; refine zE (zB ?_)
 refine zY (fun a w => ∃ (O16 : Tags), a.fit 67 ∧ Base (Fr w0) O w0 O16 w ∧ (colletref43_said_j1 ).run n = some y) ?_ ?_
 ·
  refine wp_seq ?_
  refine' rb [_] mixed hA hB hO (cn (fun hE hK => zC rfl) .nil) ?zk2
  intro a2 w2 hA hE hB HF; refine kr5 HF q0 q1 q2 q3 q4 ?_; clear q0 q1 q2 q3 q4; intro q0 q1 q2 q3 q4; have q11 := ksv (HF 11) rfl rfl rfl; clear HF; replace h_0 := vx h_0 hE; replace h_1 := vx h_1 hE; clear hE; refine zE (zB (wp_block ?_))
  obtain ⟨e2, he2, hk2⟩ := Comp.run_bind h; clear h
  refine yt (fun m a w => ∃ (O2 : Tags) (x1 : Int), a.fit 67 ∧ Base (Fr w0) O w0 O2 w ∧ a.get 0 = v_0 ∧ (rSl zA).v O2 w v_0 x_0 ∧ a.get 1 = v_1 ∧ (rSl zD).v O2 w v_1 x_1 ∧ a.get 2 = .int .i64 x_2 ∧ a.get 3 = .int .i64 x_3 ∧ a.get 4 = .bool x_4 ∧ a.get 11 = .int .i64 x1 ∧ Comp.loopN (fun s => vJ x_0 x_2 x_1 x_3 x_4 s) n m x1 = some e2) (m := n) ?st2 ?_
  case st2 =>
   exact ⟨_, _, hA, hB, q0, h_0, q1, h_1, q2, q3, q4, q11, Comp.zk he2⟩
  intro m_ a3 w3 hI
  clear hA hB he2 q0 q1 q2 q3 q4 q11 h_0 h_1
  obtain ⟨O2, x1, hA, hB, q0, h_0, q1, h_1, q2, q3, q4, q11, hl⟩ := hI
  obtain ⟨m2, hlt2, st2, h, hnext2, hdone2⟩ := Comp.zZ hl; clear hl
  replace h : (vJ x_0 x_2 x_1 x_3 x_4 x1).run n = some st2 := h
  unfold vJ at h; refine wp_seq (wp_seq ?_)
  refine' rb [_, _, _, _] mixed hA hB hO (mv q11 (mv q0 (cn (fun hE hK => zg (r := zA) ty27 (ks 1 hK 14 rfl) (rd_of (vx h_0 hE))) (cn (fun hE hK => zy (ks 0 hK 13 rfl) (ks 2 hK 15 rfl)) .nil)))) ?zk3
  intro a4 w4 hA hE hB HF; refine kr6 HF q0 q1 q2 q3 q4 q11 ?_; clear q0 q1 q2 q3 q4 q11; intro q0 q1 q2 q3 q4 q11; have q16 := ksv (HF 16) rfl rfl rfl; clear HF; replace h_0 := vx h_0 hE; replace h_1 := vx h_1 hE; clear hE; refine zE (zB ?_)
  revert h; refine cnd q16 (fun h => ?_) (fun h => ?_)
  ·
   refine wp_skip (zB ?_)
   refine zY (fun a w => ∃ (O15 : Tags), a.fit 67 ∧ Base (Fr w0) O w0 O15 w ∧ a.get 0 = v_0 ∧ (rSl zA).v O15 w v_0 x_0 ∧ a.get 1 = v_1 ∧ (rSl zD).v O15 w v_1 x_1 ∧ a.get 2 = .int .i64 x_2 ∧ a.get 3 = .int .i64 x_3 ∧ a.get 4 = .bool x_4 ∧ a.get 11 = .int .i64 x1 ∧ (jm x1 ).run n = some st2) ?_ ?_
   ·
    refine wp_block (wp_seq (wp_seq ?_)); obtain ⟨x3, hx3, h⟩ := Comp.run_bind h; obtain ⟨x4, hx4, h⟩ := Comp.run_bind h
    refine' rb [_, _, _, _, _, _, _, _, SP.ptr zA O2 x4, SP.ptr (rInt .i64) O2 x4.Kind, SP.isv (.int .i64 x4.Kind), _, _] mixed hA hB hO (mv q2 (mv q11 (cn (fun hE hK => okl_shr (ks 0 hK 19 rfl) (ks 1 hK 20 rfl) (yY hx3)) (cn (fun hE hK => okb_and (ks 2 hK 21 rfl) rfl) (cn (fun hE hK => yO (ks 3 hK 22 rfl) rfl) (cn (fun hE hK => zJ (ks 4 hK 23 rfl)) (mv q0 (mv q11 (.cons (fun _ _ hE hK hg => zp (r := zA) (O := O2) ty27 ty33 rfl (kg 6 hK 25 rfl hg) (rd_of (vx h_0 hE)) (kg 7 hK 26 rfl hg) (zr hx4 hg)) (.cons (fun _ _ hE hK hg => jw (S := zA) rfl (fun _ => rfl) yS fl33_1 rfl (kspS (φ := SP.ptr zA O2 x4) (j := 8) (hK 27 rfl) rfl rfl hg)) (.cons (fun _ _ hE hK hg => za (rInt .i64) (fun _ => rfl) ty3 rfl rfl rfl (kspS (φ := SP.ptr (rInt .i64) O2 x4.Kind) (j := 9) (hK 28 rfl) rfl rfl hg) (fun _ _ _ h => zU.1 h)) (.cons (fun _ _ hE hK hg => gR (kg 10 hK 29 rfl hg) rfl) (cn (fun hE hK => zV (ks 5 hK 24 rfl) (fun _ => rfl) (fun hb => kg 11 hK 30 rfl (zf rfl rfl hb))) .nil))))))))))))) ?zk4
    intro a5 w5 hA hE hB HF; refine kr6 HF q0 q1 q2 q3 q4 q11 ?_; clear q0 q1 q2 q3 q4 q11; intro q0 q1 q2 q3 q4 q11; have q31 := ksv (HF 31) rfl rfl rfl; clear q16 HF; replace h_0 := vx h_0 hE; replace h_1 := vx h_1 hE; clear hE
    obtain ⟨x5, hx_, h⟩ := Comp.run_bind h; replace hx_ := Comp.run_pure hx_; rw [hx_] at q31; clear hx_
    refine zE (zB ?_)
    revert h; refine cnd q31 (fun h => ?_) (fun h => ?_)
    ·
     refine wp_exit (zT (zw (zB ?_)))
     exact ⟨_, hA, hB, q0, h_0, q1, h_1, q2, q3, q4, q11, h⟩
    ·
     refine wp_skip (zB (wp_seq ?_))
     refine' rb [_] mixed hA hB hO (cn (fun hE hK => zC rfl) .nil) ?zk5
     intro a6 w6 hA hE hB HF; refine kr6 HF q0 q1 q2 q3 q4 q11 ?_; clear q0 q1 q2 q3 q4 q11; intro q0 q1 q2 q3 q4 q11; have q12 := ksv (HF 12) rfl rfl rfl; clear q31 HF; replace h_0 := vx h_0 hE; replace h_1 := vx h_1 hE; clear hE; refine zE (zB (wp_block ?_))
     obtain ⟨e4, he4, hk4⟩ := Comp.run_bind h; clear h
     refine yt (fun m a w => ∃ (O7 : Tags) (x6 : Int), a.fit 67 ∧ Base (Fr w0) O w0 O7 w ∧ a.get 0 = v_0 ∧ (rSl zA).v O7 w v_0 x_0 ∧ a.get 1 = v_1 ∧ (rSl zD).v O7 w v_1 x_1 ∧ a.get 2 = .int .i64 x_2 ∧ a.get 3 = .int .i64 x_3 ∧ a.get 4 = .bool x_4 ∧ a.get 11 = .int .i64 x1 ∧ a.get 12 = .int .i64 x6 ∧ Comp.loopN (fun s => yq x_1 x_0 x1 x_3 x_4 s) n m x6 = some e4) (m := n) ?st4 ?_
     case st4 =>
      exact ⟨_, _, hA, hB, q0, h_0, q1, h_1, q2, q3, q4, q11, q12, Comp.zk he4⟩
     intro m_ a7 w7 hI
     clear hA hB he4 q0 q1 q2 q3 q4 q11 q12 h_0 h_1
     obtain ⟨O7, x6, hA, hB, q0, h_0, q1, h_1, q2, q3, q4, q11, q12, hl⟩ := hI
     obtain ⟨m4, hlt4, st4, h, hnext4, hdone4⟩ := Comp.zZ hl; clear hl
     replace h : (yq x_1 x_0 x1 x_3 x_4 x6).run n = some st4 := h
     unfold yq at h; refine wp_seq (wp_seq ?_)
     refine' rb [_, _, _, _] mixed hA hB hO (mv q12 (mv q1 (cn (fun hE hK => zg (r := zD) ty28 (ks 1 hK 33 rfl) (rd_of (vx h_1 hE))) (cn (fun hE hK => zy (ks 0 hK 32 rfl) (ks 2 hK 34 rfl)) .nil)))) ?zk6
     intro a8 w8 hA hE hB HF; refine kr7 HF q0 q1 q2 q3 q4 q11 q12 ?_; clear q0 q1 q2 q3 q4 q11 q12; intro q0 q1 q2 q3 q4 q11 q12; have q35 := ksv (HF 35) rfl rfl rfl; clear HF; replace h_0 := vx h_0 hE; replace h_1 := vx h_1 hE; clear hE; refine zE (zB ?_)
     revert h; refine cnd q35 (fun h => ?_) (fun h => ?_)
     ·
      refine wp_skip (zB (wp_seq (wp_block (wp_seq ?_)))); obtain ⟨x8, hx8, h⟩ := Comp.run_bind h; obtain ⟨x9, hx9, h⟩ := Comp.run_bind h; obtain ⟨x10, hx10, h⟩ := Comp.run_bind h; obtain ⟨x11, hx11, h⟩ := Comp.run_bind h
      refine' rb [_, _, SP.ptr zD O7 x8, SP.ptr (rInt .i64) O7 x8.Gauge, SP.isv (.int .i64 x8.Gauge), _, _, SP.ptr zA O7 x9, SP.ptr (rInt .i64) O7 x9.Gauge, SP.isv (.int .i64 x9.Gauge), _, _, _, _, SP.ptr zD O7 x10, SP.ptr (rInt .i64) O7 x10.Cell, SP.isv (.int .i64 x10.Cell), _, _, _, _, _, _, SP.ptr zD O7 x11, SP.ptr rBool O7 x11.There, SP.isv (.bool x11.There), _, _, _] mixed hA hB hO (mv q1 (mv q12 (cn (fun hE hK => zp (r := zD) (O := O7) ty28 ty64 rfl (ks 0 hK 38 rfl) (rd_of (vx h_1 hE)) (ks 1 hK 39 rfl) hx8) (cn (fun hE hK => jw (S := zD) rfl (fun _ => rfl) sb_api_Sight_0 fl64_0 rfl (kp (SP.ptr zD O7 x8) 2 hK 40 rfl)) (cn (fun hE hK => za (rInt .i64) (fun _ => rfl) ty3 rfl rfl rfl (kp (SP.ptr (rInt .i64) O7 x8.Gauge) 3 hK 41 rfl) (fun _ _ _ h => zU.1 h)) (mv q0 (mv q11 (cn (fun hE hK => zp (r := zA) (O := O7) ty27 ty33 rfl (ks 5 hK 43 rfl) (rd_of (vx h_0 hE)) (ks 6 hK 44 rfl) hx9) (cn (fun hE hK => jw (S := zA) rfl (fun _ => rfl) gq fl33_2 rfl (kp (SP.ptr zA O7 x9) 7 hK 45 rfl)) (cn (fun hE hK => za (rInt .i64) (fun _ => rfl) ty3 rfl rfl rfl (kp (SP.ptr (rInt .i64) O7 x9.Gauge) 8 hK 46 rfl) (fun _ _ _ h => zU.1 h)) (cn (fun hE hK => yO (ks 4 hK 42 rfl) (ks 9 hK 47 rfl)) (cn (fun hE hK => zJ (ks 10 hK 48 rfl)) (mv q1 (mv q12 (.cons (fun _ _ hE hK hg => zp (r := zD) (O := O7) ty28 ty64 rfl (kg 12 hK 50 rfl hg) (rd_of (vx h_1 hE)) (kg 13 hK 51 rfl hg) (zr hx10 hg)) (.cons (fun _ _ hE hK hg => jw (S := zD) rfl (fun _ => rfl) sb_api_Sight_1 fl64_1 rfl (kspS (φ := SP.ptr zD O7 x10) (j := 14) (hK 52 rfl) rfl rfl hg)) (.cons (fun _ _ hE hK hg => za (rInt .i64) (fun _ => rfl) ty3 rfl rfl rfl (kspS (φ := SP.ptr (rInt .i64) O7 x10.Cell) (j := 15) (hK 53 rfl) rfl rfl hg) (fun _ _ _ h => zU.1 h)) (mv q3 (.cons (fun _ _ hE hK hg => yO (kg 16 hK 54 rfl hg) (kg 17 hK 55 rfl hg)) (cn (fun hE hK => zV (ks 11 hK 49 rfl) (fun hb => kg 18 hK 56 rfl (zf rfl rfl hb)) (fun _ => rfl)) (cn (fun hE hK => zJ (ks 19 hK 57 rfl)) (mv q1 (mv q12 (.cons (fun _ _ hE hK hg => zp (r := zD) (O := O7) ty28 ty64 rfl (kg 21 hK 59 rfl hg) (rd_of (vx h_1 hE)) (kg 22 hK 60 rfl hg) (zr hx11 hg)) (.cons (fun _ _ hE hK hg => jw (S := zD) rfl (fun _ => rfl) sb_api_Sight_2 fl64_2 rfl (kspS (φ := SP.ptr zD O7 x11) (j := 23) (hK 61 rfl) rfl rfl hg)) (.cons (fun _ _ hE hK hg => za rBool (fun _ => rfl) ty4 rfl rfl rfl (kspS (φ := SP.ptr rBool O7 x11.There) (j := 24) (hK 62 rfl) rfl rfl hg) (fun _ _ _ h => rBool_v.1 h)) (mv q4 (.cons (fun _ _ hE hK hg => ok_eqlB ty4 (kg 25 hK 63 rfl hg) (kg 26 hK 64 rfl hg)) (cn (fun hE hK => zV (ks 20 hK 58 rfl) (fun hb => kg 27 hK 65 rfl (zf rfl rfl hb)) (fun _ => rfl)) .nil))))))))))))))))))))))))))))) ?zk7
      intro a9 w9 hA hE hB HF; refine kr7 HF q0 q1 q2 q3 q4 q11 q12 ?_; clear q0 q1 q2 q3 q4 q11 q12; intro q0 q1 q2 q3 q4 q11 q12; have q66 := ksv (HF 66) rfl rfl rfl; clear q35 HF; replace h_0 := vx h_0 hE; replace h_1 := vx h_1 hE; clear hE
      obtain ⟨x12, hx_, h⟩ := Comp.run_bind h; replace hx_ := Comp.run_pure hx_; rw [hx_] at q66; clear hx_
      refine zE (zB ?_)
      revert h; refine cnd q66 (fun h => ?_) (fun h => ?_)
      ·
       refine wp_seq ?_
       refine' rb [_] mixed hA hB hO (cn (fun hE hK => zC rfl) .nil) ?zk8
       intro a10 w10 hA hE hB HF; have q10 := ksv (HF 10) rfl rfl rfl; clear q0 q1 q2 q3 q4 q11 q12 q66 HF; replace h_0 := vx h_0 hE; replace h_1 := vx h_1 hE; clear hE; refine zE (zB (wp_ret (yA (zN (zN (yA (yA (zN (zN (yA (zN ?_)))))))))))
       have hd_ := hdone4 _ (Comp.run_pure h).symm; clear h
       subst hd_; have h := hk4; clear hk4; try dsimp only at h
       have hd_ := hdone2 _ (Comp.run_pure h).symm; clear h
       subst hd_; have h := hk2; clear hk2; try dsimp only at h
       have h := Comp.run_pure h; subst h
       exact zb Try.results63 hA q10 hB.ext rfl
      ·
       refine wp_skip (zm (zB ?_))
       refine' rb [_, _, _] mixed hA hB hO (mv q12 (cn (fun hE hK => yP (ks 0 hK 36 rfl) rfl) (cn (fun hE hK => zC (ks 1 hK 37 rfl)) .nil))) ?zk9
       intro a11 w11 hA hE hB HF; refine kr6 HF q0 q1 q2 q3 q4 q11 ?_; clear q0 q1 q2 q3 q4 q11; intro q0 q1 q2 q3 q4 q11; replace q12 := ksv (HF 12) rfl rfl rfl; clear q66 HF; replace h_0 := vx h_0 hE; replace h_1 := vx h_1 hE; clear hE; refine zE (zB ?_)
       have h := hnext4 _ (Comp.run_pure h).symm
       refine ⟨m4, hlt4, ?_⟩
       exact ⟨_, _, hA, hB, q0, h_0, q1, h_1, q2, q3, q4, q11, q12, h⟩
     ·
      refine wp_exit (zT (zT (zw ?_)))
      have hd_ := hdone4 _ (Comp.run_pure h).symm; clear h
      subst hd_; have h := hk4; clear hk4; try dsimp only at h
      refine zm (zB ?_)
      exact ⟨_, hA, hB, q0, h_0, q1, h_1, q2, q3, q4, q11, h⟩
   intro a12 w12 hI
   clear hA hB h q0 q1 q2 q3 q4 q11 q16 h_0 h_1
   obtain ⟨O15, hA, hB, q0, h_0, q1, h_1, q2, q3, q4, q11, h⟩ := hI
   unfold jm at h
   refine' rb [_, _, _] mixed hA hB hO (mv q11 (cn (fun hE hK => yP (ks 0 hK 17 rfl) rfl) (cn (fun hE hK => zC (ks 1 hK 18 rfl)) .nil))) ?zk10
   intro a13 w13 hA hE hB HF; refine kr5 HF q0 q1 q2 q3 q4 ?_; clear q0 q1 q2 q3 q4; intro q0 q1 q2 q3 q4; replace q11 := ksv (HF 11) rfl rfl rfl; clear HF; replace h_0 := vx h_0 hE; replace h_1 := vx h_1 hE; clear hE; refine zE (zB ?_)
   have h := hnext2 _ (Comp.run_pure h).symm
   refine ⟨m2, hlt2, ?_⟩
   exact ⟨_, _, hA, hB, q0, h_0, q1, h_1, q2, q3, q4, q11, h⟩
  ·
   refine wp_exit (zT (zT (zw ?_)))
   have hd_ := hdone2 _ (Comp.run_pure h).symm; clear h
   subst hd_; have h := hk2; clear hk2; try dsimp only at h
   refine zB ?_
   exact ⟨_, hA, hB, h⟩
 intro a14 w14 hI
 clear hA hB h q0 q1 q2 q3 q4 h_0 h_1
 obtain ⟨O16, hA, hB, h⟩ := hI
 unfold colletref43_said_j1 at h; refine wp_seq ?_
 refine' rb [_] mixed hA hB hO (cn (fun hE hK => zC rfl) .nil) ?zk11
 intro a15 w15 hA hE hB HF; have q10 := ksv (HF 10) rfl rfl rfl; clear HF; clear hE; refine zE (zB (wp_ret ?_))
 have h := Comp.run_pure h; subst h
 exact zb Try.results63 hA q10 hB.ext rfl
theorem ok_colletref43_can {O : Tags} {w0 : World} (hO : OkO O w0) {v_0 : Value} {x_0 : List api_Claim} (h_0 : (rSl zA).v O w0 v_0 x_0) {x_1 : Int} {x_2 : Int} {x_3 : Bool} {n : Nat} {y : Bool} (h : (jo x_0 x_1 x_2 x_3).run n = some y) : Pure Try.prog 64 #[v_0, .int .i64 x_1, .int .i64 x_2, .bool x_3] w0 (SP.isv (.bool y)).holds := by
 unfold jo at h
 refine zW Try.func64 rfl 80 Try.ntmps64 (by simp) fun a0 hA hs0 => ?_
 have q0 : a0.get 0 = v_0 := hs0 0 _ rfl
 have q1 : a0.get 1 = .int .i64 x_1 := hs0 1 _ rfl
 have q2 : a0.get 2 = .int .i64 x_2 := hs0 2 _ rfl
 have q3 : a0.get 3 = .bool x_3 := hs0 3 _ rfl
 clear hs0
 have hB : Base (Fr w0) O w0 O w0 := Base.start hO
 refine wp_seq ?_
 refine' rb [_] mixed hA hB hO (cn (fun hE hK => zC rfl) .nil) ?zk1
 intro a1 w1 hA hE hB HF; refine kr4 HF q0 q1 q2 q3 ?_; clear q0 q1 q2 q3; intro q0 q1 q2 q3; clear HF; replace h_0 := vx h_0 hE; clear hE; refine zE (zB (wp_seq ?_))
 refine' rb [_, _] mixed hA hB hO (cn (fun hE hK => zC rfl) (cn (fun hE hK => zC rfl) .nil)) ?zk2
 intro a2 w2 hA hE hB HF; refine kr4 HF q0 q1 q2 q3 ?_; clear q0 q1 q2 q3; intro q0 q1 q2 q3; have q9 := ksv (HF 9) rfl rfl rfl; clear HF; replace h_0 := vx h_0 hE; clear hE; refine zE (zB (wp_seq ?_))
 refine' rb [_] mixed hA hB hO (cn (fun hE hK => zC rfl) .nil) ?zk3
 intro a3 w3 hA hE hB HF; refine kr5 HF q0 q1 q2 q3 q9 ?_; clear q0 q1 q2 q3 q9; intro q0 q1 q2 q3 q9; have q10 := ksv (HF 10) rfl rfl rfl; clear HF; replace h_0 := vx h_0 hE; clear hE; refine zE (zB ?_)
 refine zY (fun a w => ∃ (O28 : Tags) (x26 : Int) (x27 : Int), a.fit 80 ∧ Base (Fr w0) O w0 O28 w ∧ a.get 3 = .bool x_3 ∧ a.get 9 = .int .i64 x26 ∧ a.get 10 = .int .i64 x27 ∧ (kG x_3 x26 x27).run n = some y) ?_ ?_
 ·
  refine wp_seq ?_
  refine' rb [_] mixed hA hB hO (cn (fun hE hK => zC rfl) .nil) ?zk4
  intro a4 w4 hA hE hB HF; refine kr6 HF q0 q1 q2 q3 q9 q10 ?_; clear q0 q1 q2 q3 q9 q10; intro q0 q1 q2 q3 q9 q10; have q11 := ksv (HF 11) rfl rfl rfl; clear HF; replace h_0 := vx h_0 hE; clear hE; refine zE (zB (wp_block ?_))
  obtain ⟨e2, he2, hk2⟩ := Comp.run_bind h; clear h
  refine yt (fun m a w => ∃ (O4 : Tags) (x1 : Int) (x2 : Int) (x3 : Int), a.fit 80 ∧ Base (Fr w0) O w0 O4 w ∧ a.get 0 = v_0 ∧ (rSl zA).v O4 w v_0 x_0 ∧ a.get 1 = .int .i64 x_1 ∧ a.get 2 = .int .i64 x_2 ∧ a.get 3 = .bool x_3 ∧ a.get 9 = .int .i64 x1 ∧ a.get 10 = .int .i64 x2 ∧ a.get 11 = .int .i64 x3 ∧ Comp.loopN (fun s => vp x_0 x_1 x_2 s.1 s.2.1 s.2.2) n m (x1, x2, x3) = some e2) (m := n) ?st2 ?_
  case st2 =>
   exact ⟨_, _, _, _, hA, hB, q0, h_0, q1, q2, q3, q9, q10, q11, Comp.zk he2⟩
  intro m_ a5 w5 hI
  clear hA hB he2 q0 q1 q2 q3 q9 q10 q11 h_0
  obtain ⟨O4, x1, x2, x3, hA, hB, q0, h_0, q1, q2, q3, q9, q10, q11, hl⟩ := hI
  obtain ⟨m2, hlt2, st2, h, hnext2, hdone2⟩ := Comp.zZ hl; clear hl
  replace h : (vp x_0 x_1 x_2 x1 x2 x3).run n = some st2 := h
  unfold vp at h; refine wp_seq (wp_seq ?_)
  refine' rb [_, _, _, _] mixed hA hB hO (mv q11 (mv q0 (cn (fun hE hK => zg (r := zA) ty27 (ks 1 hK 15 rfl) (rd_of (vx h_0 hE))) (cn (fun hE hK => zy (ks 0 hK 14 rfl) (ks 2 hK 16 rfl)) .nil)))) ?zk5
  intro a6 w6 hA hE hB HF; refine kr7 HF q0 q1 q2 q3 q9 q10 q11 ?_; clear q0 q1 q2 q3 q9 q10 q11; intro q0 q1 q2 q3 q9 q10 q11; have q17 := ksv (HF 17) rfl rfl rfl; clear HF; replace h_0 := vx h_0 hE; clear hE; refine zE (zB ?_)
  revert h; refine cnd q17 (fun h => ?_) (fun h => ?_)
  ·
   refine wp_skip (zB ?_)
   refine zY (fun a w => ∃ (O21 : Tags) (x14 : Int) (x15 : Int), a.fit 80 ∧ Base (Fr w0) O w0 O21 w ∧ a.get 0 = v_0 ∧ (rSl zA).v O21 w v_0 x_0 ∧ a.get 1 = .int .i64 x_1 ∧ a.get 2 = .int .i64 x_2 ∧ a.get 3 = .bool x_3 ∧ a.get 9 = .int .i64 x14 ∧ a.get 10 = .int .i64 x15 ∧ a.get 11 = .int .i64 x3 ∧ (jF x3 x14 x15).run n = some st2) ?_ ?_
   ·
    refine wp_block (wp_seq ?_); obtain ⟨x5, hx5, h⟩ := Comp.run_bind h
    refine' rb [_, _, _, _, _, _] mixed hA hB hO (mv q1 (mv q11 (cn (fun hE hK => okl_shr (ks 0 hK 20 rfl) (ks 1 hK 21 rfl) (yY hx5)) (cn (fun hE hK => okb_and (ks 2 hK 22 rfl) rfl) (cn (fun hE hK => yO (ks 3 hK 23 rfl) rfl) (cn (fun hE hK => zC (ks 4 hK 24 rfl)) .nil)))))) ?zk6
    intro a7 w7 hA hE hB HF; refine kr7 HF q0 q1 q2 q3 q9 q10 q11 ?_; clear q0 q1 q2 q3 q9 q10 q11; intro q0 q1 q2 q3 q9 q10 q11; have q12 := ksv (HF 12) rfl rfl rfl; clear q17 HF; replace h_0 := vx h_0 hE; clear hE
    obtain ⟨x6, hx_, h⟩ := Comp.run_bind h; replace hx_ := Comp.run_pure hx_; rw [hx_] at q12; clear hx_
    refine zE (zB (wp_seq ?_)); obtain ⟨x7, hx7, h⟩ := Comp.run_bind h; obtain ⟨x8, hx8, h⟩ := Comp.run_bind h
    refine' rb [_, _, SP.ptr zA O4 x7, SP.ptr (rSl (rInt .i64)) O4 x7.Touched, SP.vl (rSl (rInt .i64)) O4 x7.Touched, _, SP.isv (.bool x8), _] mixed hA hB hO (mv q0 (mv q11 (cn (fun hE hK => zp (r := zA) (O := O4) ty27 ty33 rfl (ks 0 hK 25 rfl) (rd_of (vx h_0 hE)) (ks 1 hK 26 rfl) hx7) (cn (fun hE hK => jw (S := zA) rfl (fun _ => rfl) go fl33_4 rfl (kp (SP.ptr zA O4 x7) 2 hK 27 rfl)) (cn (fun hE hK => vC (r := (rSl (rInt .i64))) (fun _ => rfl) ty23 rfl rfl rfl (kp (SP.ptr (rSl (rInt .i64)) O4 x7.Touched) 3 hK 28 rfl)) (mv q2 (cn (fun hE hK => zz fn79 rfl (ks 5 hK 30 rfl) (ok_colletref43_has (OkO.ext hB.ok hE) (kp (SP.vl (rSl (rInt .i64)) O4 x7.Touched) 4 hK 29 rfl) hx8)) (cn (fun hE hK => zC (ks 6 hK 31 rfl)) .nil)))))))) ?zk7
    intro a8 w8 hA hE hB HF; refine kr8 HF q0 q1 q2 q3 q9 q10 q11 q12 ?_; clear q0 q1 q2 q3 q9 q10 q11 q12; intro q0 q1 q2 q3 q9 q10 q11 q12; have q13 := ksv (HF 13) rfl rfl rfl; clear HF; replace h_0 := vx h_0 hE; clear hE; refine zE (zB ?_)
    refine zY (fun a w => ∃ (O12 : Tags) (x11 : Int), a.fit 80 ∧ Base (Fr w0) O w0 O12 w ∧ a.get 0 = v_0 ∧ (rSl zA).v O12 w v_0 x_0 ∧ a.get 1 = .int .i64 x_1 ∧ a.get 2 = .int .i64 x_2 ∧ a.get 3 = .bool x_3 ∧ a.get 9 = .int .i64 x11 ∧ a.get 10 = .int .i64 x2 ∧ a.get 11 = .int .i64 x3 ∧ a.get 12 = .bool x6 ∧ a.get 13 = .bool x8 ∧ (jE x_0 x3 x2 x6 x_2 x8 x11).run n = some st2) ?_ ?_
    ·
     refine wp_seq ?_; obtain ⟨x9, hx9, h⟩ := Comp.run_bind h
     refine' rb [_, _, SP.ptr zA O4 x9, SP.ptr (rInt .i64) O4 x9.Kind, SP.isv (.int .i64 x9.Kind), _, _, _, _] mixed hA hB hO (mv q0 (mv q11 (cn (fun hE hK => zp (r := zA) (O := O4) ty27 ty33 rfl (ks 0 hK 32 rfl) (rd_of (vx h_0 hE)) (ks 1 hK 33 rfl) hx9) (cn (fun hE hK => jw (S := zA) rfl (fun _ => rfl) yS fl33_1 rfl (kp (SP.ptr zA O4 x9) 2 hK 34 rfl)) (cn (fun hE hK => za (rInt .i64) (fun _ => rfl) ty3 rfl rfl rfl (kp (SP.ptr (rInt .i64) O4 x9.Kind) 3 hK 35 rfl) (fun _ _ _ h => zU.1 h)) (cn (fun hE hK => yO (ks 4 hK 36 rfl) rfl) (cn (fun hE hK => zJ (ks 5 hK 37 rfl)) (mv q12 (cn (fun hE hK => zV (ks 6 hK 38 rfl) (fun hb => kg 7 hK 39 rfl (zf rfl rfl hb)) (fun _ => rfl)) .nil))))))))) ?zk8
     intro a9 w9 hA hE hB HF; refine kr9 HF q0 q1 q2 q3 q9 q10 q11 q12 q13 ?_; clear q0 q1 q2 q3 q9 q10 q11 q12 q13; intro q0 q1 q2 q3 q9 q10 q11 q12 q13; have q40 := ksv (HF 40) rfl rfl rfl; clear HF; replace h_0 := vx h_0 hE; clear hE
     obtain ⟨x10, hx_, h⟩ := Comp.run_bind h; replace hx_ := Comp.run_pure hx_; rw [hx_] at q40; clear hx_
     refine zE (zB ?_)
     revert h; refine cnd q40 (fun h => ?_) (fun h => ?_)
     ·
      refine wp_seq ?_
      refine' rb [_] mixed hA hB hO (cn (fun hE hK => zC rfl) .nil) ?zk9
      intro a10 w10 hA hE hB HF; refine kr8 HF q0 q1 q2 q3 q10 q11 q12 q13 ?_; clear q0 q1 q2 q3 q10 q11 q12 q13; intro q0 q1 q2 q3 q10 q11 q12 q13; replace q9 := ksv (HF 9) rfl rfl rfl; clear q40 HF; replace h_0 := vx h_0 hE; clear hE; refine zE (zB (wp_seq ?_))
      refine' rb [_] mixed hA hB hO (mv q13 .nil) ?zk10
      intro a11 w11 hA hE hB HF; refine kr9 HF q0 q1 q2 q3 q9 q10 q11 q12 q13 ?_; clear q0 q1 q2 q3 q9 q10 q11 q12 q13; intro q0 q1 q2 q3 q9 q10 q11 q12 q13; have q41 := ksv (HF 41) rfl rfl rfl; clear HF; replace h_0 := vx h_0 hE; clear hE; refine zE (zB ?_)
      revert h; refine cnd q41 (fun h => ?_) (fun h => ?_)
      ·
       refine' rb [_] mixed hA hB hO (cn (fun hE hK => zC rfl) .nil) ?zk11
       intro a12 w12 hA hE hB HF; refine kr8 HF q0 q1 q2 q3 q10 q11 q12 q13 ?_; clear q0 q1 q2 q3 q10 q11 q12 q13; intro q0 q1 q2 q3 q10 q11 q12 q13; replace q9 := ksv (HF 9) rfl rfl rfl; clear q41 HF; replace h_0 := vx h_0 hE; clear hE; refine zE (zB ?_)
       exact ⟨_, _, hA, hB, q0, h_0, q1, q2, q3, q9, q10, q11, q12, q13, h⟩
      ·
       refine wp_skip (zB ?_)
       exact ⟨_, _, hA, hB, q0, h_0, q1, q2, q3, q9, q10, q11, q12, q13, h⟩
     ·
      refine wp_skip (zB ?_)
      exact ⟨_, _, hA, hB, q0, h_0, q1, q2, q3, q9, q10, q11, q12, q13, h⟩
    intro a13 w13 hI
    clear hA hB h q0 q1 q2 q3 q9 q10 q11 q12 q13 h_0
    obtain ⟨O12, x11, hA, hB, q0, h_0, q1, q2, q3, q9, q10, q11, q12, q13, h⟩ := hI
    unfold jE at h; refine wp_seq (wp_seq ?_); obtain ⟨x13, hx13, h⟩ := Comp.run_bind h
    refine' rb [_, _, SP.ptr zA O12 x13, SP.ptr (rInt .i64) O12 x13.Kind, SP.isv (.int .i64 x13.Kind), _] mixed hA hB hO (mv q0 (mv q11 (cn (fun hE hK => zp (r := zA) (O := O12) ty27 ty33 rfl (ks 0 hK 42 rfl) (rd_of (vx h_0 hE)) (ks 1 hK 43 rfl) hx13) (cn (fun hE hK => jw (S := zA) rfl (fun _ => rfl) yS fl33_1 rfl (kp (SP.ptr zA O12 x13) 2 hK 44 rfl)) (cn (fun hE hK => za (rInt .i64) (fun _ => rfl) ty3 rfl rfl rfl (kp (SP.ptr (rInt .i64) O12 x13.Kind) 3 hK 45 rfl) (fun _ _ _ h => zU.1 h)) (cn (fun hE hK => gR (ks 4 hK 46 rfl) rfl) .nil)))))) ?zk12
    intro a14 w14 hA hE hB HF; refine kr9 HF q0 q1 q2 q3 q9 q10 q11 q12 q13 ?_; clear q0 q1 q2 q3 q9 q10 q11 q12 q13; intro q0 q1 q2 q3 q9 q10 q11 q12 q13; have q47 := ksv (HF 47) rfl rfl rfl; clear HF; replace h_0 := vx h_0 hE; clear hE; refine zE (zB ?_)
    revert h; refine cnd q47 (fun h => ?_) (fun h => ?_)
    ·
     refine wp_exit (zT (zw (zB ?_)))
     exact ⟨_, _, _, hA, hB, q0, h_0, q1, q2, q3, q9, q10, q11, h⟩
    ·
     refine wp_skip (zB ?_)
     refine zY (fun a w => ∃ (O19 : Tags) (x18 : Int), a.fit 80 ∧ Base (Fr w0) O w0 O19 w ∧ a.get 0 = v_0 ∧ (rSl zA).v O19 w v_0 x_0 ∧ a.get 1 = .int .i64 x_1 ∧ a.get 2 = .int .i64 x_2 ∧ a.get 3 = .bool x_3 ∧ a.get 9 = .int .i64 x11 ∧ a.get 10 = .int .i64 x18 ∧ a.get 11 = .int .i64 x3 ∧ a.get 12 = .bool x6 ∧ a.get 13 = .bool x8 ∧ (kF x6 x8 x3 x11 x18).run n = some st2) ?_ ?_
     ·
      refine wp_seq ?_; obtain ⟨x16, hx16, h⟩ := Comp.run_bind h; obtain ⟨x17, hx17, h⟩ := Comp.run_bind h
      refine' rb [_, _, _, _, SP.ptr zA O12 x16, SP.ptr (rSl (rInt .i64)) O12 x16.Sure, SP.vl (rSl (rInt .i64)) O12 x16.Sure, _, SP.isv (.bool x17), _] mixed hA hB hO (mv q12 (cn (fun hE hK => zJ (ks 0 hK 48 rfl)) (mv q0 (mv q11 (.cons (fun _ _ hE hK hg => zp (r := zA) (O := O12) ty27 ty33 rfl (kg 2 hK 50 rfl hg) (rd_of (vx h_0 hE)) (kg 3 hK 51 rfl hg) (zr hx16 hg)) (.cons (fun _ _ hE hK hg => jw (S := zA) rfl (fun _ => rfl) gp fl33_3 rfl (kspS (φ := SP.ptr zA O12 x16) (j := 4) (hK 52 rfl) rfl rfl hg)) (.cons (fun _ _ hE hK hg => vC (r := (rSl (rInt .i64))) (fun _ => rfl) ty23 rfl rfl rfl (kspS (φ := SP.ptr (rSl (rInt .i64)) O12 x16.Sure) (j := 5) (hK 53 rfl) rfl rfl hg)) (mv q2 (.cons (fun _ _ hE hK hg => zz fn79 rfl (kg 7 hK 55 rfl hg) (ok_colletref43_has (OkO.ext hB.ok hE) (kspS (φ := SP.vl (rSl (rInt .i64)) O12 x16.Sure) (j := 6) (hK 54 rfl) rfl rfl hg) (zr hx17 hg))) (cn (fun hE hK => zV (ks 1 hK 49 rfl) (fun hb => kg 8 hK 56 rfl (zf rfl rfl hb)) (fun _ => rfl)) .nil)))))))))) ?zk13
      intro a15 w15 hA hE hB HF; refine kr9 HF q0 q1 q2 q3 q9 q10 q11 q12 q13 ?_; clear q0 q1 q2 q3 q9 q10 q11 q12 q13; intro q0 q1 q2 q3 q9 q10 q11 q12 q13; have q57 := ksv (HF 57) rfl rfl rfl; clear q47 HF; replace h_0 := vx h_0 hE; clear hE; refine zE (zB ?_)
      revert h; refine cnd q57 (fun h => ?_) (fun h => ?_)
      ·
       refine' rb [_] mixed hA hB hO (cn (fun hE hK => zC rfl) .nil) ?zk14
       intro a16 w16 hA hE hB HF; refine kr8 HF q0 q1 q2 q3 q9 q11 q12 q13 ?_; clear q0 q1 q2 q3 q9 q11 q12 q13; intro q0 q1 q2 q3 q9 q11 q12 q13; replace q10 := ksv (HF 10) rfl rfl rfl; clear q57 HF; replace h_0 := vx h_0 hE; clear hE; refine zE (zB ?_)
       exact ⟨_, _, hA, hB, q0, h_0, q1, q2, q3, q9, q10, q11, q12, q13, h⟩
      ·
       refine wp_skip (zB ?_)
       exact ⟨_, _, hA, hB, q0, h_0, q1, q2, q3, q9, q10, q11, q12, q13, h⟩
     intro a17 w17 hI
     clear hA hB h q0 q1 q2 q3 q9 q10 q11 q12 q13 q47 h_0
     obtain ⟨O19, x18, hA, hB, q0, h_0, q1, q2, q3, q9, q10, q11, q12, q13, h⟩ := hI
     unfold kF at h; refine wp_seq ?_
     refine' rb [_, _, _, _, _, _, _, _, _] mixed hA hB hO (mv q10 (cn (fun hE hK => yO (ks 0 hK 58 rfl) rfl) (cn (fun hE hK => zJ (ks 1 hK 59 rfl)) (mv q12 (.cons (fun _ _ hE hK hg => jz (kg 3 hK 61 rfl hg)) (.cons (fun _ _ hE hK hg => zJ (kg 4 hK 62 rfl hg)) (mv q13 (.cons (fun _ _ hE hK hg => zV (kg 5 hK 63 rfl hg) (fun _ => rfl) (fun hb => kg 6 hK 64 rfl (zf rfl hg hb))) (cn (fun hE hK => zV (ks 2 hK 60 rfl) (fun hb => kg 7 hK 65 rfl (zf rfl rfl hb)) (fun _ => rfl)) .nil))))))))) ?zk15
     intro a18 w18 hA hE hB HF; refine kr7 HF q0 q1 q2 q3 q9 q10 q11 ?_; clear q0 q1 q2 q3 q9 q10 q11; intro q0 q1 q2 q3 q9 q10 q11; have q66 := ksv (HF 66) rfl rfl rfl; clear q12 q13 HF; replace h_0 := vx h_0 hE; clear hE
     obtain ⟨x20, hx_, h⟩ := Comp.run_bind h; replace hx_ := Comp.run_pure hx_; rw [hx_] at q66; clear hx_
     refine zE (zB ?_)
     revert h; refine cnd q66 (fun h => ?_) (fun h => ?_)
     ·
      refine' rb [_] mixed hA hB hO (cn (fun hE hK => zC rfl) .nil) ?zk16
      intro a19 w19 hA hE hB HF; refine kr6 HF q0 q1 q2 q3 q9 q11 ?_; clear q0 q1 q2 q3 q9 q11; intro q0 q1 q2 q3 q9 q11; replace q10 := ksv (HF 10) rfl rfl rfl; clear q66 HF; replace h_0 := vx h_0 hE; clear hE; refine zE (zm (zB ?_))
      exact ⟨_, _, _, hA, hB, q0, h_0, q1, q2, q3, q9, q10, q11, h⟩
     ·
      refine wp_skip (zm (zB ?_))
      exact ⟨_, _, _, hA, hB, q0, h_0, q1, q2, q3, q9, q10, q11, h⟩
   intro a20 w20 hI
   clear hA hB h q0 q1 q2 q3 q9 q10 q11 q17 h_0
   obtain ⟨O21, x14, x15, hA, hB, q0, h_0, q1, q2, q3, q9, q10, q11, h⟩ := hI
   unfold jF at h
   refine' rb [_, _, _] mixed hA hB hO (mv q11 (cn (fun hE hK => yP (ks 0 hK 18 rfl) rfl) (cn (fun hE hK => zC (ks 1 hK 19 rfl)) .nil))) ?zk17
   intro a21 w21 hA hE hB HF; refine kr6 HF q0 q1 q2 q3 q9 q10 ?_; clear q0 q1 q2 q3 q9 q10; intro q0 q1 q2 q3 q9 q10; replace q11 := ksv (HF 11) rfl rfl rfl; clear HF; replace h_0 := vx h_0 hE; clear hE; refine zE (zB ?_)
   have h := hnext2 _ (Comp.run_pure h).symm
   refine ⟨m2, hlt2, ?_⟩
   exact ⟨_, _, _, _, hA, hB, q0, h_0, q1, q2, q3, q9, q10, q11, h⟩
  ·
   refine wp_exit (zT (zT (zw ?_)))
   have hd_ := hdone2 _ (Comp.run_pure h).symm; clear h
   subst hd_; have h := hk2; clear hk2; try dsimp only at h
   refine zB ?_
   exact ⟨_, _, _, hA, hB, q3, q9, q10, h⟩
 intro a22 w22 hI
 clear hA hB h q0 q1 q2 q3 q9 q10 h_0
 obtain ⟨O28, x26, x27, hA, hB, q3, q9, q10, h⟩ := hI
 unfold kG at h; refine wp_seq (wp_seq ?_)
 refine' rb [_] mixed hA hB hO (mv q3 .nil) ?zk18
 intro a23 w23 hA hE hB HF; replace q9 := kf HF q9; replace q10 := kf HF q10; have q67 := ksv (HF 67) rfl rfl rfl; clear q3 HF; clear hE; refine zE (zB ?_)
 revert h; refine cnd q67 (fun h => ?_) (fun h => ?_)
 ·
  refine wp_seq ?_
  refine' rb [_, _, _, _, _, _, _] mixed hA hB hO (mv q9 (cn (fun hE hK => ok_geq (ks 0 hK 68 rfl) rfl) (cn (fun hE hK => zJ (ks 1 hK 69 rfl)) (mv q10 (.cons (fun _ _ hE hK hg => ok_leq (kg 3 hK 71 rfl hg) rfl) (cn (fun hE hK => zV (ks 2 hK 70 rfl) (fun hb => kg 4 hK 72 rfl (zf rfl rfl hb)) (fun _ => rfl)) (cn (fun hE hK => zC (ks 5 hK 73 rfl)) .nil))))))) ?zk19
  intro a24 w24 hA hE hB HF; have q8 := ksv (HF 8) rfl rfl rfl; clear q9 q10 q67 HF; clear hE
  obtain ⟨x29, hx_, h⟩ := Comp.run_bind h; replace hx_ := Comp.run_pure hx_; rw [hx_] at q8; clear hx_
  refine zE (zB (wp_ret (zN ?_)))
  have h := Comp.run_pure h; subst h
  exact zb Try.results64 hA q8 hB.ext rfl
 ·
  refine wp_skip (zB (wp_seq ?_))
  refine' rb [_, _, _, _, _, _, _] mixed hA hB hO (mv q9 (cn (fun hE hK => ok_leq (ks 0 hK 74 rfl) rfl) (cn (fun hE hK => zJ (ks 1 hK 75 rfl)) (mv q10 (.cons (fun _ _ hE hK hg => ok_geq (kg 3 hK 77 rfl hg) rfl) (cn (fun hE hK => zV (ks 2 hK 76 rfl) (fun _ => rfl) (fun hb => kg 4 hK 78 rfl (zf rfl rfl hb))) (cn (fun hE hK => zC (ks 5 hK 79 rfl)) .nil))))))) ?zk20
  intro a25 w25 hA hE hB HF; have q8 := ksv (HF 8) rfl rfl rfl; clear q9 q10 q67 HF; clear hE
  obtain ⟨x30, hx_, h⟩ := Comp.run_bind h; replace hx_ := Comp.run_pure hx_; rw [hx_] at q8; clear hx_
  refine zE (zB (wp_ret ?_))
  have h := Comp.run_pure h; subst h
  exact zb Try.results64 hA q8 hB.ext rfl
theorem ok_colletref43_agrees {O : Tags} {w0 : World} (hO : OkO O w0) {v_0 : Value} {x_0 : List api_Claim} (h_0 : (rSl zA).v O w0 v_0 x_0) {v_1 : Value} {x_1 : List api_Sight} (h_1 : (rSl zD).v O w0 v_1 x_1) {x_2 : Int} {x_3 : Int} {n : Nat} {y : Bool} (h : (jG x_0 x_1 x_2 x_3).run n = some y) : Pure Try.prog 42 #[v_0, v_1, .int .i64 x_2, .int .i64 x_3] w0 (SP.isv (.bool y)).holds := by
 unfold jG at h
 refine zW Try.func42 rfl 51 Try.ntmps42 (by simp) fun a0 hA hs0 => ?_
 have q0 : a0.get 0 = v_0 := hs0 0 _ rfl
 have q1 : a0.get 1 = v_1 := hs0 1 _ rfl
 have q2 : a0.get 2 = .int .i64 x_2 := hs0 2 _ rfl
 have q3 : a0.get 3 = .int .i64 x_3 := hs0 3 _ rfl
 clear hs0
 have hB : Base (Fr w0) O w0 O w0 := Base.start hO
 refine wp_seq ?_
 refine' rb [_] mixed hA hB hO (cn (fun hE hK => zC rfl) .nil) ?zk1
 intro a1 w1 hA hE hB HF; refine kr4 HF q0 q1 q2 q3 ?_; clear q0 q1 q2 q3; intro q0 q1 q2 q3; clear HF; replace h_0 := vx h_0 hE; replace h_1 := vx h_1 hE; clear hE; refine zE (zB ?_)
 refine zY (fun a w => ∃ (O9 : Tags), a.fit 51 ∧ Base (Fr w0) O w0 O9 w ∧ (kJ ).run n = some y) ?_ ?_
 ·
  refine wp_seq ?_
  refine' rb [_] mixed hA hB hO (cn (fun hE hK => zC rfl) .nil) ?zk2
  intro a2 w2 hA hE hB HF; refine kr4 HF q0 q1 q2 q3 ?_; clear q0 q1 q2 q3; intro q0 q1 q2 q3; have q9 := ksv (HF 9) rfl rfl rfl; clear HF; replace h_0 := vx h_0 hE; replace h_1 := vx h_1 hE; clear hE; refine zE (zB (wp_block ?_))
  obtain ⟨e2, he2, hk2⟩ := Comp.run_bind h; clear h
  refine yt (fun m a w => ∃ (O2 : Tags) (x1 : Int), a.fit 51 ∧ Base (Fr w0) O w0 O2 w ∧ a.get 0 = v_0 ∧ (rSl zA).v O2 w v_0 x_0 ∧ a.get 1 = v_1 ∧ (rSl zD).v O2 w v_1 x_1 ∧ a.get 2 = .int .i64 x_2 ∧ a.get 3 = .int .i64 x_3 ∧ a.get 9 = .int .i64 x1 ∧ Comp.loopN (fun s => yn x_2 x_0 x_1 x_3 s) n m x1 = some e2) (m := n) ?st2 ?_
  case st2 =>
   exact ⟨_, _, hA, hB, q0, h_0, q1, h_1, q2, q3, q9, Comp.zk he2⟩
  intro m_ a3 w3 hI
  clear hA hB he2 q0 q1 q2 q3 q9 h_0 h_1
  obtain ⟨O2, x1, hA, hB, q0, h_0, q1, h_1, q2, q3, q9, hl⟩ := hI
  obtain ⟨m2, hlt2, st2, h, hnext2, hdone2⟩ := Comp.zZ hl; clear hl
  replace h : (yn x_2 x_0 x_1 x_3 x1).run n = some st2 := h
  unfold yn at h; refine wp_seq (wp_seq ?_)
  refine' rb [_, _, _] mixed hA hB hO (mv q9 (mv q2 (cn (fun hE hK => zy (ks 0 hK 12 rfl) (ks 1 hK 13 rfl)) .nil))) ?zk3
  intro a4 w4 hA hE hB HF; refine kr5 HF q0 q1 q2 q3 q9 ?_; clear q0 q1 q2 q3 q9; intro q0 q1 q2 q3 q9; have q14 := ksv (HF 14) rfl rfl rfl; clear HF; replace h_0 := vx h_0 hE; replace h_1 := vx h_1 hE; clear hE; refine zE (zB ?_)
  revert h; refine cnd q14 (fun h => ?_) (fun h => ?_)
  ·
   refine wp_skip (zB (wp_seq (wp_block (wp_seq ?_)))); obtain ⟨x3, hx3, h⟩ := Comp.run_bind h
   refine' rb [_, _, _, _, SP.isv (.bool x3), _] mixed hA hB hO (mv q0 (mv q1 (mv q3 (mv q9 (cn (fun hE hK => ok_call5 fn63 (ks 0 hK 17 rfl) (ks 1 hK 18 rfl) (ks 2 hK 19 rfl) (ks 3 hK 20 rfl) rfl (ok_colletref43_said (OkO.ext hB.ok hE) (vx h_0 hE) (vx h_1 hE) hx3)) (cn (fun hE hK => zC (ks 4 hK 21 rfl)) .nil)))))) ?zk4
   intro a5 w5 hA hE hB HF; refine kr5 HF q0 q1 q2 q3 q9 ?_; clear q0 q1 q2 q3 q9; intro q0 q1 q2 q3 q9; have q10 := ksv (HF 10) rfl rfl rfl; clear q14 HF; replace h_0 := vx h_0 hE; replace h_1 := vx h_1 hE; clear hE; refine zE (zB (wp_seq ?_)); obtain ⟨x4, hx4, h⟩ := Comp.run_bind h
   refine' rb [_, _, _, _, SP.isv (.bool x4), _] mixed hA hB hO (mv q0 (mv q1 (mv q3 (mv q9 (cn (fun hE hK => ok_call5 fn63 (ks 0 hK 22 rfl) (ks 1 hK 23 rfl) (ks 2 hK 24 rfl) (ks 3 hK 25 rfl) rfl (ok_colletref43_said (OkO.ext hB.ok hE) (vx h_0 hE) (vx h_1 hE) hx4)) (cn (fun hE hK => zC (ks 4 hK 26 rfl)) .nil)))))) ?zk5
   intro a6 w6 hA hE hB HF; refine kr6 HF q0 q1 q2 q3 q9 q10 ?_; clear q0 q1 q2 q3 q9 q10; intro q0 q1 q2 q3 q9 q10; have q11 := ksv (HF 11) rfl rfl rfl; clear HF; replace h_0 := vx h_0 hE; replace h_1 := vx h_1 hE; clear hE; refine zE (zB (wp_seq ?_)); obtain ⟨x5, hx5, h⟩ := Comp.run_bind h; obtain ⟨x6, hx6, h⟩ := Comp.run_bind h
   refine' rb [_, _, _, _, _, _, _, _, _, _, SP.isv (.bool x5), _, _, _, _, _, _, _, _, _, SP.isv (.bool x6), _, _, _] mixed hA hB hO (mv q10 (cn (fun hE hK => zJ (ks 0 hK 27 rfl)) (mv q11 (cn (fun hE hK => zV (ks 1 hK 28 rfl) (fun hb => kg 2 hK 29 rfl (zf rfl rfl hb)) (fun _ => rfl)) (cn (fun hE hK => zJ (ks 3 hK 30 rfl)) (mv q10 (.cons (fun _ _ hE hK hg => zJ (kg 5 hK 32 rfl hg)) (mv q0 (mv q3 (mv q9 (.cons (fun _ _ hE hK hg => kV fn64 (kg 7 hK 34 rfl hg) (kg 8 hK 35 rfl hg) (kg 9 hK 36 rfl hg) rfl (ok_colletref43_can (OkO.ext hB.ok hE) (vx h_0 hE) (zr hx5 hg))) (.cons (fun _ _ hE hK hg => jz (kg 10 hK 37 rfl hg)) (.cons (fun _ _ hE hK hg => zV (kg 6 hK 33 rfl hg) (fun hb => kg 11 hK 38 rfl (zf rfl hg hb)) (fun _ => rfl)) (cn (fun hE hK => zV (ks 4 hK 31 rfl) (fun _ => rfl) (fun hb => kg 12 hK 39 rfl (zf rfl rfl hb))) (cn (fun hE hK => zJ (ks 13 hK 40 rfl)) (mv q11 (.cons (fun _ _ hE hK hg => zJ (kg 15 hK 42 rfl hg)) (mv q0 (mv q3 (mv q9 (.cons (fun _ _ hE hK hg => kV fn64 (kg 17 hK 44 rfl hg) (kg 18 hK 45 rfl hg) (kg 19 hK 46 rfl hg) rfl (ok_colletref43_can (OkO.ext hB.ok hE) (vx h_0 hE) (zr hx6 hg))) (.cons (fun _ _ hE hK hg => jz (kg 20 hK 47 rfl hg)) (.cons (fun _ _ hE hK hg => zV (kg 16 hK 43 rfl hg) (fun hb => kg 21 hK 48 rfl (zf rfl hg hb)) (fun _ => rfl)) (cn (fun hE hK => zV (ks 14 hK 41 rfl) (fun _ => rfl) (fun hb => kg 22 hK 49 rfl (zf rfl rfl hb))) .nil)))))))))))))))))))))))) ?zk6
   intro a7 w7 hA hE hB HF; refine kr5 HF q0 q1 q2 q3 q9 ?_; clear q0 q1 q2 q3 q9; intro q0 q1 q2 q3 q9; have q50 := ksv (HF 50) rfl rfl rfl; clear q10 q11 HF; replace h_0 := vx h_0 hE; replace h_1 := vx h_1 hE; clear hE
   obtain ⟨x7, hx_, h⟩ := Comp.run_bind h; replace hx_ := Comp.run_pure hx_; rw [hx_] at q50; clear hx_
   refine zE (zB ?_)
   revert h; refine cnd q50 (fun h => ?_) (fun h => ?_)
   ·
    refine wp_seq ?_
    refine' rb [_] mixed hA hB hO (cn (fun hE hK => zC rfl) .nil) ?zk7
    intro a8 w8 hA hE hB HF; have q8 := ksv (HF 8) rfl rfl rfl; clear q0 q1 q2 q3 q9 q50 HF; replace h_0 := vx h_0 hE; replace h_1 := vx h_1 hE; clear hE; refine zE (zB (wp_ret (yA (zN (zN (yA (zN ?_)))))))
    have hd_ := hdone2 _ (Comp.run_pure h).symm; clear h
    subst hd_; have h := hk2; clear hk2; try dsimp only at h
    have h := Comp.run_pure h; subst h
    exact zb Try.results42 hA q8 hB.ext rfl
   ·
    refine wp_skip (zm (zB ?_))
    refine' rb [_, _, _] mixed hA hB hO (mv q9 (cn (fun hE hK => yP (ks 0 hK 15 rfl) rfl) (cn (fun hE hK => zC (ks 1 hK 16 rfl)) .nil))) ?zk8
    intro a9 w9 hA hE hB HF; refine kr4 HF q0 q1 q2 q3 ?_; clear q0 q1 q2 q3; intro q0 q1 q2 q3; replace q9 := ksv (HF 9) rfl rfl rfl; clear q50 HF; replace h_0 := vx h_0 hE; replace h_1 := vx h_1 hE; clear hE; refine zE (zB ?_)
    have h := hnext2 _ (Comp.run_pure h).symm
    refine ⟨m2, hlt2, ?_⟩
    exact ⟨_, _, hA, hB, q0, h_0, q1, h_1, q2, q3, q9, h⟩
  ·
   refine wp_exit (zT (zT (zw ?_)))
   have hd_ := hdone2 _ (Comp.run_pure h).symm; clear h
   subst hd_; have h := hk2; clear hk2; try dsimp only at h
   refine zB ?_
   exact ⟨_, hA, hB, h⟩
 intro a10 w10 hI
 clear hA hB h q0 q1 q2 q3 h_0 h_1
 obtain ⟨O9, hA, hB, h⟩ := hI
 unfold kJ at h; refine wp_seq ?_
 refine' rb [_] mixed hA hB hO (cn (fun hE hK => zC rfl) .nil) ?zk9
 intro a11 w11 hA hE hB HF; have q8 := ksv (HF 8) rfl rfl rfl; clear HF; clear hE; refine zE (zB (wp_ret ?_))
 have h := Comp.run_pure h; subst h
 exact zb Try.results42 hA q8 hB.ext rfl
theorem ok_colletref43_Agrees {O : Tags} {w0 : World} (hO : OkO O w0) {v_0 : Value} {x_0 : List api_Claim} (h_0 : (rSl zA).v O w0 v_0 x_0) {v_1 : Value} {x_1 : List api_Sight} (h_1 : (rSl zD).v O w0 v_1 x_1) {x_2 : Int} {x_3 : Int} {n : Nat} {y : Bool} (h : (kN x_0 x_1 x_2 x_3).run n = some y) : Pure Try.prog 16 #[v_0, v_1, .int .i64 x_2, .int .i64 x_3] w0 (SP.isv (.bool y)).holds := by
 unfold kN at h
 refine zW Try.func16 rfl 32 Try.ntmps16 (by simp) fun a0 hA hs0 => ?_
 have q0 : a0.get 0 = v_0 := hs0 0 _ rfl
 have q1 : a0.get 1 = v_1 := hs0 1 _ rfl
 have q2 : a0.get 2 = .int .i64 x_2 := hs0 2 _ rfl
 have q3 : a0.get 3 = .int .i64 x_3 := hs0 3 _ rfl
 clear hs0
 have hB : Base (Fr w0) O w0 O w0 := Base.start hO
 refine wp_seq ?_
 refine' rb [_] mixed hA hB hO (cn (fun hE hK => zC rfl) .nil) ?zk1
 intro a1 w1 hA hE hB HF; refine kr4 HF q0 q1 q2 q3 ?_; clear q0 q1 q2 q3; intro q0 q1 q2 q3; clear HF; replace h_0 := vx h_0 hE; replace h_1 := vx h_1 hE; clear hE; refine zE (zB (wp_seq ?_)); obtain ⟨x1, hx1, h⟩ := Comp.run_bind h; obtain ⟨x2, hx2, h⟩ := Comp.run_bind h; obtain ⟨x3, hx3, h⟩ := Comp.run_bind h
 refine' rb [_, _, _, SP.isv (.int .i64 x1), _, _, _, _, _, _, _, _, _, _, _, _, _, _, _, _, _, SP.isv (.bool x3), _, _] mixed hA hB hO (mv q0 (mv q1 (mv q2 (cn (fun hE hK => vR fn14 (ks 0 hK 9 rfl) (ks 1 hK 10 rfl) (ks 2 hK 11 rfl) (ok_colletref43_Check (OkO.ext hB.ok hE) (vx h_0 hE) (vx h_1 hE) hx1)) (cn (fun hE hK => yO (ks 3 hK 12 rfl) rfl) (cn (fun hE hK => zJ (ks 4 hK 13 rfl)) (mv q3 (.cons (fun _ _ hE hK hg => ok_geq (kg 6 hK 15 rfl hg) rfl) (cn (fun hE hK => zV (ks 5 hK 14 rfl) (fun hb => kg 7 hK 16 rfl (zf rfl rfl hb)) (fun _ => rfl)) (cn (fun hE hK => zJ (ks 8 hK 17 rfl)) (mv q3 (mv q0 (.cons (fun _ _ hE hK hg => zg (r := zA) ty27 (kg 11 hK 20 rfl hg) (rd_of (vx h_0 hE))) (.cons (fun _ _ hE hK hg => okl_shl rfl (kg 12 hK 21 rfl hg) (yY (zr hx2 hg))) (.cons (fun _ _ hE hK hg => zy (kg 10 hK 19 rfl hg) (kg 13 hK 22 rfl hg)) (cn (fun hE hK => zV (ks 9 hK 18 rfl) (fun hb => kg 14 hK 23 rfl (zf rfl rfl hb)) (fun _ => rfl)) (cn (fun hE hK => zJ (ks 15 hK 24 rfl)) (mv q0 (mv q1 (mv q2 (mv q3 (.cons (fun _ _ hE hK hg => kV fn42 (kg 17 hK 26 rfl hg) (kg 18 hK 27 rfl hg) (kg 19 hK 28 rfl hg) (kg 20 hK 29 rfl hg) (ok_colletref43_agrees (OkO.ext hB.ok hE) (vx h_0 hE) (vx h_1 hE) (zr hx3 hg))) (cn (fun hE hK => zV (ks 16 hK 25 rfl) (fun hb => kg 21 hK 30 rfl (zf rfl rfl hb)) (fun _ => rfl)) (cn (fun hE hK => zC (ks 22 hK 31 rfl)) .nil)))))))))))))))))))))))) ?zk2
 intro a2 w2 hA hE hB HF; have q8 := ksv (HF 8) rfl rfl rfl; clear q0 q1 q2 q3 HF; replace h_0 := vx h_0 hE; replace h_1 := vx h_1 hE; clear hE
 obtain ⟨x4, hx_, h⟩ := Comp.run_bind h; replace hx_ := Comp.run_pure hx_; rw [hx_] at q8; clear hx_
 refine zE (zB (wp_ret ?_))
 have h := Comp.run_pure h; subst h
 exact zb Try.results16 hA q8 hB.ext rfl
theorem ok_colletref32_Conflicts {O : Tags} {w0 : World} (hO : OkO O w0) {v_0 : Value} {x_0 : List Bool} (h_0 : (rSl rBool).v O w0 v_0 x_0) {n : Nat} {y : ((List Int) × Int)} (h : (yp x_0).run n = some y) : Pure Try.prog 52 #[v_0] w0 (SP.tup2 (SP.ownr (rInt .i64) 3 (w0.heap.size) O y.1) (SP.isv (.int .i64 y.2))).holds := by
 unfold yp at h
 refine zW Try.func52 rfl 73 Try.ntmps52 (by simp) fun a0 hA hs0 => ?_
 have q0 : a0.get 0 = v_0 := hs0 0 _ rfl
 clear hs0
 have hB : Base (Fr w0) O w0 O w0 := Base.start hO
 refine wp_seq ?_
 refine' rb [_, _] mixed hA hB hO (cn (fun hE hK => zC rfl) (cn (fun hE hK => zC rfl) .nil)) ?zk1
 intro a1 w1 hA hE hB HF; replace q0 := kf HF q0; clear HF; replace h_0 := vx h_0 hE; clear hE; refine zE (zB (wp_seq (wp_seq ?_)))
 refine' rb [_, _, _] mixed hA hB hO (mv q0 (cn (fun hE hK => zg (r := rBool) ty47 (ks 0 hK 9 rfl) (rd_of (vx h_0 hE))) (cn (fun hE hK => ok_gtr (ks 1 hK 10 rfl) rfl) .nil))) ?zk2
 intro a2 w2 hA hE hB HF; replace q0 := kf HF q0; have q11 := ksv (HF 11) rfl rfl rfl; clear HF; replace h_0 := vx h_0 hE; clear hE; refine zE (zB ?_)
 revert h; refine cnd q11 (fun h => ?_) (fun h => ?_)
 ·
  refine wp_seq ?_
  refine' rb [_, _] mixed hA hB hO (cn (fun hE hK => zC rfl) (cn (fun hE hK => zC rfl) .nil)) ?zk3
  intro a3 w3 hA hE hB HF; have q2 := ksv (HF 2) rfl rfl rfl; have q3 := ksv (HF 3) rfl rfl rfl; clear q0 q11 HF; replace h_0 := vx h_0 hE; clear hE; refine zE (zB (wp_ret (zN ?_)))
  have h := Comp.run_pure h; subst h
  exact vB Try.results52 hA q2 q3 hB.ext ⟨_, _, rfl, (OwnR.nil _ _ _ _ _), rfl⟩
 ·
  refine wp_skip (zB (wp_seq ?_))
  refine' rb [_] mixed hA hB hO (cn (fun hE hK => zC rfl) .nil) ?zk4
  intro a4 w4 hA hE hB HF; replace q0 := kf HF q0; have q4 := ksv (HF 4) rfl rfl rfl; clear q11 HF; replace h_0 := vx h_0 hE; clear hE; refine zE (zB ?_)
  refine zY (fun a w => ∃ (O8 : Tags) (x7 : Int), a.fit 73 ∧ Base (Fr w0) O w0 O8 w ∧ a.get 0 = v_0 ∧ (rSl rBool).v O8 w v_0 x_0 ∧ a.get 4 = .int .i64 x7 ∧ (vX x_0 x7).run n = some y) ?_ ?_
  ·
   refine wp_block ?_
   obtain ⟨e2, he2, hk2⟩ := Comp.run_bind h; clear h
   refine yt (fun m a w => ∃ (O2 : Tags) (x1 : Int), a.fit 73 ∧ Base (Fr w0) O w0 O2 w ∧ a.get 0 = v_0 ∧ (rSl rBool).v O2 w v_0 x_0 ∧ a.get 4 = .int .i64 x1 ∧ Comp.loopN (fun s => yR x_0 s) n m x1 = some e2) (m := n) ?st2 ?_
   case st2 =>
    exact ⟨_, _, hA, hB, q0, h_0, q4, Comp.zk he2⟩
   intro m_ a5 w5 hI
   clear hA hB he2 q0 q4 h_0
   obtain ⟨O2, x1, hA, hB, q0, h_0, q4, hl⟩ := hI
   obtain ⟨m2, hlt2, st2, h, hnext2, hdone2⟩ := Comp.zZ hl; clear hl
   replace h : (yR x_0 x1).run n = some st2 := h
   unfold yR at h; refine wp_seq (wp_seq ?_); obtain ⟨x3, hx3, h⟩ := Comp.run_bind h
   refine' rb [_, _, _, _, _] mixed hA hB hO (mv q4 (cn (fun hE hK => okl_shl rfl (ks 0 hK 12 rfl) (yY hx3)) (mv q0 (cn (fun hE hK => zg (r := rBool) ty47 (ks 2 hK 14 rfl) (rd_of (vx h_0 hE))) (cn (fun hE hK => zy (ks 1 hK 13 rfl) (ks 3 hK 15 rfl)) .nil))))) ?zk5
   intro a6 w6 hA hE hB HF; replace q0 := kf HF q0; replace q4 := kf HF q4; have q16 := ksv (HF 16) rfl rfl rfl; clear HF; replace h_0 := vx h_0 hE; clear hE
   obtain ⟨x4, hx_, h⟩ := Comp.run_bind h; replace hx_ := Comp.run_pure hx_; rw [hx_] at q16; clear hx_
   refine zE (zB ?_)
   revert h; refine cnd q16 (fun h => ?_) (fun h => ?_)
   ·
    refine wp_skip (zB (wp_block ?_))
    refine' rb [_, _, _] mixed hA hB hO (mv q4 (cn (fun hE hK => yP (ks 0 hK 17 rfl) rfl) (cn (fun hE hK => zC (ks 1 hK 18 rfl)) .nil))) ?zk6
    intro a7 w7 hA hE hB HF; replace q0 := kf HF q0; replace q4 := ksv (HF 4) rfl rfl rfl; clear q16 HF; replace h_0 := vx h_0 hE; clear hE; refine zE (zm (zB ?_))
    have h := hnext2 _ (Comp.run_pure h).symm
    refine ⟨m2, hlt2, ?_⟩
    exact ⟨_, _, hA, hB, q0, h_0, q4, h⟩
   ·
    refine wp_exit (zT (zT (zw ?_)))
    have hd_ := hdone2 _ (Comp.run_pure h).symm; clear h
    subst hd_; have h := hk2; clear hk2; try dsimp only at h
    refine zB ?_
    exact ⟨_, _, hA, hB, q0, h_0, q4, h⟩
  intro a8 w8 hI
  clear hA hB h q0 q4 h_0
  obtain ⟨O8, x7, hA, hB, q0, h_0, q4, h⟩ := hI
  unfold vX at h; refine wp_seq (wp_seq ?_); obtain ⟨x9, hx9, h⟩ := Comp.run_bind h
  refine' rb [_, _, _, _, _] mixed hA hB hO (mv q0 (cn (fun hE hK => zg (r := rBool) ty47 (ks 0 hK 19 rfl) (rd_of (vx h_0 hE))) (mv q4 (cn (fun hE hK => okl_shl rfl (ks 2 hK 21 rfl) (yY hx9)) (cn (fun hE hK => gR (ks 1 hK 20 rfl) (ks 3 hK 22 rfl)) .nil))))) ?zk7
  intro a9 w9 hA hE hB HF; replace q0 := kf HF q0; replace q4 := kf HF q4; have q23 := ksv (HF 23) rfl rfl rfl; clear HF; replace h_0 := vx h_0 hE; clear hE
  obtain ⟨x10, hx_, h⟩ := Comp.run_bind h; replace hx_ := Comp.run_pure hx_; rw [hx_] at q23; clear hx_
  refine zE (zB ?_)
  revert h; refine cnd q23 (fun h => ?_) (fun h => ?_)
  ·
   refine wp_seq ?_
   refine' rb [_, _] mixed hA hB hO (cn (fun hE hK => zC rfl) (cn (fun hE hK => zC rfl) .nil)) ?zk8
   intro a10 w10 hA hE hB HF; have q2 := ksv (HF 2) rfl rfl rfl; have q3 := ksv (HF 3) rfl rfl rfl; clear q0 q4 q23 HF; replace h_0 := vx h_0 hE; clear hE; refine zE (zB (wp_ret (zN ?_)))
   have h := Comp.run_pure h; subst h
   exact vB Try.results52 hA q2 q3 hB.ext ⟨_, _, rfl, (OwnR.nil _ _ _ _ _), rfl⟩
  ·
   refine wp_skip (zB (wp_seq ?_))
   refine' rb [_] mixed hA hB hO (cn (fun hE hK => zC rfl) .nil) ?zk9
   intro a11 w11 hA hE hB HF; replace q0 := kf HF q0; replace q4 := kf HF q4; have q5 := ksv (HF 5) rfl rfl rfl; clear q23 HF; replace h_0 := vx h_0 hE; clear hE; refine zE (zB ?_)
   refine zY (fun a w => ∃ (O46 : Tags) (x43 : List Int) (u44 : Value), a.fit 73 ∧ Base (Fr w0) O w0 O46 w ∧ a.get 5 = u44 ∧ OwnL 1 (rInt .i64) 3 (Fr w0) O46 w u44 x43 ∧ (gO x43).run n = some y) ?_ ?_
   ·
    refine wp_seq ?_
    refine' rb [_] mixed hA hB hO (cn (fun hE hK => zC rfl) .nil) ?zk10
    intro a12 w12 hA hE hB HF; refine kr3 HF q0 q4 q5 ?_; clear q0 q4 q5; intro q0 q4 q5; have q6 := ksv (HF 6) rfl rfl rfl; clear HF; replace h_0 := vx h_0 hE; clear hE; refine zE (zB (wp_block ?_))
    obtain ⟨e4, he4, hk4⟩ := Comp.run_bind h; clear h
    refine yt (fun m a w => ∃ (O15 : Tags) (x11 : List Int) (x14 : Int) (u12 : Value), a.fit 73 ∧ Base (Fr w0) O w0 O15 w ∧ a.get 0 = v_0 ∧ (rSl rBool).v O15 w v_0 x_0 ∧ a.get 4 = .int .i64 x7 ∧ a.get 5 = u12 ∧ OwnL 1 (rInt .i64) 3 (Fr w0) O15 w u12 x11 ∧ a.get 6 = .int .i64 x14 ∧ Comp.loopN (fun s => yJ x_0 x7 s.1 s.2) n m (x11, x14) = some e4) (m := n) ?st4 ?_
    case st4 =>
     exact ⟨_, _, _, _, hA, hB, q0, h_0, q4, q5, (OwnL.nil _ _ _ _ _ _), q6, Comp.zk he4⟩
    intro m_ a13 w13 hI
    clear hA hB he4 q0 q4 q5 q6 h_0
    obtain ⟨O15, x11, x14, u12, hA, hB, q0, h_0, q4, q5, f13, q6, hl⟩ := hI
    obtain ⟨m4, hlt4, st4, h, hnext4, hdone4⟩ := Comp.zZ hl; clear hl
    replace h : (yJ x_0 x7 x11 x14).run n = some st4 := h
    unfold yJ at h; refine wp_seq (wp_seq ?_)
    refine' rb [_, _, _, _] mixed hA hB hO (mv q6 (mv q0 (cn (fun hE hK => zg (r := rBool) ty47 (ks 1 hK 25 rfl) (rd_of (vx h_0 hE))) (cn (fun hE hK => zy (ks 0 hK 24 rfl) (ks 2 hK 26 rfl)) .nil)))) ?zk11
    intro a14 w14 hA hE hB HF; refine kr4 HF q0 q4 q5 q6 ?_; clear q0 q4 q5 q6; intro q0 q4 q5 q6; have q27 := ksv (HF 27) rfl rfl rfl; clear HF; replace h_0 := vx h_0 hE; replace f13 := f13.ext hE; clear hE; refine zE (zB ?_)
    revert h; refine cnd q27 (fun h => ?_) (fun h => ?_)
    ·
     refine wp_skip (zB ?_)
     refine zY (fun a w => ∃ (O40 : Tags) (x37 : List Int) (u38 : Value), a.fit 73 ∧ Base (Fr w0) O w0 O40 w ∧ a.get 0 = v_0 ∧ (rSl rBool).v O40 w v_0 x_0 ∧ a.get 4 = .int .i64 x7 ∧ a.get 5 = u38 ∧ OwnL 1 (rInt .i64) 3 (Fr w0) O40 w u38 x37 ∧ a.get 6 = .int .i64 x14 ∧ (gM x14 x37).run n = some st4) ?_ ?_
     ·
      refine wp_block (wp_seq ?_)
      refine' rb [_] mixed hA hB hO (cn (fun hE hK => zC rfl) .nil) ?zk12
      intro a15 w15 hA hE hB HF; refine kr4 HF q0 q4 q5 q6 ?_; clear q0 q4 q5 q6; intro q0 q4 q5 q6; have q7 := ksv (HF 7) rfl rfl rfl; clear q27 HF; replace h_0 := vx h_0 hE; replace f13 := f13.ext hE; clear hE; refine zE (zB ?_)
      refine zY (fun a w => ∃ (O26 : Tags) (x25 : Bool), a.fit 73 ∧ Base (Fr w0) O w0 O26 w ∧ a.get 0 = v_0 ∧ (rSl rBool).v O26 w v_0 x_0 ∧ a.get 4 = .int .i64 x7 ∧ a.get 5 = u12 ∧ OwnL 1 (rInt .i64) 3 (Fr w0) O26 w u12 x11 ∧ a.get 6 = .int .i64 x14 ∧ a.get 7 = .bool x25 ∧ (jK x_0 x14 x11 x25).run n = some st4) ?_ ?_
      ·
       refine wp_seq ?_
       refine' rb [_] mixed hA hB hO (cn (fun hE hK => zC rfl) .nil) ?zk13
       intro a16 w16 hA hE hB HF; refine kr5 HF q0 q4 q5 q6 q7 ?_; clear q0 q4 q5 q6 q7; intro q0 q4 q5 q6 q7; have q8 := ksv (HF 8) rfl rfl rfl; clear HF; replace h_0 := vx h_0 hE; replace f13 := f13.ext hE; clear hE; refine zE (zB (wp_block ?_))
       obtain ⟨e7, he7, hk7⟩ := Comp.run_bind h; clear h
       refine yt (fun m a w => ∃ (O18 : Tags) (x16 : Bool) (x17 : Int), a.fit 73 ∧ Base (Fr w0) O w0 O18 w ∧ a.get 0 = v_0 ∧ (rSl rBool).v O18 w v_0 x_0 ∧ a.get 4 = .int .i64 x7 ∧ a.get 5 = u12 ∧ OwnL 1 (rInt .i64) 3 (Fr w0) O18 w u12 x11 ∧ a.get 6 = .int .i64 x14 ∧ a.get 7 = .bool x16 ∧ a.get 8 = .int .i64 x17 ∧ Comp.loopN (fun s => yI x7 x14 x_0 s.1 s.2) n m (x16, x17) = some e7) (m := n) ?st7 ?_
       case st7 =>
        exact ⟨_, _, _, hA, hB, q0, h_0, q4, q5, f13, q6, q7, q8, Comp.zk he7⟩
       intro m_ a17 w17 hI
       clear hA hB he7 q0 q4 q5 q6 q7 q8 f13 h_0
       obtain ⟨O18, x16, x17, hA, hB, q0, h_0, q4, q5, f13, q6, q7, q8, hl⟩ := hI
       obtain ⟨m7, hlt7, st7, h, hnext7, hdone7⟩ := Comp.zZ hl; clear hl
       replace h : (yI x7 x14 x_0 x16 x17).run n = some st7 := h
       unfold yI at h; refine wp_seq (wp_seq ?_)
       refine' rb [_, _, _] mixed hA hB hO (mv q8 (mv q4 (cn (fun hE hK => zy (ks 0 hK 30 rfl) (ks 1 hK 31 rfl)) .nil))) ?zk14
       intro a18 w18 hA hE hB HF; refine kr6 HF q0 q4 q5 q6 q7 q8 ?_; clear q0 q4 q5 q6 q7 q8; intro q0 q4 q5 q6 q7 q8; have q32 := ksv (HF 32) rfl rfl rfl; clear HF; replace h_0 := vx h_0 hE; replace f13 := f13.ext hE; clear hE; refine zE (zB ?_)
       revert h; refine cnd q32 (fun h => ?_) (fun h => ?_)
       ·
        refine wp_skip (zB (wp_seq (wp_block ?_))); obtain ⟨x19, hx19, h⟩ := Comp.run_bind h; obtain ⟨x20, hx20, h⟩ := Comp.run_bind h; obtain ⟨x21, hx21, h⟩ := Comp.run_bind h
        refine' rb [_, _, _, _, _, _, _, _, _, _, _, _, _, SP.ptr rBool O18 x21, SP.isv (.bool x21), _, _, _] mixed hA hB hO (mv q7 (cn (fun hE hK => zJ (ks 0 hK 35 rfl)) (mv q6 (mv q8 (.cons (fun _ _ hE hK hg => okl_shr (kg 2 hK 37 rfl hg) (kg 3 hK 38 rfl hg) (yY (zr hx19 hg))) (.cons (fun _ _ hE hK hg => okb_and (kg 4 hK 39 rfl hg) rfl) (.cons (fun _ _ hE hK hg => yO (kg 5 hK 40 rfl hg) rfl) (.cons (fun _ _ hE hK hg => zJ (kg 6 hK 41 rfl hg)) (mv q0 (mv q6 (mv q8 (.cons (fun _ _ hE hK hg => okl_shl rfl (kg 10 hK 45 rfl hg) (yY (zr hx20 hg))) (.cons (fun _ _ hE hK hg => okb_andNot (kg 9 hK 44 rfl hg) (kg 11 hK 46 rfl hg)) (.cons (fun _ _ hE hK hg => zp (r := rBool) (O := O18) ty47 ty4 rfl (kg 8 hK 43 rfl hg) (rd_of (vx h_0 hE)) (kg 12 hK 47 rfl hg) (zr hx21 hg)) (.cons (fun _ _ hE hK hg => za rBool (fun _ => rfl) ty4 rfl rfl rfl (kspS (φ := SP.ptr rBool O18 x21) (j := 13) (hK 48 rfl) rfl rfl hg) (fun _ _ _ h => rBool_v.1 h)) (.cons (fun _ _ hE hK hg => zV (kg 7 hK 42 rfl hg) (fun _ => rfl) (fun hb => kg 14 hK 49 rfl (zf rfl hg hb))) (cn (fun hE hK => zV (ks 1 hK 36 rfl) (fun hb => kg 15 hK 50 rfl (zf rfl rfl hb)) (fun _ => rfl)) (cn (fun hE hK => zC (ks 16 hK 51 rfl)) .nil)))))))))))))))))) ?zk15
        intro a19 w19 hA hE hB HF; refine kr5 HF q0 q4 q5 q6 q8 ?_; clear q0 q4 q5 q6 q8; intro q0 q4 q5 q6 q8; replace q7 := ksv (HF 7) rfl rfl rfl; clear q32 HF; replace h_0 := vx h_0 hE; replace f13 := f13.ext hE; clear hE
        obtain ⟨x22, hx_, h⟩ := Comp.run_bind h; replace hx_ := Comp.run_pure hx_; rw [hx_] at q7; clear hx_
        refine zE (zm (zB ?_))
        refine' rb [_, _, _] mixed hA hB hO (mv q8 (cn (fun hE hK => yP (ks 0 hK 33 rfl) rfl) (cn (fun hE hK => zC (ks 1 hK 34 rfl)) .nil))) ?zk16
        intro a20 w20 hA hE hB HF; refine kr5 HF q0 q4 q5 q6 q7 ?_; clear q0 q4 q5 q6 q7; intro q0 q4 q5 q6 q7; replace q8 := ksv (HF 8) rfl rfl rfl; clear HF; replace h_0 := vx h_0 hE; replace f13 := f13.ext hE; clear hE; refine zE (zB ?_)
        have h := hnext7 _ (Comp.run_pure h).symm
        refine ⟨m7, hlt7, ?_⟩
        exact ⟨_, _, _, hA, hB, q0, h_0, q4, q5, f13, q6, q7, q8, h⟩
       ·
        refine wp_exit (zT (zT (zw ?_)))
        have hd_ := hdone7 _ (Comp.run_pure h).symm; clear h
        subst hd_; have h := hk7; clear hk7; try dsimp only at h
        refine zB ?_
        exact ⟨_, _, hA, hB, q0, h_0, q4, q5, f13, q6, q7, h⟩
      intro a21 w21 hI
      clear hA hB h q0 q4 q5 q6 q7 f13 h_0
      obtain ⟨O26, x25, hA, hB, q0, h_0, q4, q5, f13, q6, q7, h⟩ := hI
      unfold jK at h; refine wp_seq (wp_seq ?_); obtain ⟨x27, hx27, h⟩ := Comp.run_bind h
      refine' rb [_, _, SP.ptr rBool O26 x27, SP.isv (.bool x27), _, _, _, _] mixed hA hB hO (mv q0 (mv q6 (cn (fun hE hK => zp (r := rBool) (O := O26) ty47 ty4 rfl (ks 0 hK 52 rfl) (rd_of (vx h_0 hE)) (ks 1 hK 53 rfl) hx27) (cn (fun hE hK => za rBool (fun _ => rfl) ty4 rfl rfl rfl (kp (SP.ptr rBool O26 x27) 2 hK 54 rfl) (fun _ _ _ h => rBool_v.1 h)) (cn (fun hE hK => zJ (ks 3 hK 55 rfl)) (mv q7 (.cons (fun _ _ hE hK hg => jz (kg 5 hK 57 rfl hg)) (cn (fun hE hK => zV (ks 4 hK 56 rfl) (fun hb => kg 6 hK 58 rfl (zf rfl rfl hb)) (fun _ => rfl)) .nil)))))))) ?zk17
      intro a22 w22 hA hE hB HF; refine kr5 HF q0 q4 q5 q6 q7 ?_; clear q0 q4 q5 q6 q7; intro q0 q4 q5 q6 q7; have q59 := ksv (HF 59) rfl rfl rfl; clear HF; replace h_0 := vx h_0 hE; replace f13 := f13.ext hE; clear hE; refine zE (zB ?_)
      revert h; refine cnd q59 (fun h => ?_) (fun h => ?_)
      ·
       refine wp_seq ?_
       refine' rb [_, _] mixed hA hB hO (cn (fun hE hK => zC rfl) (cn (fun hE hK => zC rfl) .nil)) ?zk18
       intro a23 w23 hA hE hB HF; have q2 := ksv (HF 2) rfl rfl rfl; have q3 := ksv (HF 3) rfl rfl rfl; clear q0 q4 q5 q6 q7 q59 HF; replace h_0 := vx h_0 hE; replace f13 := f13.ext hE; clear hE; refine zE (zB (wp_ret (zN (yA (zN (zN (yA (zN ?_))))))))
       have hd_ := hdone4 _ (Comp.run_pure h).symm; clear h
       subst hd_; have h := hk4; clear hk4; try dsimp only at h
       have h := Comp.run_pure h; subst h
       exact vB Try.results52 hA q2 q3 hB.ext ⟨_, _, rfl, (OwnR.nil _ _ _ _ _), rfl⟩
      ·
       refine wp_skip (zB (wp_seq ?_)); obtain ⟨x30, hx30, h⟩ := Comp.run_bind h
       refine' rb [_, _, SP.ptr rBool O26 x30, SP.isv (.bool x30), _, _, _, _] mixed hA hB hO (mv q0 (mv q6 (cn (fun hE hK => zp (r := rBool) (O := O26) ty47 ty4 rfl (ks 0 hK 60 rfl) (rd_of (vx h_0 hE)) (ks 1 hK 61 rfl) hx30) (cn (fun hE hK => za rBool (fun _ => rfl) ty4 rfl rfl rfl (kp (SP.ptr rBool O26 x30) 2 hK 62 rfl) (fun _ _ _ h => rBool_v.1 h)) (cn (fun hE hK => jz (ks 3 hK 63 rfl)) (cn (fun hE hK => zJ (ks 4 hK 64 rfl)) (mv q7 (cn (fun hE hK => zV (ks 5 hK 65 rfl) (fun hb => kg 6 hK 66 rfl (zf rfl rfl hb)) (fun _ => rfl)) .nil)))))))) ?zk19
       intro a24 w24 hA hE hB HF; refine kr4 HF q0 q4 q5 q6 ?_; clear q0 q4 q5 q6; intro q0 q4 q5 q6; have q67 := ksv (HF 67) rfl rfl rfl; clear q7 q59 HF; replace h_0 := vx h_0 hE; replace f13 := f13.ext hE; clear hE; refine zE (zB ?_)
       revert h; refine cnd q67 (fun h => ?_) (fun h => ?_)
       ·
        refine' rbT [_, _, SP.vl (rSl (rInt .i64)) O26 [x14]] hA hB hO (mv q5 (mv q6 (cn (fun hE hK => zP (r := (rInt .i64)) (fun _ => rfl) rfl (OkO.ext hB.ok hE) ty23 ty3 (zM (ks 1 hK 69 rfl) zh) ⟨(by exact zU.2 rfl), trivial⟩ rfl (by decide)) .nil))) ?zk20
        intro a25 w25 hA hE hB HF; refine kr4 HF q0 q4 q5 q6 ?_; clear q0 q4 q5 q6; intro q0 q4 q5 q6; obtain ⟨u31, q70, f32⟩ := kx (HF 70) rfl rfl rfl; have q68 := ksv (HF 68) rfl rfl rfl; clear q67 HF; replace h_0 := vx h_0 hE; replace f13 := f13.ext hE; clear hE; obtain ⟨x33, hx33, h⟩ := Comp.run_bind h
        refine gQ (r := (rInt .i64)) (fun _ => rfl) rfl ty23 ty3 rfl (by decide) hO hB (yH hB) q68 f13 q70 (rd_of f32) hx33 (by decide) fun u34 w26 O35 f36 hB' hX => ?_
        clear hB; have hB := hB'; clear hB'; clear f13; replace h_0 := vk h_0 hX; replace f32 := vk f32 hX; clear hX
        refine zQ hA (by decide) fun a27 hA q_ hfr => ?_
        refine kd6 hfr q0 q4 q5 q6 q68 q70 ?_; clear q0 q4 q5 q6 q68 q70; intro q0 q4 q5 q6 q68 q70; have q71 := q_; clear q_ hfr
        refine l_ok (φ := SP.isv (u34)) hO hB (by exact zC q71) rfl fun u_ w28 hE hB' hv_ => ?_
        replace hv_ := Eq.symm hv_; subst hv_; clear hB; have hB := hB'; clear hB'
        replace h_0 := vx h_0 hE; replace f36 := f36.ext hE; clear hE
        refine zQ hA (by decide) fun a29 hA q_ hfr => ?_
        replace q0 := (hfr 0 rfl).trans q0
        replace q4 := (hfr 4 rfl).trans q4
        replace q6 := (hfr 6 rfl).trans q6
        replace q71 := (hfr 71 rfl).trans q71
        clear q5; have q5 := q_; clear q_ hfr; refine zE (zm (zB ?_))
        exact ⟨_, _, _, hA, hB, q0, h_0, q4, q5, f36, q6, h⟩
       ·
        refine wp_skip (zm (zB ?_))
        exact ⟨_, _, _, hA, hB, q0, h_0, q4, q5, f13, q6, h⟩
     intro a30 w30 hI
     clear hA hB h q0 q4 q5 q6 q27 f13 h_0
     obtain ⟨O40, x37, u38, hA, hB, q0, h_0, q4, q5, f39, q6, h⟩ := hI
     unfold gM at h
     refine' rb [_, _, _] mixed hA hB hO (mv q6 (cn (fun hE hK => yP (ks 0 hK 28 rfl) rfl) (cn (fun hE hK => zC (ks 1 hK 29 rfl)) .nil))) ?zk21
     intro a31 w31 hA hE hB HF; refine kr3 HF q0 q4 q5 ?_; clear q0 q4 q5; intro q0 q4 q5; replace q6 := ksv (HF 6) rfl rfl rfl; clear HF; replace h_0 := vx h_0 hE; replace f39 := f39.ext hE; clear hE; refine zE (zB ?_)
     have h := hnext4 _ (Comp.run_pure h).symm
     refine ⟨m4, hlt4, ?_⟩
     exact ⟨_, _, _, _, hA, hB, q0, h_0, q4, q5, f39, q6, h⟩
    ·
     refine wp_exit (zT (zT (zw ?_)))
     have hd_ := hdone4 _ (Comp.run_pure h).symm; clear h
     subst hd_; have h := hk4; clear hk4; try dsimp only at h
     refine zB ?_
     exact ⟨_, _, _, hA, hB, q5, f13, h⟩
   intro a32 w32 hI
   clear hA hB h q0 q4 q5 h_0
   obtain ⟨O46, x43, u44, hA, hB, q5, f45, h⟩ := hI
   unfold gO at h; refine wp_seq ?_
   refine' rb [_, _, _] mixed hA hB hO (mv q5 (cn (fun hE hK => zC (ks 0 hK 72 rfl)) (cn (fun hE hK => zC rfl) .nil))) ?zk22
   intro a33 w33 hA hE hB HF; have q2 := ksv (HF 2) rfl rfl rfl; have q3 := ksv (HF 3) rfl rfl rfl; clear q5 HF; replace f45 := f45.ext hE; clear hE; refine zE (zB (wp_ret ?_))
   have h := Comp.run_pure h; subst h
   exact vB Try.results52 hA q2 q3 hB.ext ⟨_, _, rfl, (OwnL.res f45 (by decide) hB.zero), rfl⟩
theorem ok_colletref43_Conflicts {O : Tags} {w0 : World} (hO : OkO O w0) {v_0 : Value} {x_0 : List api_Claim} (h_0 : (rSl zA).v O w0 v_0 x_0) {v_1 : Value} {x_1 : List api_Sight} (h_1 : (rSl zD).v O w0 v_1 x_1) {x_2 : Int} {n : Nat} {y : ((List Int) × Int)} (h : (yo x_0 x_1 x_2).run n = some y) : Pure Try.prog 23 #[v_0, v_1, .int .i64 x_2] w0 (SP.tup2 (SP.ownr (rInt .i64) 3 (w0.heap.size) O y.1) (SP.isv (.int .i64 y.2))).holds := by
 unfold yo at h
 refine zW Try.func23 rfl 37 Try.ntmps23 (by simp) fun a0 hA hs0 => ?_
 have q0 : a0.get 0 = v_0 := hs0 0 _ rfl
 have q1 : a0.get 1 = v_1 := hs0 1 _ rfl
 have q2 : a0.get 2 = .int .i64 x_2 := hs0 2 _ rfl
 clear hs0
 have hB : Base (Fr w0) O w0 O w0 := Base.start hO
 refine wp_seq ?_
 refine' rb [_, _] mixed hA hB hO (cn (fun hE hK => zC rfl) (cn (fun hE hK => zC rfl) .nil)) ?zk1
 intro a1 w1 hA hE hB HF; refine kr3 HF q0 q1 q2 ?_; clear q0 q1 q2; intro q0 q1 q2; clear HF; replace h_0 := vx h_0 hE; replace h_1 := vx h_1 hE; clear hE; refine zE (zB (wp_seq ?_)); obtain ⟨x1, hx1, h⟩ := Comp.run_bind h
 refine' rb [_, _, _, SP.isv (.int .i64 x1), _] mixed hA hB hO (mv q0 (mv q1 (mv q2 (cn (fun hE hK => vR fn14 (ks 0 hK 11 rfl) (ks 1 hK 12 rfl) (ks 2 hK 13 rfl) (ok_colletref43_Check (OkO.ext hB.ok hE) (vx h_0 hE) (vx h_1 hE) hx1)) (cn (fun hE hK => zC (ks 3 hK 14 rfl)) .nil))))) ?zk2
 intro a2 w2 hA hE hB HF; refine kr3 HF q0 q1 q2 ?_; clear q0 q1 q2; intro q0 q1 q2; have q8 := ksv (HF 8) rfl rfl rfl; clear HF; replace h_0 := vx h_0 hE; replace h_1 := vx h_1 hE; clear hE; refine zE (zB (wp_seq (wp_seq ?_)))
 refine' rb [_, _] mixed hA hB hO (mv q8 (cn (fun hE hK => gR (ks 0 hK 15 rfl) rfl) .nil)) ?zk3
 intro a3 w3 hA hE hB HF; refine kr4 HF q0 q1 q2 q8 ?_; clear q0 q1 q2 q8; intro q0 q1 q2 q8; have q16 := ksv (HF 16) rfl rfl rfl; clear HF; replace h_0 := vx h_0 hE; replace h_1 := vx h_1 hE; clear hE; refine zE (zB ?_)
 revert h; refine cnd q16 (fun h => ?_) (fun h => ?_)
 ·
  refine wp_seq ?_
  refine' rb [_, _, _] mixed hA hB hO (mv q8 (cn (fun hE hK => zC rfl) (cn (fun hE hK => zC (ks 0 hK 17 rfl)) .nil))) ?zk4
  intro a4 w4 hA hE hB HF; have q6 := ksv (HF 6) rfl rfl rfl; have q7 := ksv (HF 7) rfl rfl rfl; clear q0 q1 q2 q8 q16 HF; replace h_0 := vx h_0 hE; replace h_1 := vx h_1 hE; clear hE; refine zE (zB (wp_ret (zN ?_)))
  have h := Comp.run_pure h; subst h
  exact vB Try.results23 hA q6 q7 hB.ext ⟨_, _, rfl, (OwnR.nil _ _ _ _ _), rfl⟩
 ·
  refine wp_skip (zB (wp_seq ?_))
  refine' rb [_] mixed hA hB hO (cn (fun hE hK => zC rfl) .nil) ?zk5
  intro a5 w5 hA hE hB HF; refine kr3 HF q0 q1 q2 ?_; clear q0 q1 q2; intro q0 q1 q2; have q9 := ksv (HF 9) rfl rfl rfl; clear q8 q16 HF; replace h_0 := vx h_0 hE; replace h_1 := vx h_1 hE; clear hE; refine zE (zB ?_)
  refine zY (fun a w => ∃ (O23 : Tags) (x18 : List Bool) (u19 : Value), a.fit 37 ∧ Base (Fr w0) O w0 O23 w ∧ a.get 9 = u19 ∧ (rSl rBool).v O23 w u19 x18 ∧ (jI x18).run n = some y) ?_ ?_
  ·
   refine wp_seq ?_
   refine' rb [_] mixed hA hB hO (cn (fun hE hK => zC rfl) .nil) ?zk6
   intro a6 w6 hA hE hB HF; refine kr4 HF q0 q1 q2 q9 ?_; clear q0 q1 q2 q9; intro q0 q1 q2 q9; have q10 := ksv (HF 10) rfl rfl rfl; clear HF; replace h_0 := vx h_0 hE; replace h_1 := vx h_1 hE; clear hE; refine zE (zB (wp_block ?_))
   obtain ⟨e2, he2, hk2⟩ := Comp.run_bind h; clear h
   refine yt (fun m a w => ∃ (O6 : Tags) (x2 : List Bool) (x5 : Int) (u3 : Value), a.fit 37 ∧ Base (Fr w0) O w0 O6 w ∧ a.get 0 = v_0 ∧ (rSl zA).v O6 w v_0 x_0 ∧ a.get 1 = v_1 ∧ (rSl zD).v O6 w v_1 x_1 ∧ a.get 2 = .int .i64 x_2 ∧ a.get 9 = u3 ∧ OwnL 1 rBool 4 (Fr w0) O6 w u3 x2 ∧ a.get 10 = .int .i64 x5 ∧ Comp.loopN (fun s => yQ x_0 x_1 x_2 s.1 s.2) n m (x2, x5) = some e2) (m := n) ?st2 ?_
   case st2 =>
    exact ⟨_, _, _, _, hA, hB, q0, h_0, q1, h_1, q2, q9, (OwnL.nil _ _ _ _ _ _), q10, Comp.zk he2⟩
   intro m_ a7 w7 hI
   clear hA hB he2 q0 q1 q2 q9 q10 h_0 h_1
   obtain ⟨O6, x2, x5, u3, hA, hB, q0, h_0, q1, h_1, q2, q9, f4, q10, hl⟩ := hI
   obtain ⟨m2, hlt2, st2, h, hnext2, hdone2⟩ := Comp.zZ hl; clear hl
   replace h : (yQ x_0 x_1 x_2 x2 x5).run n = some st2 := h
   unfold yQ at h; refine wp_seq (wp_seq ?_); obtain ⟨x7, hx7, h⟩ := Comp.run_bind h
   refine' rb [_, _, _, _, _] mixed hA hB hO (mv q10 (mv q0 (cn (fun hE hK => zg (r := zA) ty27 (ks 1 hK 19 rfl) (rd_of (vx h_0 hE))) (cn (fun hE hK => okl_shl rfl (ks 2 hK 20 rfl) (yY hx7)) (cn (fun hE hK => zy (ks 0 hK 18 rfl) (ks 3 hK 21 rfl)) .nil))))) ?zk7
   intro a8 w8 hA hE hB HF; refine kr5 HF q0 q1 q2 q9 q10 ?_; clear q0 q1 q2 q9 q10; intro q0 q1 q2 q9 q10; have q22 := ksv (HF 22) rfl rfl rfl; clear HF; replace h_0 := vx h_0 hE; replace h_1 := vx h_1 hE; replace f4 := f4.ext hE; clear hE
   obtain ⟨x8, hx_, h⟩ := Comp.run_bind h; replace hx_ := Comp.run_pure hx_; rw [hx_] at q22; clear hx_
   refine zE (zB ?_)
   revert h; refine cnd q22 (fun h => ?_) (fun h => ?_)
   ·
    refine wp_skip (zB (wp_seq (wp_block ?_))); obtain ⟨x9, hx9, h⟩ := Comp.run_bind h
    refine' rbT [_, _, _, _, _, SP.isv (.bool x9), SP.vl (rSl rBool) O6 [x9]] hA hB hO (mv q9 (mv q0 (mv q1 (mv q2 (mv q10 (cn (fun hE hK => kV fn42 (ks 1 hK 26 rfl) (ks 2 hK 27 rfl) (ks 3 hK 28 rfl) (ks 4 hK 29 rfl) (ok_colletref43_agrees (OkO.ext hB.ok hE) (vx h_0 hE) (vx h_1 hE) hx9)) (cn (fun hE hK => zP (r := rBool) (fun _ => rfl) rfl (OkO.ext hB.ok hE) ty47 ty4 (zM (ks 5 hK 30 rfl) zh) ⟨(by exact rBool_v.2 rfl), trivial⟩ rfl (by decide)) .nil))))))) ?zk8
    intro a9 w9 hA hE hB HF; refine kr5 HF q0 q1 q2 q9 q10 ?_; clear q0 q1 q2 q9 q10; intro q0 q1 q2 q9 q10; obtain ⟨u10, q31, f11⟩ := kx (HF 31) rfl rfl rfl; have q25 := ksv (HF 25) rfl rfl rfl; clear q22 HF; replace h_0 := vx h_0 hE; replace h_1 := vx h_1 hE; replace f4 := f4.ext hE; clear hE; obtain ⟨x12, hx12, h⟩ := Comp.run_bind h
    refine gQ (r := rBool) (fun _ => rfl) rfl ty47 ty4 rfl (by decide) hO hB (yH hB) q25 f4 q31 (rd_of f11) hx12 (by decide) fun u13 w10 O14 f15 hB' hX => ?_
    clear hB; have hB := hB'; clear hB'; clear f4; replace h_0 := vk h_0 hX; replace h_1 := vk h_1 hX; replace f11 := vk f11 hX; clear hX
    refine zQ hA (by decide) fun a11 hA q_ hfr => ?_
    refine kd7 hfr q0 q1 q2 q9 q10 q25 q31 ?_; clear q0 q1 q2 q9 q10 q25 q31; intro q0 q1 q2 q9 q10 q25 q31; have q32 := q_; clear q_ hfr
    refine l_ok (φ := SP.isv (u13)) hO hB (by exact zC q32) rfl fun u_ w12 hE hB' hv_ => ?_
    replace hv_ := Eq.symm hv_; subst hv_; clear hB; have hB := hB'; clear hB'
    replace h_0 := vx h_0 hE; replace h_1 := vx h_1 hE; replace f15 := f15.ext hE; clear hE
    refine zQ hA (by decide) fun a13 hA q_ hfr => ?_
    replace q0 := (hfr 0 rfl).trans q0
    replace q1 := (hfr 1 rfl).trans q1
    replace q2 := (hfr 2 rfl).trans q2
    replace q10 := (hfr 10 rfl).trans q10
    replace q32 := (hfr 32 rfl).trans q32
    clear q9; have q9 := q_; clear q_ hfr; refine zE (zm (zB ?_))
    refine' rb [_, _, _] mixed hA hB hO (mv q10 (cn (fun hE hK => yP (ks 0 hK 23 rfl) rfl) (cn (fun hE hK => zC (ks 1 hK 24 rfl)) .nil))) ?zk9
    intro a14 w14 hA hE hB HF; refine kr4 HF q0 q1 q2 q9 ?_; clear q0 q1 q2 q9; intro q0 q1 q2 q9; replace q10 := ksv (HF 10) rfl rfl rfl; clear HF; replace h_0 := vx h_0 hE; replace h_1 := vx h_1 hE; replace f15 := f15.ext hE; clear hE; refine zE (zB ?_)
    have h := hnext2 _ (Comp.run_pure h).symm
    refine ⟨m2, hlt2, ?_⟩
    exact ⟨_, _, _, _, hA, hB, q0, h_0, q1, h_1, q2, q9, f15, q10, h⟩
   ·
    refine wp_exit (zT (zT (zw ?_)))
    have hd_ := hdone2 _ (Comp.run_pure h).symm; clear h
    subst hd_; have h := hk2; clear hk2; try dsimp only at h
    refine zB ?_
    obtain ⟨O21, hB', hX, f22⟩ := freezeL hO hB f4 (by decide)
    clear f4 hB; have hB := hB'; clear hB'; replace h_0 := vk h_0 hX; replace h_1 := vk h_1 hX; clear hX
    exact ⟨_, _, _, hA, hB, q9, f22, h⟩
  intro a15 w15 hI
  clear hA hB h q0 q1 q2 q9 h_0 h_1
  obtain ⟨O23, x18, u19, hA, hB, q9, f20, h⟩ := hI
  unfold jI at h; refine wp_seq ?_; obtain ⟨x24, hx24, h⟩ := Comp.run_bind h
  refine' rg [_, SP.tup2 (SP.ownr (rInt .i64) 3 w15.heap.size O23 x24.1) (SP.isv (.int .i64 x24.2)), SP.ownr (rInt .i64) 3 w15.heap.size O23 x24.1, SP.isv (.int .i64 x24.2), SP.ownr (rInt .i64) 3 w15.heap.size O23 x24.1, _] mixed hA (mv q9 (cn (fun hE hK => yL (ok_call1 fn52 (ks 0 hK 33 rfl) (ok_colletref32_Conflicts (OkO.ext hB.ok hE) (vx f20 hE) hx24)) (fun _ _ _ ⟨a_, b_, e0_, h0_, h1_⟩ => ⟨a_, b_, e0_, (fun h => (OwnR.base h hE.size)) h0_, h1_⟩)) (cn (fun hE hK => jZ (kp (SP.tup2 (SP.ownr (rInt .i64) 3 w15.heap.size O23 x24.1) (SP.isv (.int .i64 x24.2))) 1 hK 34 rfl)) (cn (fun hE hK => jY (kp (SP.tup2 (SP.ownr (rInt .i64) 3 w15.heap.size O23 x24.1) (SP.isv (.int .i64 x24.2))) 1 hK 34 rfl)) (cn (fun hE hK => zt (φ := SP.ownr (rInt .i64) 3 w15.heap.size O23 x24.1) (kp _ 2 hK 35 rfl)) (cn (fun hE hK => zC (ks 3 hK 36 rfl)) .nil)))))) ?zk10
  intro a16 w16 hA hE HF; obtain ⟨u25, q6, f26⟩ := kx (HF 6) rfl rfl rfl; have q7 := ksv (HF 7) rfl rfl rfl; clear q9 HF
  obtain ⟨O27, hB', hX, f28⟩ := ownNew hO hB hE f26 rfl 2 (by decide)
  clear hB f26; have hB := hB'; clear hB'; replace f20 := vk f20 hX; clear hX hE; refine zE (zB (wp_ret ?_))
  have h := Comp.run_pure h; subst h
  exact vB Try.results23 hA q6 q7 hB.ext ⟨_, _, rfl, (OwnL.res f28 (by decide) hB.zero), rfl⟩
theorem ok_colletref32_meets {O : Tags} {w0 : World} (hO : OkO O w0) {x_0 : Int} {v_1 : Value} {x_1 : List Int} (h_1 : (rSl (rInt .i64)).v O w0 v_1 x_1) {n : Nat} {y : Bool} (h : (gm x_0 x_1).run n = some y) : Pure Try.prog 68 #[.int .i64 x_0, v_1] w0 (SP.isv (.bool y)).holds := by
 unfold gm at h
 refine zW Try.func68 rfl 19 Try.ntmps68 (by simp) fun a0 hA hs0 => ?_
 have q0 : a0.get 0 = .int .i64 x_0 := hs0 0 _ rfl
 have q1 : a0.get 1 = v_1 := hs0 1 _ rfl
 clear hs0
 have hB : Base (Fr w0) O w0 O w0 := Base.start hO
 refine wp_seq ?_
 refine' rb [_] mixed hA hB hO (cn (fun hE hK => zC rfl) .nil) ?zk1
 intro a1 w1 hA hE hB HF; replace q0 := kf HF q0; replace q1 := kf HF q1; clear HF; replace h_1 := vx h_1 hE; clear hE; refine zE (zB ?_)
 refine zY (fun a w => ∃ (O5 : Tags), a.fit 19 ∧ Base (Fr w0) O w0 O5 w ∧ (colletref32_meets_j1 ).run n = some y) ?_ ?_
 ·
  refine wp_seq ?_
  refine' rb [_] mixed hA hB hO (cn (fun hE hK => zC rfl) .nil) ?zk2
  intro a2 w2 hA hE hB HF; replace q0 := kf HF q0; replace q1 := kf HF q1; have q5 := ksv (HF 5) rfl rfl rfl; clear HF; replace h_1 := vx h_1 hE; clear hE; refine zE (zB (wp_block ?_))
  obtain ⟨e2, he2, hk2⟩ := Comp.run_bind h; clear h
  refine yt (fun m a w => ∃ (O2 : Tags) (x1 : Int), a.fit 19 ∧ Base (Fr w0) O w0 O2 w ∧ a.get 0 = .int .i64 x_0 ∧ a.get 1 = v_1 ∧ (rSl (rInt .i64)).v O2 w v_1 x_1 ∧ a.get 5 = .int .i64 x1 ∧ Comp.loopN (fun s => vm x_1 x_0 s) n m x1 = some e2) (m := n) ?st2 ?_
  case st2 =>
   exact ⟨_, _, hA, hB, q0, q1, h_1, q5, Comp.zk he2⟩
  intro m_ a3 w3 hI
  clear hA hB he2 q0 q1 q5 h_1
  obtain ⟨O2, x1, hA, hB, q0, q1, h_1, q5, hl⟩ := hI
  obtain ⟨m2, hlt2, st2, h, hnext2, hdone2⟩ := Comp.zZ hl; clear hl
  replace h : (vm x_1 x_0 x1).run n = some st2 := h
  unfold vm at h; refine wp_seq (wp_seq ?_)
  refine' rb [_, _, _, _] mixed hA hB hO (mv q5 (mv q1 (cn (fun hE hK => zg (r := (rInt .i64)) ty23 (ks 1 hK 7 rfl) (rd_of (vx h_1 hE))) (cn (fun hE hK => zy (ks 0 hK 6 rfl) (ks 2 hK 8 rfl)) .nil)))) ?zk3
  intro a4 w4 hA hE hB HF; refine kr3 HF q0 q1 q5 ?_; clear q0 q1 q5; intro q0 q1 q5; have q9 := ksv (HF 9) rfl rfl rfl; clear HF; replace h_1 := vx h_1 hE; clear hE; refine zE (zB ?_)
  revert h; refine cnd q9 (fun h => ?_) (fun h => ?_)
  ·
   refine wp_skip (zB (wp_seq (wp_block (wp_seq ?_)))); obtain ⟨x3, hx3, h⟩ := Comp.run_bind h
   refine' rb [_, _, _, SP.ptr (rInt .i64) O2 x3, SP.isv (.int .i64 x3), _, _] mixed hA hB hO (mv q0 (mv q1 (mv q5 (cn (fun hE hK => zp (r := (rInt .i64)) (O := O2) ty23 ty3 rfl (ks 1 hK 13 rfl) (rd_of (vx h_1 hE)) (ks 2 hK 14 rfl) hx3) (cn (fun hE hK => za (rInt .i64) (fun _ => rfl) ty3 rfl rfl rfl (kp (SP.ptr (rInt .i64) O2 x3) 3 hK 15 rfl) (fun _ _ _ h => zU.1 h)) (cn (fun hE hK => okb_and (ks 0 hK 12 rfl) (ks 4 hK 16 rfl)) (cn (fun hE hK => yO (ks 5 hK 17 rfl) rfl) .nil))))))) ?zk4
   intro a5 w5 hA hE hB HF; refine kr3 HF q0 q1 q5 ?_; clear q0 q1 q5; intro q0 q1 q5; have q18 := ksv (HF 18) rfl rfl rfl; clear q9 HF; replace h_1 := vx h_1 hE; clear hE; refine zE (zB ?_)
   revert h; refine cnd q18 (fun h => ?_) (fun h => ?_)
   ·
    refine wp_seq ?_
    refine' rb [_] mixed hA hB hO (cn (fun hE hK => zC rfl) .nil) ?zk5
    intro a6 w6 hA hE hB HF; have q4 := ksv (HF 4) rfl rfl rfl; clear q0 q1 q5 q18 HF; replace h_1 := vx h_1 hE; clear hE; refine zE (zB (wp_ret (yA (zN (zN (yA (zN ?_)))))))
    have hd_ := hdone2 _ (Comp.run_pure h).symm; clear h
    subst hd_; have h := hk2; clear hk2; try dsimp only at h
    have h := Comp.run_pure h; subst h
    exact zb Try.results68 hA q4 hB.ext rfl
   ·
    refine wp_skip (zm (zB ?_))
    refine' rb [_, _, _] mixed hA hB hO (mv q5 (cn (fun hE hK => yP (ks 0 hK 10 rfl) rfl) (cn (fun hE hK => zC (ks 1 hK 11 rfl)) .nil))) ?zk6
    intro a7 w7 hA hE hB HF; replace q0 := kf HF q0; replace q1 := kf HF q1; replace q5 := ksv (HF 5) rfl rfl rfl; clear q18 HF; replace h_1 := vx h_1 hE; clear hE; refine zE (zB ?_)
    have h := hnext2 _ (Comp.run_pure h).symm
    refine ⟨m2, hlt2, ?_⟩
    exact ⟨_, _, hA, hB, q0, q1, h_1, q5, h⟩
  ·
   refine wp_exit (zT (zT (zw ?_)))
   have hd_ := hdone2 _ (Comp.run_pure h).symm; clear h
   subst hd_; have h := hk2; clear hk2; try dsimp only at h
   refine zB ?_
   exact ⟨_, hA, hB, h⟩
 intro a8 w8 hI
 clear hA hB h q0 q1 h_1
 obtain ⟨O5, hA, hB, h⟩ := hI
 unfold colletref32_meets_j1 at h; refine wp_seq ?_
 refine' rb [_] mixed hA hB hO (cn (fun hE hK => zC rfl) .nil) ?zk7
 intro a9 w9 hA hE hB HF; have q4 := ksv (HF 4) rfl rfl rfl; clear HF; clear hE; refine zE (zB (wp_ret ?_))
 have h := Comp.run_pure h; subst h
 exact zb Try.results68 hA q4 hB.ext rfl
theorem ok_colletref32_Hitting {O : Tags} {w0 : World} (hO : OkO O w0) {v_0 : Value} {x_0 : List Int} (h_0 : (rSl (rInt .i64)).v O w0 v_0 x_0) {x_1 : Int} {n : Nat} {y : ((List Int) × Int)} (h : (gH x_0 x_1).run n = some y) : Pure Try.prog 46 #[v_0, .int .i64 x_1] w0 (SP.tup2 (SP.ownr (rInt .i64) 3 (w0.heap.size) O y.1) (SP.isv (.int .i64 y.2))).holds := by
 unfold gH at h
 refine zW Try.func46 rfl 75 Try.ntmps46 (by simp) fun a0 hA hs0 => ?_
 have q0 : a0.get 0 = v_0 := hs0 0 _ rfl
 have q1 : a0.get 1 = .int .i64 x_1 := hs0 1 _ rfl
 clear hs0
 have hB : Base (Fr w0) O w0 O w0 := Base.start hO
 refine wp_seq ?_
 refine' rb [_, _] mixed hA hB hO (cn (fun hE hK => zC rfl) (cn (fun hE hK => zC rfl) .nil)) ?zk1
 intro a1 w1 hA hE hB HF; replace q0 := kf HF q0; replace q1 := kf HF q1; clear HF; replace h_0 := vx h_0 hE; clear hE; refine zE (zB (wp_seq (wp_seq ?_)))
 refine' rb [_, _, _, _, _, _] mixed hA hB hO (mv q1 (cn (fun hE hK => zy (ks 0 hK 11 rfl) rfl) (cn (fun hE hK => zJ (ks 1 hK 12 rfl)) (mv q1 (.cons (fun _ _ hE hK hg => ok_gtr (kg 3 hK 14 rfl hg) rfl) (cn (fun hE hK => zV (ks 2 hK 13 rfl) (fun _ => rfl) (fun hb => kg 4 hK 15 rfl (zf rfl rfl hb))) .nil)))))) ?zk2
 intro a2 w2 hA hE hB HF; replace q0 := kf HF q0; replace q1 := kf HF q1; have q16 := ksv (HF 16) rfl rfl rfl; clear HF; replace h_0 := vx h_0 hE; clear hE
 obtain ⟨x1, hx_, h⟩ := Comp.run_bind h; replace hx_ := Comp.run_pure hx_; rw [hx_] at q16; clear hx_
 refine zE (zB ?_)
 revert h; refine cnd q16 (fun h => ?_) (fun h => ?_)
 ·
  refine wp_seq ?_
  refine' rb [_, _] mixed hA hB hO (cn (fun hE hK => zC rfl) (cn (fun hE hK => zC rfl) .nil)) ?zk3
  intro a3 w3 hA hE hB HF; have q4 := ksv (HF 4) rfl rfl rfl; have q5 := ksv (HF 5) rfl rfl rfl; clear q0 q1 q16 HF; replace h_0 := vx h_0 hE; clear hE; refine zE (zB (wp_ret (zN ?_)))
  have h := Comp.run_pure h; subst h
  exact vB Try.results46 hA q4 q5 hB.ext ⟨_, _, rfl, (OwnR.nil _ _ _ _ _), rfl⟩
 ·
  refine wp_skip (zB ?_)
  refine zY (fun a w => ∃ (O10 : Tags), a.fit 75 ∧ Base (Fr w0) O w0 O10 w ∧ a.get 0 = v_0 ∧ (rSl (rInt .i64)).v O10 w v_0 x_0 ∧ a.get 1 = .int .i64 x_1 ∧ (gh x_1 x_0 ).run n = some y) ?_ ?_
  ·
   refine wp_seq ?_
   refine' rb [_] mixed hA hB hO (cn (fun hE hK => zC rfl) .nil) ?zk4
   intro a4 w4 hA hE hB HF; replace q0 := kf HF q0; replace q1 := kf HF q1; have q6 := ksv (HF 6) rfl rfl rfl; clear q16 HF; replace h_0 := vx h_0 hE; clear hE; refine zE (zB (wp_block ?_))
   obtain ⟨e2, he2, hk2⟩ := Comp.run_bind h; clear h
   refine yt (fun m a w => ∃ (O3 : Tags) (x2 : Int), a.fit 75 ∧ Base (Fr w0) O w0 O3 w ∧ a.get 0 = v_0 ∧ (rSl (rInt .i64)).v O3 w v_0 x_0 ∧ a.get 1 = .int .i64 x_1 ∧ a.get 6 = .int .i64 x2 ∧ Comp.loopN (fun s => yu x_0 x_1 s) n m x2 = some e2) (m := n) ?st2 ?_
   case st2 =>
    exact ⟨_, _, hA, hB, q0, h_0, q1, q6, Comp.zk he2⟩
   intro m_ a5 w5 hI
   clear hA hB he2 q0 q1 q6 h_0
   obtain ⟨O3, x2, hA, hB, q0, h_0, q1, q6, hl⟩ := hI
   obtain ⟨m2, hlt2, st2, h, hnext2, hdone2⟩ := Comp.zZ hl; clear hl
   replace h : (yu x_0 x_1 x2).run n = some st2 := h
   unfold yu at h; refine wp_seq (wp_seq ?_)
   refine' rb [_, _, _, _] mixed hA hB hO (mv q6 (mv q0 (cn (fun hE hK => zg (r := (rInt .i64)) ty23 (ks 1 hK 18 rfl) (rd_of (vx h_0 hE))) (cn (fun hE hK => zy (ks 0 hK 17 rfl) (ks 2 hK 19 rfl)) .nil)))) ?zk5
   intro a6 w6 hA hE hB HF; refine kr3 HF q0 q1 q6 ?_; clear q0 q1 q6; intro q0 q1 q6; have q20 := ksv (HF 20) rfl rfl rfl; clear HF; replace h_0 := vx h_0 hE; clear hE; refine zE (zB ?_)
   revert h; refine cnd q20 (fun h => ?_) (fun h => ?_)
   ·
    refine wp_skip (zB (wp_seq (wp_block (wp_seq ?_)))); obtain ⟨x4, hx4, h⟩ := Comp.run_bind h; obtain ⟨x5, hx5, h⟩ := Comp.run_bind h; obtain ⟨x6, hx6, h⟩ := Comp.run_bind h
    refine' rb [_, _, SP.ptr (rInt .i64) O3 x4, SP.isv (.int .i64 x4), _, _, _, _, SP.ptr (rInt .i64) O3 x5, SP.isv (.int .i64 x5), _, _, _, _] mixed hA hB hO (mv q0 (mv q6 (cn (fun hE hK => zp (r := (rInt .i64)) (O := O3) ty23 ty3 rfl (ks 0 hK 23 rfl) (rd_of (vx h_0 hE)) (ks 1 hK 24 rfl) hx4) (cn (fun hE hK => za (rInt .i64) (fun _ => rfl) ty3 rfl rfl rfl (kp (SP.ptr (rInt .i64) O3 x4) 2 hK 25 rfl) (fun _ _ _ h => zU.1 h)) (cn (fun hE hK => zy (ks 3 hK 26 rfl) rfl) (cn (fun hE hK => zJ (ks 4 hK 27 rfl)) (mv q0 (mv q6 (.cons (fun _ _ hE hK hg => zp (r := (rInt .i64)) (O := O3) ty23 ty3 rfl (kg 6 hK 29 rfl hg) (rd_of (vx h_0 hE)) (kg 7 hK 30 rfl hg) (zr hx5 hg)) (.cons (fun _ _ hE hK hg => za (rInt .i64) (fun _ => rfl) ty3 rfl rfl rfl (kspS (φ := SP.ptr (rInt .i64) O3 x5) (j := 8) (hK 31 rfl) rfl rfl hg) (fun _ _ _ h => zU.1 h)) (mv q1 (.cons (fun _ _ hE hK hg => okl_shl rfl (kg 10 hK 33 rfl hg) (yY (zr hx6 hg))) (.cons (fun _ _ hE hK hg => ok_geq (kg 9 hK 32 rfl hg) (kg 11 hK 34 rfl hg)) (cn (fun hE hK => zV (ks 5 hK 28 rfl) (fun _ => rfl) (fun hb => kg 12 hK 35 rfl (zf rfl rfl hb))) .nil)))))))))))))) ?zk6
    intro a7 w7 hA hE hB HF; refine kr3 HF q0 q1 q6 ?_; clear q0 q1 q6; intro q0 q1 q6; have q36 := ksv (HF 36) rfl rfl rfl; clear q20 HF; replace h_0 := vx h_0 hE; clear hE
    obtain ⟨x7, hx_, h⟩ := Comp.run_bind h; replace hx_ := Comp.run_pure hx_; rw [hx_] at q36; clear hx_
    refine zE (zB ?_)
    revert h; refine cnd q36 (fun h => ?_) (fun h => ?_)
    ·
     refine wp_seq ?_
     refine' rb [_, _] mixed hA hB hO (cn (fun hE hK => zC rfl) (cn (fun hE hK => zC rfl) .nil)) ?zk7
     intro a8 w8 hA hE hB HF; have q4 := ksv (HF 4) rfl rfl rfl; have q5 := ksv (HF 5) rfl rfl rfl; clear q0 q1 q6 q36 HF; replace h_0 := vx h_0 hE; clear hE; refine zE (zB (wp_ret (yA (zN (zN (yA (zN ?_)))))))
     have hd_ := hdone2 _ (Comp.run_pure h).symm; clear h
     subst hd_; have h := hk2; clear hk2; try dsimp only at h
     have h := Comp.run_pure h; subst h
     exact vB Try.results46 hA q4 q5 hB.ext ⟨_, _, rfl, (OwnR.nil _ _ _ _ _), rfl⟩
    ·
     refine wp_skip (zm (zB ?_))
     refine' rb [_, _, _] mixed hA hB hO (mv q6 (cn (fun hE hK => yP (ks 0 hK 21 rfl) rfl) (cn (fun hE hK => zC (ks 1 hK 22 rfl)) .nil))) ?zk8
     intro a9 w9 hA hE hB HF; replace q0 := kf HF q0; replace q1 := kf HF q1; replace q6 := ksv (HF 6) rfl rfl rfl; clear q36 HF; replace h_0 := vx h_0 hE; clear hE; refine zE (zB ?_)
     have h := hnext2 _ (Comp.run_pure h).symm
     refine ⟨m2, hlt2, ?_⟩
     exact ⟨_, _, hA, hB, q0, h_0, q1, q6, h⟩
   ·
    refine wp_exit (zT (zT (zw ?_)))
    have hd_ := hdone2 _ (Comp.run_pure h).symm; clear h
    subst hd_; have h := hk2; clear hk2; try dsimp only at h
    refine zB ?_
    exact ⟨_, hA, hB, q0, h_0, q1, h⟩
  intro a10 w10 hI
  clear hA hB h q0 q1 q16 h_0
  obtain ⟨O10, hA, hB, q0, h_0, q1, h⟩ := hI
  unfold gh at h; refine wp_seq ?_
  refine' rb [_] mixed hA hB hO (cn (fun hE hK => zC rfl) .nil) ?zk9
  intro a11 w11 hA hE hB HF; replace q0 := kf HF q0; replace q1 := kf HF q1; have q7 := ksv (HF 7) rfl rfl rfl; clear HF; replace h_0 := vx h_0 hE; clear hE; refine zE (zB ?_)
  refine zY (fun a w => ∃ (O44 : Tags) (x41 : List Int) (u42 : Value), a.fit 75 ∧ Base (Fr w0) O w0 O44 w ∧ a.get 7 = u42 ∧ OwnL 1 (rInt .i64) 3 (Fr w0) O44 w u42 x41 ∧ (ju x41).run n = some y) ?_ ?_
  ·
   refine wp_seq ?_
   refine' rb [_] mixed hA hB hO (cn (fun hE hK => zC rfl) .nil) ?zk10
   intro a12 w12 hA hE hB HF; refine kr3 HF q0 q1 q7 ?_; clear q0 q1 q7; intro q0 q1 q7; have q8 := ksv (HF 8) rfl rfl rfl; clear HF; replace h_0 := vx h_0 hE; clear hE; refine zE (zB (wp_block ?_))
   obtain ⟨e4, he4, hk4⟩ := Comp.run_bind h; clear h
   refine yt (fun m a w => ∃ (O15 : Tags) (x11 : List Int) (x14 : Int) (u12 : Value), a.fit 75 ∧ Base (Fr w0) O w0 O15 w ∧ a.get 0 = v_0 ∧ (rSl (rInt .i64)).v O15 w v_0 x_0 ∧ a.get 1 = .int .i64 x_1 ∧ a.get 7 = u12 ∧ OwnL 1 (rInt .i64) 3 (Fr w0) O15 w u12 x11 ∧ a.get 8 = .int .i64 x14 ∧ Comp.loopN (fun s => yW x_1 x_0 s.1 s.2) n m (x11, x14) = some e4) (m := n) ?st4 ?_
   case st4 =>
    exact ⟨_, _, _, _, hA, hB, q0, h_0, q1, q7, (OwnL.nil _ _ _ _ _ _), q8, Comp.zk he4⟩
   intro m_ a13 w13 hI
   clear hA hB he4 q0 q1 q7 q8 h_0
   obtain ⟨O15, x11, x14, u12, hA, hB, q0, h_0, q1, q7, f13, q8, hl⟩ := hI
   obtain ⟨m4, hlt4, st4, h, hnext4, hdone4⟩ := Comp.zZ hl; clear hl
   replace h : (yW x_1 x_0 x11 x14).run n = some st4 := h
   unfold yW at h; refine wp_seq (wp_seq ?_); obtain ⟨x16, hx16, h⟩ := Comp.run_bind h
   refine' rb [_, _, _, _] mixed hA hB hO (mv q8 (mv q1 (cn (fun hE hK => okl_shl rfl (ks 1 hK 38 rfl) (yY hx16)) (cn (fun hE hK => zy (ks 0 hK 37 rfl) (ks 2 hK 39 rfl)) .nil)))) ?zk11
   intro a14 w14 hA hE hB HF; refine kr4 HF q0 q1 q7 q8 ?_; clear q0 q1 q7 q8; intro q0 q1 q7 q8; have q40 := ksv (HF 40) rfl rfl rfl; clear HF; replace h_0 := vx h_0 hE; replace f13 := f13.ext hE; clear hE; refine zE (zB ?_)
   revert h; refine cnd q40 (fun h => ?_) (fun h => ?_)
   ·
    refine wp_skip (zB ?_)
    refine zY (fun a w => ∃ (O38 : Tags) (x18 : List Int) (u19 : Value), a.fit 75 ∧ Base (Fr w0) O w0 O38 w ∧ a.get 0 = v_0 ∧ (rSl (rInt .i64)).v O38 w v_0 x_0 ∧ a.get 1 = .int .i64 x_1 ∧ a.get 7 = u19 ∧ OwnL 1 (rInt .i64) 3 (Fr w0) O38 w u19 x18 ∧ a.get 8 = .int .i64 x14 ∧ (vt x14 x18).run n = some st4) ?_ ?_
    ·
     refine wp_block (wp_seq (wp_seq ?_)); obtain ⟨x17, hx17, h⟩ := Comp.run_bind h
     refine' rb [_, _, SP.isv (.bool x17), _] mixed hA hB hO (mv q8 (mv q0 (cn (fun hE hK => zz fn68 (ks 0 hK 43 rfl) (ks 1 hK 44 rfl) (ok_colletref32_meets (OkO.ext hB.ok hE) (vx h_0 hE) hx17)) (cn (fun hE hK => jz (ks 2 hK 45 rfl)) .nil)))) ?zk12
     intro a15 w15 hA hE hB HF; refine kr4 HF q0 q1 q7 q8 ?_; clear q0 q1 q7 q8; intro q0 q1 q7 q8; have q46 := ksv (HF 46) rfl rfl rfl; clear q40 HF; replace h_0 := vx h_0 hE; replace f13 := f13.ext hE; clear hE; refine zE (zB ?_)
     revert h; refine cnd q46 (fun h => ?_) (fun h => ?_)
     ·
      refine wp_exit (zT (zw (zB ?_)))
      exact ⟨_, _, _, hA, hB, q0, h_0, q1, q7, f13, q8, h⟩
     ·
      refine wp_skip (zB (wp_seq ?_))
      refine' rb [_] mixed hA hB hO (cn (fun hE hK => zC rfl) .nil) ?zk13
      intro a16 w16 hA hE hB HF; refine kr4 HF q0 q1 q7 q8 ?_; clear q0 q1 q7 q8; intro q0 q1 q7 q8; have q9 := ksv (HF 9) rfl rfl rfl; clear q46 HF; replace h_0 := vx h_0 hE; replace f13 := f13.ext hE; clear hE; refine zE (zB ?_)
      refine zY (fun a w => ∃ (O31 : Tags) (x30 : Bool), a.fit 75 ∧ Base (Fr w0) O w0 O31 w ∧ a.get 0 = v_0 ∧ (rSl (rInt .i64)).v O31 w v_0 x_0 ∧ a.get 1 = .int .i64 x_1 ∧ a.get 7 = u12 ∧ OwnL 1 (rInt .i64) 3 (Fr w0) O31 w u12 x11 ∧ a.get 8 = .int .i64 x14 ∧ a.get 9 = .bool x30 ∧ (jt x11 x14 x30).run n = some st4) ?_ ?_
      ·
       refine wp_seq ?_
       refine' rb [_] mixed hA hB hO (cn (fun hE hK => zC rfl) .nil) ?zk14
       intro a17 w17 hA hE hB HF; refine kr5 HF q0 q1 q7 q8 q9 ?_; clear q0 q1 q7 q8 q9; intro q0 q1 q7 q8 q9; have q10 := ksv (HF 10) rfl rfl rfl; clear HF; replace h_0 := vx h_0 hE; replace f13 := f13.ext hE; clear hE; refine zE (zB (wp_block ?_))
       obtain ⟨e7, he7, hk7⟩ := Comp.run_bind h; clear h
       refine yt (fun m a w => ∃ (O23 : Tags) (x21 : Bool) (x22 : Int), a.fit 75 ∧ Base (Fr w0) O w0 O23 w ∧ a.get 0 = v_0 ∧ (rSl (rInt .i64)).v O23 w v_0 x_0 ∧ a.get 1 = .int .i64 x_1 ∧ a.get 7 = u12 ∧ OwnL 1 (rInt .i64) 3 (Fr w0) O23 w u12 x11 ∧ a.get 8 = .int .i64 x14 ∧ a.get 9 = .bool x21 ∧ a.get 10 = .int .i64 x22 ∧ Comp.loopN (fun s => yV x_1 x14 x_0 s.1 s.2) n m (x21, x22) = some e7) (m := n) ?st7 ?_
       case st7 =>
        exact ⟨_, _, _, hA, hB, q0, h_0, q1, q7, f13, q8, q9, q10, Comp.zk he7⟩
       intro m_ a18 w18 hI
       clear hA hB he7 q0 q1 q7 q8 q9 q10 f13 h_0
       obtain ⟨O23, x21, x22, hA, hB, q0, h_0, q1, q7, f13, q8, q9, q10, hl⟩ := hI
       obtain ⟨m7, hlt7, st7, h, hnext7, hdone7⟩ := Comp.zZ hl; clear hl
       replace h : (yV x_1 x14 x_0 x21 x22).run n = some st7 := h
       unfold yV at h; refine wp_seq (wp_seq ?_)
       refine' rb [_, _, _] mixed hA hB hO (mv q10 (mv q1 (cn (fun hE hK => zy (ks 0 hK 47 rfl) (ks 1 hK 48 rfl)) .nil))) ?zk15
       intro a19 w19 hA hE hB HF; refine kr6 HF q0 q1 q7 q8 q9 q10 ?_; clear q0 q1 q7 q8 q9 q10; intro q0 q1 q7 q8 q9 q10; have q49 := ksv (HF 49) rfl rfl rfl; clear HF; replace h_0 := vx h_0 hE; replace f13 := f13.ext hE; clear hE; refine zE (zB ?_)
       revert h; refine cnd q49 (fun h => ?_) (fun h => ?_)
       ·
        refine wp_skip (zB (wp_seq (wp_block ?_))); obtain ⟨x24, hx24, h⟩ := Comp.run_bind h; obtain ⟨x25, hx25, h⟩ := Comp.run_bind h; obtain ⟨x26, hx26, h⟩ := Comp.run_bind h
        refine' rb [_, _, _, _, _, _, _, _, _, _, _, _, _, SP.isv (.bool x26), _, _, _, _] mixed hA hB hO (mv q9 (cn (fun hE hK => zJ (ks 0 hK 52 rfl)) (mv q8 (mv q10 (.cons (fun _ _ hE hK hg => okl_shr (kg 2 hK 54 rfl hg) (kg 3 hK 55 rfl hg) (yY (zr hx24 hg))) (.cons (fun _ _ hE hK hg => okb_and (kg 4 hK 56 rfl hg) rfl) (.cons (fun _ _ hE hK hg => yO (kg 5 hK 57 rfl hg) rfl) (.cons (fun _ _ hE hK hg => zJ (kg 6 hK 58 rfl hg)) (mv q8 (mv q10 (.cons (fun _ _ hE hK hg => okl_shl rfl (kg 9 hK 61 rfl hg) (yY (zr hx25 hg))) (.cons (fun _ _ hE hK hg => okb_andNot (kg 8 hK 60 rfl hg) (kg 10 hK 62 rfl hg)) (mv q0 (.cons (fun _ _ hE hK hg => zz fn68 (kg 11 hK 63 rfl hg) (kg 12 hK 64 rfl hg) (ok_colletref32_meets (OkO.ext hB.ok hE) (vx h_0 hE) (zr hx26 hg))) (.cons (fun _ _ hE hK hg => jz (kg 13 hK 65 rfl hg)) (.cons (fun _ _ hE hK hg => zV (kg 7 hK 59 rfl hg) (fun _ => rfl) (fun hb => kg 14 hK 66 rfl (zf rfl hg hb))) (cn (fun hE hK => zV (ks 1 hK 53 rfl) (fun hb => kg 15 hK 67 rfl (zf rfl rfl hb)) (fun _ => rfl)) (cn (fun hE hK => zC (ks 16 hK 68 rfl)) .nil)))))))))))))))))) ?zk16
        intro a20 w20 hA hE hB HF; refine kr5 HF q0 q1 q7 q8 q10 ?_; clear q0 q1 q7 q8 q10; intro q0 q1 q7 q8 q10; replace q9 := ksv (HF 9) rfl rfl rfl; clear q49 HF; replace h_0 := vx h_0 hE; replace f13 := f13.ext hE; clear hE
        obtain ⟨x27, hx_, h⟩ := Comp.run_bind h; replace hx_ := Comp.run_pure hx_; rw [hx_] at q9; clear hx_
        refine zE (zm (zB ?_))
        refine' rb [_, _, _] mixed hA hB hO (mv q10 (cn (fun hE hK => yP (ks 0 hK 50 rfl) rfl) (cn (fun hE hK => zC (ks 1 hK 51 rfl)) .nil))) ?zk17
        intro a21 w21 hA hE hB HF; refine kr5 HF q0 q1 q7 q8 q9 ?_; clear q0 q1 q7 q8 q9; intro q0 q1 q7 q8 q9; replace q10 := ksv (HF 10) rfl rfl rfl; clear HF; replace h_0 := vx h_0 hE; replace f13 := f13.ext hE; clear hE; refine zE (zB ?_)
        have h := hnext7 _ (Comp.run_pure h).symm
        refine ⟨m7, hlt7, ?_⟩
        exact ⟨_, _, _, hA, hB, q0, h_0, q1, q7, f13, q8, q9, q10, h⟩
       ·
        refine wp_exit (zT (zT (zw ?_)))
        have hd_ := hdone7 _ (Comp.run_pure h).symm; clear h
        subst hd_; have h := hk7; clear hk7; try dsimp only at h
        refine zB ?_
        exact ⟨_, _, hA, hB, q0, h_0, q1, q7, f13, q8, q9, h⟩
      intro a22 w22 hI
      clear hA hB h q0 q1 q7 q8 q9 f13 h_0
      obtain ⟨O31, x30, hA, hB, q0, h_0, q1, q7, f13, q8, q9, h⟩ := hI
      unfold jt at h; refine wp_seq ?_
      refine' rb [_] mixed hA hB hO (mv q9 .nil) ?zk18
      intro a23 w23 hA hE hB HF; refine kr4 HF q0 q1 q7 q8 ?_; clear q0 q1 q7 q8; intro q0 q1 q7 q8; have q69 := ksv (HF 69) rfl rfl rfl; clear q9 HF; replace h_0 := vx h_0 hE; replace f13 := f13.ext hE; clear hE; refine zE (zB ?_)
      revert h; refine cnd q69 (fun h => ?_) (fun h => ?_)
      ·
       refine' rbT [_, _, SP.vl (rSl (rInt .i64)) O31 [x14]] hA hB hO (mv q7 (mv q8 (cn (fun hE hK => zP (r := (rInt .i64)) (fun _ => rfl) rfl (OkO.ext hB.ok hE) ty23 ty3 (zM (ks 1 hK 71 rfl) zh) ⟨(by exact zU.2 rfl), trivial⟩ rfl (by decide)) .nil))) ?zk19
       intro a24 w24 hA hE hB HF; refine kr4 HF q0 q1 q7 q8 ?_; clear q0 q1 q7 q8; intro q0 q1 q7 q8; obtain ⟨u32, q72, f33⟩ := kx (HF 72) rfl rfl rfl; have q70 := ksv (HF 70) rfl rfl rfl; clear q69 HF; replace h_0 := vx h_0 hE; replace f13 := f13.ext hE; clear hE; obtain ⟨x34, hx34, h⟩ := Comp.run_bind h
       refine gQ (r := (rInt .i64)) (fun _ => rfl) rfl ty23 ty3 rfl (by decide) hO hB (yH hB) q70 f13 q72 (rd_of f33) hx34 (by decide) fun u35 w25 O36 f37 hB' hX => ?_
       clear hB; have hB := hB'; clear hB'; clear f13; replace h_0 := vk h_0 hX; replace f33 := vk f33 hX; clear hX
       refine zQ hA (by decide) fun a26 hA q_ hfr => ?_
       refine kd6 hfr q0 q1 q7 q8 q70 q72 ?_; clear q0 q1 q7 q8 q70 q72; intro q0 q1 q7 q8 q70 q72; have q73 := q_; clear q_ hfr
       refine l_ok (φ := SP.isv (u35)) hO hB (by exact zC q73) rfl fun u_ w27 hE hB' hv_ => ?_
       replace hv_ := Eq.symm hv_; subst hv_; clear hB; have hB := hB'; clear hB'
       replace h_0 := vx h_0 hE; replace f37 := f37.ext hE; clear hE
       refine zQ hA (by decide) fun a28 hA q_ hfr => ?_
       replace q0 := (hfr 0 rfl).trans q0
       replace q1 := (hfr 1 rfl).trans q1
       replace q8 := (hfr 8 rfl).trans q8
       replace q73 := (hfr 73 rfl).trans q73
       clear q7; have q7 := q_; clear q_ hfr; refine zE (zm (zB ?_))
       exact ⟨_, _, _, hA, hB, q0, h_0, q1, q7, f37, q8, h⟩
      ·
       refine wp_skip (zm (zB ?_))
       exact ⟨_, _, _, hA, hB, q0, h_0, q1, q7, f13, q8, h⟩
    intro a29 w29 hI
    clear hA hB h q0 q1 q7 q8 q40 f13 h_0
    obtain ⟨O38, x18, u19, hA, hB, q0, h_0, q1, q7, f20, q8, h⟩ := hI
    unfold vt at h
    refine' rb [_, _, _] mixed hA hB hO (mv q8 (cn (fun hE hK => yP (ks 0 hK 41 rfl) rfl) (cn (fun hE hK => zC (ks 1 hK 42 rfl)) .nil))) ?zk20
    intro a30 w30 hA hE hB HF; refine kr3 HF q0 q1 q7 ?_; clear q0 q1 q7; intro q0 q1 q7; replace q8 := ksv (HF 8) rfl rfl rfl; clear HF; replace h_0 := vx h_0 hE; replace f20 := f20.ext hE; clear hE; refine zE (zB ?_)
    have h := hnext4 _ (Comp.run_pure h).symm
    refine ⟨m4, hlt4, ?_⟩
    exact ⟨_, _, _, _, hA, hB, q0, h_0, q1, q7, f20, q8, h⟩
   ·
    refine wp_exit (zT (zT (zw ?_)))
    have hd_ := hdone4 _ (Comp.run_pure h).symm; clear h
    subst hd_; have h := hk4; clear hk4; try dsimp only at h
    refine zB ?_
    exact ⟨_, _, _, hA, hB, q7, f13, h⟩
  intro a31 w31 hI
  clear hA hB h q0 q1 q7 h_0
  obtain ⟨O44, x41, u42, hA, hB, q7, f43, h⟩ := hI
  unfold ju at h; refine wp_seq ?_
  refine' rb [_, _, _] mixed hA hB hO (mv q7 (cn (fun hE hK => zC (ks 0 hK 74 rfl)) (cn (fun hE hK => zC rfl) .nil))) ?zk21
  intro a32 w32 hA hE hB HF; have q4 := ksv (HF 4) rfl rfl rfl; have q5 := ksv (HF 5) rfl rfl rfl; clear q7 HF; replace f43 := f43.ext hE; clear hE; refine zE (zB (wp_ret ?_))
  have h := Comp.run_pure h; subst h
  exact vB Try.results46 hA q4 q5 hB.ext ⟨_, _, rfl, (OwnL.res f43 (by decide) hB.zero), rfl⟩
end Go.Proofs.Ytebmpjdegajhgaa
end
section
namespace Go.Proofs.Ytebmpjdegajhgaa
open Go Go.RowKit Go.Eng Go.Lift Go.F
set_option linter.unusedVariables false
set_option linter.unusedSimpArgs false
set_option maxRecDepth 100000
theorem ok_colletref43_gauges {O : Tags} {w0 : World} (hO : OkO O w0) {v_0 : Value} {x_0 : List api_Claim} (h_0 : (rSl zA).v O w0 v_0 x_0) {x_1 : Int} {n : Nat} {y : Int} (h : (jD x_0 x_1).run n = some y) : Pure Try.prog 47 #[v_0, .int .i64 x_1] w0 (SP.isv (.int .i64 y)).holds := by
 unfold jD at h
 refine zW Try.func47 rfl 29 Try.ntmps47 (by simp) fun a0 hA hs0 => ?_
 have q0 : a0.get 0 = v_0 := hs0 0 _ rfl
 have q1 : a0.get 1 = .int .i64 x_1 := hs0 1 _ rfl
 clear hs0
 have hB : Base (Fr w0) O w0 O w0 := Base.start hO
 refine wp_seq ?_
 refine' rb [_] mixed hA hB hO (cn (fun hE hK => zC rfl) .nil) ?zk1
 intro a1 w1 hA hE hB HF; replace q0 := kf HF q0; replace q1 := kf HF q1; clear HF; replace h_0 := vx h_0 hE; clear hE; refine zE (zB (wp_seq ?_))
 refine' rb [_] mixed hA hB hO (cn (fun hE hK => zC rfl) .nil) ?zk2
 intro a2 w2 hA hE hB HF; replace q0 := kf HF q0; replace q1 := kf HF q1; have q5 := ksv (HF 5) rfl rfl rfl; clear HF; replace h_0 := vx h_0 hE; clear hE; refine zE (zB ?_)
 refine zY (fun a w => ∃ (O12 : Tags) (x11 : Int), a.fit 29 ∧ Base (Fr w0) O w0 O12 w ∧ a.get 5 = .int .i64 x11 ∧ (kD x11).run n = some y) ?_ ?_
 ·
  refine wp_seq ?_
  refine' rb [_] mixed hA hB hO (cn (fun hE hK => zC rfl) .nil) ?zk3
  intro a3 w3 hA hE hB HF; refine kr3 HF q0 q1 q5 ?_; clear q0 q1 q5; intro q0 q1 q5; have q6 := ksv (HF 6) rfl rfl rfl; clear HF; replace h_0 := vx h_0 hE; clear hE; refine zE (zB (wp_block ?_))
  obtain ⟨e2, he2, hk2⟩ := Comp.run_bind h; clear h
  refine yt (fun m a w => ∃ (O3 : Tags) (x1 : Int) (x2 : Int), a.fit 29 ∧ Base (Fr w0) O w0 O3 w ∧ a.get 0 = v_0 ∧ (rSl zA).v O3 w v_0 x_0 ∧ a.get 1 = .int .i64 x_1 ∧ a.get 5 = .int .i64 x1 ∧ a.get 6 = .int .i64 x2 ∧ Comp.loopN (fun s => vD x_0 x_1 s.1 s.2) n m (x1, x2) = some e2) (m := n) ?st2 ?_
  case st2 =>
   exact ⟨_, _, _, hA, hB, q0, h_0, q1, q5, q6, Comp.zk he2⟩
  intro m_ a4 w4 hI
  clear hA hB he2 q0 q1 q5 q6 h_0
  obtain ⟨O3, x1, x2, hA, hB, q0, h_0, q1, q5, q6, hl⟩ := hI
  obtain ⟨m2, hlt2, st2, h, hnext2, hdone2⟩ := Comp.zZ hl; clear hl
  replace h : (vD x_0 x_1 x1 x2).run n = some st2 := h
  unfold vD at h; refine wp_seq (wp_seq ?_)
  refine' rb [_, _, _, _] mixed hA hB hO (mv q6 (mv q0 (cn (fun hE hK => zg (r := zA) ty27 (ks 1 hK 8 rfl) (rd_of (vx h_0 hE))) (cn (fun hE hK => zy (ks 0 hK 7 rfl) (ks 2 hK 9 rfl)) .nil)))) ?zk4
  intro a5 w5 hA hE hB HF; refine kr4 HF q0 q1 q5 q6 ?_; clear q0 q1 q5 q6; intro q0 q1 q5 q6; have q10 := ksv (HF 10) rfl rfl rfl; clear HF; replace h_0 := vx h_0 hE; clear hE; refine zE (zB ?_)
  revert h; refine cnd q10 (fun h => ?_) (fun h => ?_)
  ·
   refine wp_skip (zB ?_)
   refine zY (fun a w => ∃ (O8 : Tags) (x7 : Int), a.fit 29 ∧ Base (Fr w0) O w0 O8 w ∧ a.get 0 = v_0 ∧ (rSl zA).v O8 w v_0 x_0 ∧ a.get 1 = .int .i64 x_1 ∧ a.get 5 = .int .i64 x7 ∧ a.get 6 = .int .i64 x2 ∧ (gx x2 x7).run n = some st2) ?_ ?_
   ·
    refine wp_block (wp_seq ?_); obtain ⟨x4, hx4, h⟩ := Comp.run_bind h; obtain ⟨x5, hx5, h⟩ := Comp.run_bind h
    refine' rb [_, _, _, _, _, _, _, _, SP.ptr zA O3 x5, SP.ptr (rInt .i64) O3 x5.Kind, SP.isv (.int .i64 x5.Kind), _, _] mixed hA hB hO (mv q1 (mv q6 (cn (fun hE hK => okl_shr (ks 0 hK 13 rfl) (ks 1 hK 14 rfl) (yY hx4)) (cn (fun hE hK => okb_and (ks 2 hK 15 rfl) rfl) (cn (fun hE hK => yO (ks 3 hK 16 rfl) rfl) (cn (fun hE hK => zJ (ks 4 hK 17 rfl)) (mv q0 (mv q6 (.cons (fun _ _ hE hK hg => zp (r := zA) (O := O3) ty27 ty33 rfl (kg 6 hK 19 rfl hg) (rd_of (vx h_0 hE)) (kg 7 hK 20 rfl hg) (zr hx5 hg)) (.cons (fun _ _ hE hK hg => jw (S := zA) rfl (fun _ => rfl) yS fl33_1 rfl (kspS (φ := SP.ptr zA O3 x5) (j := 8) (hK 21 rfl) rfl rfl hg)) (.cons (fun _ _ hE hK hg => za (rInt .i64) (fun _ => rfl) ty3 rfl rfl rfl (kspS (φ := SP.ptr (rInt .i64) O3 x5.Kind) (j := 9) (hK 22 rfl) rfl rfl hg) (fun _ _ _ h => zU.1 h)) (.cons (fun _ _ hE hK hg => yO (kg 10 hK 23 rfl hg) rfl) (cn (fun hE hK => zV (ks 5 hK 18 rfl) (fun hb => kg 11 hK 24 rfl (zf rfl rfl hb)) (fun _ => rfl)) .nil))))))))))))) ?zk5
    intro a6 w6 hA hE hB HF; refine kr4 HF q0 q1 q5 q6 ?_; clear q0 q1 q5 q6; intro q0 q1 q5 q6; have q25 := ksv (HF 25) rfl rfl rfl; clear q10 HF; replace h_0 := vx h_0 hE; clear hE
    obtain ⟨x6, hx_, h⟩ := Comp.run_bind h; replace hx_ := Comp.run_pure hx_; rw [hx_] at q25; clear hx_
    refine zE (zB ?_)
    revert h; refine cnd q25 (fun h => ?_) (fun h => ?_)
    ·
     refine' rb [_, _, _] mixed hA hB hO (mv q5 (cn (fun hE hK => yP (ks 0 hK 26 rfl) rfl) (cn (fun hE hK => zC (ks 1 hK 27 rfl)) .nil))) ?zk6
     intro a7 w7 hA hE hB HF; refine kr3 HF q0 q1 q6 ?_; clear q0 q1 q6; intro q0 q1 q6; replace q5 := ksv (HF 5) rfl rfl rfl; clear q25 HF; replace h_0 := vx h_0 hE; clear hE; refine zE (zm (zB ?_))
     exact ⟨_, _, hA, hB, q0, h_0, q1, q5, q6, h⟩
    ·
     refine wp_skip (zm (zB ?_))
     exact ⟨_, _, hA, hB, q0, h_0, q1, q5, q6, h⟩
   intro a8 w8 hI
   clear hA hB h q0 q1 q5 q6 q10 h_0
   obtain ⟨O8, x7, hA, hB, q0, h_0, q1, q5, q6, h⟩ := hI
   unfold gx at h
   refine' rb [_, _, _] mixed hA hB hO (mv q6 (cn (fun hE hK => yP (ks 0 hK 11 rfl) rfl) (cn (fun hE hK => zC (ks 1 hK 12 rfl)) .nil))) ?zk7
   intro a9 w9 hA hE hB HF; refine kr3 HF q0 q1 q5 ?_; clear q0 q1 q5; intro q0 q1 q5; replace q6 := ksv (HF 6) rfl rfl rfl; clear HF; replace h_0 := vx h_0 hE; clear hE; refine zE (zB ?_)
   have h := hnext2 _ (Comp.run_pure h).symm
   refine ⟨m2, hlt2, ?_⟩
   exact ⟨_, _, _, hA, hB, q0, h_0, q1, q5, q6, h⟩
  ·
   refine wp_exit (zT (zT (zw ?_)))
   have hd_ := hdone2 _ (Comp.run_pure h).symm; clear h
   subst hd_; have h := hk2; clear hk2; try dsimp only at h
   refine zB ?_
   exact ⟨_, _, hA, hB, q5, h⟩
 intro a10 w10 hI
 clear hA hB h q0 q1 q5 h_0
 obtain ⟨O12, x11, hA, hB, q5, h⟩ := hI
 unfold kD at h; refine wp_seq ?_
 refine' rb [_, _] mixed hA hB hO (mv q5 (cn (fun hE hK => zC (ks 0 hK 28 rfl)) .nil)) ?zk8
 intro a11 w11 hA hE hB HF; have q4 := ksv (HF 4) rfl rfl rfl; clear q5 HF; clear hE; refine zE (zB (wp_ret ?_))
 have h := Comp.run_pure h; subst h
 exact zb Try.results47 hA q4 hB.ext rfl
theorem ok_colletref43_Explains {O : Tags} {w0 : World} (hO : OkO O w0) {v_0 : Value} {x_0 : List api_Claim} (h_0 : (rSl zA).v O w0 v_0 x_0) {v_1 : Value} {x_1 : List api_Sight} (h_1 : (rSl zD).v O w0 v_1 x_1) {x_2 : Int} {x_3 : Int} {n : Nat} {y : ((List Int) × Int)} (h : (gX x_0 x_1 x_2 x_3).run n = some y) : Pure Try.prog 18 #[v_0, v_1, .int .i64 x_2, .int .i64 x_3] w0 (SP.tup2 (SP.ownr (rInt .i64) 3 (w0.heap.size) O y.1) (SP.isv (.int .i64 y.2))).holds := by
 unfold gX at h
 refine zW Try.func18 rfl 64 Try.ntmps18 (by simp) fun a0 hA hs0 => ?_
 have q0 : a0.get 0 = v_0 := hs0 0 _ rfl
 have q1 : a0.get 1 = v_1 := hs0 1 _ rfl
 have q2 : a0.get 2 = .int .i64 x_2 := hs0 2 _ rfl
 have q3 : a0.get 3 = .int .i64 x_3 := hs0 3 _ rfl
 clear hs0
 have hB : Base (Fr w0) O w0 O w0 := Base.start hO
 refine wp_seq ?_
 refine' rb [_, _] mixed hA hB hO (cn (fun hE hK => zC rfl) (cn (fun hE hK => zC rfl) .nil)) ?zk1
 intro a1 w1 hA hE hB HF; refine kr4 HF q0 q1 q2 q3 ?_; clear q0 q1 q2 q3; intro q0 q1 q2 q3; clear HF; replace h_0 := vx h_0 hE; replace h_1 := vx h_1 hE; clear hE; refine zE (zB (wp_seq ?_)); obtain ⟨x1, hx1, h⟩ := Comp.run_bind h
 refine' rb [_, _, _, SP.tup2 (SP.vl (rSl (rInt .i64)) O x1.1) (SP.isv (.int .i64 x1.2)), SP.tup2 (SP.vl (rSl (rInt .i64)) O x1.1) (SP.isv (.int .i64 x1.2)), SP.vl (rSl (rInt .i64)) O x1.1, SP.isv (.int .i64 x1.2), SP.vl (rSl (rInt .i64)) O x1.1, _] mixed hA hB hO (mv q0 (mv q1 (mv q2 (.cons (fun _ _ hE hK hg => yL (vR fn23 (ks 0 hK 17 rfl) (ks 1 hK 18 rfl) (ks 2 hK 19 rfl) (ok_colletref43_Conflicts (OkO.ext hB.ok hE) (vx h_0 hE) (vx h_1 hE) hx1)) (fun _ _ _ ⟨a_, b_, e0_, h0_, h1_⟩ => ⟨a_, b_, e0_, (fun h => (OwnR.val h (fun g hg => (OkO.ext hB.ok hE) g (OwnR.ge h g hg).1))) h0_, h1_⟩)) (cn (fun hE hK => vr (φ := SP.tup2 (SP.vl (rSl (rInt .i64)) O x1.1) (SP.isv (.int .i64 x1.2))) (kp _ 3 hK 20 rfl)) (cn (fun hE hK => jZ (kp (SP.tup2 (SP.vl (rSl (rInt .i64)) O x1.1) (SP.isv (.int .i64 x1.2))) 4 hK 16 rfl)) (cn (fun hE hK => jY (kp (SP.tup2 (SP.vl (rSl (rInt .i64)) O x1.1) (SP.isv (.int .i64 x1.2))) 4 hK 16 rfl)) (cn (fun hE hK => zt (φ := SP.vl (rSl (rInt .i64)) O x1.1) (kp _ 5 hK 21 rfl)) (cn (fun hE hK => zC (ks 6 hK 22 rfl)) .nil))))))))) ?zk2
 intro a2 w2 hA hE hB HF; replace q0 := kf HF q0; replace q3 := kf HF q3; obtain ⟨u2, q10, f3⟩ := kx (HF 10) rfl rfl rfl; have q11 := ksv (HF 11) rfl rfl rfl; clear q1 q2 HF; replace h_0 := vx h_0 hE; replace h_1 := vx h_1 hE; clear hE; refine zE (zB (wp_seq (wp_seq ?_)))
 refine' rb [_, _] mixed hA hB hO (mv q11 (cn (fun hE hK => gR (ks 0 hK 23 rfl) rfl) .nil)) ?zk3
 intro a3 w3 hA hE hB HF; refine kr4 HF q0 q3 q10 q11 ?_; clear q0 q3 q10 q11; intro q0 q3 q10 q11; have q24 := ksv (HF 24) rfl rfl rfl; clear HF; replace h_0 := vx h_0 hE; replace f3 := vx f3 hE; clear hE; refine zE (zB ?_)
 revert h; refine cnd q24 (fun h => ?_) (fun h => ?_)
 ·
  refine wp_seq ?_
  refine' rb [_, _, _] mixed hA hB hO (mv q11 (cn (fun hE hK => zC rfl) (cn (fun hE hK => zC (ks 0 hK 25 rfl)) .nil))) ?zk4
  intro a4 w4 hA hE hB HF; have q8 := ksv (HF 8) rfl rfl rfl; have q9 := ksv (HF 9) rfl rfl rfl; clear q0 q3 q10 q11 q24 HF; replace h_0 := vx h_0 hE; replace f3 := vx f3 hE; clear hE; refine zE (zB (wp_ret (zN ?_)))
  have h := Comp.run_pure h; subst h
  exact vB Try.results18 hA q8 q9 hB.ext ⟨_, _, rfl, (OwnR.nil _ _ _ _ _), rfl⟩
 ·
  refine wp_skip (zB (wp_seq (wp_seq ?_)))
  refine' rb [_, _, _, _, _, _] mixed hA hB hO (mv q3 (cn (fun hE hK => zy (ks 0 hK 26 rfl) rfl) (cn (fun hE hK => zJ (ks 1 hK 27 rfl)) (mv q3 (.cons (fun _ _ hE hK hg => ok_gtr (kg 3 hK 29 rfl hg) rfl) (cn (fun hE hK => zV (ks 2 hK 28 rfl) (fun _ => rfl) (fun hb => kg 4 hK 30 rfl (zf rfl rfl hb))) .nil)))))) ?zk5
  intro a5 w5 hA hE hB HF; refine kr3 HF q0 q3 q10 ?_; clear q0 q3 q10; intro q0 q3 q10; have q31 := ksv (HF 31) rfl rfl rfl; clear q11 q24 HF; replace h_0 := vx h_0 hE; replace f3 := vx f3 hE; clear hE
  obtain ⟨x4, hx_, h⟩ := Comp.run_bind h; replace hx_ := Comp.run_pure hx_; rw [hx_] at q31; clear hx_
  refine zE (zB ?_)
  revert h; refine cnd q31 (fun h => ?_) (fun h => ?_)
  ·
   refine wp_seq ?_
   refine' rb [_, _] mixed hA hB hO (cn (fun hE hK => zC rfl) (cn (fun hE hK => zC rfl) .nil)) ?zk6
   intro a6 w6 hA hE hB HF; have q8 := ksv (HF 8) rfl rfl rfl; have q9 := ksv (HF 9) rfl rfl rfl; clear q0 q3 q10 q31 HF; replace h_0 := vx h_0 hE; replace f3 := vx f3 hE; clear hE; refine zE (zB (wp_ret (zN ?_)))
   have h := Comp.run_pure h; subst h
   exact vB Try.results18 hA q8 q9 hB.ext ⟨_, _, rfl, (OwnR.nil _ _ _ _ _), rfl⟩
  ·
   refine wp_skip (zB (wp_seq ?_)); obtain ⟨x5, hx5, h⟩ := Comp.run_bind h
   refine' rb [_, _, _, SP.tup2 (SP.vl (rSl (rInt .i64)) O x5.1) (SP.isv (.int .i64 x5.2)), SP.tup2 (SP.vl (rSl (rInt .i64)) O x5.1) (SP.isv (.int .i64 x5.2)), SP.vl (rSl (rInt .i64)) O x5.1, SP.isv (.int .i64 x5.2), SP.vl (rSl (rInt .i64)) O x5.1, _] mixed hA hB hO (mv q10 (mv q0 (cn (fun hE hK => zg (r := zA) ty27 (ks 1 hK 34 rfl) (rd_of (vx h_0 hE))) (.cons (fun _ _ hE hK hg => yL (zz fn46 (ks 0 hK 33 rfl) (ks 2 hK 35 rfl) (ok_colletref32_Hitting (OkO.ext hB.ok hE) (vx f3 hE) hx5)) (fun _ _ _ ⟨a_, b_, e0_, h0_, h1_⟩ => ⟨a_, b_, e0_, (fun h => (OwnR.val h (fun g hg => (OkO.ext hB.ok hE) g (OwnR.ge h g hg).1))) h0_, h1_⟩)) (cn (fun hE hK => vr (φ := SP.tup2 (SP.vl (rSl (rInt .i64)) O x5.1) (SP.isv (.int .i64 x5.2))) (kp _ 3 hK 36 rfl)) (cn (fun hE hK => jZ (kp (SP.tup2 (SP.vl (rSl (rInt .i64)) O x5.1) (SP.isv (.int .i64 x5.2))) 4 hK 32 rfl)) (cn (fun hE hK => jY (kp (SP.tup2 (SP.vl (rSl (rInt .i64)) O x5.1) (SP.isv (.int .i64 x5.2))) 4 hK 32 rfl)) (cn (fun hE hK => zt (φ := SP.vl (rSl (rInt .i64)) O x5.1) (kp _ 5 hK 37 rfl)) (cn (fun hE hK => zC (ks 6 hK 38 rfl)) .nil))))))))) ?zk7
   intro a7 w7 hA hE hB HF; replace q0 := kf HF q0; replace q3 := kf HF q3; obtain ⟨u6, q12, f7⟩ := kx (HF 12) rfl rfl rfl; have q13 := ksv (HF 13) rfl rfl rfl; clear q10 q31 HF; replace h_0 := vx h_0 hE; replace f3 := vx f3 hE; clear hE; refine zE (zB (wp_seq (wp_seq ?_)))
   refine' rb [_, _] mixed hA hB hO (mv q13 (cn (fun hE hK => gR (ks 0 hK 39 rfl) rfl) .nil)) ?zk8
   intro a8 w8 hA hE hB HF; refine kr4 HF q0 q3 q12 q13 ?_; clear q0 q3 q12 q13; intro q0 q3 q12 q13; have q40 := ksv (HF 40) rfl rfl rfl; clear HF; replace h_0 := vx h_0 hE; replace f7 := vx f7 hE; clear hE; refine zE (zB ?_)
   revert h; refine cnd q40 (fun h => ?_) (fun h => ?_)
   ·
    refine wp_seq ?_
    refine' rb [_, _, _] mixed hA hB hO (mv q13 (cn (fun hE hK => zC rfl) (cn (fun hE hK => zC (ks 0 hK 41 rfl)) .nil))) ?zk9
    intro a9 w9 hA hE hB HF; have q8 := ksv (HF 8) rfl rfl rfl; have q9 := ksv (HF 9) rfl rfl rfl; clear q0 q3 q12 q13 q40 HF; replace h_0 := vx h_0 hE; replace f7 := vx f7 hE; clear hE; refine zE (zB (wp_ret (zN ?_)))
    have h := Comp.run_pure h; subst h
    exact vB Try.results18 hA q8 q9 hB.ext ⟨_, _, rfl, (OwnR.nil _ _ _ _ _), rfl⟩
   ·
    refine wp_skip (zB (wp_seq ?_))
    refine' rb [_] mixed hA hB hO (cn (fun hE hK => zC rfl) .nil) ?zk10
    intro a10 w10 hA hE hB HF; refine kr3 HF q0 q3 q12 ?_; clear q0 q3 q12; intro q0 q3 q12; have q14 := ksv (HF 14) rfl rfl rfl; clear q13 q40 HF; replace h_0 := vx h_0 hE; replace f7 := vx f7 hE; clear hE; refine zE (zB ?_)
    refine zY (fun a w => ∃ (O31 : Tags) (x28 : List Int) (u29 : Value), a.fit 64 ∧ Base (Fr w0) O w0 O31 w ∧ a.get 14 = u29 ∧ OwnL 1 (rInt .i64) 3 (Fr w0) O31 w u29 x28 ∧ (colletref43_Explains_j1 x28).run n = some y) ?_ ?_
    ·
     refine wp_seq ?_
     refine' rb [_] mixed hA hB hO (cn (fun hE hK => zC rfl) .nil) ?zk11
     intro a11 w11 hA hE hB HF; refine kr4 HF q0 q3 q12 q14 ?_; clear q0 q3 q12 q14; intro q0 q3 q12 q14; have q15 := ksv (HF 15) rfl rfl rfl; clear HF; replace h_0 := vx h_0 hE; replace f7 := vx f7 hE; clear hE; refine zE (zB (wp_block ?_))
     obtain ⟨e2, he2, hk2⟩ := Comp.run_bind h; clear h
     refine yt (fun m a w => ∃ (O12 : Tags) (x8 : List Int) (x11 : Int) (u9 : Value), a.fit 64 ∧ Base (Fr w0) O w0 O12 w ∧ a.get 0 = v_0 ∧ (rSl zA).v O12 w v_0 x_0 ∧ a.get 3 = .int .i64 x_3 ∧ a.get 12 = u6 ∧ (rSl (rInt .i64)).v O12 w u6 x5.1 ∧ a.get 14 = u9 ∧ OwnL 1 (rInt .i64) 3 (Fr w0) O12 w u9 x8 ∧ a.get 15 = .int .i64 x11 ∧ Comp.loopN (fun s => yb x5 x_0 x_3 s.1 s.2) n m (x8, x11) = some e2) (m := n) ?st2 ?_
     case st2 =>
      exact ⟨_, _, _, _, hA, hB, q0, h_0, q3, q12, f7, q14, (OwnL.nil _ _ _ _ _ _), q15, Comp.zk he2⟩
     intro m_ a12 w12 hI
     clear hA hB he2 q0 q3 q12 q14 q15 f7 h_0
     obtain ⟨O12, x8, x11, u9, hA, hB, q0, h_0, q3, q12, f7, q14, f10, q15, hl⟩ := hI
     obtain ⟨m2, hlt2, st2, h, hnext2, hdone2⟩ := Comp.zZ hl; clear hl
     replace h : (yb x5 x_0 x_3 x8 x11).run n = some st2 := h
     unfold yb at h; refine wp_seq (wp_seq ?_)
     refine' rb [_, _, _, _] mixed hA hB hO (mv q15 (mv q12 (cn (fun hE hK => zg (r := (rInt .i64)) ty23 (ks 1 hK 43 rfl) (rd_of (vx f7 hE))) (cn (fun hE hK => zy (ks 0 hK 42 rfl) (ks 2 hK 44 rfl)) .nil)))) ?zk12
     intro a13 w13 hA hE hB HF; refine kr5 HF q0 q3 q12 q14 q15 ?_; clear q0 q3 q12 q14 q15; intro q0 q3 q12 q14 q15; have q45 := ksv (HF 45) rfl rfl rfl; clear HF; replace h_0 := vx h_0 hE; replace f7 := vx f7 hE; replace f10 := f10.ext hE; clear hE; refine zE (zB ?_)
     revert h; refine cnd q45 (fun h => ?_) (fun h => ?_)
     ·
      refine wp_skip (zB ?_)
      refine zY (fun a w => ∃ (O25 : Tags) (x22 : List Int) (u23 : Value), a.fit 64 ∧ Base (Fr w0) O w0 O25 w ∧ a.get 0 = v_0 ∧ (rSl zA).v O25 w v_0 x_0 ∧ a.get 3 = .int .i64 x_3 ∧ a.get 12 = u6 ∧ (rSl (rInt .i64)).v O25 w u6 x5.1 ∧ a.get 14 = u23 ∧ OwnL 1 (rInt .i64) 3 (Fr w0) O25 w u23 x22 ∧ a.get 15 = .int .i64 x11 ∧ (gW x11 x22).run n = some st2) ?_ ?_
      ·
       refine wp_block (wp_seq ?_); obtain ⟨x13, hx13, h⟩ := Comp.run_bind h; obtain ⟨x14, hx14, h⟩ := Comp.run_bind h
       refine' rb [_, _, _, SP.ptr (rInt .i64) O12 x13, SP.isv (.int .i64 x13), SP.isv (.int .i64 x14), _, _] mixed hA hB hO (mv q0 (mv q12 (mv q15 (cn (fun hE hK => zp (r := (rInt .i64)) (O := O12) ty23 ty3 rfl (ks 1 hK 49 rfl) (rd_of (vx f7 hE)) (ks 2 hK 50 rfl) hx13) (cn (fun hE hK => za (rInt .i64) (fun _ => rfl) ty3 rfl rfl rfl (kp (SP.ptr (rInt .i64) O12 x13) 3 hK 51 rfl) (fun _ _ _ h => zU.1 h)) (cn (fun hE hK => zz fn47 (ks 0 hK 48 rfl) (ks 4 hK 52 rfl) (ok_colletref43_gauges (OkO.ext hB.ok hE) (vx h_0 hE) hx14)) (mv q3 (cn (fun hE hK => ok_leq (ks 5 hK 53 rfl) (ks 6 hK 54 rfl)) .nil)))))))) ?zk13
       intro a14 w14 hA hE hB HF; refine kr5 HF q0 q3 q12 q14 q15 ?_; clear q0 q3 q12 q14 q15; intro q0 q3 q12 q14 q15; have q55 := ksv (HF 55) rfl rfl rfl; clear q45 HF; replace h_0 := vx h_0 hE; replace f7 := vx f7 hE; replace f10 := f10.ext hE; clear hE; refine zE (zB ?_)
       revert h; refine cnd q55 (fun h => ?_) (fun h => ?_)
       ·
        obtain ⟨x15, hx15, h⟩ := Comp.run_bind h
        refine' rbT [_, _, _, SP.ptr (rInt .i64) O12 x15, SP.isv (.int .i64 x15), SP.vl (rSl (rInt .i64)) O12 [x15]] hA hB hO (mv q14 (mv q12 (mv q15 (cn (fun hE hK => zp (r := (rInt .i64)) (O := O12) ty23 ty3 rfl (ks 1 hK 57 rfl) (rd_of (vx f7 hE)) (ks 2 hK 58 rfl) hx15) (cn (fun hE hK => za (rInt .i64) (fun _ => rfl) ty3 rfl rfl rfl (kp (SP.ptr (rInt .i64) O12 x15) 3 hK 59 rfl) (fun _ _ _ h => zU.1 h)) (cn (fun hE hK => zP (r := (rInt .i64)) (fun _ => rfl) rfl (OkO.ext hB.ok hE) ty23 ty3 (zM (ks 4 hK 60 rfl) zh) ⟨(by exact zU.2 rfl), trivial⟩ rfl (by decide)) .nil)))))) ?zk14
        intro a15 w15 hA hE hB HF; refine kr5 HF q0 q3 q12 q14 q15 ?_; clear q0 q3 q12 q14 q15; intro q0 q3 q12 q14 q15; obtain ⟨u16, q61, f17⟩ := kx (HF 61) rfl rfl rfl; have q56 := ksv (HF 56) rfl rfl rfl; clear q55 HF; replace h_0 := vx h_0 hE; replace f7 := vx f7 hE; replace f10 := f10.ext hE; clear hE; obtain ⟨x18, hx18, h⟩ := Comp.run_bind h
        refine gQ (r := (rInt .i64)) (fun _ => rfl) rfl ty23 ty3 rfl (by decide) hO hB (yH hB) q56 f10 q61 (rd_of f17) hx18 (by decide) fun u19 w16 O20 f21 hB' hX => ?_
        clear hB; have hB := hB'; clear hB'; clear f10; replace h_0 := vk h_0 hX; replace f7 := vk f7 hX; replace f17 := vk f17 hX; clear hX
        refine zQ hA (by decide) fun a17 hA q_ hfr => ?_
        refine kd7 hfr q0 q3 q12 q14 q15 q56 q61 ?_; clear q0 q3 q12 q14 q15 q56 q61; intro q0 q3 q12 q14 q15 q56 q61; have q62 := q_; clear q_ hfr
        refine l_ok (φ := SP.isv (u19)) hO hB (by exact zC q62) rfl fun u_ w18 hE hB' hv_ => ?_
        replace hv_ := Eq.symm hv_; subst hv_; clear hB; have hB := hB'; clear hB'
        replace h_0 := vx h_0 hE; replace f7 := vx f7 hE; replace f21 := f21.ext hE; clear hE
        refine zQ hA (by decide) fun a19 hA q_ hfr => ?_
        replace q0 := (hfr 0 rfl).trans q0
        replace q3 := (hfr 3 rfl).trans q3
        replace q12 := (hfr 12 rfl).trans q12
        replace q15 := (hfr 15 rfl).trans q15
        replace q62 := (hfr 62 rfl).trans q62
        clear q14; have q14 := q_; clear q_ hfr; refine zE (zm (zB ?_))
        exact ⟨_, _, _, hA, hB, q0, h_0, q3, q12, f7, q14, f21, q15, h⟩
       ·
        refine wp_skip (zm (zB ?_))
        exact ⟨_, _, _, hA, hB, q0, h_0, q3, q12, f7, q14, f10, q15, h⟩
      intro a20 w20 hI
      clear hA hB h q0 q3 q12 q14 q15 q45 f10 f7 h_0
      obtain ⟨O25, x22, u23, hA, hB, q0, h_0, q3, q12, f7, q14, f24, q15, h⟩ := hI
      unfold gW at h
      refine' rb [_, _, _] mixed hA hB hO (mv q15 (cn (fun hE hK => yP (ks 0 hK 46 rfl) rfl) (cn (fun hE hK => zC (ks 1 hK 47 rfl)) .nil))) ?zk15
      intro a21 w21 hA hE hB HF; refine kr4 HF q0 q3 q12 q14 ?_; clear q0 q3 q12 q14; intro q0 q3 q12 q14; replace q15 := ksv (HF 15) rfl rfl rfl; clear HF; replace h_0 := vx h_0 hE; replace f7 := vx f7 hE; replace f24 := f24.ext hE; clear hE; refine zE (zB ?_)
      have h := hnext2 _ (Comp.run_pure h).symm
      refine ⟨m2, hlt2, ?_⟩
      exact ⟨_, _, _, _, hA, hB, q0, h_0, q3, q12, f7, q14, f24, q15, h⟩
     ·
      refine wp_exit (zT (zT (zw ?_)))
      have hd_ := hdone2 _ (Comp.run_pure h).symm; clear h
      subst hd_; have h := hk2; clear hk2; try dsimp only at h
      refine zB ?_
      exact ⟨_, _, _, hA, hB, q14, f10, h⟩
    intro a22 w22 hI
    clear hA hB h q0 q3 q12 q14 f7 h_0
    obtain ⟨O31, x28, u29, hA, hB, q14, f30, h⟩ := hI
    unfold colletref43_Explains_j1 at h; refine wp_seq ?_
    refine' rb [_, _, _] mixed hA hB hO (mv q14 (cn (fun hE hK => zC (ks 0 hK 63 rfl)) (cn (fun hE hK => zC rfl) .nil))) ?zk16
    intro a23 w23 hA hE hB HF; have q8 := ksv (HF 8) rfl rfl rfl; have q9 := ksv (HF 9) rfl rfl rfl; clear q14 HF; replace f30 := f30.ext hE; clear hE; refine zE (zB (wp_ret ?_))
    have h := Comp.run_pure h; subst h
    exact vB Try.results18 hA q8 q9 hB.ext ⟨_, _, rfl, (OwnL.res f30 (by decide) hB.zero), rfl⟩
theorem ok_colletref43_blames {O : Tags} {w0 : World} (hO : OkO O w0) {v_0 : Value} {x_0 : List api_Claim} (h_0 : (rSl zA).v O w0 v_0 x_0) {x_1 : Int} {x_2 : Int} {n : Nat} {y : Bool} (h : (kI x_0 x_1 x_2).run n = some y) : Pure Try.prog 50 #[v_0, .int .i64 x_1, .int .i64 x_2] w0 (SP.isv (.bool y)).holds := by
 unfold kI at h
 refine zW Try.func50 rfl 28 Try.ntmps50 (by simp) fun a0 hA hs0 => ?_
 have q0 : a0.get 0 = v_0 := hs0 0 _ rfl
 have q1 : a0.get 1 = .int .i64 x_1 := hs0 1 _ rfl
 have q2 : a0.get 2 = .int .i64 x_2 := hs0 2 _ rfl
 clear hs0
 have hB : Base (Fr w0) O w0 O w0 := Base.start hO
 refine wp_seq ?_
 refine' rb [_] mixed hA hB hO (cn (fun hE hK => zC rfl) .nil) ?zk1
 intro a1 w1 hA hE hB HF; refine kr3 HF q0 q1 q2 ?_; clear q0 q1 q2; intro q0 q1 q2; clear HF; replace h_0 := vx h_0 hE; clear hE; refine zE (zB ?_)
 refine zY (fun a w => ∃ (O7 : Tags), a.fit 28 ∧ Base (Fr w0) O w0 O7 w ∧ (kH ).run n = some y) ?_ ?_
 ·
  refine wp_seq ?_
  refine' rb [_] mixed hA hB hO (cn (fun hE hK => zC rfl) .nil) ?zk2
  intro a2 w2 hA hE hB HF; refine kr3 HF q0 q1 q2 ?_; clear q0 q1 q2; intro q0 q1 q2; have q7 := ksv (HF 7) rfl rfl rfl; clear HF; replace h_0 := vx h_0 hE; clear hE; refine zE (zB (wp_block ?_))
  obtain ⟨e2, he2, hk2⟩ := Comp.run_bind h; clear h
  refine yt (fun m a w => ∃ (O2 : Tags) (x1 : Int), a.fit 28 ∧ Base (Fr w0) O w0 O2 w ∧ a.get 0 = v_0 ∧ (rSl zA).v O2 w v_0 x_0 ∧ a.get 1 = .int .i64 x_1 ∧ a.get 2 = .int .i64 x_2 ∧ a.get 7 = .int .i64 x1 ∧ Comp.loopN (fun s => ym x_0 x_1 x_2 s) n m x1 = some e2) (m := n) ?st2 ?_
  case st2 =>
   exact ⟨_, _, hA, hB, q0, h_0, q1, q2, q7, Comp.zk he2⟩
  intro m_ a3 w3 hI
  clear hA hB he2 q0 q1 q2 q7 h_0
  obtain ⟨O2, x1, hA, hB, q0, h_0, q1, q2, q7, hl⟩ := hI
  obtain ⟨m2, hlt2, st2, h, hnext2, hdone2⟩ := Comp.zZ hl; clear hl
  replace h : (ym x_0 x_1 x_2 x1).run n = some st2 := h
  unfold ym at h; refine wp_seq (wp_seq ?_)
  refine' rb [_, _, _, _] mixed hA hB hO (mv q7 (mv q0 (cn (fun hE hK => zg (r := zA) ty27 (ks 1 hK 9 rfl) (rd_of (vx h_0 hE))) (cn (fun hE hK => zy (ks 0 hK 8 rfl) (ks 2 hK 10 rfl)) .nil)))) ?zk3
  intro a4 w4 hA hE hB HF; refine kr4 HF q0 q1 q2 q7 ?_; clear q0 q1 q2 q7; intro q0 q1 q2 q7; have q11 := ksv (HF 11) rfl rfl rfl; clear HF; replace h_0 := vx h_0 hE; clear hE; refine zE (zB ?_)
  revert h; refine cnd q11 (fun h => ?_) (fun h => ?_)
  ·
   refine wp_skip (zB (wp_seq (wp_block (wp_seq ?_)))); obtain ⟨x3, hx3, h⟩ := Comp.run_bind h; obtain ⟨x4, hx4, h⟩ := Comp.run_bind h
   refine' rb [_, _, _, _, _, _, _, _, SP.ptr zA O2 x4, SP.ptr (rInt .i64) O2 x4.Party, SP.isv (.int .i64 x4.Party), _, _, _] mixed hA hB hO (mv q1 (mv q7 (cn (fun hE hK => okl_shr (ks 0 hK 14 rfl) (ks 1 hK 15 rfl) (yY hx3)) (cn (fun hE hK => okb_and (ks 2 hK 16 rfl) rfl) (cn (fun hE hK => yO (ks 3 hK 17 rfl) rfl) (cn (fun hE hK => zJ (ks 4 hK 18 rfl)) (mv q0 (mv q7 (.cons (fun _ _ hE hK hg => zp (r := zA) (O := O2) ty27 ty33 rfl (kg 6 hK 20 rfl hg) (rd_of (vx h_0 hE)) (kg 7 hK 21 rfl hg) (zr hx4 hg)) (.cons (fun _ _ hE hK hg => jw (S := zA) rfl (fun _ => rfl) sb_api_Claim_0 fl33_0 rfl (kspS (φ := SP.ptr zA O2 x4) (j := 8) (hK 22 rfl) rfl rfl hg)) (.cons (fun _ _ hE hK hg => za (rInt .i64) (fun _ => rfl) ty3 rfl rfl rfl (kspS (φ := SP.ptr (rInt .i64) O2 x4.Party) (j := 9) (hK 23 rfl) rfl rfl hg) (fun _ _ _ h => zU.1 h)) (mv q2 (.cons (fun _ _ hE hK hg => yO (kg 10 hK 24 rfl hg) (kg 11 hK 25 rfl hg)) (cn (fun hE hK => zV (ks 5 hK 19 rfl) (fun hb => kg 12 hK 26 rfl (zf rfl rfl hb)) (fun _ => rfl)) .nil)))))))))))))) ?zk4
   intro a5 w5 hA hE hB HF; refine kr4 HF q0 q1 q2 q7 ?_; clear q0 q1 q2 q7; intro q0 q1 q2 q7; have q27 := ksv (HF 27) rfl rfl rfl; clear q11 HF; replace h_0 := vx h_0 hE; clear hE
   obtain ⟨x5, hx_, h⟩ := Comp.run_bind h; replace hx_ := Comp.run_pure hx_; rw [hx_] at q27; clear hx_
   refine zE (zB ?_)
   revert h; refine cnd q27 (fun h => ?_) (fun h => ?_)
   ·
    refine wp_seq ?_
    refine' rb [_] mixed hA hB hO (cn (fun hE hK => zC rfl) .nil) ?zk5
    intro a6 w6 hA hE hB HF; have q6 := ksv (HF 6) rfl rfl rfl; clear q0 q1 q2 q7 q27 HF; replace h_0 := vx h_0 hE; clear hE; refine zE (zB (wp_ret (yA (zN (zN (yA (zN ?_)))))))
    have hd_ := hdone2 _ (Comp.run_pure h).symm; clear h
    subst hd_; have h := hk2; clear hk2; try dsimp only at h
    have h := Comp.run_pure h; subst h
    exact zb Try.results50 hA q6 hB.ext rfl
   ·
    refine wp_skip (zm (zB ?_))
    refine' rb [_, _, _] mixed hA hB hO (mv q7 (cn (fun hE hK => yP (ks 0 hK 12 rfl) rfl) (cn (fun hE hK => zC (ks 1 hK 13 rfl)) .nil))) ?zk6
    intro a7 w7 hA hE hB HF; refine kr3 HF q0 q1 q2 ?_; clear q0 q1 q2; intro q0 q1 q2; replace q7 := ksv (HF 7) rfl rfl rfl; clear q27 HF; replace h_0 := vx h_0 hE; clear hE; refine zE (zB ?_)
    have h := hnext2 _ (Comp.run_pure h).symm
    refine ⟨m2, hlt2, ?_⟩
    exact ⟨_, _, hA, hB, q0, h_0, q1, q2, q7, h⟩
  ·
   refine wp_exit (zT (zT (zw ?_)))
   have hd_ := hdone2 _ (Comp.run_pure h).symm; clear h
   subst hd_; have h := hk2; clear hk2; try dsimp only at h
   refine zB ?_
   exact ⟨_, hA, hB, h⟩
 intro a8 w8 hI
 clear hA hB h q0 q1 q2 h_0
 obtain ⟨O7, hA, hB, h⟩ := hI
 unfold kH at h; refine wp_seq ?_
 refine' rb [_] mixed hA hB hO (cn (fun hE hK => zC rfl) .nil) ?zk7
 intro a9 w9 hA hE hB HF; have q6 := ksv (HF 6) rfl rfl rfl; clear HF; clear hE; refine zE (zB (wp_ret ?_))
 have h := Comp.run_pure h; subst h
 exact zb Try.results50 hA q6 hB.ext rfl
theorem ok_colletref43_Certain {O : Tags} {w0 : World} (hO : OkO O w0) {v_0 : Value} {x_0 : List api_Claim} (h_0 : (rSl zA).v O w0 v_0 x_0) {v_1 : Value} {x_1 : List api_Sight} (h_1 : (rSl zD).v O w0 v_1 x_1) {x_2 : Int} {x_3 : Int} {n : Nat} {y : ((List Int) × Int)} (h : (jp x_0 x_1 x_2 x_3).run n = some y) : Pure Try.prog 20 #[v_0, v_1, .int .i64 x_2, .int .i64 x_3] w0 (SP.tup2 (SP.ownr (rInt .i64) 3 (w0.heap.size) O y.1) (SP.isv (.int .i64 y.2))).holds := by
 unfold jp at h
 refine zW Try.func20 rfl 56 Try.ntmps20 (by simp) fun a0 hA hs0 => ?_
 have q0 : a0.get 0 = v_0 := hs0 0 _ rfl
 have q1 : a0.get 1 = v_1 := hs0 1 _ rfl
 have q2 : a0.get 2 = .int .i64 x_2 := hs0 2 _ rfl
 have q3 : a0.get 3 = .int .i64 x_3 := hs0 3 _ rfl
 clear hs0
 have hB : Base (Fr w0) O w0 O w0 := Base.start hO
 refine wp_seq ?_
 refine' rb [_, _] mixed hA hB hO (cn (fun hE hK => zC rfl) (cn (fun hE hK => zC rfl) .nil)) ?zk1
 intro a1 w1 hA hE hB HF; refine kr4 HF q0 q1 q2 q3 ?_; clear q0 q1 q2 q3; intro q0 q1 q2 q3; clear HF; replace h_0 := vx h_0 hE; replace h_1 := vx h_1 hE; clear hE; refine zE (zB (wp_seq ?_)); obtain ⟨x1, hx1, h⟩ := Comp.run_bind h
 refine' rb [_, _, _, _, SP.tup2 (SP.vl (rSl (rInt .i64)) O x1.1) (SP.isv (.int .i64 x1.2)), SP.tup2 (SP.vl (rSl (rInt .i64)) O x1.1) (SP.isv (.int .i64 x1.2)), SP.vl (rSl (rInt .i64)) O x1.1, SP.isv (.int .i64 x1.2), SP.vl (rSl (rInt .i64)) O x1.1, _] mixed hA hB hO (mv q0 (mv q1 (mv q2 (mv q3 (.cons (fun _ _ hE hK hg => yL (kV fn18 (ks 0 hK 17 rfl) (ks 1 hK 18 rfl) (ks 2 hK 19 rfl) (ks 3 hK 20 rfl) (ok_colletref43_Explains (OkO.ext hB.ok hE) (vx h_0 hE) (vx h_1 hE) hx1)) (fun _ _ _ ⟨a_, b_, e0_, h0_, h1_⟩ => ⟨a_, b_, e0_, (fun h => (OwnR.val h (fun g hg => (OkO.ext hB.ok hE) g (OwnR.ge h g hg).1))) h0_, h1_⟩)) (cn (fun hE hK => vr (φ := SP.tup2 (SP.vl (rSl (rInt .i64)) O x1.1) (SP.isv (.int .i64 x1.2))) (kp _ 4 hK 21 rfl)) (cn (fun hE hK => jZ (kp (SP.tup2 (SP.vl (rSl (rInt .i64)) O x1.1) (SP.isv (.int .i64 x1.2))) 5 hK 16 rfl)) (cn (fun hE hK => jY (kp (SP.tup2 (SP.vl (rSl (rInt .i64)) O x1.1) (SP.isv (.int .i64 x1.2))) 5 hK 16 rfl)) (cn (fun hE hK => zt (φ := SP.vl (rSl (rInt .i64)) O x1.1) (kp _ 6 hK 22 rfl)) (cn (fun hE hK => zC (ks 7 hK 23 rfl)) .nil)))))))))) ?zk2
 intro a2 w2 hA hE hB HF; replace q0 := kf HF q0; obtain ⟨u2, q10, f3⟩ := kx (HF 10) rfl rfl rfl; have q11 := ksv (HF 11) rfl rfl rfl; clear q1 q2 q3 HF; replace h_0 := vx h_0 hE; replace h_1 := vx h_1 hE; clear hE; refine zE (zB (wp_seq (wp_seq ?_)))
 refine' rb [_, _] mixed hA hB hO (mv q11 (cn (fun hE hK => gR (ks 0 hK 24 rfl) rfl) .nil)) ?zk3
 intro a3 w3 hA hE hB HF; refine kr3 HF q0 q10 q11 ?_; clear q0 q10 q11; intro q0 q10 q11; have q25 := ksv (HF 25) rfl rfl rfl; clear HF; replace h_0 := vx h_0 hE; replace f3 := vx f3 hE; clear hE; refine zE (zB ?_)
 revert h; refine cnd q25 (fun h => ?_) (fun h => ?_)
 ·
  refine wp_seq ?_
  refine' rb [_, _, _] mixed hA hB hO (mv q11 (cn (fun hE hK => zC rfl) (cn (fun hE hK => zC (ks 0 hK 26 rfl)) .nil))) ?zk4
  intro a4 w4 hA hE hB HF; have q8 := ksv (HF 8) rfl rfl rfl; have q9 := ksv (HF 9) rfl rfl rfl; clear q0 q10 q11 q25 HF; replace h_0 := vx h_0 hE; replace f3 := vx f3 hE; clear hE; refine zE (zB (wp_ret (zN ?_)))
  have h := Comp.run_pure h; subst h
  exact vB Try.results20 hA q8 q9 hB.ext ⟨_, _, rfl, (OwnR.nil _ _ _ _ _), rfl⟩
 ·
  refine wp_skip (zB (wp_seq (wp_seq ?_)))
  refine' rb [_, _, _] mixed hA hB hO (mv q10 (cn (fun hE hK => zg (r := (rInt .i64)) ty23 (ks 0 hK 27 rfl) (rd_of (vx f3 hE))) (cn (fun hE hK => yO (ks 1 hK 28 rfl) rfl) .nil))) ?zk5
  intro a5 w5 hA hE hB HF; replace q0 := kf HF q0; replace q10 := kf HF q10; have q29 := ksv (HF 29) rfl rfl rfl; clear q11 q25 HF; replace h_0 := vx h_0 hE; replace f3 := vx f3 hE; clear hE; refine zE (zB ?_)
  revert h; refine cnd q29 (fun h => ?_) (fun h => ?_)
  ·
   refine wp_seq ?_
   refine' rb [_, _] mixed hA hB hO (cn (fun hE hK => zC rfl) (cn (fun hE hK => zC rfl) .nil)) ?zk6
   intro a6 w6 hA hE hB HF; have q8 := ksv (HF 8) rfl rfl rfl; have q9 := ksv (HF 9) rfl rfl rfl; clear q0 q10 q29 HF; replace h_0 := vx h_0 hE; replace f3 := vx f3 hE; clear hE; refine zE (zB (wp_ret (zN ?_)))
   have h := Comp.run_pure h; subst h
   exact vB Try.results20 hA q8 q9 hB.ext ⟨_, _, rfl, (OwnR.nil _ _ _ _ _), rfl⟩
  ·
   refine wp_skip (zB (wp_seq ?_))
   refine' rb [_] mixed hA hB hO (cn (fun hE hK => zC rfl) .nil) ?zk7
   intro a7 w7 hA hE hB HF; replace q0 := kf HF q0; replace q10 := kf HF q10; have q12 := ksv (HF 12) rfl rfl rfl; clear q29 HF; replace h_0 := vx h_0 hE; replace f3 := vx f3 hE; clear hE; refine zE (zB ?_)
   refine zY (fun a w => ∃ (O33 : Tags) (x30 : List Int) (u31 : Value), a.fit 56 ∧ Base (Fr w0) O w0 O33 w ∧ a.get 12 = u31 ∧ OwnL 1 (rInt .i64) 3 (Fr w0) O33 w u31 x30 ∧ (colletref43_Certain_j1 x30).run n = some y) ?_ ?_
   ·
    refine wp_seq ?_
    refine' rb [_] mixed hA hB hO (cn (fun hE hK => zC rfl) .nil) ?zk8
    intro a8 w8 hA hE hB HF; refine kr3 HF q0 q10 q12 ?_; clear q0 q10 q12; intro q0 q10 q12; have q13 := ksv (HF 13) rfl rfl rfl; clear HF; replace h_0 := vx h_0 hE; replace f3 := vx f3 hE; clear hE; refine zE (zB (wp_block ?_))
    obtain ⟨e2, he2, hk2⟩ := Comp.run_bind h; clear h
    refine yt (fun m a w => ∃ (O8 : Tags) (x4 : List Int) (x7 : Int) (u5 : Value), a.fit 56 ∧ Base (Fr w0) O w0 O8 w ∧ a.get 0 = v_0 ∧ (rSl zA).v O8 w v_0 x_0 ∧ a.get 10 = u2 ∧ (rSl (rInt .i64)).v O8 w u2 x1.1 ∧ a.get 12 = u5 ∧ OwnL 1 (rInt .i64) 3 (Fr w0) O8 w u5 x4 ∧ a.get 13 = .int .i64 x7 ∧ Comp.loopN (fun s => yU x1 x_0 s.1 s.2) n m (x4, x7) = some e2) (m := n) ?st2 ?_
    case st2 =>
     exact ⟨_, _, _, _, hA, hB, q0, h_0, q10, f3, q12, (OwnL.nil _ _ _ _ _ _), q13, Comp.zk he2⟩
    intro m_ a9 w9 hI
    clear hA hB he2 q0 q10 q12 q13 f3 h_0
    obtain ⟨O8, x4, x7, u5, hA, hB, q0, h_0, q10, f3, q12, f6, q13, hl⟩ := hI
    obtain ⟨m2, hlt2, st2, h, hnext2, hdone2⟩ := Comp.zZ hl; clear hl
    replace h : (yU x1 x_0 x4 x7).run n = some st2 := h
    unfold yU at h; refine wp_seq (wp_seq ?_)
    refine' rb [_, _] mixed hA hB hO (mv q13 (cn (fun hE hK => zy (ks 0 hK 30 rfl) rfl) .nil)) ?zk9
    intro a10 w10 hA hE hB HF; refine kr4 HF q0 q10 q12 q13 ?_; clear q0 q10 q12 q13; intro q0 q10 q12 q13; have q31 := ksv (HF 31) rfl rfl rfl; clear HF; replace h_0 := vx h_0 hE; replace f3 := vx f3 hE; replace f6 := f6.ext hE; clear hE; refine zE (zB ?_)
    revert h; refine cnd q31 (fun h => ?_) (fun h => ?_)
    ·
     refine wp_skip (zB ?_)
     refine zY (fun a w => ∃ (O27 : Tags) (x24 : List Int) (u25 : Value), a.fit 56 ∧ Base (Fr w0) O w0 O27 w ∧ a.get 0 = v_0 ∧ (rSl zA).v O27 w v_0 x_0 ∧ a.get 10 = u2 ∧ (rSl (rInt .i64)).v O27 w u2 x1.1 ∧ a.get 12 = u25 ∧ OwnL 1 (rInt .i64) 3 (Fr w0) O27 w u25 x24 ∧ a.get 13 = .int .i64 x7 ∧ (gg x7 x24).run n = some st2) ?_ ?_
     ·
      refine wp_block (wp_seq ?_)
      refine' rb [_] mixed hA hB hO (cn (fun hE hK => zC rfl) .nil) ?zk10
      intro a11 w11 hA hE hB HF; refine kr4 HF q0 q10 q12 q13 ?_; clear q0 q10 q12 q13; intro q0 q10 q12 q13; have q14 := ksv (HF 14) rfl rfl rfl; clear q31 HF; replace h_0 := vx h_0 hE; replace f3 := vx f3 hE; replace f6 := f6.ext hE; clear hE; refine zE (zB ?_)
      refine zY (fun a w => ∃ (O17 : Tags) (x16 : Bool), a.fit 56 ∧ Base (Fr w0) O w0 O17 w ∧ a.get 0 = v_0 ∧ (rSl zA).v O17 w v_0 x_0 ∧ a.get 10 = u2 ∧ (rSl (rInt .i64)).v O17 w u2 x1.1 ∧ a.get 12 = u5 ∧ OwnL 1 (rInt .i64) 3 (Fr w0) O17 w u5 x4 ∧ a.get 13 = .int .i64 x7 ∧ a.get 14 = .bool x16 ∧ (js x4 x7 x16).run n = some st2) ?_ ?_
      ·
       refine wp_seq ?_
       refine' rb [_] mixed hA hB hO (cn (fun hE hK => zC rfl) .nil) ?zk11
       intro a12 w12 hA hE hB HF; refine kr5 HF q0 q10 q12 q13 q14 ?_; clear q0 q10 q12 q13 q14; intro q0 q10 q12 q13 q14; have q15 := ksv (HF 15) rfl rfl rfl; clear HF; replace h_0 := vx h_0 hE; replace f3 := vx f3 hE; replace f6 := f6.ext hE; clear hE; refine zE (zB (wp_block ?_))
       obtain ⟨e5, he5, hk5⟩ := Comp.run_bind h; clear h
       refine yt (fun m a w => ∃ (O11 : Tags) (x9 : Bool) (x10 : Int), a.fit 56 ∧ Base (Fr w0) O w0 O11 w ∧ a.get 0 = v_0 ∧ (rSl zA).v O11 w v_0 x_0 ∧ a.get 10 = u2 ∧ (rSl (rInt .i64)).v O11 w u2 x1.1 ∧ a.get 12 = u5 ∧ OwnL 1 (rInt .i64) 3 (Fr w0) O11 w u5 x4 ∧ a.get 13 = .int .i64 x7 ∧ a.get 14 = .bool x9 ∧ a.get 15 = .int .i64 x10 ∧ Comp.loopN (fun s => yT x1 x_0 x7 s.1 s.2) n m (x9, x10) = some e5) (m := n) ?st5 ?_
       case st5 =>
        exact ⟨_, _, _, hA, hB, q0, h_0, q10, f3, q12, f6, q13, q14, q15, Comp.zk he5⟩
       intro m_ a13 w13 hI
       clear hA hB he5 q0 q10 q12 q13 q14 q15 f3 f6 h_0
       obtain ⟨O11, x9, x10, hA, hB, q0, h_0, q10, f3, q12, f6, q13, q14, q15, hl⟩ := hI
       obtain ⟨m5, hlt5, st5, h, hnext5, hdone5⟩ := Comp.zZ hl; clear hl
       replace h : (yT x1 x_0 x7 x9 x10).run n = some st5 := h
       unfold yT at h; refine wp_seq (wp_seq ?_)
       refine' rb [_, _, _, _] mixed hA hB hO (mv q15 (mv q10 (cn (fun hE hK => zg (r := (rInt .i64)) ty23 (ks 1 hK 35 rfl) (rd_of (vx f3 hE))) (cn (fun hE hK => zy (ks 0 hK 34 rfl) (ks 2 hK 36 rfl)) .nil)))) ?zk12
       intro a14 w14 hA hE hB HF; refine kr6 HF q0 q10 q12 q13 q14 q15 ?_; clear q0 q10 q12 q13 q14 q15; intro q0 q10 q12 q13 q14 q15; have q37 := ksv (HF 37) rfl rfl rfl; clear HF; replace h_0 := vx h_0 hE; replace f3 := vx f3 hE; replace f6 := f6.ext hE; clear hE; refine zE (zB ?_)
       revert h; refine cnd q37 (fun h => ?_) (fun h => ?_)
       ·
        refine wp_skip (zB (wp_seq (wp_block ?_))); obtain ⟨x12, hx12, h⟩ := Comp.run_bind h; obtain ⟨x13, hx13, h⟩ := Comp.run_bind h
        refine' rb [_, _, _, _, _, SP.ptr (rInt .i64) O11 x12, SP.isv (.int .i64 x12), _, SP.isv (.bool x13), _, _] mixed hA hB hO (mv q14 (cn (fun hE hK => zJ (ks 0 hK 40 rfl)) (mv q0 (mv q10 (mv q15 (.cons (fun _ _ hE hK hg => zp (r := (rInt .i64)) (O := O11) ty23 ty3 rfl (kg 3 hK 43 rfl hg) (rd_of (vx f3 hE)) (kg 4 hK 44 rfl hg) (zr hx12 hg)) (.cons (fun _ _ hE hK hg => za (rInt .i64) (fun _ => rfl) ty3 rfl rfl rfl (kspS (φ := SP.ptr (rInt .i64) O11 x12) (j := 5) (hK 45 rfl) rfl rfl hg) (fun _ _ _ h => zU.1 h)) (mv q13 (.cons (fun _ _ hE hK hg => vR fn50 (kg 2 hK 42 rfl hg) (kg 6 hK 46 rfl hg) (kg 7 hK 47 rfl hg) (ok_colletref43_blames (OkO.ext hB.ok hE) (vx h_0 hE) (zr hx13 hg))) (cn (fun hE hK => zV (ks 1 hK 41 rfl) (fun hb => kg 8 hK 48 rfl (zf rfl rfl hb)) (fun _ => rfl)) (cn (fun hE hK => zC (ks 9 hK 49 rfl)) .nil))))))))))) ?zk13
        intro a15 w15 hA hE hB HF; refine kr5 HF q0 q10 q12 q13 q15 ?_; clear q0 q10 q12 q13 q15; intro q0 q10 q12 q13 q15; replace q14 := ksv (HF 14) rfl rfl rfl; clear q37 HF; replace h_0 := vx h_0 hE; replace f3 := vx f3 hE; replace f6 := f6.ext hE; clear hE; refine zE (zm (zB ?_))
        refine' rb [_, _, _] mixed hA hB hO (mv q15 (cn (fun hE hK => yP (ks 0 hK 38 rfl) rfl) (cn (fun hE hK => zC (ks 1 hK 39 rfl)) .nil))) ?zk14
        intro a16 w16 hA hE hB HF; refine kr5 HF q0 q10 q12 q13 q14 ?_; clear q0 q10 q12 q13 q14; intro q0 q10 q12 q13 q14; replace q15 := ksv (HF 15) rfl rfl rfl; clear HF; replace h_0 := vx h_0 hE; replace f3 := vx f3 hE; replace f6 := f6.ext hE; clear hE; refine zE (zB ?_)
        have h := hnext5 _ (Comp.run_pure h).symm
        refine ⟨m5, hlt5, ?_⟩
        exact ⟨_, _, _, hA, hB, q0, h_0, q10, f3, q12, f6, q13, q14, q15, h⟩
       ·
        refine wp_exit (zT (zT (zw ?_)))
        have hd_ := hdone5 _ (Comp.run_pure h).symm; clear h
        subst hd_; have h := hk5; clear hk5; try dsimp only at h
        refine zB ?_
        exact ⟨_, _, hA, hB, q0, h_0, q10, f3, q12, f6, q13, q14, h⟩
      intro a17 w17 hI
      clear hA hB h q0 q10 q12 q13 q14 f3 f6 h_0
      obtain ⟨O17, x16, hA, hB, q0, h_0, q10, f3, q12, f6, q13, q14, h⟩ := hI
      unfold js at h; refine wp_seq ?_
      refine' rb [_] mixed hA hB hO (mv q14 .nil) ?zk15
      intro a18 w18 hA hE hB HF; refine kr4 HF q0 q10 q12 q13 ?_; clear q0 q10 q12 q13; intro q0 q10 q12 q13; have q50 := ksv (HF 50) rfl rfl rfl; clear q14 HF; replace h_0 := vx h_0 hE; replace f3 := vx f3 hE; replace f6 := f6.ext hE; clear hE; refine zE (zB ?_)
      revert h; refine cnd q50 (fun h => ?_) (fun h => ?_)
      ·
       refine' rbT [_, _, SP.vl (rSl (rInt .i64)) O17 [x7]] hA hB hO (mv q12 (mv q13 (cn (fun hE hK => zP (r := (rInt .i64)) (fun _ => rfl) rfl (OkO.ext hB.ok hE) ty23 ty3 (zM (ks 1 hK 52 rfl) zh) ⟨(by exact zU.2 rfl), trivial⟩ rfl (by decide)) .nil))) ?zk16
       intro a19 w19 hA hE hB HF; refine kr4 HF q0 q10 q12 q13 ?_; clear q0 q10 q12 q13; intro q0 q10 q12 q13; obtain ⟨u18, q53, f19⟩ := kx (HF 53) rfl rfl rfl; have q51 := ksv (HF 51) rfl rfl rfl; clear q50 HF; replace h_0 := vx h_0 hE; replace f3 := vx f3 hE; replace f6 := f6.ext hE; clear hE; obtain ⟨x20, hx20, h⟩ := Comp.run_bind h
       refine gQ (r := (rInt .i64)) (fun _ => rfl) rfl ty23 ty3 rfl (by decide) hO hB (yH hB) q51 f6 q53 (rd_of f19) hx20 (by decide) fun u21 w20 O22 f23 hB' hX => ?_
       clear hB; have hB := hB'; clear hB'; clear f6; replace h_0 := vk h_0 hX; replace f3 := vk f3 hX; replace f19 := vk f19 hX; clear hX
       refine zQ hA (by decide) fun a21 hA q_ hfr => ?_
       refine kd6 hfr q0 q10 q12 q13 q51 q53 ?_; clear q0 q10 q12 q13 q51 q53; intro q0 q10 q12 q13 q51 q53; have q54 := q_; clear q_ hfr
       refine l_ok (φ := SP.isv (u21)) hO hB (by exact zC q54) rfl fun u_ w22 hE hB' hv_ => ?_
       replace hv_ := Eq.symm hv_; subst hv_; clear hB; have hB := hB'; clear hB'
       replace h_0 := vx h_0 hE; replace f3 := vx f3 hE; replace f23 := f23.ext hE; clear hE
       refine zQ hA (by decide) fun a23 hA q_ hfr => ?_
       replace q0 := (hfr 0 rfl).trans q0
       replace q10 := (hfr 10 rfl).trans q10
       replace q13 := (hfr 13 rfl).trans q13
       replace q54 := (hfr 54 rfl).trans q54
       clear q12; have q12 := q_; clear q_ hfr; refine zE (zm (zB ?_))
       exact ⟨_, _, _, hA, hB, q0, h_0, q10, f3, q12, f23, q13, h⟩
      ·
       refine wp_skip (zm (zB ?_))
       exact ⟨_, _, _, hA, hB, q0, h_0, q10, f3, q12, f6, q13, h⟩
     intro a24 w24 hI
     clear hA hB h q0 q10 q12 q13 q31 f3 f6 h_0
     obtain ⟨O27, x24, u25, hA, hB, q0, h_0, q10, f3, q12, f26, q13, h⟩ := hI
     unfold gg at h
     refine' rb [_, _, _] mixed hA hB hO (mv q13 (cn (fun hE hK => yP (ks 0 hK 32 rfl) rfl) (cn (fun hE hK => zC (ks 1 hK 33 rfl)) .nil))) ?zk17
     intro a25 w25 hA hE hB HF; refine kr3 HF q0 q10 q12 ?_; clear q0 q10 q12; intro q0 q10 q12; replace q13 := ksv (HF 13) rfl rfl rfl; clear HF; replace h_0 := vx h_0 hE; replace f3 := vx f3 hE; replace f26 := f26.ext hE; clear hE; refine zE (zB ?_)
     have h := hnext2 _ (Comp.run_pure h).symm
     refine ⟨m2, hlt2, ?_⟩
     exact ⟨_, _, _, _, hA, hB, q0, h_0, q10, f3, q12, f26, q13, h⟩
    ·
     refine wp_exit (zT (zT (zw ?_)))
     have hd_ := hdone2 _ (Comp.run_pure h).symm; clear h
     subst hd_; have h := hk2; clear hk2; try dsimp only at h
     refine zB ?_
     exact ⟨_, _, _, hA, hB, q12, f6, h⟩
   intro a26 w26 hI
   clear hA hB h q0 q10 q12 f3 h_0
   obtain ⟨O33, x30, u31, hA, hB, q12, f32, h⟩ := hI
   unfold colletref43_Certain_j1 at h; refine wp_seq ?_
   refine' rb [_, _, _] mixed hA hB hO (mv q12 (cn (fun hE hK => zC (ks 0 hK 55 rfl)) (cn (fun hE hK => zC rfl) .nil))) ?zk18
   intro a27 w27 hA hE hB HF; have q8 := ksv (HF 8) rfl rfl rfl; have q9 := ksv (HF 9) rfl rfl rfl; clear q12 HF; replace f32 := f32.ext hE; clear hE; refine zE (zB (wp_ret ?_))
   have h := Comp.run_pure h; subst h
   exact vB Try.results20 hA q8 q9 hB.ext ⟨_, _, rfl, (OwnL.res f32 (by decide) hB.zero), rfl⟩
set_option maxHeartbeats 4000000 in
theorem ok_colletlaw43_CourtForms {O : Tags} {w0 : World} (hO : OkO O w0) {v_0 : Value} {x_0 : colletlaw43_Case} (h_0 : ze.v O w0 v_0 x_0) {x_1 : Int} {x_2 : Vector Int 3} {v_3 : Value} {x_3 : List api_Claim} (h_3 : (rSl zA).v O w0 v_3 x_3) {v_4 : Value} {x_4 : List api_Sight} (h_4 : (rSl zD).v O w0 v_4 x_4) {x_5 : Vector Int 3} {n : Nat} {y : Bool} (h : (gi x_0 x_1 x_2 x_3 x_4 x_5).run n = some y) : Pure Try.prog 3 #[v_0, .int .u8 x_1, .agg (jN (fun x => [.int .i64 x]) x_2).toArray, v_3, v_4, .agg (jN (fun x => [.int .i64 x]) x_5).toArray] w0 (SP.isv (.bool y)).holds := by
 unfold gi at h
 refine zW Try.func3 rfl 248 Try.ntmps3 (by simp) fun a0 hA hs0 => ?_
 have q0 : a0.get 0 = v_0 := hs0 0 _ rfl
 have q1 : a0.get 1 = .int .u8 x_1 := hs0 1 _ rfl
 have q2 : a0.get 2 = .agg (jN (fun x => [.int .i64 x]) x_2).toArray := hs0 2 _ rfl
 have q3 : a0.get 3 = v_3 := hs0 3 _ rfl
 have q4 : a0.get 4 = v_4 := hs0 4 _ rfl
 have q5 : a0.get 5 = .agg (jN (fun x => [.int .i64 x]) x_5).toArray := hs0 5 _ rfl
 clear hs0
 have hB : Base (Fr w0) O w0 O w0 := Base.start hO
 refine wp_seq ?_
 refine' rb [SP.vl (rBox ze) O x_0, SP.vl (rBox (rVec 3 1 (fun x => [.int .i64 x]) (fun _ => rfl) (fun _ => by simp [Value.oneCell']))) O x_2, SP.vl (rBox (rVec 3 1 (fun x => [.int .i64 x]) (fun _ => rfl) (fun _ => by simp [Value.oneCell']))) O x_5, _] mixed hA hB hO (cn (fun hE hK => okl_boxV (r := ze) yX (OkO.ext hB.ok hE) (kq hK q0) (vx h_0 hE)) (.cons ?z1_1 (.cons ?z1_2 (cn (fun hE hK => zC rfl) .nil)))) ?zk1
 case z1_1 => intro a' w' hE hK hg; exact okl_boxV (r := (rVec 3 1 (fun x => [.int .i64 x]) (fun _ => rfl) (fun _ => by simp [Value.oneCell']))) (by intro h; cases h) (OkO.ext hB.ok hE) (kq hK q2) (by first | exact (rC_v (x := x_2)).2 rfl | exact ⟨_, rfl, rfl⟩)
 case z1_2 => intro a' w' hE hK hg; exact okl_boxV (r := (rVec 3 1 (fun x => [.int .i64 x]) (fun _ => rfl) (fun _ => by simp [Value.oneCell']))) (by intro h; cases h) (OkO.ext hB.ok hE) (kq hK q5) (by first | exact (rC_v (x := x_5)).2 rfl | exact ⟨_, rfl, rfl⟩)
 intro a1 w1 hA hE hB HF; refine kr3 HF q1 q3 q4 ?_; clear q1 q3 q4; intro q1 q3 q4; obtain ⟨u1, q6, f2⟩ := kx (HF 6) rfl rfl rfl; obtain ⟨u3, q8, f4⟩ := kx (HF 8) rfl rfl rfl; obtain ⟨u5, q11, f6⟩ := kx (HF 11) rfl rfl rfl; clear q0 q2 q5 HF; replace h_0 := vx h_0 hE; replace h_3 := vx h_3 hE; replace h_4 := vx h_4 hE; clear hE; refine zE (zB (wp_seq ?_)); obtain ⟨x7, hx7, h⟩ := Comp.run_bind h
 refine' rb [SP.isv (.bool x7), _] mixed hA hB hO (cn (fun hE hK => ok_call0 fn8  (ok_colletlaw43_sanity (OkO.ext hB.ok hE)  hx7)) (cn (fun hE hK => zC (ks 0 hK 40 rfl)) .nil)) ?zk2
 intro a2 w2 hA hE hB HF; refine kr6 HF q1 q3 q4 q6 q8 q11 ?_; clear q1 q3 q4 q6 q8 q11; intro q1 q3 q4 q6 q8 q11; have q13 := ksv (HF 13) rfl rfl rfl; clear HF; replace h_3 := vx h_3 hE; replace h_4 := vx h_4 hE; replace f2 := vx f2 hE; replace f4 := vx f4 hE; replace f6 := vx f6 hE; clear hE; refine zE (zB (wp_seq ?_)); obtain ⟨x8, hx8, h⟩ := Comp.run_bind h
 refine' rb [SP.vl ze O x_0, SP.tup3 (SP.vl (rSl zA) O x8.1) (SP.vl (rSl zD) O x8.2.1) (SP.isv (.int .i64 x8.2.2)), SP.tup3 (SP.vl (rSl zA) O x8.1) (SP.vl (rSl zD) O x8.2.1) (SP.isv (.int .i64 x8.2.2)), SP.vl (rSl zA) O x8.1, SP.vl (rSl zD) O x8.2.1, SP.isv (.int .i64 x8.2.2), SP.vl (rSl zA) O x8.1, SP.vl (rSl zD) O x8.2.1, _] mixed hA hB hO (cn (fun hE hK => vC (r := ze) yX ty25 rfl rfl (kn (hK 6 rfl) rfl q6) (yi yX (vx f2 hE))) (.cons (fun _ _ hE hK hg => yL (zz fn9 rfl rfl (ok_colletlaw43_Case_made (OkO.ext hB.ok hE) (kp (SP.vl ze O x_0) 0 hK 42 rfl) hx8)) (fun _ _ _ ⟨a_, b_, d_, e0_, h0_, h1_, h2_⟩ => ⟨a_, b_, d_, e0_, (fun h => (OwnR.val h (fun g hg => (OkO.ext hB.ok hE) g (OwnR.ge h g hg).1))) h0_, h1_, h2_⟩)) (cn (fun hE hK => vr (φ := SP.tup3 (SP.vl (rSl zA) O x8.1) (SP.vl (rSl zD) O x8.2.1) (SP.isv (.int .i64 x8.2.2))) (kp _ 1 hK 43 rfl)) (cn (fun hE hK => okl_ext3_0 (kp (SP.tup3 (SP.vl (rSl zA) O x8.1) (SP.vl (rSl zD) O x8.2.1) (SP.isv (.int .i64 x8.2.2))) 2 hK 41 rfl)) (cn (fun hE hK => okl_ext3_1 (kp (SP.tup3 (SP.vl (rSl zA) O x8.1) (SP.vl (rSl zD) O x8.2.1) (SP.isv (.int .i64 x8.2.2))) 2 hK 41 rfl)) (cn (fun hE hK => okl_ext3_2 (kp (SP.tup3 (SP.vl (rSl zA) O x8.1) (SP.vl (rSl zD) O x8.2.1) (SP.isv (.int .i64 x8.2.2))) 2 hK 41 rfl)) (cn (fun hE hK => zt (φ := SP.vl (rSl zA) O x8.1) (kp _ 3 hK 44 rfl)) (cn (fun hE hK => zt (φ := SP.vl (rSl zD) O x8.2.1) (kp _ 4 hK 45 rfl)) (cn (fun hE hK => zC (ks 5 hK 46 rfl)) .nil))))))))) ?zk3
 intro a3 w3 hA hE hB HF; refine kr6 HF q1 q3 q4 q8 q11 q13 ?_; clear q1 q3 q4 q8 q11 q13; intro q1 q3 q4 q8 q11 q13; obtain ⟨u9, q14, f10⟩ := kx (HF 14) rfl rfl rfl; obtain ⟨u11, q15, f12⟩ := kx (HF 15) rfl rfl rfl; have q16 := ksv (HF 16) rfl rfl rfl; clear q6 HF; replace h_3 := vx h_3 hE; replace h_4 := vx h_4 hE; replace f2 := vx f2 hE; replace f4 := vx f4 hE; replace f6 := vx f6 hE; clear hE; refine zE (zB (wp_seq ?_))
 refine' rbT [] hA hB hO .nil ?zk4
 intro a4 w4 hA hE hB HF; refine kr9 HF q1 q3 q4 q8 q11 q13 q14 q15 q16 ?_; clear q1 q3 q4 q8 q11 q13 q14 q15 q16; intro q1 q3 q4 q8 q11 q13 q14 q15 q16; clear HF; replace h_3 := vx h_3 hE; replace h_4 := vx h_4 hE; replace f4 := vx f4 hE; replace f6 := vx f6 hE; replace f10 := vx f10 hE; replace f12 := vx f12 hE; clear hE
 refine l_ok (φ := SP.ownr zA 33 w4.heap.size O []) hO hB (by exact jf (r := zA) zK rfl hB.ok ty27 ty33 (Nat.le_refl _) zh trivial rfl (by decide)) rfl fun u13 w5 hE hB' f14 => ?_
 clear hB'; obtain ⟨O15, hB', hX, f16⟩ := ownNew hO hB hE f14 rfl 1 (by decide)
 clear hB f14; have hB := hB'; clear hB'; replace h_3 := vk h_3 hX; replace h_4 := vk h_4 hX; replace f4 := vk f4 hX; replace f6 := vk f6 hX; replace f10 := vk f10 hX; replace f12 := vk f12 hX; clear hX hE
 refine zQ hA (by decide) fun a6 hA q_ hfr => ?_
 refine kd9 hfr q1 q3 q4 q8 q11 q13 q14 q15 q16 ?_; clear q1 q3 q4 q8 q11 q13 q14 q15 q16; intro q1 q3 q4 q8 q11 q13 q14 q15 q16; have q47 := q_; clear q_ hfr
 refine l_ok (φ := SP.isv (u9)) hO hB (by exact zJ q14) rfl fun u_ w7 hE hB' hv_ => ?_
 replace hv_ := Eq.symm hv_; subst hv_; clear hB; have hB := hB'; clear hB'
 replace h_3 := vx h_3 hE; replace h_4 := vx h_4 hE; replace f4 := vx f4 hE; replace f6 := vx f6 hE; replace f10 := vx f10 hE; replace f12 := vx f12 hE; replace f16 := f16.ext hE; clear hE
 refine zQ hA (by decide) fun a8 hA q_ hfr => ?_
 refine kd10 hfr q1 q3 q4 q8 q11 q13 q14 q15 q16 q47 ?_; clear q1 q3 q4 q8 q11 q13 q14 q15 q16 q47; intro q1 q3 q4 q8 q11 q13 q14 q15 q16 q47; have q48 := q_; clear q_ hfr; obtain ⟨x17, hx17, h⟩ := Comp.run_bind h
 refine gQ (r := zA) zK rfl ty27 ty33 rfl (by decide) hO hB (yH hB) q47 f16 q48 (rd_of f10) hx17 (by decide) fun u18 w9 O19 f20 hB' hX => ?_
 clear hB; have hB := hB'; clear hB'; clear f16; replace h_3 := vk h_3 hX; replace h_4 := vk h_4 hX; replace f4 := vk f4 hX; replace f6 := vk f6 hX; replace f10 := vk f10 hX; replace f12 := vk f12 hX; clear hX
 refine zQ hA (by decide) fun a10 hA q_ hfr => ?_
 refine kd11 hfr q1 q3 q4 q8 q11 q13 q14 q15 q16 q47 q48 ?_; clear q1 q3 q4 q8 q11 q13 q14 q15 q16 q47 q48; intro q1 q3 q4 q8 q11 q13 q14 q15 q16 q47 q48; have q49 := q_; clear q_ hfr
 refine l_ok (φ := SP.isv (u18)) hO hB (by exact zC q49) rfl fun u_ w11 hE hB' hv_ => ?_
 replace hv_ := Eq.symm hv_; subst hv_; clear hB; have hB := hB'; clear hB'
 replace h_3 := vx h_3 hE; replace h_4 := vx h_4 hE; replace f4 := vx f4 hE; replace f6 := vx f6 hE; replace f10 := vx f10 hE; replace f12 := vx f12 hE; replace f20 := f20.ext hE; clear hE
 refine zQ hA (by decide) fun a12 hA q_ hfr => ?_
 refine kd10 hfr q1 q3 q4 q8 q11 q13 q14 q15 q16 q49 ?_; clear q1 q3 q4 q8 q11 q13 q14 q15 q16 q49; intro q1 q3 q4 q8 q11 q13 q14 q15 q16 q49; have q17 := q_; clear q_ hfr; refine zE (zB ?_)
 refine zY (fun a w => ∃ (O39 : Tags) (x32 : List api_Claim) (u33 : Value), a.fit 248 ∧ Base (Fr w0) O w0 O39 w ∧ a.get 1 = .int .u8 x_1 ∧ a.get 3 = v_3 ∧ (rSl zA).v O39 w v_3 x_3 ∧ a.get 4 = v_4 ∧ (rSl zD).v O39 w v_4 x_4 ∧ a.get 11 = u5 ∧ (rBox (rVec 3 1 (fun x => [.int .i64 x]) (fun _ => rfl) (fun _ => by simp [Value.oneCell']))).v O39 w u5 x_5 ∧ a.get 13 = .bool x7 ∧ a.get 14 = u9 ∧ (rSl zA).v O39 w u9 x8.1 ∧ a.get 15 = u11 ∧ (rSl zD).v O39 w u11 x8.2.1 ∧ a.get 16 = .int .i64 x8.2.2 ∧ a.get 17 = u33 ∧ (rSl zA).v O39 w u33 x32 ∧ (vK x_4 x_3 x_1 x8 x_5 x7 x32).run n = some y) ?_ ?_
 ·
  refine wp_seq ?_
  refine' rb [_, _, _] mixed hA hB hO (mv q17 (cn (fun hE hK => zg (r := zA) ty27 (ks 0 hK 50 rfl) (OwnL.rd (OwnL.ext f20 hE))) (cn (fun hE hK => ok_gtr (ks 1 hK 51 rfl) rfl) .nil))) ?zk5
  intro a13 w13 hA hE hB HF; refine kr10 HF q1 q3 q4 q8 q11 q13 q14 q15 q16 q17 ?_; clear q1 q3 q4 q8 q11 q13 q14 q15 q16 q17; intro q1 q3 q4 q8 q11 q13 q14 q15 q16 q17; have q52 := ksv (HF 52) rfl rfl rfl; clear HF; replace h_3 := vx h_3 hE; replace h_4 := vx h_4 hE; replace f4 := vx f4 hE; replace f6 := vx f6 hE; replace f10 := vx f10 hE; replace f12 := vx f12 hE; replace f20 := f20.ext hE; clear hE; refine zE (zB ?_)
  revert h; refine cnd q52 (fun h => ?_) (fun h => ?_)
  ·
   obtain ⟨x21, hx21, h⟩ := Comp.run_bind h; obtain ⟨x22, hx22, h⟩ := Comp.run_bind h; obtain ⟨x23, hx23, h⟩ := Comp.run_bind h; obtain ⟨x24, hx24, h⟩ := Comp.run_bind h; obtain ⟨x25, hx25, h⟩ := Comp.run_bind h
   refine' rb [_, _, _, _, _, SP.isv (.int .i64 x21), _, _, _, _, _, SP.isv (.int .i64 x22), SP.ptr zA O19 x23, SP.vl zA O19 x23, SP.isv (.agg (jN (fun x => [.int .i64 x]) x_2).toArray), SP.vl zA O19 x24, SP.elt (u18) (Int.toNat x21 * 5)] mixed hA hB hO (mv q17 (mv q1 (cn (fun hE hK => ok_convI ty5 ty3 (ks 1 hK 54 rfl)) (mv q17 (cn (fun hE hK => zg (r := zA) ty27 (ks 3 hK 56 rfl) (OwnL.rd (OwnL.ext f20 hE))) (cn (fun hE hK => ok_isv (ok_rem (ks 2 hK 55 rfl) (ks 4 hK 57 rfl) (run_rem hx21).1) (congrArg _ (run_rem hx21).2)) (mv q17 (mv q1 (cn (fun hE hK => ok_convI ty5 ty3 (ks 7 hK 60 rfl)) (mv q17 (cn (fun hE hK => zg (r := zA) ty27 (ks 9 hK 62 rfl) (OwnL.rd (OwnL.ext f20 hE))) (cn (fun hE hK => ok_isv (ok_rem (ks 8 hK 61 rfl) (ks 10 hK 63 rfl) (run_rem hx22).1) (congrArg _ (run_rem hx22).2)) (cn (fun hE hK => zp (r := zA) (O := O19) ty27 ty33 rfl (ks 6 hK 59 rfl) (OwnL.rd (OwnL.ext f20 hE)) (ks 11 hK 64 rfl) hx23) (cn (fun hE hK => vC (r := zA) zK ty33 rfl rfl rfl (kp (SP.ptr zA O19 x23) 12 hK 65 rfl)) (.cons ?z6_14 (cn (fun hE hK => zz fn10 rfl (ks 14 hK 67 rfl) (ok_colletref43_Odd (OkO.ext hB.ok hE) (kp (SP.vl zA O19 x23) 13 hK 66 rfl) hx24)) (cn (fun hE hK => okl_idxOwn rfl ty27 ty33 (ksv (j := 0) (hK 53 rfl) rfl rfl rfl) (OwnL.ext f20 hE) (ks 5 hK 58 rfl) (idx_lt hx25)) .nil))))))))))))))))) ?zk6
   case z6_14 => intro a' w' hE hK hg; exact za (rVec 3 1 (fun x => [.int .i64 x]) (fun _ => rfl) (fun _ => by simp [Value.oneCell'])) (by intro h; cases h) ty26 rfl rfl (kn (hK 8 rfl) rfl q8) (yi (by intro h; cases h) (vx f4 hE)) (fun _ _ _ h => rC_v.1 h)
   intro a14 w14 hA hE hB HF; refine kr9 HF q1 q3 q4 q11 q13 q14 q15 q16 q17 ?_; clear q1 q3 q4 q11 q13 q14 q15 q16 q17; intro q1 q3 q4 q11 q13 q14 q15 q16 q17; obtain ⟨u26, q68, f27⟩ := kx (HF 68) rfl rfl rfl; obtain ⟨u28, q69, f29⟩ := kx (HF 69) rfl rfl rfl; clear q8 q52 HF; replace h_3 := vx h_3 hE; replace h_4 := vx h_4 hE; replace f4 := vx f4 hE; replace f6 := vx f6 hE; replace f10 := vx f10 hE; replace f12 := vx f12 hE; replace f20 := f20.ext hE; clear hE; obtain ⟨x31, hx31, h⟩ := Comp.run_bind h
   refine l_storeElt (r := zA) zK rfl hO hB (yH hB) ty33 q69 f29 f20 q68 f27 hx31 (by decide) fun w15 f30 hB' hX => ?_
   clear hB; have hB := hB'; clear hB'; replace h_3 := vk h_3 hX; replace h_4 := vk h_4 hX; replace f6 := vk f6 hX; replace f10 := vk f10 hX; replace f12 := vk f12 hX; replace f27 := vk f27 hX; clear hX f20; refine zE (zB ?_)
   obtain ⟨O35, hB', hX, f36⟩ := freezeL hO hB f30 (by decide)
   clear f30 hB; have hB := hB'; clear hB'; replace h_3 := vk h_3 hX; replace h_4 := vk h_4 hX; replace f6 := vk f6 hX; replace f10 := vk f10 hX; replace f12 := vk f12 hX; clear hX
   exact ⟨_, _, _, hA, hB, q1, q3, h_3, q4, h_4, q11, f6, q13, q14, f10, q15, f12, q16, q17, f36, h⟩
  ·
   refine wp_skip (zB ?_)
   obtain ⟨O37, hB', hX, f38⟩ := freezeL hO hB f20 (by decide)
   clear f20 hB; have hB := hB'; clear hB'; replace h_3 := vk h_3 hX; replace h_4 := vk h_4 hX; replace f4 := vk f4 hX; replace f6 := vk f6 hX; replace f10 := vk f10 hX; replace f12 := vk f12 hX; clear hX
   exact ⟨_, _, _, hA, hB, q1, q3, h_3, q4, h_4, q11, f6, q13, q14, f10, q15, f12, q16, q17, f38, h⟩
 intro a16 w16 hI
 clear hA hB h q1 q3 q4 q8 q11 q13 q14 q15 q16 q17 f10 f12 f20 f4 f6 h_3 h_4
 obtain ⟨O39, x32, u33, hA, hB, q1, q3, h_3, q4, h_4, q11, f6, q13, q14, f10, q15, f12, q16, q17, f34, h⟩ := hI
 unfold vK at h; refine wp_seq ?_; obtain ⟨x40, hx40, h⟩ := Comp.run_bind h
 refine' rb [_, _, _, _, SP.vl (rSl zD) O39 x40, SP.vl (rSl zD) O39 x40] mixed hA hB hO (mv q4 (mv q4 (cn (fun hE hK => zg (r := zD) ty28 (ks 1 hK 71 rfl) (rd_of (vx h_4 hE))) (cn (fun hE hK => ok_min (ks 2 hK 72 rfl) rfl) (cn (fun hE hK => okl_slice_h (r := zD) ty28 ty64 rfl (ks 0 hK 70 rfl) (vx h_4 hE) (ks 3 hK 73 rfl) hx40) (cn (fun hE hK => zt (φ := SP.vl (rSl zD) O39 x40) (kp _ 4 hK 74 rfl)) .nil)))))) ?zk7
 intro a17 w17 hA hE hB HF; refine kr8 HF q1 q3 q11 q13 q14 q15 q16 q17 ?_; clear q1 q3 q11 q13 q14 q15 q16 q17; intro q1 q3 q11 q13 q14 q15 q16 q17; clear q4; obtain ⟨u41, q4, f42⟩ := kx (HF 4) rfl rfl rfl; clear HF; replace h_3 := vx h_3 hE; replace h_4 := vx h_4 hE; replace f6 := vx f6 hE; replace f10 := vx f10 hE; replace f12 := vx f12 hE; replace f34 := vx f34 hE; clear hE; refine zE (zB ?_)
 refine zY (fun a w => ∃ (O127 : Tags), a.fit 248 ∧ Base (Fr w0) O w0 O127 w ∧ a.get 13 = .bool x7 ∧ a.get 14 = u9 ∧ (rSl zA).v O127 w u9 x8.1 ∧ a.get 16 = .int .i64 x8.2.2 ∧ (gF x7 x8 ).run n = some y) ?_ ?_
 ·
  refine wp_seq ?_; obtain ⟨x43, hx43, h⟩ := Comp.run_bind h; obtain ⟨x44, hx44, h⟩ := Comp.run_bind h
  refine' rb [_, _, _, SP.vl (rSl zA) O39 x43, _, _, _, _, SP.vl (rSl zA) O39 x44, SP.vl (rSl (rSl zA)) O39 [x8.1, x32, x43, x44], _, _] mixed hA hB hO (mv q14 (mv q17 (mv q3 (.cons (fun _ _ hE hK hg => yL (ok_call1 fn11 (ks 2 hK 77 rfl) (ok_colletlaw43_few (OkO.ext hB.ok hE) (vx h_3 hE) hx43)) (fun _ _ _ h => (OwnR.val h (fun g hg => (OkO.ext hB.ok hE) g (OwnR.ge h g hg).1)))) (mv q1 (cn (fun hE hK => ok_convI ty5 ty3 (ks 4 hK 79 rfl)) (cn (fun hE hK => ok_rem (ks 5 hK 80 rfl) rfl (by decide)) (cn (fun hE hK => yP rfl (ks 6 hK 81 rfl)) (.cons (fun _ _ hE hK hg => yL (okl_make (r := zA) (B := w17.heap.size) rfl ty27 ty33 (by decide) rfl hE.size (ks 7 hK 82 rfl) (ks 7 hK 82 rfl) (fun _ _ => ⟨_, ⟨_, _, rfl, rfl, ⟨_, _, rfl, rfl, ⟨_, _, rfl, rfl, ⟨_, _, rfl, (vf (r := (rSl (rInt .i64))) (kP _ _ _ 0) rfl rfl), ⟨_, _, rfl, (vf (r := (rSl (rInt .i64))) (kP _ _ _ 0) rfl rfl), rfl⟩⟩⟩⟩⟩, rfl⟩) hx44) (fun _ _ _ h => OwnR.val h (fun g hg => hB.ok g (Nat.le_trans (Nat.le_refl _) (OwnR.ge h g hg).1)))) (cn (fun hE hK => zP (r := (rSl zA)) (fun _ => rfl) rfl (OkO.ext hB.ok hE) ty36 ty27 (zM (ks 0 hK 75 rfl) (zM (ks 1 hK 76 rfl) (zM rfl (zM rfl zh)))) ⟨(vx f10 hE), ⟨(vx f34 hE), ⟨(kp (SP.vl (rSl zA) O39 x43) 3 hK 78 rfl), ⟨(kp (SP.vl (rSl zA) O39 x44) 8 hK 83 rfl), trivial⟩⟩⟩⟩ rfl (by decide)) (cn (fun hE hK => zg (r := (rSl zA)) ty36 rfl (rd_of (kp (SP.vl (rSl (rSl zA)) O39 [x8.1, x32, x43, x44]) 9 hK 84 rfl))) (cn (fun hE hK => zJ rfl) .nil)))))))))))) ?zk8
  intro a18 w18 hA hE hB HF; refine kr6 HF q4 q11 q13 q14 q15 q16 ?_; clear q4 q11 q13 q14 q15 q16; intro q4 q11 q13 q14 q15 q16; obtain ⟨u45, q84, f46⟩ := kx (HF 84) rfl rfl rfl; have q85 := ksv (HF 85) rfl rfl rfl; have q86 := ksv (HF 86) rfl rfl rfl; clear q1 q3 q17 HF; replace h_3 := vx h_3 hE; replace f42 := vx f42 hE; replace f6 := vx f6 hE; replace f10 := vx f10 hE; replace f12 := vx f12 hE; replace f34 := vx f34 hE; clear hE; refine zE (zB (wp_block ?_))
  obtain ⟨e3, he3, hk3⟩ := Comp.run_bind h; clear h
  refine yt (fun m a w => ∃ (O48 : Tags) (x47 : Int), a.fit 248 ∧ Base (Fr w0) O w0 O48 w ∧ a.get 4 = u41 ∧ (rSl zD).v O48 w u41 x40 ∧ a.get 11 = u5 ∧ (rBox (rVec 3 1 (fun x => [.int .i64 x]) (fun _ => rfl) (fun _ => by simp [Value.oneCell']))).v O48 w u5 x_5 ∧ a.get 13 = .bool x7 ∧ a.get 14 = u9 ∧ (rSl zA).v O48 w u9 x8.1 ∧ a.get 15 = u11 ∧ (rSl zD).v O48 w u11 x8.2.1 ∧ a.get 16 = .int .i64 x8.2.2 ∧ a.get 84 = u45 ∧ (rSl (rSl zA)).v O48 w u45 [x8.1, x32, x43, x44] ∧ a.get 85 = .int .i64 ([x8.1, x32, x43, x44].length : Int) ∧ a.get 86 = .int .i64 x47 ∧ Comp.loopN (fun s => yF x8 x32 x43 x44 x40 x_5 s) n m x47 = some e3) (m := n) ?st3 ?_
  case st3 =>
   exact ⟨_, _, hA, hB, q4, f42, q11, f6, q13, q14, f10, q15, f12, q16, q84, f46, q85, q86, Comp.zk he3⟩
  intro m_ a19 w19 hI
  clear hA hB he3 q4 q11 q13 q14 q15 q16 q84 q85 q86 f10 f12 f42 f46 f6
  obtain ⟨O48, x47, hA, hB, q4, f42, q11, f6, q13, q14, f10, q15, f12, q16, q84, f46, q85, q86, hl⟩ := hI
  obtain ⟨m3, hlt3, st3, h, hnext3, hdone3⟩ := Comp.zZ hl; clear hl
  replace h : (yF x8 x32 x43 x44 x40 x_5 x47).run n = some st3 := h
  unfold yF at h; refine wp_seq ?_
  refine' rb [_] mixed hA hB hO (cn (fun hE hK => zy (kq hK q86) (kq hK q85)) .nil) ?zk9
  intro a20 w20 hA hE hB HF; refine kr9 HF q4 q11 q13 q14 q15 q16 q84 q85 q86 ?_; clear q4 q11 q13 q14 q15 q16 q84 q85 q86; intro q4 q11 q13 q14 q15 q16 q84 q85 q86; have q87 := ksv (HF 87) rfl rfl rfl; clear HF; replace f42 := vx f42 hE; replace f6 := vx f6 hE; replace f10 := vx f10 hE; replace f12 := vx f12 hE; replace f46 := vx f46 hE; clear hE
  obtain ⟨x49, hx_, h⟩ := Comp.run_bind h; replace hx_ := Comp.run_pure hx_; rw [hx_] at q87; clear hx_
  refine zE (zB (wp_seq ?_))
  revert h; refine cnd q87 (fun h => ?_) (fun h => ?_)
  ·
   refine wp_skip (zB (wp_seq (wp_block (wp_seq ?_)))); obtain ⟨x50, hx50, h⟩ := Comp.run_bind h
   refine' rb [SP.ptr (rSl zA) O48 x50, SP.vl (rSl zA) O48 x50, SP.vl (rSl zA) O48 x50] mixed hA hB hO (cn (fun hE hK => zp (r := (rSl zA)) (O := O48) ty36 ty27 rfl (kq hK q84) (rd_of (vx f46 hE)) (kq hK q86) hx50) (cn (fun hE hK => vC (r := (rSl zA)) (fun _ => rfl) ty27 rfl rfl rfl (kp (SP.ptr (rSl zA) O48 x50) 0 hK 88 rfl)) (cn (fun hE hK => zt (φ := SP.vl (rSl zA) O48 x50) (kp _ 1 hK 89 rfl)) .nil))) ?zk10
   intro a21 w21 hA hE hB HF; refine kr9 HF q4 q11 q13 q14 q15 q16 q84 q85 q86 ?_; clear q4 q11 q13 q14 q15 q16 q84 q85 q86; intro q4 q11 q13 q14 q15 q16 q84 q85 q86; obtain ⟨u51, q19, f52⟩ := kx (HF 19) rfl rfl rfl; clear q87 HF; replace f42 := vx f42 hE; replace f6 := vx f6 hE; replace f10 := vx f10 hE; replace f12 := vx f12 hE; replace f46 := vx f46 hE; clear hE; refine zE (zB (wp_seq ?_)); obtain ⟨x53, hx53, h⟩ := Comp.run_bind h; obtain ⟨x54, hx54, h⟩ := Comp.run_bind h
   obtain ⟨J_, eJ_⟩ : ∃ J_ : (Nat → Bool) → Act → World → Prop, J_ = (fun S_ a_ w_ => ∃ O_ : Tags, Base (Fr w0) O w0 O_ w_ ∧ Keep 0 O48 w21 O_ w_ ∧ (S_ 5 = true → (rSl zD).v O_ w_ (a_.get 95) x54) ∧ (S_ 6 = true → (rSl (rSl zD)).v O_ w_ (a_.get 96) [x8.2.1, x54]) ∧ (S_ 1 = true → S_ 3 = false → OwnL 2 zD 64 (Fr w0) O_ w_ (a_.get 91) []) ∧ (S_ 3 = true → S_ 5 = false → OwnL 2 zD 64 (Fr w0) O_ w_ (a_.get 93) x53) ∧ (S_ 5 = true → OwnL 2 zD 64 (Fr w0) O_ w_ (.slice none 0 0) [])) := ⟨_, rfl⟩
   have T_ : ∀ {i_ : Nat} {d_ : Option Tmp} {v_ : Value} {S_ a' w' w2}, Nat.beq 1 i_ = false → Nat.beq 3 i_ = false → Nat.beq 5 i_ = false → Nat.beq 6 i_ = false → d_ ≠ some 91 → d_ ≠ some 93 → d_ ≠ some 95 → d_ ≠ some 96 → Ext w' w2 → J_ S_ a' w' → J_ (addS S_ i_) (a'.put d_ v_) w2 := by
    subst eJ_; intro i_ d_ v_ S_ a' w' w2 n1_ n3_ n5_ n6_ s91_ s93_ s95_ s96_ hE hJ_
    obtain ⟨O_, hB_, k0_, m5_, m6_, v0_0_, v0_1_, v0_2_⟩ := hJ_
    exact ⟨O_, (Base.step hB_ hE hO), (k0_.trans (KX.keep (KX.ext hE) (by decide))), fun h_ => zG (d := d_) (t := 95) (φ := fun u_ => (rSl zD).v O_ w2 u_ x54) ((GR.zS _ (m5_ (zF n5_ h_)) (KX.keep (KX.ext hE) (by decide)))) s95_, fun h_ => zG (d := d_) (t := 96) (φ := fun u_ => (rSl (rSl zD)).v O_ w2 u_ [x8.2.1, x54]) ((GR.zS _ (m6_ (zF n6_ h_)) (KX.keep (KX.ext hE) (by decide)))) s96_, fun hp_ hq_ => zG (d := d_) (t := 91) (φ := fun u_ => OwnL 2 zD 64 (Fr w0) O_ w2 (u_) []) (OwnL.kx (v0_0_ (zF n1_ hp_) (zd hq_)) (KX.ext hE) (by decide) (by decide)) s91_, fun hp_ hq_ => zG (d := d_) (t := 93) (φ := fun u_ => OwnL 2 zD 64 (Fr w0) O_ w2 (u_) x53) (OwnL.kx (v0_1_ (zF n3_ hp_) (zd hq_)) (KX.ext hE) (by decide) (by decide)) s93_, fun hp_ => OwnL.kx (v0_2_ (zF n5_ hp_)) (KX.ext hE) (by decide) (by decide)⟩
   refine' regionX (draw := false) J_ [SP.isv (u11), SP.tt, SP.isv (u11), SP.tt, SP.isv (u41), SP.tt, SP.tt, SP.isv (.int .i64 ([x8.2.1, x54].length : Int)), SP.isv (.int .i64 0)] mixed hA (.cons (zi _) (.cons (gZ _) (.cons (zi _) (.cons (gZ _) (.cons (zi _) (.cons (gZ _) (.cons (gZ _) (.cons (zi _) (.cons (zi _) .nil))))))))) (.cons ?z11_0 (.cons ?z11_1 (.cons ?z11_2 (.cons ?z11_3 (.cons ?z11_4 (.cons ?z11_5 (.cons ?z11_6 (.cons ?z11_7 (.cons ?z11_8 .nil))))))))) ?zsk11 ?zst11 ?zok11 ?zgd11 ?zk11
   case z11_0 =>
    intro S_ a' w' hA_ hJ_ hS_ hafter_ hbef_ hK hg K_ Q_ hK_
    refine x_ok (φ := SP.isv (u11)) (by exact zJ (kq hK q15)) fun v_ w2 hE hv_ => hK_ v_ w2 (T_ rfl rfl rfl rfl (by decide) (by decide) (by decide) (by decide) hE hJ_) hv_
   case z11_1 =>
    intro S_ a' w' hA_ hJ_ hS_ hafter_ hbef_ hK hg K_ Q_ hK_
    subst eJ_
    obtain ⟨O_, hB_, k0_, m5_, m6_, v0_0_, v0_1_, v0_2_⟩ := hJ_
    refine x_ok (φ := SP.ownr zD 64 w'.heap.size O_ []) (by exact jf (r := zD) yv rfl hB_.ok ty28 ty64 (Nat.le_refl _) zh trivial rfl (by decide)) fun v_ w2 hE hv_ => ?_
    obtain ⟨O2_, hB2_, hX_, f_⟩ := ownNew hO hB_ hE hv_ rfl 2 (by decide)
    exact hK_ v_ w2 ⟨O2_, hB2_, (k0_.trans (KX.keep hX_ (by decide))), fun h_ => zG (d := some 91) (t := 95) (φ := fun u_ => (rSl zD).v O2_ w2 u_ x54) ((GR.zS _ (m5_ (zF rfl h_)) (KX.keep hX_ (by decide)))) (by decide), fun h_ => zG (d := some 91) (t := 96) (φ := fun u_ => (rSl (rSl zD)).v O2_ w2 u_ [x8.2.1, x54]) ((GR.zS _ (m6_ (zF rfl h_)) (KX.keep hX_ (by decide)))) (by decide), fun hp_ hq_ => jP (φ := fun u_ => OwnL 2 zD 64 (Fr w0) O2_ w2 (u_) []) hA_ (by decide) f_, fun hp_ hq_ => no_tf (zF rfl hp_) (hafter_ 3 (by kernel_rfl)), fun hp_ => no_tf (zF rfl hp_) (hafter_ 5 (by kernel_rfl))⟩ trivial
   case z11_2 =>
    intro S_ a' w' hA_ hJ_ hS_ hafter_ hbef_ hK hg K_ Q_ hK_
    refine x_ok (φ := SP.isv (u11)) (by exact zJ (kq hK q15)) fun v_ w2 hE hv_ => hK_ v_ w2 (T_ rfl rfl rfl rfl (by decide) (by decide) (by decide) (by decide) hE hJ_) hv_
   case z11_3 =>
    intro S_ a' w' hA_ hJ_ hS_ hafter_ hbef_ hK hg K_ Q_ hK_
    subst eJ_
    obtain ⟨O_, hB_, k0_, m5_, m6_, v0_0_, v0_1_, v0_2_⟩ := hJ_
    refine x_append (r := zD) yv rfl ty28 ty64 rfl (by decide) hO hB_ (yH hB_) rfl (v0_0_ (zF rfl (hbef_ 1 (by kernel_rfl))) hS_) (ks 2 hK 92 rfl) (rd_of (GR.zS _ f12 k0_)) hx53 (by decide) fun u_ w2 O2_ f_ hB2_ hX_ => ?_
    exact hK_ u_ w2 ⟨O2_, hB2_, (k0_.trans (KX.keep hX_ (by decide))), fun h_ => zG (d := some 93) (t := 95) (φ := fun u_ => (rSl zD).v O2_ w2 u_ x54) ((GR.zS _ (m5_ (zF rfl h_)) (KX.keep hX_ (by decide)))) (by decide), fun h_ => zG (d := some 93) (t := 96) (φ := fun u_ => (rSl (rSl zD)).v O2_ w2 u_ [x8.2.1, x54]) ((GR.zS _ (m6_ (zF rfl h_)) (KX.keep hX_ (by decide)))) (by decide), fun hp_ hq_ => addS_me hq_, fun hp_ hq_ => jP (φ := fun u_ => OwnL 2 zD 64 (Fr w0) O2_ w2 (u_) x53) hA_ (by decide) f_, fun hp_ => no_tf (zF rfl hp_) (hafter_ 5 (by kernel_rfl))⟩ trivial
   case z11_4 =>
    intro S_ a' w' hA_ hJ_ hS_ hafter_ hbef_ hK hg K_ Q_ hK_
    refine x_ok (φ := SP.isv (u41)) (by exact zJ (kq hK q4)) fun v_ w2 hE hv_ => hK_ v_ w2 (T_ rfl rfl rfl rfl (by decide) (by decide) (by decide) (by decide) hE hJ_) hv_
   case z11_5 =>
    intro S_ a' w' hA_ hJ_ hS_ hafter_ hbef_ hK hg K_ Q_ hK_
    subst eJ_
    obtain ⟨O_, hB_, k0_, m5_, m6_, v0_0_, v0_1_, v0_2_⟩ := hJ_
    refine x_append (r := zD) yv rfl ty28 ty64 rfl (by decide) hO hB_ (yH hB_) rfl (v0_1_ (zF rfl (hbef_ 3 (by kernel_rfl))) hS_) (ks 4 hK 94 rfl) (rd_of (GR.zS _ f42 k0_)) hx54 (by decide) fun u_ w2 O2_ f_ hB2_ hX_ => ?_
    obtain ⟨O3_, hB3_, hX3_, f3_⟩ := freezeL hO hB2_ f_ (by decide)
    have hX4_ := KX.trans_same hX_ hX3_
    exact hK_ u_ w2 ⟨O3_, hB3_, (k0_.trans (KX.keep hX4_ (by decide))), fun _ => jP (φ := fun u_ => (rSl zD).v O3_ w2 u_ x54) hA_ (by decide) f3_, fun h_ => zG (d := some 95) (t := 96) (φ := fun u_ => (rSl (rSl zD)).v O3_ w2 u_ [x8.2.1, x54]) ((GR.zS _ (m6_ (zF rfl h_)) (KX.keep hX4_ (by decide)))) (by decide), fun hp_ hq_ => no_tf (hbef_ 3 (by kernel_rfl)) hq_, fun hp_ hq_ => addS_me hq_, fun hp_ => (OwnL.nil _ _ _ _ _ _)⟩ trivial
   case z11_6 =>
    intro S_ a' w' hA_ hJ_ hS_ hafter_ hbef_ hK hg K_ Q_ hK_
    subst eJ_
    obtain ⟨O_, hB_, k0_, m5_, m6_, v0_0_, v0_1_, v0_2_⟩ := hJ_
    refine x_ok (φ := SP.vl (rSl (rSl zD)) O_ [x8.2.1, x54]) (by exact zP (r := (rSl zD)) (fun _ => rfl) rfl hB_.ok ty37 ty28 (zM (ks 0 hK 90 rfl) (zM rfl zh)) ⟨(GR.zS _ f12 k0_), ⟨(m5_ (zF rfl (hbef_ 5 (by kernel_rfl)))), trivial⟩⟩ rfl (by decide)) fun v_ w2 hE hv_ => ?_
    have hB2_ := Base.step hB_ hE hO
    exact hK_ v_ w2 ⟨O_, hB2_, (k0_.trans (KX.keep (KX.ext hE) (by decide))), fun h_ => zG (d := some 96) (t := 95) (φ := fun u_ => (rSl zD).v O_ w2 u_ x54) ((GR.zS _ (m5_ (zF rfl h_)) (KX.keep (KX.ext hE) (by decide)))) (by decide), fun _ => jP (φ := fun u_ => (rSl (rSl zD)).v O_ w2 u_ [x8.2.1, x54]) hA_ (by decide) hv_, fun hp_ hq_ => zG (d := some 96) (t := 91) (φ := fun u_ => OwnL 2 zD 64 (Fr w0) O_ w2 (u_) []) (OwnL.kx (v0_0_ (zF rfl hp_) (zd hq_)) (KX.ext hE) (by decide) (by decide)) (by decide), fun hp_ hq_ => zG (d := some 96) (t := 93) (φ := fun u_ => OwnL 2 zD 64 (Fr w0) O_ w2 (u_) x53) (OwnL.kx (v0_1_ (zF rfl hp_) (zd hq_)) (KX.ext hE) (by decide) (by decide)) (by decide), fun hp_ => OwnL.kx (v0_2_ (zF rfl hp_)) (KX.ext hE) (by decide) (by decide)⟩ trivial
   case z11_7 =>
    intro S_ a' w' hA_ hJ_ hS_ hafter_ hbef_ hK hg K_ Q_ hK_
    have hJ2_ := hJ_; rw [eJ_] at hJ2_; obtain ⟨O_, hB_, k0_, m5_, m6_, v0_0_, v0_1_, v0_2_⟩ := hJ2_
    refine x_ok (φ := SP.isv (.int .i64 ([x8.2.1, x54].length : Int))) (by exact zg (r := (rSl zD)) ty37 rfl (rd_of (m6_ (zF rfl (hbef_ 6 (by kernel_rfl)))))) fun v_ w2 hE hv_ => hK_ v_ w2 (T_ rfl rfl rfl rfl (by decide) (by decide) (by decide) (by decide) hE hJ_) hv_
   case z11_8 =>
    intro S_ a' w' hA_ hJ_ hS_ hafter_ hbef_ hK hg K_ Q_ hK_
    refine x_ok (φ := SP.isv (.int .i64 0)) (by exact zJ rfl) fun v_ w2 hE hv_ => hK_ v_ w2 (T_ rfl rfl rfl rfl (by decide) (by decide) (by decide) (by decide) hE hJ_) hv_
   case zsk11 =>
    subst eJ_
    intro i_ o_ S_ a_ w_ ho_ hact_ hA_ hS_ hbef_ hJ_
    obtain ⟨O_, hB_, k0_, m5_, m6_, v0_0_, v0_1_, v0_2_⟩ := hJ_
    exact ⟨O_, hB_, k0_, fun h_ => by obtain ⟨h1_, h2_⟩ := yG (j := 5) hact_ rfl h_; exact zG (t := 95) (φ := fun u_ => (rSl zD).v O_ w_ u_ x54) (m5_ h1_) (zv (j := 5) (by kernel_rfl) ho_ h2_), fun h_ => by obtain ⟨h1_, h2_⟩ := yG (j := 6) hact_ rfl h_; exact zG (t := 96) (φ := fun u_ => (rSl (rSl zD)).v O_ w_ u_ [x8.2.1, x54]) (m6_ h1_) (zv (j := 6) (by kernel_rfl) ho_ h2_), fun hp_ hq_ => by obtain ⟨h1_, h2_⟩ := yG (j := 1) hact_ rfl hp_; exact zG (t := 91) (φ := fun u_ => OwnL 2 zD 64 (Fr w0) O_ w_ (u_) []) (v0_0_ h1_ (zd hq_)) (zv (j := 1) (by kernel_rfl) ho_ h2_), fun hp_ hq_ => by obtain ⟨h1_, h2_⟩ := yG (j := 3) hact_ rfl hp_; exact zG (t := 93) (φ := fun u_ => OwnL 2 zD 64 (Fr w0) O_ w_ (u_) x53) (v0_1_ h1_ (zd hq_)) (zv (j := 3) (by kernel_rfl) ho_ h2_), fun hp_ => by obtain ⟨h1_, h2_⟩ := yG (j := 5) hact_ rfl hp_; exact (v0_2_ h1_)⟩
   case zst11 => subst eJ_; exact fun w1_ hE_ => ⟨O48, (Base.step hB hE_ hO), (Keep.ext hE_), fun h_ => no_ft h_, fun h_ => no_ft h_, fun hp_ => no_ft hp_, fun hp_ => no_ft hp_, fun hp_ => no_ft hp_⟩
   case zok11 | zgd11 => kernel_rfl
   subst eJ_; clear T_
   intro a22 w22 hA HF hJ_
   obtain ⟨O55, hB_, k0_, m5_, m6_, v0_0_, v0_1_, v0_2_⟩ := hJ_
   replace q4 := kn (HF 4) rfl q4
   replace q11 := kn (HF 11) rfl q11
   replace q13 := kn (HF 13) rfl q13
   replace q14 := kn (HF 14) rfl q14
   replace q15 := kn (HF 15) rfl q15
   replace q16 := kn (HF 16) rfl q16
   replace q19 := kn (HF 19) rfl q19
   replace q84 := kn (HF 84) rfl q84
   replace q85 := kn (HF 85) rfl q85
   replace q86 := kn (HF 86) rfl q86
   have f57 := m6_ rfl
   obtain ⟨u56, q96'⟩ : ∃ u, a22.get 96 = u := ⟨_, rfl⟩
   rw [q96'] at f57
   have q96 := q96'; clear q96'
   have q97' := ksv (j := 7) (HF 97) rfl rfl rfl
   have q97 := q97'; clear q97'
   have q98' := ksv (j := 8) (HF 98) rfl rfl rfl
   have q98 := q98'; clear q98'
   clear HF
   replace f42 := GR.zS _ f42 k0_
   replace f6 := GR.zS _ f6 k0_
   replace f10 := GR.zS _ f10 k0_
   replace f12 := GR.zS _ f12 k0_
   replace f52 := GR.zS _ f52 k0_
   replace f46 := GR.zS _ f46 k0_
   clear hB; have hB := hB_; clear hB_; clear k0_ m5_ m6_ v0_0_ v0_1_ v0_2_; refine zB (wp_block ?_)
   obtain ⟨e4, he4, hk4⟩ := Comp.run_bind h; clear h
   refine yt (fun m a w => ∃ (O59 : Tags) (x58 : Int), a.fit 248 ∧ Base (Fr w0) O w0 O59 w ∧ a.get 4 = u41 ∧ (rSl zD).v O59 w u41 x40 ∧ a.get 11 = u5 ∧ (rBox (rVec 3 1 (fun x => [.int .i64 x]) (fun _ => rfl) (fun _ => by simp [Value.oneCell']))).v O59 w u5 x_5 ∧ a.get 13 = .bool x7 ∧ a.get 14 = u9 ∧ (rSl zA).v O59 w u9 x8.1 ∧ a.get 15 = u11 ∧ (rSl zD).v O59 w u11 x8.2.1 ∧ a.get 16 = .int .i64 x8.2.2 ∧ a.get 19 = u51 ∧ (rSl zA).v O59 w u51 x50 ∧ a.get 84 = u45 ∧ (rSl (rSl zA)).v O59 w u45 [x8.1, x32, x43, x44] ∧ a.get 85 = .int .i64 ([x8.1, x32, x43, x44].length : Int) ∧ a.get 86 = .int .i64 x47 ∧ a.get 96 = u56 ∧ (rSl (rSl zD)).v O59 w u56 [x8.2.1, x54] ∧ a.get 97 = .int .i64 ([x8.2.1, x54].length : Int) ∧ a.get 98 = .int .i64 x58 ∧ Comp.loopN (fun s => yE x8 x54 x_5 x50 s) n m x58 = some e4) (m := n) ?st4 ?_
   case st4 =>
    exact ⟨_, _, hA, hB, q4, f42, q11, f6, q13, q14, f10, q15, f12, q16, q19, f52, q84, f46, q85, q86, q96, f57, q97, q98, Comp.zk he4⟩
   intro m_ a23 w23 hI
   clear hA hB he4 q4 q11 q13 q14 q15 q16 q19 q84 q85 q86 q96 q97 q98 f10 f12 f42 f46 f52 f57 f6
   obtain ⟨O59, x58, hA, hB, q4, f42, q11, f6, q13, q14, f10, q15, f12, q16, q19, f52, q84, f46, q85, q86, q96, f57, q97, q98, hl⟩ := hI
   obtain ⟨m4, hlt4, st4, h, hnext4, hdone4⟩ := Comp.zZ hl; clear hl
   replace h : (yE x8 x54 x_5 x50 x58).run n = some st4 := h
   unfold yE at h; refine wp_seq ?_
   refine' rb [_] mixed hA hB hO (cn (fun hE hK => zy (kq hK q98) (kq hK q97)) .nil) ?zk12
   intro a24 w24 hA hE hB HF; refine kr13 HF q4 q11 q13 q14 q15 q16 q19 q84 q85 q86 q96 q97 q98 ?_; clear q4 q11 q13 q14 q15 q16 q19 q84 q85 q86 q96 q97 q98; intro q4 q11 q13 q14 q15 q16 q19 q84 q85 q86 q96 q97 q98; have q99 := ksv (HF 99) rfl rfl rfl; clear HF; replace f42 := vx f42 hE; replace f6 := vx f6 hE; replace f10 := vx f10 hE; replace f12 := vx f12 hE; replace f52 := vx f52 hE; replace f46 := vx f46 hE; replace f57 := vx f57 hE; clear hE
   obtain ⟨x60, hx_, h⟩ := Comp.run_bind h; replace hx_ := Comp.run_pure hx_; rw [hx_] at q99; clear hx_
   refine zE (zB (wp_seq ?_))
   revert h; refine cnd q99 (fun h => ?_) (fun h => ?_)
   ·
    refine wp_skip (zB (wp_seq (wp_block (wp_seq ?_)))); obtain ⟨x61, hx61, h⟩ := Comp.run_bind h
    refine' rb [SP.ptr (rSl zD) O59 x61, SP.vl (rSl zD) O59 x61, SP.vl (rSl zD) O59 x61] mixed hA hB hO (cn (fun hE hK => zp (r := (rSl zD)) (O := O59) ty37 ty28 rfl (kq hK q96) (rd_of (vx f57 hE)) (kq hK q98) hx61) (cn (fun hE hK => vC (r := (rSl zD)) (fun _ => rfl) ty28 rfl rfl rfl (kp (SP.ptr (rSl zD) O59 x61) 0 hK 100 rfl)) (cn (fun hE hK => zt (φ := SP.vl (rSl zD) O59 x61) (kp _ 1 hK 101 rfl)) .nil))) ?zk13
    intro a25 w25 hA hE hB HF; refine kr13 HF q4 q11 q13 q14 q15 q16 q19 q84 q85 q86 q96 q97 q98 ?_; clear q4 q11 q13 q14 q15 q16 q19 q84 q85 q86 q96 q97 q98; intro q4 q11 q13 q14 q15 q16 q19 q84 q85 q86 q96 q97 q98; obtain ⟨u62, q21, f63⟩ := kx (HF 21) rfl rfl rfl; clear q99 HF; replace f42 := vx f42 hE; replace f6 := vx f6 hE; replace f10 := vx f10 hE; replace f12 := vx f12 hE; replace f52 := vx f52 hE; replace f46 := vx f46 hE; replace f57 := vx f57 hE; clear hE; refine zE (zB ?_)
    refine zY (fun a w => ∃ (O91 : Tags), a.fit 248 ∧ Base (Fr w0) O w0 O91 w ∧ a.get 4 = u41 ∧ (rSl zD).v O91 w u41 x40 ∧ a.get 11 = u5 ∧ (rBox (rVec 3 1 (fun x => [.int .i64 x]) (fun _ => rfl) (fun _ => by simp [Value.oneCell']))).v O91 w u5 x_5 ∧ a.get 13 = .bool x7 ∧ a.get 14 = u9 ∧ (rSl zA).v O91 w u9 x8.1 ∧ a.get 15 = u11 ∧ (rSl zD).v O91 w u11 x8.2.1 ∧ a.get 16 = .int .i64 x8.2.2 ∧ a.get 19 = u51 ∧ (rSl zA).v O91 w u51 x50 ∧ a.get 21 = u62 ∧ (rSl zD).v O91 w u62 x61 ∧ a.get 84 = u45 ∧ (rSl (rSl zA)).v O91 w u45 [x8.1, x32, x43, x44] ∧ a.get 85 = .int .i64 ([x8.1, x32, x43, x44].length : Int) ∧ a.get 86 = .int .i64 x47 ∧ a.get 96 = u56 ∧ (rSl (rSl zD)).v O91 w u56 [x8.2.1, x54] ∧ a.get 97 = .int .i64 ([x8.2.1, x54].length : Int) ∧ a.get 98 = .int .i64 x58 ∧ (gE x_5 x50 x61 x8 x58 ).run n = some st4) ?_ ?_
    ·
     refine wp_seq ?_; obtain ⟨x64, hx64, h⟩ := Comp.run_bind h; obtain ⟨x65, hx65, h⟩ := Comp.run_bind h; obtain ⟨x66, hx66, h⟩ := Comp.run_bind h
     refine' rb [_, SP.ptrz (rInt .i64) O59 x64 (of_decide_eq_true rfl) (fun _ => rfl), SP.isv (.int .i64 x64), SP.ptrz (rInt .i64) O59 x65 (of_decide_eq_true rfl) (fun _ => rfl), SP.isv (.int .i64 x65), SP.isv (.int .i64 x66), SP.vl (rSl (rInt .i64)) O59 [x8.2.2, x64, x66], _, _] mixed hA hB hO (mv q16 (.cons ?z14_1 (cn (fun hE hK => za (rInt .i64) (fun _ => rfl) ty3 rfl rfl rfl (PtrZ.ptr (kspS (φ := SP.ptrz (rInt .i64) O59 x64 (of_decide_eq_true rfl) (fun _ => rfl)) (j := 1) (hK 103 rfl) rfl rfl rfl)) (fun _ _ _ h => zU.1 h)) (.cons ?z14_3 (cn (fun hE hK => za (rInt .i64) (fun _ => rfl) ty3 rfl rfl rfl (PtrZ.ptr (kspS (φ := SP.ptrz (rInt .i64) O59 x65 (of_decide_eq_true rfl) (fun _ => rfl)) (j := 3) (hK 105 rfl) rfl rfl rfl)) (fun _ _ _ h => zU.1 h)) (cn (fun hE hK => zz fn12 (ks 4 hK 106 rfl) rfl (jA (OkO.ext hB.ok hE)  hx66)) (cn (fun hE hK => zP (r := (rInt .i64)) (fun _ => rfl) rfl (OkO.ext hB.ok hE) ty23 ty3 (zM (ks 0 hK 102 rfl) (zM (ks 2 hK 104 rfl) (zM (ks 5 hK 107 rfl) zh))) ⟨(by exact zU.2 rfl), ⟨(by exact zU.2 rfl), ⟨(by exact zU.2 rfl), trivial⟩⟩⟩ rfl (by decide)) (cn (fun hE hK => zg (r := (rInt .i64)) ty23 rfl (rd_of (kp (SP.vl (rSl (rInt .i64)) O59 [x8.2.2, x64, x66]) 6 hK 108 rfl))) (cn (fun hE hK => zJ rfl) .nil))))))))) ?zk14
     case z14_1 => intro a' w' hE hK hg; exact okl_idxArrZ (r := (rInt .i64)) (f := (fun x => [.int .i64 x])) (hl := (fun _ => rfl)) (ho := (fun _ => by simp [Value.oneCell'])) (by decide) (fun _ => rfl) (fun _ _ _ => rfl) ty26 ty3 (kq hK q11) (jj (by intro h; cases h) (vx f6 hE)) rfl hx64
     case z14_3 => intro a' w' hE hK hg; exact okl_idxArrZ (r := (rInt .i64)) (f := (fun x => [.int .i64 x])) (hl := (fun _ => rfl)) (ho := (fun _ => by simp [Value.oneCell'])) (by decide) (fun _ => rfl) (fun _ _ _ => rfl) ty26 ty3 (kq hK q11) (jj (by intro h; cases h) (vx f6 hE)) rfl hx65
     intro a26 w26 hA hE hB HF; refine kr14 HF q4 q11 q13 q14 q15 q16 q19 q21 q84 q85 q86 q96 q97 q98 ?_; clear q4 q11 q13 q14 q15 q16 q19 q21 q84 q85 q86 q96 q97 q98; intro q4 q11 q13 q14 q15 q16 q19 q21 q84 q85 q86 q96 q97 q98; obtain ⟨u67, q108, f68⟩ := kx (HF 108) rfl rfl rfl; have q109 := ksv (HF 109) rfl rfl rfl; have q110 := ksv (HF 110) rfl rfl rfl; clear HF; replace f42 := vx f42 hE; replace f6 := vx f6 hE; replace f10 := vx f10 hE; replace f12 := vx f12 hE; replace f52 := vx f52 hE; replace f63 := vx f63 hE; replace f46 := vx f46 hE; replace f57 := vx f57 hE; clear hE; refine zE (zB (wp_block ?_))
     obtain ⟨e6, he6, hk6⟩ := Comp.run_bind h; clear h
     refine yt (fun m a w => ∃ (O70 : Tags) (x69 : Int), a.fit 248 ∧ Base (Fr w0) O w0 O70 w ∧ a.get 4 = u41 ∧ (rSl zD).v O70 w u41 x40 ∧ a.get 11 = u5 ∧ (rBox (rVec 3 1 (fun x => [.int .i64 x]) (fun _ => rfl) (fun _ => by simp [Value.oneCell']))).v O70 w u5 x_5 ∧ a.get 13 = .bool x7 ∧ a.get 14 = u9 ∧ (rSl zA).v O70 w u9 x8.1 ∧ a.get 15 = u11 ∧ (rSl zD).v O70 w u11 x8.2.1 ∧ a.get 16 = .int .i64 x8.2.2 ∧ a.get 19 = u51 ∧ (rSl zA).v O70 w u51 x50 ∧ a.get 21 = u62 ∧ (rSl zD).v O70 w u62 x61 ∧ a.get 84 = u45 ∧ (rSl (rSl zA)).v O70 w u45 [x8.1, x32, x43, x44] ∧ a.get 85 = .int .i64 ([x8.1, x32, x43, x44].length : Int) ∧ a.get 86 = .int .i64 x47 ∧ a.get 96 = u56 ∧ (rSl (rSl zD)).v O70 w u56 [x8.2.1, x54] ∧ a.get 97 = .int .i64 ([x8.2.1, x54].length : Int) ∧ a.get 98 = .int .i64 x58 ∧ a.get 108 = u67 ∧ (rSl (rInt .i64)).v O70 w u67 [x8.2.2, x64, x66] ∧ a.get 109 = .int .i64 ([x8.2.2, x64, x66].length : Int) ∧ a.get 110 = .int .i64 x69 ∧ Comp.loopN (fun s => yD x8 x64 x66 x50 x61 x_5 s) n m x69 = some e6) (m := n) ?st6 ?_
     case st6 =>
      exact ⟨_, _, hA, hB, q4, f42, q11, f6, q13, q14, f10, q15, f12, q16, q19, f52, q21, f63, q84, f46, q85, q86, q96, f57, q97, q98, q108, f68, q109, q110, Comp.zk he6⟩
     intro m_ a27 w27 hI
     clear hA hB he6 q4 q11 q13 q14 q15 q16 q19 q21 q84 q85 q86 q96 q97 q98 q108 q109 q110 f10 f12 f42 f46 f52 f57 f6 f63 f68
     obtain ⟨O70, x69, hA, hB, q4, f42, q11, f6, q13, q14, f10, q15, f12, q16, q19, f52, q21, f63, q84, f46, q85, q86, q96, f57, q97, q98, q108, f68, q109, q110, hl⟩ := hI
     obtain ⟨m6, hlt6, st6, h, hnext6, hdone6⟩ := Comp.zZ hl; clear hl
     replace h : (yD x8 x64 x66 x50 x61 x_5 x69).run n = some st6 := h
     unfold yD at h; refine wp_seq ?_
     refine' rb [_] mixed hA hB hO (cn (fun hE hK => zy (kq hK q110) (kq hK q109)) .nil) ?zk15
     intro a28 w28 hA hE hB HF; refine kr14 HF q4 q11 q13 q14 q15 q16 q19 q21 q84 q85 q86 q96 q97 q98 ?_; clear q4 q11 q13 q14 q15 q16 q19 q21 q84 q85 q86 q96 q97 q98; intro q4 q11 q13 q14 q15 q16 q19 q21 q84 q85 q86 q96 q97 q98; refine kr3 HF q108 q109 q110 ?_; clear q108 q109 q110; intro q108 q109 q110; have q111 := ksv (HF 111) rfl rfl rfl; clear HF; replace f42 := vx f42 hE; replace f6 := vx f6 hE; replace f10 := vx f10 hE; replace f12 := vx f12 hE; replace f52 := vx f52 hE; replace f63 := vx f63 hE; replace f46 := vx f46 hE; replace f57 := vx f57 hE; replace f68 := vx f68 hE; clear hE
     obtain ⟨x71, hx_, h⟩ := Comp.run_bind h; replace hx_ := Comp.run_pure hx_; rw [hx_] at q111; clear hx_
     refine zE (zB (wp_seq ?_))
     revert h; refine cnd q111 (fun h => ?_) (fun h => ?_)
     ·
      refine wp_skip (zB (wp_seq (wp_block (wp_seq ?_)))); obtain ⟨x72, hx72, h⟩ := Comp.run_bind h
      refine' rb [SP.ptr (rInt .i64) O70 x72, SP.isv (.int .i64 x72), _] mixed hA hB hO (cn (fun hE hK => zp (r := (rInt .i64)) (O := O70) ty23 ty3 rfl (kq hK q108) (rd_of (vx f68 hE)) (kq hK q110) hx72) (cn (fun hE hK => za (rInt .i64) (fun _ => rfl) ty3 rfl rfl rfl (kp (SP.ptr (rInt .i64) O70 x72) 0 hK 112 rfl) (fun _ _ _ h => zU.1 h)) (cn (fun hE hK => zC (ks 1 hK 113 rfl)) .nil))) ?zk16
      intro a29 w29 hA hE hB HF; refine kr14 HF q4 q11 q13 q14 q15 q16 q19 q21 q84 q85 q86 q96 q97 q98 ?_; clear q4 q11 q13 q14 q15 q16 q19 q21 q84 q85 q86 q96 q97 q98; intro q4 q11 q13 q14 q15 q16 q19 q21 q84 q85 q86 q96 q97 q98; refine kr3 HF q108 q109 q110 ?_; clear q108 q109 q110; intro q108 q109 q110; have q23 := ksv (HF 23) rfl rfl rfl; clear q111 HF; replace f42 := vx f42 hE; replace f6 := vx f6 hE; replace f10 := vx f10 hE; replace f12 := vx f12 hE; replace f52 := vx f52 hE; replace f63 := vx f63 hE; replace f46 := vx f46 hE; replace f57 := vx f57 hE; replace f68 := vx f68 hE; clear hE; refine zE (zB (wp_seq (wp_seq ?_))); obtain ⟨x73, hx73, h⟩ := Comp.run_bind h; obtain ⟨x74, hx74, h⟩ := Comp.run_bind h
      refine' rb [_, _, _, SP.isv (.int .i64 x73), _, _, _, SP.isv (.int .i64 x74), _] mixed hA hB hO (mv q19 (mv q21 (mv q23 (cn (fun hE hK => vR fn13 (ks 0 hK 114 rfl) (ks 1 hK 115 rfl) (ks 2 hK 116 rfl) (ok_court_Check (OkO.ext hB.ok hE) (vx f52 hE) (vx f63 hE) hx73)) (mv q19 (mv q21 (mv q23 (cn (fun hE hK => vR fn14 (ks 4 hK 118 rfl) (ks 5 hK 119 rfl) (ks 6 hK 120 rfl) (ok_colletref43_Check (OkO.ext hB.ok hE) (vx f52 hE) (vx f63 hE) hx74)) (cn (fun hE hK => gR (ks 3 hK 117 rfl) (ks 7 hK 121 rfl)) .nil))))))))) ?zk17
      intro a30 w30 hA hE hB HF; refine kr14 HF q4 q11 q13 q14 q15 q16 q19 q21 q23 q84 q85 q86 q96 q97 ?_; clear q4 q11 q13 q14 q15 q16 q19 q21 q23 q84 q85 q86 q96 q97; intro q4 q11 q13 q14 q15 q16 q19 q21 q23 q84 q85 q86 q96 q97; refine kr4 HF q98 q108 q109 q110 ?_; clear q98 q108 q109 q110; intro q98 q108 q109 q110; have q122 := ksv (HF 122) rfl rfl rfl; clear HF; replace f42 := vx f42 hE; replace f6 := vx f6 hE; replace f10 := vx f10 hE; replace f12 := vx f12 hE; replace f52 := vx f52 hE; replace f63 := vx f63 hE; replace f46 := vx f46 hE; replace f57 := vx f57 hE; replace f68 := vx f68 hE; clear hE; refine zE (zB ?_)
      revert h; refine cnd q122 (fun h => ?_) (fun h => ?_)
      ·
       refine wp_seq ?_
       refine' rb [_] mixed hA hB hO (cn (fun hE hK => zC rfl) .nil) ?zk18
       intro a31 w31 hA hE hB HF; have q12 := ksv (HF 12) rfl rfl rfl; clear q4 q11 q13 q14 q15 q16 q19 q21 q23 q84 q85 q86 q96 q97 q98 q108 q109 q110 q122 HF; replace f42 := vx f42 hE; replace f6 := vx f6 hE; replace f10 := vx f10 hE; replace f12 := vx f12 hE; replace f52 := vx f52 hE; replace f63 := vx f63 hE; replace f46 := vx f46 hE; replace f57 := vx f57 hE; replace f68 := vx f68 hE; clear hE; refine zE (zB (wp_ret (zN (yA (zN (zN (yA (zN (yA (zN (zN (yA (yA (zN (zN (yA (zN ?_)))))))))))))))))
       have hd_ := hdone6 _ (Comp.run_pure h).symm; clear h
       subst hd_; have h := hk6; clear hk6; try dsimp only at h
       have hd_ := hdone4 _ (Comp.run_pure h).symm; clear h
       subst hd_; have h := hk4; clear hk4; try dsimp only at h
       have hd_ := hdone3 _ (Comp.run_pure h).symm; clear h
       subst hd_; have h := hk3; clear hk3; try dsimp only at h
       have h := Comp.run_pure h; subst h
       exact zb Try.results3 hA q12 hB.ext rfl
      ·
       refine wp_skip (zB (wp_seq ?_)); obtain ⟨x78, hx78, h⟩ := Comp.run_bind h; obtain ⟨x79, hx79, h⟩ := Comp.run_bind h; obtain ⟨x80, hx80, h⟩ := Comp.run_bind h; obtain ⟨x81, hx81, h⟩ := Comp.run_bind h
       refine' rb [SP.ptrz (rInt .i64) O70 x78 (of_decide_eq_true rfl) (fun _ => rfl), SP.isv (.int .i64 x78), SP.ptrz (rInt .i64) O70 x79 (of_decide_eq_true rfl) (fun _ => rfl), SP.isv (.int .i64 x79), SP.isv (.int .i64 x80), _, _, _, _, SP.vl (rSl (rInt .i64)) O70 [x78, x80, (IntKind.wrap .i64 ((shlF .i64 1 (x50.length : Int)) - 1))], _, _] mixed hA hB hO (.cons ?z19_0 (cn (fun hE hK => za (rInt .i64) (fun _ => rfl) ty3 rfl rfl rfl (PtrZ.ptr (kspS (φ := SP.ptrz (rInt .i64) O70 x78 (of_decide_eq_true rfl) (fun _ => rfl)) (j := 0) (hK 123 rfl) rfl rfl rfl)) (fun _ _ _ h => zU.1 h)) (.cons ?z19_2 (cn (fun hE hK => za (rInt .i64) (fun _ => rfl) ty3 rfl rfl rfl (PtrZ.ptr (kspS (φ := SP.ptrz (rInt .i64) O70 x79 (of_decide_eq_true rfl) (fun _ => rfl)) (j := 2) (hK 125 rfl) rfl rfl rfl)) (fun _ _ _ h => zU.1 h)) (cn (fun hE hK => zz fn12 (ks 3 hK 126 rfl) rfl (jA (OkO.ext hB.ok hE)  hx80)) (mv q19 (cn (fun hE hK => zg (r := zA) ty27 (ks 5 hK 128 rfl) (rd_of (vx f52 hE))) (cn (fun hE hK => okl_shl rfl (ks 6 hK 129 rfl) (yY hx81)) (cn (fun hE hK => ok_sub (ks 7 hK 130 rfl) rfl) (cn (fun hE hK => zP (r := (rInt .i64)) (fun _ => rfl) rfl (OkO.ext hB.ok hE) ty23 ty3 (zM (ks 1 hK 124 rfl) (zM (ks 4 hK 127 rfl) (zM (ks 8 hK 131 rfl) zh))) ⟨(by exact zU.2 rfl), ⟨(by exact zU.2 rfl), ⟨(by exact zU.2 rfl), trivial⟩⟩⟩ rfl (by decide)) (cn (fun hE hK => zg (r := (rInt .i64)) ty23 rfl (rd_of (kp (SP.vl (rSl (rInt .i64)) O70 [x78, x80, (IntKind.wrap .i64 ((shlF .i64 1 (x50.length : Int)) - 1))]) 9 hK 132 rfl))) (cn (fun hE hK => zJ rfl) .nil)))))))))))) ?zk19
       case z19_0 => intro a' w' hE hK hg; exact okl_idxArrZ (r := (rInt .i64)) (f := (fun x => [.int .i64 x])) (hl := (fun _ => rfl)) (ho := (fun _ => by simp [Value.oneCell'])) (by decide) (fun _ => rfl) (fun _ _ _ => rfl) ty26 ty3 (kq hK q11) (jj (by intro h; cases h) (vx f6 hE)) rfl hx78
       case z19_2 => intro a' w' hE hK hg; exact okl_idxArrZ (r := (rInt .i64)) (f := (fun x => [.int .i64 x])) (hl := (fun _ => rfl)) (ho := (fun _ => by simp [Value.oneCell'])) (by decide) (fun _ => rfl) (fun _ _ _ => rfl) ty26 ty3 (kq hK q11) (jj (by intro h; cases h) (vx f6 hE)) rfl hx79
       intro a32 w32 hA hE hB HF; refine kr14 HF q4 q11 q13 q14 q15 q16 q19 q21 q23 q84 q85 q86 q96 q97 ?_; clear q4 q11 q13 q14 q15 q16 q19 q21 q23 q84 q85 q86 q96 q97; intro q4 q11 q13 q14 q15 q16 q19 q21 q23 q84 q85 q86 q96 q97; refine kr4 HF q98 q108 q109 q110 ?_; clear q98 q108 q109 q110; intro q98 q108 q109 q110; obtain ⟨u82, q132, f83⟩ := kx (HF 132) rfl rfl rfl; have q133 := ksv (HF 133) rfl rfl rfl; have q134 := ksv (HF 134) rfl rfl rfl; clear q122 HF; replace f42 := vx f42 hE; replace f6 := vx f6 hE; replace f10 := vx f10 hE; replace f12 := vx f12 hE; replace f52 := vx f52 hE; replace f63 := vx f63 hE; replace f46 := vx f46 hE; replace f57 := vx f57 hE; replace f68 := vx f68 hE; clear hE
       obtain ⟨x84, hx_, h⟩ := Comp.run_bind h; replace hx_ := Comp.run_pure hx_; rw [hx_] at q133; clear hx_
       refine zE (zB (wp_block ?_))
       obtain ⟨e7, he7, hk7⟩ := Comp.run_bind h; clear h
       refine yt (fun m a w => ∃ (O86 : Tags) (x85 : Int), a.fit 248 ∧ Base (Fr w0) O w0 O86 w ∧ a.get 4 = u41 ∧ (rSl zD).v O86 w u41 x40 ∧ a.get 11 = u5 ∧ (rBox (rVec 3 1 (fun x => [.int .i64 x]) (fun _ => rfl) (fun _ => by simp [Value.oneCell']))).v O86 w u5 x_5 ∧ a.get 13 = .bool x7 ∧ a.get 14 = u9 ∧ (rSl zA).v O86 w u9 x8.1 ∧ a.get 15 = u11 ∧ (rSl zD).v O86 w u11 x8.2.1 ∧ a.get 16 = .int .i64 x8.2.2 ∧ a.get 19 = u51 ∧ (rSl zA).v O86 w u51 x50 ∧ a.get 21 = u62 ∧ (rSl zD).v O86 w u62 x61 ∧ a.get 23 = .int .i64 x72 ∧ a.get 84 = u45 ∧ (rSl (rSl zA)).v O86 w u45 [x8.1, x32, x43, x44] ∧ a.get 85 = .int .i64 ([x8.1, x32, x43, x44].length : Int) ∧ a.get 86 = .int .i64 x47 ∧ a.get 96 = u56 ∧ (rSl (rSl zD)).v O86 w u56 [x8.2.1, x54] ∧ a.get 97 = .int .i64 ([x8.2.1, x54].length : Int) ∧ a.get 98 = .int .i64 x58 ∧ a.get 108 = u67 ∧ (rSl (rInt .i64)).v O86 w u67 [x8.2.2, x64, x66] ∧ a.get 109 = .int .i64 ([x8.2.2, x64, x66].length : Int) ∧ a.get 110 = .int .i64 x69 ∧ a.get 132 = u82 ∧ (rSl (rInt .i64)).v O86 w u82 [x78, x80, (IntKind.wrap .i64 ((shlF .i64 1 (x50.length : Int)) - 1))] ∧ a.get 133 = .int .i64 x84 ∧ a.get 134 = .int .i64 x85 ∧ Comp.loopN (fun s => yC x84 x78 x80 x50 x61 x72 s) n m x85 = some e7) (m := n) ?st7 ?_
       case st7 =>
        exact ⟨_, _, hA, hB, q4, f42, q11, f6, q13, q14, f10, q15, f12, q16, q19, f52, q21, f63, q23, q84, f46, q85, q86, q96, f57, q97, q98, q108, f68, q109, q110, q132, f83, q133, q134, Comp.zk he7⟩
       intro m_ a33 w33 hI
       clear hA hB he7 q4 q11 q13 q14 q15 q16 q19 q21 q23 q84 q85 q86 q96 q97 q98 q108 q109 q110 q132 q133 q134 f10 f12 f42 f46 f52 f57 f6 f63 f68 f83
       obtain ⟨O86, x85, hA, hB, q4, f42, q11, f6, q13, q14, f10, q15, f12, q16, q19, f52, q21, f63, q23, q84, f46, q85, q86, q96, f57, q97, q98, q108, f68, q109, q110, q132, f83, q133, q134, hl⟩ := hI
       obtain ⟨m7, hlt7, st7, h, hnext7, hdone7⟩ := Comp.zZ hl; clear hl
       replace h : (yC x84 x78 x80 x50 x61 x72 x85).run n = some st7 := h
       unfold yC at h; refine wp_seq ?_
       refine' rb [_] mixed hA hB hO (cn (fun hE hK => zy (kq hK q134) (kq hK q133)) .nil) ?zk20
       intro a34 w34 hA hE hB HF; refine kr14 HF q4 q11 q13 q14 q15 q16 q19 q21 q23 q84 q85 q86 q96 q97 ?_; clear q4 q11 q13 q14 q15 q16 q19 q21 q23 q84 q85 q86 q96 q97; intro q4 q11 q13 q14 q15 q16 q19 q21 q23 q84 q85 q86 q96 q97; refine kr7 HF q98 q108 q109 q110 q132 q133 q134 ?_; clear q98 q108 q109 q110 q132 q133 q134; intro q98 q108 q109 q110 q132 q133 q134; have q135 := ksv (HF 135) rfl rfl rfl; clear HF; replace f42 := vx f42 hE; replace f6 := vx f6 hE; replace f10 := vx f10 hE; replace f12 := vx f12 hE; replace f52 := vx f52 hE; replace f63 := vx f63 hE; replace f46 := vx f46 hE; replace f57 := vx f57 hE; replace f68 := vx f68 hE; replace f83 := vx f83 hE; clear hE; refine zE (zB (wp_seq ?_))
       revert h; refine cnd q135 (fun h => ?_) (fun h => ?_)
       ·
        refine wp_skip (zB (wp_seq (wp_block (wp_seq ?_)))); obtain ⟨x87, hx87, h⟩ := Comp.run_bind h
        refine' rb [SP.ptr (rInt .i64) O86 x87, SP.isv (.int .i64 x87), _] mixed hA hB hO (cn (fun hE hK => zp (r := (rInt .i64)) (O := O86) ty23 ty3 rfl (kq hK q132) (rd_of (vx f83 hE)) (kq hK q134) hx87) (cn (fun hE hK => za (rInt .i64) (fun _ => rfl) ty3 rfl rfl rfl (kp (SP.ptr (rInt .i64) O86 x87) 0 hK 136 rfl) (fun _ _ _ h => zU.1 h)) (cn (fun hE hK => zC (ks 1 hK 137 rfl)) .nil))) ?zk21
        intro a35 w35 hA hE hB HF; refine kr14 HF q4 q11 q13 q14 q15 q16 q19 q21 q23 q84 q85 q86 q96 q97 ?_; clear q4 q11 q13 q14 q15 q16 q19 q21 q23 q84 q85 q86 q96 q97; intro q4 q11 q13 q14 q15 q16 q19 q21 q23 q84 q85 q86 q96 q97; refine kr7 HF q98 q108 q109 q110 q132 q133 q134 ?_; clear q98 q108 q109 q110 q132 q133 q134; intro q98 q108 q109 q110 q132 q133 q134; have q25 := ksv (HF 25) rfl rfl rfl; clear q135 HF; replace f42 := vx f42 hE; replace f6 := vx f6 hE; replace f10 := vx f10 hE; replace f12 := vx f12 hE; replace f52 := vx f52 hE; replace f63 := vx f63 hE; replace f46 := vx f46 hE; replace f57 := vx f57 hE; replace f68 := vx f68 hE; replace f83 := vx f83 hE; clear hE; refine zE (zB (wp_seq ?_)); obtain ⟨x88, hx88, h⟩ := Comp.run_bind h; obtain ⟨x89, hx89, h⟩ := Comp.run_bind h
        refine' rb [_, _, _, _, SP.isv (.bool x88), _, _, _, _, SP.isv (.bool x89), _] mixed hA hB hO (mv q19 (mv q21 (mv q23 (mv q25 (cn (fun hE hK => kV fn15 (ks 0 hK 138 rfl) (ks 1 hK 139 rfl) (ks 2 hK 140 rfl) (ks 3 hK 141 rfl) (ok_court_Agrees (OkO.ext hB.ok hE) (vx f52 hE) (vx f63 hE) hx88)) (mv q19 (mv q21 (mv q23 (mv q25 (cn (fun hE hK => kV fn16 (ks 5 hK 143 rfl) (ks 6 hK 144 rfl) (ks 7 hK 145 rfl) (ks 8 hK 146 rfl) (ok_colletref43_Agrees (OkO.ext hB.ok hE) (vx f52 hE) (vx f63 hE) hx89)) (cn (fun hE hK => ok_neqB ty4 (ks 4 hK 142 rfl) (ks 9 hK 147 rfl)) .nil))))))))))) ?zk22
        intro a36 w36 hA hE hB HF; refine kr14 HF q4 q11 q13 q14 q15 q16 q19 q21 q23 q84 q85 q86 q96 q97 ?_; clear q4 q11 q13 q14 q15 q16 q19 q21 q23 q84 q85 q86 q96 q97; intro q4 q11 q13 q14 q15 q16 q19 q21 q23 q84 q85 q86 q96 q97; refine kr7 HF q98 q108 q109 q110 q132 q133 q134 ?_; clear q98 q108 q109 q110 q132 q133 q134; intro q98 q108 q109 q110 q132 q133 q134; have q148 := ksv (HF 148) rfl rfl rfl; clear q25 HF; replace f42 := vx f42 hE; replace f6 := vx f6 hE; replace f10 := vx f10 hE; replace f12 := vx f12 hE; replace f52 := vx f52 hE; replace f63 := vx f63 hE; replace f46 := vx f46 hE; replace f57 := vx f57 hE; replace f68 := vx f68 hE; replace f83 := vx f83 hE; clear hE; refine zE (zB ?_)
        revert h; refine cnd q148 (fun h => ?_) (fun h => ?_)
        ·
         refine wp_seq ?_
         refine' rb [_] mixed hA hB hO (cn (fun hE hK => zC rfl) .nil) ?zk23
         intro a37 w37 hA hE hB HF; have q12 := ksv (HF 12) rfl rfl rfl; clear q4 q11 q13 q14 q15 q16 q19 q21 q23 q84 q85 q86 q96 q97 q98 q108 q109 q110 q132 q133 q134 q148 HF; replace f42 := vx f42 hE; replace f6 := vx f6 hE; replace f10 := vx f10 hE; replace f12 := vx f12 hE; replace f52 := vx f52 hE; replace f63 := vx f63 hE; replace f46 := vx f46 hE; replace f57 := vx f57 hE; replace f68 := vx f68 hE; replace f83 := vx f83 hE; clear hE; refine zE (zB (wp_ret (yA (zN (zN (yA (yA (zN (zN (yA (zN (yA (zN (zN (yA (yA (zN (zN (yA (zN ?_))))))))))))))))))))
         have hd_ := hdone7 _ (Comp.run_pure h).symm; clear h
         subst hd_; have h := hk7; clear hk7; try dsimp only at h
         have hd_ := hdone6 _ (Comp.run_pure h).symm; clear h
         subst hd_; have h := hk6; clear hk6; try dsimp only at h
         have hd_ := hdone4 _ (Comp.run_pure h).symm; clear h
         subst hd_; have h := hk4; clear hk4; try dsimp only at h
         have hd_ := hdone3 _ (Comp.run_pure h).symm; clear h
         subst hd_; have h := hk3; clear hk3; try dsimp only at h
         have h := Comp.run_pure h; subst h
         exact zb Try.results3 hA q12 hB.ext rfl
        ·
         refine wp_skip (zm (zB ?_))
         refine' rb [_, _] mixed hA hB hO (cn (fun hE hK => yP (kq hK q134) rfl) (cn (fun hE hK => zJ (ks 0 hK 149 rfl)) .nil)) ?zk24
         intro a38 w38 hA hE hB HF; refine kr14 HF q4 q11 q13 q14 q15 q16 q19 q21 q23 q84 q85 q86 q96 q97 ?_; clear q4 q11 q13 q14 q15 q16 q19 q21 q23 q84 q85 q86 q96 q97; intro q4 q11 q13 q14 q15 q16 q19 q21 q23 q84 q85 q86 q96 q97; refine kr6 HF q98 q108 q109 q110 q132 q133 ?_; clear q98 q108 q109 q110 q132 q133; intro q98 q108 q109 q110 q132 q133; replace q134 := ksv (HF 134) rfl rfl rfl; clear q148 HF; replace f42 := vx f42 hE; replace f6 := vx f6 hE; replace f10 := vx f10 hE; replace f12 := vx f12 hE; replace f52 := vx f52 hE; replace f63 := vx f63 hE; replace f46 := vx f46 hE; replace f57 := vx f57 hE; replace f68 := vx f68 hE; replace f83 := vx f83 hE; clear hE; refine zE (zB ?_)
         have h := hnext7 _ (Comp.run_pure h).symm
         refine ⟨m7, hlt7, ?_⟩
         exact ⟨_, _, hA, hB, q4, f42, q11, f6, q13, q14, f10, q15, f12, q16, q19, f52, q21, f63, q23, q84, f46, q85, q86, q96, f57, q97, q98, q108, f68, q109, q110, q132, f83, q133, q134, h⟩
       ·
        refine wp_exit (zT (zT (zw ?_)))
        have hd_ := hdone7 _ (Comp.run_pure h).symm; clear h
        subst hd_; have h := hk7; clear hk7; try dsimp only at h
        refine zm (zB ?_)
        refine' rb [_, _] mixed hA hB hO (cn (fun hE hK => yP (kq hK q110) rfl) (cn (fun hE hK => zJ (ks 0 hK 150 rfl)) .nil)) ?zk25
        intro a39 w39 hA hE hB HF; refine kr14 HF q4 q11 q13 q14 q15 q16 q19 q21 q84 q85 q86 q96 q97 q98 ?_; clear q4 q11 q13 q14 q15 q16 q19 q21 q84 q85 q86 q96 q97 q98; intro q4 q11 q13 q14 q15 q16 q19 q21 q84 q85 q86 q96 q97 q98; replace q108 := kf HF q108; replace q109 := kf HF q109; replace q110 := ksv (HF 110) rfl rfl rfl; clear q23 q132 q133 q134 q135 HF; replace f42 := vx f42 hE; replace f6 := vx f6 hE; replace f10 := vx f10 hE; replace f12 := vx f12 hE; replace f52 := vx f52 hE; replace f63 := vx f63 hE; replace f46 := vx f46 hE; replace f57 := vx f57 hE; replace f68 := vx f68 hE; replace f83 := vx f83 hE; clear hE; refine zE (zB ?_)
        have h := hnext6 _ (Comp.run_pure h).symm
        refine ⟨m6, hlt6, ?_⟩
        exact ⟨_, _, hA, hB, q4, f42, q11, f6, q13, q14, f10, q15, f12, q16, q19, f52, q21, f63, q84, f46, q85, q86, q96, f57, q97, q98, q108, f68, q109, q110, h⟩
     ·
      refine wp_exit (zT (zT (zw ?_)))
      have hd_ := hdone6 _ (Comp.run_pure h).symm; clear h
      subst hd_; have h := hk6; clear hk6; try dsimp only at h
      refine zB ?_
      exact ⟨_, hA, hB, q4, f42, q11, f6, q13, q14, f10, q15, f12, q16, q19, f52, q21, f63, q84, f46, q85, q86, q96, f57, q97, q98, h⟩
    intro a40 w40 hI
    clear hA hB h q4 q11 q13 q14 q15 q16 q19 q21 q84 q85 q86 q96 q97 q98 f10 f12 f42 f46 f52 f57 f6 f63
    obtain ⟨O91, hA, hB, q4, f42, q11, f6, q13, q14, f10, q15, f12, q16, q19, f52, q21, f63, q84, f46, q85, q86, q96, f57, q97, q98, h⟩ := hI
    unfold gE at h
    refine zY (fun a w => ∃ (O117 : Tags), a.fit 248 ∧ Base (Fr w0) O w0 O117 w ∧ a.get 4 = u41 ∧ (rSl zD).v O117 w u41 x40 ∧ a.get 11 = u5 ∧ (rBox (rVec 3 1 (fun x => [.int .i64 x]) (fun _ => rfl) (fun _ => by simp [Value.oneCell']))).v O117 w u5 x_5 ∧ a.get 13 = .bool x7 ∧ a.get 14 = u9 ∧ (rSl zA).v O117 w u9 x8.1 ∧ a.get 15 = u11 ∧ (rSl zD).v O117 w u11 x8.2.1 ∧ a.get 16 = .int .i64 x8.2.2 ∧ a.get 19 = u51 ∧ (rSl zA).v O117 w u51 x50 ∧ a.get 21 = u62 ∧ (rSl zD).v O117 w u62 x61 ∧ a.get 84 = u45 ∧ (rSl (rSl zA)).v O117 w u45 [x8.1, x32, x43, x44] ∧ a.get 85 = .int .i64 ([x8.1, x32, x43, x44].length : Int) ∧ a.get 86 = .int .i64 x47 ∧ a.get 96 = u56 ∧ (rSl (rSl zD)).v O117 w u56 [x8.2.1, x54] ∧ a.get 97 = .int .i64 ([x8.2.1, x54].length : Int) ∧ a.get 98 = .int .i64 x58 ∧ (gD x50 x61 x8 x58 ).run n = some st4) ?_ ?_
    ·
     refine wp_seq ?_; obtain ⟨x92, hx92, h⟩ := Comp.run_bind h; obtain ⟨x93, hx93, h⟩ := Comp.run_bind h; obtain ⟨x94, hx94, h⟩ := Comp.run_bind h
     refine' rb [SP.ptrz (rInt .i64) O91 x92 (of_decide_eq_true rfl) (fun _ => rfl), SP.isv (.int .i64 x92), SP.ptrz (rInt .i64) O91 x93 (of_decide_eq_true rfl) (fun _ => rfl), SP.isv (.int .i64 x93), SP.isv (.int .i64 x94), SP.vl (rSl (rInt .i64)) O91 [x92, x94], _, _] mixed hA hB hO (.cons ?z26_0 (cn (fun hE hK => za (rInt .i64) (fun _ => rfl) ty3 rfl rfl rfl (PtrZ.ptr (kspS (φ := SP.ptrz (rInt .i64) O91 x92 (of_decide_eq_true rfl) (fun _ => rfl)) (j := 0) (hK 151 rfl) rfl rfl rfl)) (fun _ _ _ h => zU.1 h)) (.cons ?z26_2 (cn (fun hE hK => za (rInt .i64) (fun _ => rfl) ty3 rfl rfl rfl (PtrZ.ptr (kspS (φ := SP.ptrz (rInt .i64) O91 x93 (of_decide_eq_true rfl) (fun _ => rfl)) (j := 2) (hK 153 rfl) rfl rfl rfl)) (fun _ _ _ h => zU.1 h)) (cn (fun hE hK => zz fn12 (ks 3 hK 154 rfl) rfl (jA (OkO.ext hB.ok hE)  hx94)) (cn (fun hE hK => zP (r := (rInt .i64)) (fun _ => rfl) rfl (OkO.ext hB.ok hE) ty23 ty3 (zM (ks 1 hK 152 rfl) (zM (ks 4 hK 155 rfl) zh)) ⟨(by exact zU.2 rfl), ⟨(by exact zU.2 rfl), trivial⟩⟩ rfl (by decide)) (cn (fun hE hK => zg (r := (rInt .i64)) ty23 rfl (rd_of (kp (SP.vl (rSl (rInt .i64)) O91 [x92, x94]) 5 hK 156 rfl))) (cn (fun hE hK => zJ rfl) .nil)))))))) ?zk26
     case z26_0 => intro a' w' hE hK hg; exact okl_idxArrZ (r := (rInt .i64)) (f := (fun x => [.int .i64 x])) (hl := (fun _ => rfl)) (ho := (fun _ => by simp [Value.oneCell'])) (by decide) (fun _ => rfl) (fun _ _ _ => rfl) ty26 ty3 (kq hK q11) (jj (by intro h; cases h) (vx f6 hE)) rfl hx92
     case z26_2 => intro a' w' hE hK hg; exact okl_idxArrZ (r := (rInt .i64)) (f := (fun x => [.int .i64 x])) (hl := (fun _ => rfl)) (ho := (fun _ => by simp [Value.oneCell'])) (by decide) (fun _ => rfl) (fun _ _ _ => rfl) ty26 ty3 (kq hK q11) (jj (by intro h; cases h) (vx f6 hE)) rfl hx93
     intro a41 w41 hA hE hB HF; refine kr14 HF q4 q11 q13 q14 q15 q16 q19 q21 q84 q85 q86 q96 q97 q98 ?_; clear q4 q11 q13 q14 q15 q16 q19 q21 q84 q85 q86 q96 q97 q98; intro q4 q11 q13 q14 q15 q16 q19 q21 q84 q85 q86 q96 q97 q98; obtain ⟨u95, q156, f96⟩ := kx (HF 156) rfl rfl rfl; have q157 := ksv (HF 157) rfl rfl rfl; have q158 := ksv (HF 158) rfl rfl rfl; clear HF; replace f42 := vx f42 hE; replace f6 := vx f6 hE; replace f10 := vx f10 hE; replace f12 := vx f12 hE; replace f52 := vx f52 hE; replace f63 := vx f63 hE; replace f46 := vx f46 hE; replace f57 := vx f57 hE; clear hE; refine zE (zB (wp_block ?_))
     obtain ⟨e9, he9, hk9⟩ := Comp.run_bind h; clear h
     refine yt (fun m a w => ∃ (O98 : Tags) (x97 : Int), a.fit 248 ∧ Base (Fr w0) O w0 O98 w ∧ a.get 4 = u41 ∧ (rSl zD).v O98 w u41 x40 ∧ a.get 11 = u5 ∧ (rBox (rVec 3 1 (fun x => [.int .i64 x]) (fun _ => rfl) (fun _ => by simp [Value.oneCell']))).v O98 w u5 x_5 ∧ a.get 13 = .bool x7 ∧ a.get 14 = u9 ∧ (rSl zA).v O98 w u9 x8.1 ∧ a.get 15 = u11 ∧ (rSl zD).v O98 w u11 x8.2.1 ∧ a.get 16 = .int .i64 x8.2.2 ∧ a.get 19 = u51 ∧ (rSl zA).v O98 w u51 x50 ∧ a.get 21 = u62 ∧ (rSl zD).v O98 w u62 x61 ∧ a.get 84 = u45 ∧ (rSl (rSl zA)).v O98 w u45 [x8.1, x32, x43, x44] ∧ a.get 85 = .int .i64 ([x8.1, x32, x43, x44].length : Int) ∧ a.get 86 = .int .i64 x47 ∧ a.get 96 = u56 ∧ (rSl (rSl zD)).v O98 w u56 [x8.2.1, x54] ∧ a.get 97 = .int .i64 ([x8.2.1, x54].length : Int) ∧ a.get 98 = .int .i64 x58 ∧ a.get 156 = u95 ∧ (rSl (rInt .i64)).v O98 w u95 [x92, x94] ∧ a.get 157 = .int .i64 ([x92, x94].length : Int) ∧ a.get 158 = .int .i64 x97 ∧ Comp.loopN (fun s => yB x92 x94 x50 x61 x8 s) n m x97 = some e9) (m := n) ?st9 ?_
     case st9 =>
      exact ⟨_, _, hA, hB, q4, f42, q11, f6, q13, q14, f10, q15, f12, q16, q19, f52, q21, f63, q84, f46, q85, q86, q96, f57, q97, q98, q156, f96, q157, q158, Comp.zk he9⟩
     intro m_ a42 w42 hI
     clear hA hB he9 q4 q11 q13 q14 q15 q16 q19 q21 q84 q85 q86 q96 q97 q98 q156 q157 q158 f10 f12 f42 f46 f52 f57 f6 f63 f96
     obtain ⟨O98, x97, hA, hB, q4, f42, q11, f6, q13, q14, f10, q15, f12, q16, q19, f52, q21, f63, q84, f46, q85, q86, q96, f57, q97, q98, q156, f96, q157, q158, hl⟩ := hI
     obtain ⟨m9, hlt9, st9, h, hnext9, hdone9⟩ := Comp.zZ hl; clear hl
     replace h : (yB x92 x94 x50 x61 x8 x97).run n = some st9 := h
     unfold yB at h; refine wp_seq ?_
     refine' rb [_] mixed hA hB hO (cn (fun hE hK => zy (kq hK q158) (kq hK q157)) .nil) ?zk27
     intro a43 w43 hA hE hB HF; refine kr14 HF q4 q11 q13 q14 q15 q16 q19 q21 q84 q85 q86 q96 q97 q98 ?_; clear q4 q11 q13 q14 q15 q16 q19 q21 q84 q85 q86 q96 q97 q98; intro q4 q11 q13 q14 q15 q16 q19 q21 q84 q85 q86 q96 q97 q98; refine kr3 HF q156 q157 q158 ?_; clear q156 q157 q158; intro q156 q157 q158; have q159 := ksv (HF 159) rfl rfl rfl; clear HF; replace f42 := vx f42 hE; replace f6 := vx f6 hE; replace f10 := vx f10 hE; replace f12 := vx f12 hE; replace f52 := vx f52 hE; replace f63 := vx f63 hE; replace f46 := vx f46 hE; replace f57 := vx f57 hE; replace f96 := vx f96 hE; clear hE
     obtain ⟨x99, hx_, h⟩ := Comp.run_bind h; replace hx_ := Comp.run_pure hx_; rw [hx_] at q159; clear hx_
     refine zE (zB (wp_seq ?_))
     revert h; refine cnd q159 (fun h => ?_) (fun h => ?_)
     ·
      refine wp_skip (zB (wp_seq (wp_block (wp_seq ?_)))); obtain ⟨x100, hx100, h⟩ := Comp.run_bind h
      refine' rb [SP.ptr (rInt .i64) O98 x100, SP.isv (.int .i64 x100), _] mixed hA hB hO (cn (fun hE hK => zp (r := (rInt .i64)) (O := O98) ty23 ty3 rfl (kq hK q156) (rd_of (vx f96 hE)) (kq hK q158) hx100) (cn (fun hE hK => za (rInt .i64) (fun _ => rfl) ty3 rfl rfl rfl (kp (SP.ptr (rInt .i64) O98 x100) 0 hK 160 rfl) (fun _ _ _ h => zU.1 h)) (cn (fun hE hK => zC (ks 1 hK 161 rfl)) .nil))) ?zk28
      intro a44 w44 hA hE hB HF; refine kr14 HF q4 q11 q13 q14 q15 q16 q19 q21 q84 q85 q86 q96 q97 q98 ?_; clear q4 q11 q13 q14 q15 q16 q19 q21 q84 q85 q86 q96 q97 q98; intro q4 q11 q13 q14 q15 q16 q19 q21 q84 q85 q86 q96 q97 q98; refine kr3 HF q156 q157 q158 ?_; clear q156 q157 q158; intro q156 q157 q158; have q27 := ksv (HF 27) rfl rfl rfl; clear q159 HF; replace f42 := vx f42 hE; replace f6 := vx f6 hE; replace f10 := vx f10 hE; replace f12 := vx f12 hE; replace f52 := vx f52 hE; replace f63 := vx f63 hE; replace f46 := vx f46 hE; replace f57 := vx f57 hE; replace f96 := vx f96 hE; clear hE; refine zE (zB (wp_seq ?_)); obtain ⟨x101, hx101, h⟩ := Comp.run_bind h
      refine' rb [_, _, _, _, SP.tup2 (SP.vl (rSl (rInt .i64)) O98 x101.1) (SP.isv (.int .i64 x101.2)), SP.tup2 (SP.vl (rSl (rInt .i64)) O98 x101.1) (SP.isv (.int .i64 x101.2)), SP.vl (rSl (rInt .i64)) O98 x101.1, SP.isv (.int .i64 x101.2), SP.vl (rSl (rInt .i64)) O98 x101.1, _] mixed hA hB hO (mv q19 (mv q21 (mv q16 (mv q27 (.cons (fun _ _ hE hK hg => yL (kV fn17 (ks 0 hK 163 rfl) (ks 1 hK 164 rfl) (ks 2 hK 165 rfl) (ks 3 hK 166 rfl) (ok_court_Explains (OkO.ext hB.ok hE) (vx f52 hE) (vx f63 hE) hx101)) (fun _ _ _ ⟨a_, b_, e0_, h0_, h1_⟩ => ⟨a_, b_, e0_, (fun h => (OwnR.val h (fun g hg => (OkO.ext hB.ok hE) g (OwnR.ge h g hg).1))) h0_, h1_⟩)) (cn (fun hE hK => vr (φ := SP.tup2 (SP.vl (rSl (rInt .i64)) O98 x101.1) (SP.isv (.int .i64 x101.2))) (kp _ 4 hK 167 rfl)) (cn (fun hE hK => jZ (kp (SP.tup2 (SP.vl (rSl (rInt .i64)) O98 x101.1) (SP.isv (.int .i64 x101.2))) 5 hK 162 rfl)) (cn (fun hE hK => jY (kp (SP.tup2 (SP.vl (rSl (rInt .i64)) O98 x101.1) (SP.isv (.int .i64 x101.2))) 5 hK 162 rfl)) (cn (fun hE hK => zt (φ := SP.vl (rSl (rInt .i64)) O98 x101.1) (kp _ 6 hK 168 rfl)) (cn (fun hE hK => zC (ks 7 hK 169 rfl)) .nil)))))))))) ?zk29
      intro a45 w45 hA hE hB HF; refine kr14 HF q4 q11 q13 q14 q15 q16 q19 q21 q27 q84 q85 q86 q96 q97 ?_; clear q4 q11 q13 q14 q15 q16 q19 q21 q27 q84 q85 q86 q96 q97; intro q4 q11 q13 q14 q15 q16 q19 q21 q27 q84 q85 q86 q96 q97; refine kr4 HF q98 q156 q157 q158 ?_; clear q98 q156 q157 q158; intro q98 q156 q157 q158; obtain ⟨u102, q28, f103⟩ := kx (HF 28) rfl rfl rfl; have q29 := ksv (HF 29) rfl rfl rfl; clear HF; replace f42 := vx f42 hE; replace f6 := vx f6 hE; replace f10 := vx f10 hE; replace f12 := vx f12 hE; replace f52 := vx f52 hE; replace f63 := vx f63 hE; replace f46 := vx f46 hE; replace f57 := vx f57 hE; replace f96 := vx f96 hE; clear hE; refine zE (zB (wp_seq ?_)); obtain ⟨x104, hx104, h⟩ := Comp.run_bind h
      refine' rb [_, _, _, _, SP.tup2 (SP.vl (rSl (rInt .i64)) O98 x104.1) (SP.isv (.int .i64 x104.2)), SP.tup2 (SP.vl (rSl (rInt .i64)) O98 x104.1) (SP.isv (.int .i64 x104.2)), SP.vl (rSl (rInt .i64)) O98 x104.1, SP.isv (.int .i64 x104.2), SP.vl (rSl (rInt .i64)) O98 x104.1, _] mixed hA hB hO (mv q19 (mv q21 (mv q16 (mv q27 (.cons (fun _ _ hE hK hg => yL (kV fn18 (ks 0 hK 171 rfl) (ks 1 hK 172 rfl) (ks 2 hK 173 rfl) (ks 3 hK 174 rfl) (ok_colletref43_Explains (OkO.ext hB.ok hE) (vx f52 hE) (vx f63 hE) hx104)) (fun _ _ _ ⟨a_, b_, e0_, h0_, h1_⟩ => ⟨a_, b_, e0_, (fun h => (OwnR.val h (fun g hg => (OkO.ext hB.ok hE) g (OwnR.ge h g hg).1))) h0_, h1_⟩)) (cn (fun hE hK => vr (φ := SP.tup2 (SP.vl (rSl (rInt .i64)) O98 x104.1) (SP.isv (.int .i64 x104.2))) (kp _ 4 hK 175 rfl)) (cn (fun hE hK => jZ (kp (SP.tup2 (SP.vl (rSl (rInt .i64)) O98 x104.1) (SP.isv (.int .i64 x104.2))) 5 hK 170 rfl)) (cn (fun hE hK => jY (kp (SP.tup2 (SP.vl (rSl (rInt .i64)) O98 x104.1) (SP.isv (.int .i64 x104.2))) 5 hK 170 rfl)) (cn (fun hE hK => zt (φ := SP.vl (rSl (rInt .i64)) O98 x104.1) (kp _ 6 hK 176 rfl)) (cn (fun hE hK => zC (ks 7 hK 177 rfl)) .nil)))))))))) ?zk30
      intro a46 w46 hA hE hB HF; refine kr14 HF q4 q11 q13 q14 q15 q16 q19 q21 q27 q28 q29 q84 q85 q86 ?_; clear q4 q11 q13 q14 q15 q16 q19 q21 q27 q28 q29 q84 q85 q86; intro q4 q11 q13 q14 q15 q16 q19 q21 q27 q28 q29 q84 q85 q86; refine kr6 HF q96 q97 q98 q156 q157 q158 ?_; clear q96 q97 q98 q156 q157 q158; intro q96 q97 q98 q156 q157 q158; obtain ⟨u105, q30, f106⟩ := kx (HF 30) rfl rfl rfl; have q31 := ksv (HF 31) rfl rfl rfl; clear HF; replace f42 := vx f42 hE; replace f6 := vx f6 hE; replace f10 := vx f10 hE; replace f12 := vx f12 hE; replace f52 := vx f52 hE; replace f63 := vx f63 hE; replace f103 := vx f103 hE; replace f46 := vx f46 hE; replace f57 := vx f57 hE; replace f96 := vx f96 hE; clear hE; refine zE (zB (wp_seq ?_)); obtain ⟨x107, hx107, h⟩ := Comp.run_bind h
      refine' rb [_, _, _, _, SP.tup2 (SP.vl (rSl (rInt .i64)) O98 x107.1) (SP.isv (.int .i64 x107.2)), SP.tup2 (SP.vl (rSl (rInt .i64)) O98 x107.1) (SP.isv (.int .i64 x107.2)), SP.vl (rSl (rInt .i64)) O98 x107.1, SP.isv (.int .i64 x107.2), SP.vl (rSl (rInt .i64)) O98 x107.1, _] mixed hA hB hO (mv q19 (mv q21 (mv q16 (mv q27 (.cons (fun _ _ hE hK hg => yL (kV fn19 (ks 0 hK 179 rfl) (ks 1 hK 180 rfl) (ks 2 hK 181 rfl) (ks 3 hK 182 rfl) (ok_court_Certain (OkO.ext hB.ok hE) (vx f52 hE) (vx f63 hE) hx107)) (fun _ _ _ ⟨a_, b_, e0_, h0_, h1_⟩ => ⟨a_, b_, e0_, (fun h => (OwnR.val h (fun g hg => (OkO.ext hB.ok hE) g (OwnR.ge h g hg).1))) h0_, h1_⟩)) (cn (fun hE hK => vr (φ := SP.tup2 (SP.vl (rSl (rInt .i64)) O98 x107.1) (SP.isv (.int .i64 x107.2))) (kp _ 4 hK 183 rfl)) (cn (fun hE hK => jZ (kp (SP.tup2 (SP.vl (rSl (rInt .i64)) O98 x107.1) (SP.isv (.int .i64 x107.2))) 5 hK 178 rfl)) (cn (fun hE hK => jY (kp (SP.tup2 (SP.vl (rSl (rInt .i64)) O98 x107.1) (SP.isv (.int .i64 x107.2))) 5 hK 178 rfl)) (cn (fun hE hK => zt (φ := SP.vl (rSl (rInt .i64)) O98 x107.1) (kp _ 6 hK 184 rfl)) (cn (fun hE hK => zC (ks 7 hK 185 rfl)) .nil)))))))))) ?zk31
      intro a47 w47 hA hE hB HF; refine kr14 HF q4 q11 q13 q14 q15 q16 q19 q21 q27 q28 q29 q30 q31 q84 ?_; clear q4 q11 q13 q14 q15 q16 q19 q21 q27 q28 q29 q30 q31 q84; intro q4 q11 q13 q14 q15 q16 q19 q21 q27 q28 q29 q30 q31 q84; refine kr8 HF q85 q86 q96 q97 q98 q156 q157 q158 ?_; clear q85 q86 q96 q97 q98 q156 q157 q158; intro q85 q86 q96 q97 q98 q156 q157 q158; obtain ⟨u108, q32, f109⟩ := kx (HF 32) rfl rfl rfl; have q33 := ksv (HF 33) rfl rfl rfl; clear HF; replace f42 := vx f42 hE; replace f6 := vx f6 hE; replace f10 := vx f10 hE; replace f12 := vx f12 hE; replace f52 := vx f52 hE; replace f63 := vx f63 hE; replace f103 := vx f103 hE; replace f106 := vx f106 hE; replace f46 := vx f46 hE; replace f57 := vx f57 hE; replace f96 := vx f96 hE; clear hE; refine zE (zB (wp_seq ?_)); obtain ⟨x110, hx110, h⟩ := Comp.run_bind h
      refine' rb [_, _, _, _, SP.tup2 (SP.vl (rSl (rInt .i64)) O98 x110.1) (SP.isv (.int .i64 x110.2)), SP.tup2 (SP.vl (rSl (rInt .i64)) O98 x110.1) (SP.isv (.int .i64 x110.2)), SP.vl (rSl (rInt .i64)) O98 x110.1, SP.isv (.int .i64 x110.2), SP.vl (rSl (rInt .i64)) O98 x110.1, _] mixed hA hB hO (mv q19 (mv q21 (mv q16 (mv q27 (.cons (fun _ _ hE hK hg => yL (kV fn20 (ks 0 hK 187 rfl) (ks 1 hK 188 rfl) (ks 2 hK 189 rfl) (ks 3 hK 190 rfl) (ok_colletref43_Certain (OkO.ext hB.ok hE) (vx f52 hE) (vx f63 hE) hx110)) (fun _ _ _ ⟨a_, b_, e0_, h0_, h1_⟩ => ⟨a_, b_, e0_, (fun h => (OwnR.val h (fun g hg => (OkO.ext hB.ok hE) g (OwnR.ge h g hg).1))) h0_, h1_⟩)) (cn (fun hE hK => vr (φ := SP.tup2 (SP.vl (rSl (rInt .i64)) O98 x110.1) (SP.isv (.int .i64 x110.2))) (kp _ 4 hK 191 rfl)) (cn (fun hE hK => jZ (kp (SP.tup2 (SP.vl (rSl (rInt .i64)) O98 x110.1) (SP.isv (.int .i64 x110.2))) 5 hK 186 rfl)) (cn (fun hE hK => jY (kp (SP.tup2 (SP.vl (rSl (rInt .i64)) O98 x110.1) (SP.isv (.int .i64 x110.2))) 5 hK 186 rfl)) (cn (fun hE hK => zt (φ := SP.vl (rSl (rInt .i64)) O98 x110.1) (kp _ 6 hK 192 rfl)) (cn (fun hE hK => zC (ks 7 hK 193 rfl)) .nil)))))))))) ?zk32
      intro a48 w48 hA hE hB HF; refine kr14 HF q4 q11 q13 q14 q15 q16 q19 q21 q28 q29 q30 q31 q32 q33 ?_; clear q4 q11 q13 q14 q15 q16 q19 q21 q28 q29 q30 q31 q32 q33; intro q4 q11 q13 q14 q15 q16 q19 q21 q28 q29 q30 q31 q32 q33; refine kr9 HF q84 q85 q86 q96 q97 q98 q156 q157 q158 ?_; clear q84 q85 q86 q96 q97 q98 q156 q157 q158; intro q84 q85 q86 q96 q97 q98 q156 q157 q158; obtain ⟨u111, q34, f112⟩ := kx (HF 34) rfl rfl rfl; have q35 := ksv (HF 35) rfl rfl rfl; clear q27 HF; replace f42 := vx f42 hE; replace f6 := vx f6 hE; replace f10 := vx f10 hE; replace f12 := vx f12 hE; replace f52 := vx f52 hE; replace f63 := vx f63 hE; replace f103 := vx f103 hE; replace f106 := vx f106 hE; replace f109 := vx f109 hE; replace f46 := vx f46 hE; replace f57 := vx f57 hE; replace f96 := vx f96 hE; clear hE; refine zE (zB (wp_seq ?_)); obtain ⟨x113, hx113, h⟩ := Comp.run_bind h
      obtain ⟨x114, hx114, h⟩ := Comp.run_bind h
      refine' rb [_, _, _, _, _, _, _, _, _, _, _, SP.isv (.bool x113), _, _, _, _, _, SP.isv (.bool x114), _, _] mixed hA hB hO (mv q29 (mv q31 (cn (fun hE hK => gR (ks 0 hK 194 rfl) (ks 1 hK 195 rfl)) (cn (fun hE hK => zJ (ks 2 hK 196 rfl)) (mv q33 (mv q35 (.cons (fun _ _ hE hK hg => gR (kg 4 hK 198 rfl hg) (kg 5 hK 199 rfl hg)) (cn (fun hE hK => zV (ks 3 hK 197 rfl) (fun _ => rfl) (fun hb => kg 6 hK 200 rfl (zf rfl rfl hb))) (cn (fun hE hK => zJ (ks 7 hK 201 rfl)) (mv q28 (mv q30 (.cons (fun _ _ hE hK hg => zz fn21 (kg 9 hK 203 rfl hg) (kg 10 hK 204 rfl hg) (vg (OkO.ext hB.ok hE) (vx f103 hE) (vx f106 hE) (zr hx113 hg))) (.cons (fun _ _ hE hK hg => jz (kg 11 hK 205 rfl hg)) (cn (fun hE hK => zV (ks 8 hK 202 rfl) (fun _ => rfl) (fun hb => kg 12 hK 206 rfl (zf rfl rfl hb))) (cn (fun hE hK => zJ (ks 13 hK 207 rfl)) (mv q32 (mv q34 (.cons (fun _ _ hE hK hg => zz fn21 (kg 15 hK 209 rfl hg) (kg 16 hK 210 rfl hg) (vg (OkO.ext hB.ok hE) (vx f109 hE) (vx f112 hE) (zr hx114 hg))) (.cons (fun _ _ hE hK hg => jz (kg 17 hK 211 rfl hg)) (cn (fun hE hK => zV (ks 14 hK 208 rfl) (fun _ => rfl) (fun hb => kg 18 hK 212 rfl (zf rfl rfl hb))) .nil)))))))))))))))))))) ?zk33
      intro a49 w49 hA hE hB HF; refine kr14 HF q4 q11 q13 q14 q15 q16 q19 q21 q84 q85 q86 q96 q97 q98 ?_; clear q4 q11 q13 q14 q15 q16 q19 q21 q84 q85 q86 q96 q97 q98; intro q4 q11 q13 q14 q15 q16 q19 q21 q84 q85 q86 q96 q97 q98; refine kr3 HF q156 q157 q158 ?_; clear q156 q157 q158; intro q156 q157 q158; have q213 := ksv (HF 213) rfl rfl rfl; clear q28 q29 q30 q31 q32 q33 q34 q35 HF; replace f42 := vx f42 hE; replace f6 := vx f6 hE; replace f10 := vx f10 hE; replace f12 := vx f12 hE; replace f52 := vx f52 hE; replace f63 := vx f63 hE; replace f103 := vx f103 hE; replace f106 := vx f106 hE; replace f109 := vx f109 hE; replace f112 := vx f112 hE; replace f46 := vx f46 hE; replace f57 := vx f57 hE; replace f96 := vx f96 hE; clear hE
      obtain ⟨x115, hx_, h⟩ := Comp.run_bind h; replace hx_ := Comp.run_pure hx_; rw [hx_] at q213; clear hx_
      refine zE (zB ?_)
      revert h; refine cnd q213 (fun h => ?_) (fun h => ?_)
      ·
       refine wp_seq ?_
       refine' rb [_] mixed hA hB hO (cn (fun hE hK => zC rfl) .nil) ?zk34
       intro a50 w50 hA hE hB HF; have q12 := ksv (HF 12) rfl rfl rfl; clear q4 q11 q13 q14 q15 q16 q19 q21 q84 q85 q86 q96 q97 q98 q156 q157 q158 q213 HF; replace f42 := vx f42 hE; replace f6 := vx f6 hE; replace f10 := vx f10 hE; replace f12 := vx f12 hE; replace f52 := vx f52 hE; replace f63 := vx f63 hE; replace f46 := vx f46 hE; replace f57 := vx f57 hE; replace f96 := vx f96 hE; clear hE; refine zE (zB (wp_ret (yA (zN (zN (yA (zN (yA (zN (zN (yA (yA (zN (zN (yA (zN ?_))))))))))))))))
       have hd_ := hdone9 _ (Comp.run_pure h).symm; clear h
       subst hd_; have h := hk9; clear hk9; try dsimp only at h
       have hd_ := hdone4 _ (Comp.run_pure h).symm; clear h
       subst hd_; have h := hk4; clear hk4; try dsimp only at h
       have hd_ := hdone3 _ (Comp.run_pure h).symm; clear h
       subst hd_; have h := hk3; clear hk3; try dsimp only at h
       have h := Comp.run_pure h; subst h
       exact zb Try.results3 hA q12 hB.ext rfl
      ·
       refine wp_skip (zm (zB ?_))
       refine' rb [_, _] mixed hA hB hO (cn (fun hE hK => yP (kq hK q158) rfl) (cn (fun hE hK => zJ (ks 0 hK 214 rfl)) .nil)) ?zk35
       intro a51 w51 hA hE hB HF; refine kr14 HF q4 q11 q13 q14 q15 q16 q19 q21 q84 q85 q86 q96 q97 q98 ?_; clear q4 q11 q13 q14 q15 q16 q19 q21 q84 q85 q86 q96 q97 q98; intro q4 q11 q13 q14 q15 q16 q19 q21 q84 q85 q86 q96 q97 q98; replace q156 := kf HF q156; replace q157 := kf HF q157; replace q158 := ksv (HF 158) rfl rfl rfl; clear q213 HF; replace f42 := vx f42 hE; replace f6 := vx f6 hE; replace f10 := vx f10 hE; replace f12 := vx f12 hE; replace f52 := vx f52 hE; replace f63 := vx f63 hE; replace f46 := vx f46 hE; replace f57 := vx f57 hE; replace f96 := vx f96 hE; clear hE; refine zE (zB ?_)
       have h := hnext9 _ (Comp.run_pure h).symm
       refine ⟨m9, hlt9, ?_⟩
       exact ⟨_, _, hA, hB, q4, f42, q11, f6, q13, q14, f10, q15, f12, q16, q19, f52, q21, f63, q84, f46, q85, q86, q96, f57, q97, q98, q156, f96, q157, q158, h⟩
     ·
      refine wp_exit (zT (zT (zw ?_)))
      have hd_ := hdone9 _ (Comp.run_pure h).symm; clear h
      subst hd_; have h := hk9; clear hk9; try dsimp only at h
      refine zB ?_
      exact ⟨_, hA, hB, q4, f42, q11, f6, q13, q14, f10, q15, f12, q16, q19, f52, q21, f63, q84, f46, q85, q86, q96, f57, q97, q98, h⟩
    intro a52 w52 hI
    clear hA hB h q4 q11 q13 q14 q15 q16 q19 q21 q84 q85 q86 q96 q97 q98 f10 f12 f42 f46 f52 f57 f6 f63
    obtain ⟨O117, hA, hB, q4, f42, q11, f6, q13, q14, f10, q15, f12, q16, q19, f52, q21, f63, q84, f46, q85, q86, q96, f57, q97, q98, h⟩ := hI
    unfold gD at h; refine wp_seq ?_; obtain ⟨x118, hx118, h⟩ := Comp.run_bind h
    refine' rb [_, _, _, SP.tup2 (SP.vl (rSl (rInt .i64)) O117 x118.1) (SP.isv (.int .i64 x118.2)), SP.tup2 (SP.vl (rSl (rInt .i64)) O117 x118.1) (SP.isv (.int .i64 x118.2)), SP.vl (rSl (rInt .i64)) O117 x118.1, SP.isv (.int .i64 x118.2), SP.vl (rSl (rInt .i64)) O117 x118.1, _] mixed hA hB hO (mv q19 (mv q21 (mv q16 (.cons (fun _ _ hE hK hg => yL (vR fn22 (ks 0 hK 216 rfl) (ks 1 hK 217 rfl) (ks 2 hK 218 rfl) (ok_court_Conflicts (OkO.ext hB.ok hE) (vx f52 hE) (vx f63 hE) hx118)) (fun _ _ _ ⟨a_, b_, e0_, h0_, h1_⟩ => ⟨a_, b_, e0_, (fun h => (OwnR.val h (fun g hg => (OkO.ext hB.ok hE) g (OwnR.ge h g hg).1))) h0_, h1_⟩)) (cn (fun hE hK => vr (φ := SP.tup2 (SP.vl (rSl (rInt .i64)) O117 x118.1) (SP.isv (.int .i64 x118.2))) (kp _ 3 hK 219 rfl)) (cn (fun hE hK => jZ (kp (SP.tup2 (SP.vl (rSl (rInt .i64)) O117 x118.1) (SP.isv (.int .i64 x118.2))) 4 hK 215 rfl)) (cn (fun hE hK => jY (kp (SP.tup2 (SP.vl (rSl (rInt .i64)) O117 x118.1) (SP.isv (.int .i64 x118.2))) 4 hK 215 rfl)) (cn (fun hE hK => zt (φ := SP.vl (rSl (rInt .i64)) O117 x118.1) (kp _ 5 hK 220 rfl)) (cn (fun hE hK => zC (ks 6 hK 221 rfl)) .nil))))))))) ?zk36
    intro a53 w53 hA hE hB HF; refine kr14 HF q4 q11 q13 q14 q15 q16 q19 q21 q84 q85 q86 q96 q97 q98 ?_; clear q4 q11 q13 q14 q15 q16 q19 q21 q84 q85 q86 q96 q97 q98; intro q4 q11 q13 q14 q15 q16 q19 q21 q84 q85 q86 q96 q97 q98; obtain ⟨u119, q36, f120⟩ := kx (HF 36) rfl rfl rfl; have q37 := ksv (HF 37) rfl rfl rfl; clear HF; replace f42 := vx f42 hE; replace f6 := vx f6 hE; replace f10 := vx f10 hE; replace f12 := vx f12 hE; replace f52 := vx f52 hE; replace f63 := vx f63 hE; replace f46 := vx f46 hE; replace f57 := vx f57 hE; clear hE; refine zE (zB (wp_seq ?_)); obtain ⟨x121, hx121, h⟩ := Comp.run_bind h
    refine' rb [_, _, _, SP.tup2 (SP.vl (rSl (rInt .i64)) O117 x121.1) (SP.isv (.int .i64 x121.2)), SP.tup2 (SP.vl (rSl (rInt .i64)) O117 x121.1) (SP.isv (.int .i64 x121.2)), SP.vl (rSl (rInt .i64)) O117 x121.1, SP.isv (.int .i64 x121.2), SP.vl (rSl (rInt .i64)) O117 x121.1, _] mixed hA hB hO (mv q19 (mv q21 (mv q16 (.cons (fun _ _ hE hK hg => yL (vR fn23 (ks 0 hK 223 rfl) (ks 1 hK 224 rfl) (ks 2 hK 225 rfl) (ok_colletref43_Conflicts (OkO.ext hB.ok hE) (vx f52 hE) (vx f63 hE) hx121)) (fun _ _ _ ⟨a_, b_, e0_, h0_, h1_⟩ => ⟨a_, b_, e0_, (fun h => (OwnR.val h (fun g hg => (OkO.ext hB.ok hE) g (OwnR.ge h g hg).1))) h0_, h1_⟩)) (cn (fun hE hK => vr (φ := SP.tup2 (SP.vl (rSl (rInt .i64)) O117 x121.1) (SP.isv (.int .i64 x121.2))) (kp _ 3 hK 226 rfl)) (cn (fun hE hK => jZ (kp (SP.tup2 (SP.vl (rSl (rInt .i64)) O117 x121.1) (SP.isv (.int .i64 x121.2))) 4 hK 222 rfl)) (cn (fun hE hK => jY (kp (SP.tup2 (SP.vl (rSl (rInt .i64)) O117 x121.1) (SP.isv (.int .i64 x121.2))) 4 hK 222 rfl)) (cn (fun hE hK => zt (φ := SP.vl (rSl (rInt .i64)) O117 x121.1) (kp _ 5 hK 227 rfl)) (cn (fun hE hK => zC (ks 6 hK 228 rfl)) .nil))))))))) ?zk37
    intro a54 w54 hA hE hB HF; refine kr14 HF q4 q11 q13 q14 q15 q16 q19 q36 q37 q84 q85 q86 q96 q97 ?_; clear q4 q11 q13 q14 q15 q16 q19 q36 q37 q84 q85 q86 q96 q97; intro q4 q11 q13 q14 q15 q16 q19 q36 q37 q84 q85 q86 q96 q97; replace q98 := kf HF q98; obtain ⟨u122, q38, f123⟩ := kx (HF 38) rfl rfl rfl; have q39 := ksv (HF 39) rfl rfl rfl; clear q21 HF; replace f42 := vx f42 hE; replace f6 := vx f6 hE; replace f10 := vx f10 hE; replace f12 := vx f12 hE; replace f52 := vx f52 hE; replace f63 := vx f63 hE; replace f120 := vx f120 hE; replace f46 := vx f46 hE; replace f57 := vx f57 hE; clear hE; refine zE (zB (wp_seq ?_)); obtain ⟨x124, hx124, h⟩ := Comp.run_bind h
    refine' rb [_, _, _, _, _, _, SP.isv (.bool x124), _, _] mixed hA hB hO (mv q37 (mv q39 (cn (fun hE hK => gR (ks 0 hK 229 rfl) (ks 1 hK 230 rfl)) (cn (fun hE hK => zJ (ks 2 hK 231 rfl)) (mv q36 (mv q38 (.cons (fun _ _ hE hK hg => zz fn21 (kg 4 hK 233 rfl hg) (kg 5 hK 234 rfl hg) (vg (OkO.ext hB.ok hE) (vx f120 hE) (vx f123 hE) (zr hx124 hg))) (.cons (fun _ _ hE hK hg => jz (kg 6 hK 235 rfl hg)) (cn (fun hE hK => zV (ks 3 hK 232 rfl) (fun _ => rfl) (fun hb => kg 7 hK 236 rfl (zf rfl rfl hb))) .nil))))))))) ?zk38
    intro a55 w55 hA hE hB HF; refine kr13 HF q4 q11 q13 q14 q15 q16 q19 q84 q85 q86 q96 q97 q98 ?_; clear q4 q11 q13 q14 q15 q16 q19 q84 q85 q86 q96 q97 q98; intro q4 q11 q13 q14 q15 q16 q19 q84 q85 q86 q96 q97 q98; have q237 := ksv (HF 237) rfl rfl rfl; clear q36 q37 q38 q39 HF; replace f42 := vx f42 hE; replace f6 := vx f6 hE; replace f10 := vx f10 hE; replace f12 := vx f12 hE; replace f52 := vx f52 hE; replace f120 := vx f120 hE; replace f123 := vx f123 hE; replace f46 := vx f46 hE; replace f57 := vx f57 hE; clear hE
    obtain ⟨x125, hx_, h⟩ := Comp.run_bind h; replace hx_ := Comp.run_pure hx_; rw [hx_] at q237; clear hx_
    refine zE (zB ?_)
    revert h; refine cnd q237 (fun h => ?_) (fun h => ?_)
    ·
     refine wp_seq ?_
     refine' rb [_] mixed hA hB hO (cn (fun hE hK => zC rfl) .nil) ?zk39
     intro a56 w56 hA hE hB HF; have q12 := ksv (HF 12) rfl rfl rfl; clear q4 q11 q13 q14 q15 q16 q19 q84 q85 q86 q96 q97 q98 q237 HF; replace f42 := vx f42 hE; replace f6 := vx f6 hE; replace f10 := vx f10 hE; replace f12 := vx f12 hE; replace f52 := vx f52 hE; replace f46 := vx f46 hE; replace f57 := vx f57 hE; clear hE; refine zE (zB (wp_ret (yA (zN (zN (yA (yA (zN (zN (yA (zN ?_)))))))))))
     have hd_ := hdone4 _ (Comp.run_pure h).symm; clear h
     subst hd_; have h := hk4; clear hk4; try dsimp only at h
     have hd_ := hdone3 _ (Comp.run_pure h).symm; clear h
     subst hd_; have h := hk3; clear hk3; try dsimp only at h
     have h := Comp.run_pure h; subst h
     exact zb Try.results3 hA q12 hB.ext rfl
    ·
     refine wp_skip (zm (zB ?_))
     refine' rb [_, _] mixed hA hB hO (cn (fun hE hK => yP (kq hK q98) rfl) (cn (fun hE hK => zJ (ks 0 hK 238 rfl)) .nil)) ?zk40
     intro a57 w57 hA hE hB HF; refine kr12 HF q4 q11 q13 q14 q15 q16 q19 q84 q85 q86 q96 q97 ?_; clear q4 q11 q13 q14 q15 q16 q19 q84 q85 q86 q96 q97; intro q4 q11 q13 q14 q15 q16 q19 q84 q85 q86 q96 q97; replace q98 := ksv (HF 98) rfl rfl rfl; clear q237 HF; replace f42 := vx f42 hE; replace f6 := vx f6 hE; replace f10 := vx f10 hE; replace f12 := vx f12 hE; replace f52 := vx f52 hE; replace f46 := vx f46 hE; replace f57 := vx f57 hE; clear hE; refine zE (zB ?_)
     have h := hnext4 _ (Comp.run_pure h).symm
     refine ⟨m4, hlt4, ?_⟩
     exact ⟨_, _, hA, hB, q4, f42, q11, f6, q13, q14, f10, q15, f12, q16, q19, f52, q84, f46, q85, q86, q96, f57, q97, q98, h⟩
   ·
    refine wp_exit (zT (zT (zw ?_)))
    have hd_ := hdone4 _ (Comp.run_pure h).symm; clear h
    subst hd_; have h := hk4; clear hk4; try dsimp only at h
    refine zm (zB ?_)
    refine' rb [_, _] mixed hA hB hO (cn (fun hE hK => yP (kq hK q86) rfl) (cn (fun hE hK => zJ (ks 0 hK 239 rfl)) .nil)) ?zk41
    intro a58 w58 hA hE hB HF; refine kr8 HF q4 q11 q13 q14 q15 q16 q84 q85 ?_; clear q4 q11 q13 q14 q15 q16 q84 q85; intro q4 q11 q13 q14 q15 q16 q84 q85; replace q86 := ksv (HF 86) rfl rfl rfl; clear q19 q96 q97 q98 q99 HF; replace f42 := vx f42 hE; replace f6 := vx f6 hE; replace f10 := vx f10 hE; replace f12 := vx f12 hE; replace f52 := vx f52 hE; replace f46 := vx f46 hE; replace f57 := vx f57 hE; clear hE; refine zE (zB ?_)
    have h := hnext3 _ (Comp.run_pure h).symm
    refine ⟨m3, hlt3, ?_⟩
    exact ⟨_, _, hA, hB, q4, f42, q11, f6, q13, q14, f10, q15, f12, q16, q84, f46, q85, q86, h⟩
  ·
   refine wp_exit (zT (zT (zw ?_)))
   have hd_ := hdone3 _ (Comp.run_pure h).symm; clear h
   subst hd_; have h := hk3; clear hk3; try dsimp only at h
   refine zB ?_
   exact ⟨_, hA, hB, q13, q14, f10, q16, h⟩
 intro a59 w59 hI
 clear hA hB h q1 q3 q4 q11 q13 q14 q15 q16 q17 f10 f12 f34 f42 f6 h_3
 obtain ⟨O127, hA, hB, q13, q14, f10, q16, h⟩ := hI
 unfold gF at h; refine wp_seq ?_; obtain ⟨x128, hx128, h⟩ := Comp.run_bind h; obtain ⟨x129, hx129, h⟩ := Comp.run_bind h
 refine' rb [_, _, _, SP.vl (rSl zD) O127 x128, _, SP.isv (.int .i64 x129), _, _, _] mixed hA hB hO (mv q13 (cn (fun hE hK => zJ (ks 0 hK 240 rfl)) (mv q14 (.cons (fun _ _ hE hK hg => yL (okl_make (r := zD) (B := w59.heap.size) rfl ty28 ty64 (by decide) rfl hE.size rfl rfl (fun _ _ => ⟨_, rfl, rfl⟩) (zr hx128 hg)) (fun _ _ _ h => OwnR.val h (fun g hg => hB.ok g (Nat.le_trans (Nat.le_refl _) (OwnR.ge h g hg).1)))) (mv q16 (.cons (fun _ _ hE hK hg => vR fn13 (kg 2 hK 242 rfl hg) rfl (kg 4 hK 244 rfl hg) (ok_court_Check (OkO.ext hB.ok hE) (vx f10 hE) (kspS (φ := SP.vl (rSl zD) O127 x128) (j := 3) (hK 243 rfl) rfl rfl hg) (zr hx129 hg))) (.cons (fun _ _ hE hK hg => yO (kg 5 hK 245 rfl hg) rfl) (cn (fun hE hK => zV (ks 1 hK 241 rfl) (fun hb => kg 6 hK 246 rfl (zf rfl rfl hb)) (fun _ => rfl)) (cn (fun hE hK => zC (ks 7 hK 247 rfl)) .nil))))))))) ?zk42
 intro a60 w60 hA hE hB HF; have q12 := ksv (HF 12) rfl rfl rfl; clear q13 q14 q16 HF; replace f10 := vx f10 hE; clear hE
 obtain ⟨x130, hx_, h⟩ := Comp.run_bind h; replace hx_ := Comp.run_pure hx_; rw [hx_] at q12; clear hx_
 refine zE (zB (wp_ret ?_))
 have h := Comp.run_pure h; subst h
 exact zb Try.results3 hA q12 hB.ext rfl
end Go.Proofs.Ytebmpjdegajhgaa
end
