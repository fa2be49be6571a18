/- For every case, every entry and every key, PassportForms returns true, and its arguments read afterwards as before; no condition. -/
import Derived.Test.YtkbipbfncbopnaaZFormsF
import Derived.SliceStrings
import Derived.ChangeSlices
import Derived.Lib.SmallJoins
import Derived.OpenShut
import Derived.ShutString
import Derived.ChangeOld
import Derived.Test.YtkbipbfncbopnaaRows
import Derived.WalkKit
import Derived.ProofKit
import Derived.Below
set_option linter.unusedSimpArgs false
set_option linter.unusedVariables false
section
namespace Go.Proofs.Ytkbipbfncbopnaa
open Go Go.RowKit Go.Eng Go.Lift Go.F
set_option linter.unusedVariables false
set_option linter.unusedSimpArgs false
set_option maxRecDepth 100000
theorem ok_colletref37_Made {O : Tags} {w0 : World} (hO : OkO O w0) {v_0 : Value} {x_0 : List Bytes} (h_0 : (rSl rStr).v O w0 v_0 x_0) {v_1 : Value} {x_1 : List (List Int)} (h_1 : (rSl (rSl (rInt .i64))).v O w0 v_1 x_1) {x_2 : Int} {n : Nat} {y : (List api_Entry)} (h : (colletref37_Made x_0 x_1 x_2).run n = some y) : Pure Try.prog 54 #[v_0, v_1, .int .i64 x_2] w0 (SP.ownr r_api_Entry 26 (w0.heap.size) O y).holds := by
 unfold colletref37_Made at h
 refine pure_of_wp Try.func54 rfl 31 Try.ntmps54 (by simp) fun a0 hA hs0 => ?_
 have q0 : a0.get 0 = v_0 := hs0 0 _ rfl
 have q1 : a0.get 1 = v_1 := hs0 1 _ rfl
 have q2 : a0.get 2 = .int .i64 x_2 := hs0 2 _ rfl
 clear hs0
 have hB : Base (Fr w0) O w0 O w0 := Base.start hO
 refine wp_seq ?_
 refine' region [_] mixed hA (.cons ?z1_0 .nil) ?zok1 ?zgd1 ?zk1
 case z1_0 => intro a' w' hE hK hg; exact ok_assign rfl
 case zok1 => kernel_rfl
 case zgd1 => kernel_rfl
 intro a1 w1 hA' hE HF
 replace q0 := kn (HF 0) rfl q0
 replace q1 := kn (HF 1) rfl q1
 replace q2 := kn (HF 2) rfl q2
 clear hA HF; have hA := hA'; clear hA'
 replace h_0 := GR.v_ext _ h_0 hE
 replace h_1 := GR.v_ext _ h_1 hE
 replace hB := Base.step hB hE hO; clear hE
 refine li_nil (nx_then (wp_seq ?_))
 refine' region [_] mixed hA (.cons ?z2_0 .nil) ?zok2 ?zgd2 ?zk2
 case z2_0 => intro a' w' hE hK hg; exact ok_assign rfl
 case zok2 => kernel_rfl
 case zgd2 => kernel_rfl
 intro a2 w2 hA' hE HF
 replace q0 := kn (HF 0) rfl q0
 replace q1 := kn (HF 1) rfl q1
 replace q2 := kn (HF 2) rfl q2
 have q7 := ksv (HF 7) rfl rfl rfl
 clear hA HF; have hA := hA'; clear hA'
 replace h_0 := GR.v_ext _ h_0 hE
 replace h_1 := GR.v_ext _ h_1 hE
 replace hB := Base.step hB hE hO; clear hE
 refine li_nil (nx_then ?_)
 refine seq_join (fun a w => ∃ (O20 : Tags) (x17 : List api_Entry) (u18 : Value), a.fit 31 ∧ Base (Fr w0) O w0 O20 w ∧ a.get 7 = u18 ∧ OwnL 1 r_api_Entry 26 (Fr w0) O20 w u18 x17 ∧ (colletref37_Made_j1 x17).run n = some y) ?_ ?_
 ·
  refine wp_seq ?_
  refine' region [_] mixed hA (.cons ?z3_0 .nil) ?zok3 ?zgd3 ?zk3
  case z3_0 => intro a' w' hE hK hg; exact ok_assign rfl
  case zok3 => kernel_rfl
  case zgd3 => kernel_rfl
  intro a3 w3 hA' hE HF
  replace q0 := kn (HF 0) rfl q0
  replace q1 := kn (HF 1) rfl q1
  replace q2 := kn (HF 2) rfl q2
  replace q7 := kn (HF 7) rfl q7
  have q8 := ksv (HF 8) rfl rfl rfl
  clear hA HF; have hA := hA'; clear hA'
  replace h_0 := GR.v_ext _ h_0 hE
  replace h_1 := GR.v_ext _ h_1 hE
  replace hB := Base.step hB hE hO; clear hE
  refine li_nil (nx_then (wp_block ?_))
  obtain ⟨e2, he2, hk2⟩ := Comp.run_bind h; clear h
  refine loop_m (fun m a w => ∃ (O5 : Tags) (x1 : List api_Entry) (x4 : Int) (u2 : Value), a.fit 31 ∧ Base (Fr w0) O w0 O5 w ∧ a.get 0 = v_0 ∧ (rSl rStr).v O5 w v_0 x_0 ∧ a.get 1 = v_1 ∧ (rSl (rSl (rInt .i64))).v O5 w v_1 x_1 ∧ a.get 2 = .int .i64 x_2 ∧ a.get 7 = u2 ∧ OwnL 1 r_api_Entry 26 (Fr w0) O5 w u2 x1 ∧ a.get 8 = .int .i64 x4 ∧ Comp.loopN (fun s => colletref37_Made_l2 x_1 x_2 x_0 s.1 s.2) n m (x1, x4) = some e2) (m := n) ?st2 ?_
  case st2 =>
   exact ⟨_, _, _, _, hA, hB, q0, h_0, q1, h_1, q2, q7, (OwnL.nil _ _ _ _ _ _), q8, Comp.run_loop he2⟩
  intro m_ a4 w4 hI
  clear hA hB he2 q0 q1 q2 q7 q8 h_0 h_1
  obtain ⟨O5, x1, x4, u2, hA, hB, q0, h_0, q1, h_1, q2, q7, f3, q8, hl⟩ := hI
  obtain ⟨m2, hlt2, st2, h, hnext2, hdone2⟩ := Comp.loopN_succ hl; clear hl
  replace h : (colletref37_Made_l2 x_1 x_2 x_0 x1 x4).run n = some st2 := h
  unfold colletref37_Made_l2 at h
  refine wp_seq (wp_seq ?_)
  refine' region [_, _, _, _, _, _, _, _, _] mixed hA (.cons ?z4_0 (.cons ?z4_1 (.cons ?z4_2 (.cons ?z4_3 (.cons ?z4_4 (.cons ?z4_5 (.cons ?z4_6 (.cons ?z4_7 (.cons ?z4_8 .nil))))))))) ?zok4 ?zgd4 ?zk4
  case z4_0 => intro a' w' hE hK hg; exact ok_move (kn (hK 8 rfl) rfl q8)
  case z4_1 => intro a' w' hE hK hg; exact ok_move (kn (hK 1 rfl) rfl q1)
  case z4_2 => intro a' w' hE hK hg; exact okl_len (r := (rSl (rInt .i64))) ty22 (ksv (j := 1) (hK 10 rfl) rfl rfl rfl) (rd_of (GR.v_ext _ h_1 hE))
  case z4_3 => intro a' w' hE hK hg; exact ok_lss (ksv (j := 0) (hK 9 rfl) rfl rfl rfl) (ksv (j := 2) (hK 11 rfl) rfl rfl rfl)
  case z4_4 => intro a' w' hE hK hg; exact ok_move (ksv (j := 3) (hK 12 rfl) rfl rfl rfl)
  case z4_5 => intro a' w' hE hK hg; exact ok_move (kn (hK 8 rfl) rfl q8)
  case z4_6 => intro a' w' hE hK hg; exact ok_move (kn (hK 2 rfl) rfl q2)
  case z4_7 => intro a' w' hE hK hg; exact ok_lss (ksv (j := 5) (hK 14 rfl) rfl rfl hg) (ksv (j := 6) (hK 15 rfl) rfl rfl hg)
  case z4_8 => intro a' w' hE hK hg; exact ok_pick (ksv (j := 4) (hK 13 rfl) rfl rfl rfl) (fun hb => ksv (j := 7) (hK 16 rfl) rfl rfl (act_g1 rfl rfl hb)) (fun _ => rfl)
  case zok4 => kernel_rfl
  case zgd4 => kernel_rfl
  intro a5 w5 hA' hE HF
  replace q0 := kn (HF 0) rfl q0
  replace q1 := kn (HF 1) rfl q1
  replace q2 := kn (HF 2) rfl q2
  replace q7 := kn (HF 7) rfl q7
  replace q8 := kn (HF 8) rfl q8
  have q17 := ksv (HF 17) rfl rfl rfl
  clear hA HF; have hA := hA'; clear hA'
  replace h_0 := GR.v_ext _ h_0 hE
  replace h_1 := GR.v_ext _ h_1 hE
  replace f3 := f3.ext hE
  replace hB := Base.step hB hE hO; clear hE
  obtain ⟨x6, hx_, h⟩ := Comp.run_bind h; replace hx_ := Comp.run_pure hx_; rw [hx_] at q17; clear hx_
  refine li_nil (nx_then ?_)
  refine wp_cond_b q17 (fun hc => ?_) (fun hc => ?_)
  ·
   replace h := Comp.run_b_t hc h; clear hc
   refine wp_skip (nx_then (wp_seq (wp_block ?_)))
   obtain ⟨x7, hx7, h⟩ := Comp.run_bind h
   obtain ⟨x8, hx8, h⟩ := Comp.run_bind h
   refine' regionT [_, _, _, _, _, SP.ptr (rSl (rInt .i64)) O5 x7, SP.vl (rSl (rInt .i64)) O5 x7, SP.isv (.agg #[.int .i64 x8.Seq, .int .i64 x8.Shop, .int .i64 x8.Kind, .int .i64 x8.Day, .int .i64 x8.N, .string (str x8.Before), .string (str x8.After), .string (str x8.Prev), .string (str x8.Mark)]), SP.vl (rSl r_api_Entry) O5 [x8]] hA (.cons ?z5_0 (.cons ?z5_1 (.cons ?z5_2 (.cons ?z5_3 (.cons ?z5_4 (.cons ?z5_5 (.cons ?z5_6 (.cons ?z5_7 (.cons ?z5_8 .nil))))))))) ?zok5 ?zgd5 ?zk5
   case z5_0 => intro a' w' hE hK hg; exact ok_move (kn (hK 7 rfl) rfl q7)
   case z5_1 => intro a' w' hE hK hg; exact ok_move (kn (hK 0 rfl) rfl q0)
   case z5_2 => intro a' w' hE hK hg; exact ok_move (kn (hK 7 rfl) rfl q7)
   case z5_3 => intro a' w' hE hK hg; exact ok_move (kn (hK 1 rfl) rfl q1)
   case z5_4 => intro a' w' hE hK hg; exact ok_move (kn (hK 8 rfl) rfl q8)
   case z5_5 => intro a' w' hE hK hg; exact okl_idx (r := (rSl (rInt .i64))) (O := O5) ty22 ty58 rfl (ksv (j := 3) (hK 23 rfl) rfl rfl rfl) (rd_of (GR.v_ext _ h_1 hE)) (ksv (j := 4) (hK 24 rfl) rfl rfl rfl) hx7
   case z5_6 => intro a' w' hE hK hg; exact okl_ld (r := (rSl (rInt .i64))) (fun _ => rfl) ty58 rfl rfl rfl (kspS (φ := SP.ptr (rSl (rInt .i64)) O5 x7) (j := 5) (hK 25 rfl) rfl rfl rfl)
   case z5_7 => intro a' w' hE hK hg; have c_ := ok_colletref37_Step (okO_zero _) (GR.lend _ (GR.v_ext _ h_0 hE)) (OwnL.lend (OwnL.ext f3 hE)) (GR.lend _ (kspS (φ := SP.vl (rSl (rInt .i64)) O5 x7) (j := 6) (hK 26 rfl) rfl rfl rfl)) hx8; exact ok_call3 fn36 (ksv (j := 1) (hK 21 rfl) rfl rfl rfl) (ksv (j := 2) (hK 22 rfl) rfl rfl rfl) rfl c_
   case z5_8 => intro a' w' hE hK hg; exact okl_buildSliceV (r := r_api_Entry) fit_api_Entry rfl (OkO.ext hB.ok hE) ty29 ty26 (parts_cons (ksv (j := 7) (hK 27 rfl) rfl rfl rfl) parts_nil) ⟨(by first | exact rInt_v.2 rfl | exact rBool_v.2 rfl | exact rStr_v.2 rfl | exact rC_v.2 rfl | exact ⟨_, rfl, rfl⟩), trivial⟩ rfl (by decide)
   case zok5 => kernel_rfl
   case zgd5 => kernel_rfl
   intro a6 w6 hA' hE HF
   replace q0 := kn (HF 0) rfl q0
   replace q1 := kn (HF 1) rfl q1
   replace q2 := kn (HF 2) rfl q2
   replace q7 := kn (HF 7) rfl q7
   replace q8 := kn (HF 8) rfl q8
   have q20 := ksv (HF 20) rfl rfl rfl
   have f10 := ksp (HF 28) rfl rfl rfl
   obtain ⟨u9, q28'⟩ : ∃ u, a6.get 28 = u := ⟨_, rfl⟩
   rw [q28'] at f10
   have q28 := q28'; clear q28'
   clear q17
   clear hA HF; have hA := hA'; clear hA'
   replace h_0 := GR.v_ext _ h_0 hE
   replace h_1 := GR.v_ext _ h_1 hE
   replace f3 := f3.ext hE
   replace hB := Base.step hB hE hO; clear hE
   obtain ⟨x11, hx11, h⟩ := Comp.run_bind h
   refine l_append (r := r_api_Entry) fit_api_Entry rfl ty29 ty26 rfl (by decide) hO hB (okB_fr hB) q20 f3 q28 (rd_of f10) hx11 (by decide) fun u12 w7 O13 f14 hB' hX => ?_
   clear hB; have hB := hB'; clear hB'
   clear f3
   replace h_0 := GR.kx _ h_0 hX (by decide)
   replace h_1 := GR.kx _ h_1 hX (by decide)
   replace f10 := GR.kx _ f10 hX (by decide)
   clear hX
   refine put_cont hA (by decide) fun a8 hA' q_ hfr => ?_
   clear hA; have hA := hA'; clear hA'
   replace q0 := (hfr 0 rfl).trans q0
   replace q1 := (hfr 1 rfl).trans q1
   replace q2 := (hfr 2 rfl).trans q2
   replace q7 := (hfr 7 rfl).trans q7
   replace q8 := (hfr 8 rfl).trans q8
   replace q20 := (hfr 20 rfl).trans q20
   replace q28 := (hfr 28 rfl).trans q28
   have q29 := q_; clear q_ hfr
   refine l_ok (φ := SP.isv (u12)) hO hB (by exact ok_assign q29) rfl fun u_ w9 hE hB' hv_ => ?_
   replace hv_ := Eq.symm hv_; subst hv_; clear hB; have hB := hB'; clear hB'
   replace h_0 := GR.v_ext _ h_0 hE
   replace h_1 := GR.v_ext _ h_1 hE
   replace f14 := f14.ext hE
   clear hE
   refine put_cont hA (by decide) fun a10 hA' q_ hfr => ?_
   clear hA; have hA := hA'; clear hA'
   replace q0 := (hfr 0 rfl).trans q0
   replace q1 := (hfr 1 rfl).trans q1
   replace q2 := (hfr 2 rfl).trans q2
   replace q8 := (hfr 8 rfl).trans q8
   replace q29 := (hfr 29 rfl).trans q29
   clear q7
   have q7 := q_; clear q_ hfr
   refine li_nil (nx_blk (nx_then ?_))
   refine' region [_, _, _] mixed hA (.cons ?z6_0 (.cons ?z6_1 (.cons ?z6_2 .nil))) ?zok6 ?zgd6 ?zk6
   case z6_0 => intro a' w' hE hK hg; exact ok_move (kn (hK 8 rfl) rfl q8)
   case z6_1 => intro a' w' hE hK hg; exact ok_add (ksv (j := 0) (hK 18 rfl) rfl rfl rfl) rfl
   case z6_2 => intro a' w' hE hK hg; exact ok_assign (ksv (j := 1) (hK 19 rfl) rfl rfl rfl)
   case zok6 => kernel_rfl
   case zgd6 => kernel_rfl
   intro a11 w11 hA' hE HF
   replace q0 := kn (HF 0) rfl q0
   replace q1 := kn (HF 1) rfl q1
   replace q2 := kn (HF 2) rfl q2
   replace q7 := kn (HF 7) rfl q7
   have q8' := ksv (HF 8) rfl rfl rfl
   replace q8 := q8'; clear q8'
   clear hA HF; have hA := hA'; clear hA'
   replace h_0 := GR.v_ext _ h_0 hE
   replace h_1 := GR.v_ext _ h_1 hE
   replace f14 := f14.ext hE
   replace hB := Base.step hB hE hO; clear hE
   refine li_nil (nx_then ?_)
   have h := hnext2 _ (Comp.run_pure h).symm
   refine ⟨m2, hlt2, ?_⟩
   exact ⟨_, _, _, _, hA, hB, q0, h_0, q1, h_1, q2, q7, f14, q8, h⟩
  ·
   replace h := Comp.run_b_f hc h; clear hc
   refine wp_exit (ex_then (ex_then (ex_same ?_)))
   have hd_ := hdone2 _ (Comp.run_pure h).symm; clear h
   subst hd_; have h := hk2; clear hk2; try dsimp only at h
   refine nx_then ?_
   exact ⟨_, _, _, hA, hB, q7, f3, h⟩
 intro a12 w12 hI
 clear hA hB h q0 q1 q2 q7 h_0 h_1
 obtain ⟨O20, x17, u18, hA, hB, q7, f19, h⟩ := hI
 unfold colletref37_Made_j1 at h
 refine wp_seq ?_
 refine' region [_, _] mixed hA (.cons ?z7_0 (.cons ?z7_1 .nil)) ?zok7 ?zgd7 ?zk7
 case z7_0 => intro a' w' hE hK hg; exact ok_move (kn (hK 7 rfl) rfl q7)
 case z7_1 => intro a' w' hE hK hg; exact ok_assign (ksv (j := 0) (hK 30 rfl) rfl rfl rfl)
 case zok7 => kernel_rfl
 case zgd7 => kernel_rfl
 intro a13 w13 hA' hE HF
 have q6 := ksv (HF 6) rfl rfl rfl
 clear q7
 clear hA HF; have hA := hA'; clear hA'
 replace f19 := f19.ext hE
 replace hB := Base.step hB hE hO; clear hE
 refine li_nil (nx_then (wp_ret ?_))
 have h := Comp.run_pure h; subst h
 exact retPure Try.results54 hA q6 hB.ext (OwnL.res f19 (by decide) hB.zero)
theorem ok_colletlaw37_Case_made {O : Tags} {w0 : World} (hO : OkO O w0) {v_0 : Value} {x_0 : colletlaw37_Case} (h_0 : r_colletlaw37_Case.v O w0 v_0 x_0) {n : Nat} {y : ((List Bytes) × (List api_Entry))} (h : (colletlaw37_Case_made x_0).run n = some y) : Pure Try.prog 15 #[v_0] w0 (SP.tup2 (SP.ownr rStr 9 (w0.heap.size) O y.1) (SP.vl (rSl r_api_Entry) O y.2)).holds := by
 unfold colletlaw37_Case_made at h
 refine pure_of_wp Try.func15 rfl 16 Try.ntmps15 (by simp) fun a0 hA hs0 => ?_
 have q0 : a0.get 0 = v_0 := hs0 0 _ rfl
 clear hs0
 have hB : Base (Fr w0) O w0 O w0 := Base.start hO
 refine wp_seq ?_
 refine' region [SP.vl (rBox r_colletlaw37_Case) O x_0, _, _] mixed hA (.cons ?z1_0 (.cons ?z1_1 (.cons ?z1_2 .nil))) ?zok1 ?zgd1 ?zk1
 case z1_0 => intro a' w' hE hK hg; exact okl_boxV (r := r_colletlaw37_Case) fit_colletlaw37_Case (OkO.ext hB.ok hE) (kn (hK 0 rfl) rfl q0) (GR.v_ext _ h_0 hE)
 case z1_1 => intro a' w' hE hK hg; exact ok_assign rfl
 case z1_2 => intro a' w' hE hK hg; exact ok_assign rfl
 case zok1 => kernel_rfl
 case zgd1 => kernel_rfl
 intro a1 w1 hA' hE HF
 have f2 := ksp (HF 1) rfl rfl rfl
 obtain ⟨u1, q1'⟩ : ∃ u, a1.get 1 = u := ⟨_, rfl⟩
 rw [q1'] at f2
 have q1 := q1'; clear q1'
 clear q0
 clear hA HF; have hA := hA'; clear hA'
 replace h_0 := GR.v_ext _ h_0 hE
 replace hB := Base.step hB hE hO; clear hE
 refine li_nil (nx_then (wp_seq ?_))
 refine' regionT [SP.ptr (rInt .u8) O x_0.Shops, SP.isv (.int .u8 x_0.Shops), _, _, _] hA (.cons ?z2_0 (.cons ?z2_1 (.cons ?z2_2 (.cons ?z2_3 (.cons ?z2_4 .nil))))) ?zok2 ?zgd2 ?zk2
 case z2_0 => intro a' w' hE hK hg; exact okl_fldB (S := r_colletlaw37_Case) fit_colletlaw37_Case rfl (fun _ => rfl) sb_colletlaw37_Case_1 fl24_1 (kn (hK 1 rfl) rfl q1) (GR.v_ext _ f2 hE)
 case z2_1 => intro a' w' hE hK hg; exact okl_ldr (rInt .u8) (fun _ => rfl) ty5 rfl rfl rfl (kspS (φ := SP.ptr (rInt .u8) O x_0.Shops) (j := 0) (hK 5 rfl) rfl rfl rfl) (fun _ _ _ h => rInt_v.1 h)
 case z2_2 => intro a' w' hE hK hg; exact ok_convI ty5 ty3 (ksv (j := 1) (hK 6 rfl) rfl rfl rfl)
 case z2_3 => intro a' w' hE hK hg; exact ok_rem (ksv (j := 2) (hK 7 rfl) rfl rfl rfl) rfl (by decide)
 case z2_4 => intro a' w' hE hK hg; exact ok_add rfl (ksv (j := 3) (hK 8 rfl) rfl rfl rfl)
 case zok2 => kernel_rfl
 case zgd2 => kernel_rfl
 intro a2 w2 hA' hE HF
 replace q1 := kn (HF 1) rfl q1
 have q9 := ksv (HF 9) rfl rfl rfl
 clear hA HF; have hA := hA'; clear hA'
 replace f2 := GR.v_ext _ f2 hE
 replace hB := Base.step hB hE hO; clear hE
 obtain ⟨x3, hx3, h⟩ := Comp.run_bind h
 refine l_ok (φ := SP.ownr rStr 9 w2.heap.size O x3) hO hB (by have c_ := ok_colletref37_Keys hB.ok  hx3; exact ok_weak (ok_call1 fn23 q9 c_) (fun _ _ _ h => h)) rfl fun u4 w3 hE hB' f5 => ?_
 clear hB'; obtain ⟨O6, hB', hX, f7⟩ := ownNew hO hB hE f5 rfl 1 (by decide)
 clear hB f5; have hB := hB'; clear hB'
 replace f2 := GR.kx _ f2 hX (by decide)
 clear hX hE
 refine put_cont hA (by decide) fun a4 hA' q_ hfr => ?_
 clear hA; have hA := hA'; clear hA'
 replace q1 := (hfr 1 rfl).trans q1
 replace q9 := (hfr 9 rfl).trans q9
 have q10 := q_; clear q_ hfr
 refine l_ok (φ := SP.isv (u4)) hO hB (by exact ok_assign q10) rfl fun u_ w5 hE hB' hv_ => ?_
 replace hv_ := Eq.symm hv_; subst hv_; clear hB; have hB := hB'; clear hB'
 replace f2 := GR.v_ext _ f2 hE
 replace f7 := f7.ext hE
 clear hE
 refine put_cont hA (by decide) fun a6 hA' q_ hfr => ?_
 clear hA; have hA := hA'; clear hA'
 replace q1 := (hfr 1 rfl).trans q1
 replace q10 := (hfr 10 rfl).trans q10
 have q4 := q_; clear q_ hfr
 refine li_nil (nx_then (wp_seq ?_))
 obtain ⟨x8, hx8, h⟩ := Comp.run_bind h
 obtain ⟨x9, hx9, h⟩ := Comp.run_bind h
 refine' region [_, _, SP.vl r_colletlaw37_Case O6 x_0, SP.vl (rSl (rSl (rInt .i64))) O6 x8, SP.vl (rSl r_api_Entry) O6 x9, _, SP.vl (rSl r_api_Entry) O6 x9] mixed hA (.cons ?z3_0 (.cons ?z3_1 (.cons ?z3_2 (.cons ?z3_3 (.cons ?z3_4 (.cons ?z3_5 (.cons ?z3_6 .nil))))))) ?zok3 ?zgd3 ?zk3
 case z3_0 => intro a' w' hE hK hg; exact ok_move (kn (hK 4 rfl) rfl q4)
 case z3_1 => intro a' w' hE hK hg; exact ok_move (kn (hK 4 rfl) rfl q4)
 case z3_2 => intro a' w' hE hK hg; exact okl_ld (r := r_colletlaw37_Case) fit_colletlaw37_Case ty24 rfl rfl (kn (hK 1 rfl) rfl q1) (ptr_of_box fit_colletlaw37_Case (GR.v_ext _ f2 hE))
 case z3_3 => intro a' w' hE hK hg; have c_ := ok_colletlaw37_Case_lists (OkO.ext hB.ok hE) (kspS (φ := SP.vl r_colletlaw37_Case O6 x_0) (j := 2) (hK 13 rfl) rfl rfl rfl) hx8; exact ok_weak (ok_call1 fn55 rfl c_) (fun _ _ _ h => (OwnR.val h (fun g hg => (OkO.ext hB.ok hE) g (OwnR.ge h g hg).1)))
 case z3_4 => intro a' w' hE hK hg; have c_ := ok_colletref37_Made (okO_zero _) (OwnL.lend (OwnL.ext f7 hE)) (GR.lend _ (kspS (φ := SP.vl (rSl (rSl (rInt .i64))) O6 x8) (j := 3) (hK 14 rfl) rfl rfl rfl)) hx9; exact ok_weak (ok_call3 fn54 (ksv (j := 1) (hK 12 rfl) rfl rfl rfl) rfl rfl c_) (fun _ _ _ h => (OwnR.val (OwnR.indep O6 h) (fun g hg => (OkO.ext hB.ok hE) g (OwnR.ge (OwnR.indep O6 h) g hg).1)))
 case z3_5 => intro a' w' hE hK hg; exact ok_assign (ksv (j := 0) (hK 11 rfl) rfl rfl rfl)
 case z3_6 => intro a' w' hE hK hg; exact ok_assign_pr (φ := SP.vl (rSl r_api_Entry) O6 x9) (kspS (φ := SP.vl (rSl r_api_Entry) O6 x9) (j := 4) (hK 15 rfl) rfl rfl rfl)
 case zok3 => kernel_rfl
 case zgd3 => kernel_rfl
 intro a7 w7 hA' hE HF
 have q2 := ksv (HF 2) rfl rfl rfl
 have f11 := ksp (HF 3) rfl rfl rfl
 obtain ⟨u10, q3'⟩ : ∃ u, a7.get 3 = u := ⟨_, rfl⟩
 rw [q3'] at f11
 have q3 := q3'; clear q3'
 clear q1
 clear q4
 clear hA HF; have hA := hA'; clear hA'
 replace f2 := GR.v_ext _ f2 hE
 replace f7 := f7.ext hE
 replace hB := Base.step hB hE hO; clear hE
 refine li_nil (nx_then (wp_ret ?_))
 have h := Comp.run_pure h; subst h
 exact retPure2 Try.results15 hA q2 q3 hB.ext ⟨_, _, rfl, (OwnL.res f7 (by decide) hB.zero), (hB.res (rSl r_api_Entry) f11)⟩
theorem ok_colletlaw37_short {O : Tags} {w0 : World} (hO : OkO O w0) {x_0 : api_Entry} {n : Nat} {y : api_Entry} (h : (colletlaw37_short x_0).run n = some y) : Pure Try.prog 16 #[.agg #[.int .i64 x_0.Seq, .int .i64 x_0.Shop, .int .i64 x_0.Kind, .int .i64 x_0.Day, .int .i64 x_0.N, .string (str x_0.Before), .string (str x_0.After), .string (str x_0.Prev), .string (str x_0.Mark)]] w0 (SP.isv (.agg #[.int .i64 y.Seq, .int .i64 y.Shop, .int .i64 y.Kind, .int .i64 y.Day, .int .i64 y.N, .string (str y.Before), .string (str y.After), .string (str y.Prev), .string (str y.Mark)])).holds := by
 unfold colletlaw37_short at h
 refine pure_of_wp Try.func16 rfl 36 Try.ntmps16 (by simp) fun a0 hA hs0 => ?_
 have q0 : a0.get 0 = .agg #[.int .i64 x_0.Seq, .int .i64 x_0.Shop, .int .i64 x_0.Kind, .int .i64 x_0.Day, .int .i64 x_0.N, .string (str x_0.Before), .string (str x_0.After), .string (str x_0.Prev), .string (str x_0.Mark)] := hs0 0 _ rfl
 clear hs0
 have hB : Base (Fr w0) O w0 O w0 := Base.start hO
 refine wp_seq ?_
 refine' regionT [SP.box w0.heap.size #[.int .i64 x_0.Seq, .int .i64 x_0.Shop, .int .i64 x_0.Kind, .int .i64 x_0.Day, .int .i64 x_0.N, .string (str x_0.Before), .string (str x_0.After), .string (str x_0.Prev), .string (str x_0.Mark)] 26] hA (.cons ?z1_0 .nil) ?zok1 ?zgd1 ?zk1
 case z1_0 => intro a' w' hE hK hg; exact ok_box (v := .agg #[.int .i64 x_0.Seq, .int .i64 x_0.Shop, .int .i64 x_0.Kind, .int .i64 x_0.Day, .int .i64 x_0.N, .string (str x_0.Before), .string (str x_0.After), .string (str x_0.Prev), .string (str x_0.Mark)]) hE.size (kn (hK 0 rfl) rfl q0)
 case zok1 => kernel_rfl
 case zgd1 => kernel_rfl
 intro a1 w1 hA' hE HF
 have f2 := ksp (HF 1) rfl rfl rfl
 obtain ⟨u1, q1'⟩ : ∃ u, a1.get 1 = u := ⟨_, rfl⟩
 rw [q1'] at f2
 have q1 := q1'; clear q1'
 clear q0
 clear hA HF; have hA := hA'; clear hA'
 obtain ⟨O3, b4, hB', hX, e_, f5⟩ := boxNew hO hB hE f2 1 (by decide)
 subst e_
 clear hB f2; have hB := hB'; clear hB'
 clear hX hE
 refine l_ok (φ := SP.box w1.heap.size #[.int .i64 ((api_Entry.mk 0 0 0 0 0 [] [] [] []).Seq), .int .i64 ((api_Entry.mk 0 0 0 0 0 [] [] [] []).Shop), .int .i64 ((api_Entry.mk 0 0 0 0 0 [] [] [] []).Kind), .int .i64 ((api_Entry.mk 0 0 0 0 0 [] [] [] []).Day), .int .i64 ((api_Entry.mk 0 0 0 0 0 [] [] [] []).N), .string (str ((api_Entry.mk 0 0 0 0 0 [] [] [] []).Before)), .string (str ((api_Entry.mk 0 0 0 0 0 [] [] [] []).After)), .string (str ((api_Entry.mk 0 0 0 0 0 [] [] [] []).Prev)), .string (str ((api_Entry.mk 0 0 0 0 0 [] [] [] []).Mark))] 26) hO hB (by exact ok_alloc (Nat.le_refl _) ty26) rfl fun u6 w2 hE hB' f7 => ?_
 clear hB'; obtain ⟨O8, b10, hB', hX, e_, f9⟩ := boxNew hO hB hE f7 2 (by decide)
 subst e_; clear hB f7; have hB := hB'; clear hB'
 replace f5 := f5.kx hX (by decide)
 clear hX hE
 refine put_cont hA (by decide) fun a3 hA' q_ hfr => ?_
 clear hA; have hA := hA'; clear hA'
 replace q1 := (hfr 1 rfl).trans q1
 have q2 := q_; clear q_ hfr
 refine li_nil (nx_then (wp_seq ?_))
 obtain ⟨x11, hx11, h⟩ := Comp.run_bind h
 obtain ⟨x12, hx12, h⟩ := Comp.run_bind h
 obtain ⟨x13, hx13, h⟩ := Comp.run_bind h
 obtain ⟨x14, hx14, h⟩ := Comp.run_bind h
 have hz : ∀ b_, (fun b_ => b_ = b4) b_ → O8 b_ ≠ 0 := by rintro b_ rfl <;> first | (rw [f5.tag]; decide)
 refine' regionJ (E := ET (fun b_ => b_ = b4) w2.heap.size) (fun S_ _ w_ => JBox 1 (Fr w0) O8 b4 26 #[.int .i64 x_0.Seq, .int .i64 x_0.Shop, .int .i64 x_0.Kind, .int .i64 x_0.Day, .int .i64 x_0.N, .string (str x_0.Before), .string (str x_0.After), .string (str x_0.Prev), .string (str x_0.Mark)] [(29, 5, .string (str x11)), (31, 6, .string (str x12)), (33, 7, .string (str x13)), (35, 8, .string (str x14))] S_ w_) (ET.refl _ _) (fun _ _ _ => ET.trans) (ET.drawn _ _) [SP.isv (.pointer (some ⟨b4, 5, none⟩)), SP.isv (.string (str x_0.Before)), SP.isv (.pointer (some ⟨b4, 5, none⟩)), SP.isv (.string (str x_0.Before)), SP.isv (.int .i64 (x_0.Before.length : Int)), SP.isv (.int .i64 (min (x_0.Before.length : Int) 40)), SP.isv (.string (str x11)), SP.isv (.pointer (some ⟨b4, 6, none⟩)), SP.isv (.string (str x_0.After)), SP.isv (.pointer (some ⟨b4, 6, none⟩)), SP.isv (.string (str x_0.After)), SP.isv (.int .i64 (x_0.After.length : Int)), SP.isv (.int .i64 (min (x_0.After.length : Int) 40)), SP.isv (.string (str x12)), SP.isv (.pointer (some ⟨b4, 7, none⟩)), SP.isv (.string (str x_0.Prev)), SP.isv (.pointer (some ⟨b4, 7, none⟩)), SP.isv (.string (str x_0.Prev)), SP.isv (.int .i64 (x_0.Prev.length : Int)), SP.isv (.int .i64 (min (x_0.Prev.length : Int) 40)), SP.isv (.string (str x13)), SP.isv (.pointer (some ⟨b4, 8, none⟩)), SP.isv (.string (str x_0.Mark)), SP.isv (.pointer (some ⟨b4, 8, none⟩)), SP.isv (.string (str x_0.Mark)), SP.isv (.int .i64 (x_0.Mark.length : Int)), SP.isv (.int .i64 (min (x_0.Mark.length : Int) 40)), SP.isv (.string (str x14)), SP.isv (.pointer (some ⟨b4, 5, none⟩)), SP.isv undef, SP.isv (.pointer (some ⟨b4, 6, none⟩)), SP.isv undef, SP.isv (.pointer (some ⟨b4, 7, none⟩)), SP.isv undef, SP.isv (.pointer (some ⟨b4, 8, none⟩)), SP.isv undef] mixed hA (.cons (stE_isv _) (.cons (stE_isv _) (.cons (stE_isv _) (.cons (stE_isv _) (.cons (stE_isv _) (.cons (stE_isv _) (.cons (stE_isv _) (.cons (stE_isv _) (.cons (stE_isv _) (.cons (stE_isv _) (.cons (stE_isv _) (.cons (stE_isv _) (.cons (stE_isv _) (.cons (stE_isv _) (.cons (stE_isv _) (.cons (stE_isv _) (.cons (stE_isv _) (.cons (stE_isv _) (.cons (stE_isv _) (.cons (stE_isv _) (.cons (stE_isv _) (.cons (stE_isv _) (.cons (stE_isv _) (.cons (stE_isv _) (.cons (stE_isv _) (.cons (stE_isv _) (.cons (stE_isv _) (.cons (stE_isv _) (.cons (stE_isv _) (.cons (stE_isv _) (.cons (stE_isv _) (.cons (stE_isv _) (.cons (stE_isv _) (.cons (stE_isv _) (.cons (stE_isv _) (.cons (stE_isv _) .nil)))))))))))))))))))))))))))))))))))) (.cons ?z2_0 (.cons ?z2_1 (.cons ?z2_2 (.cons ?z2_3 (.cons ?z2_4 (.cons ?z2_5 (.cons ?z2_6 (.cons ?z2_7 (.cons ?z2_8 (.cons ?z2_9 (.cons ?z2_10 (.cons ?z2_11 (.cons ?z2_12 (.cons ?z2_13 (.cons ?z2_14 (.cons ?z2_15 (.cons ?z2_16 (.cons ?z2_17 (.cons ?z2_18 (.cons ?z2_19 (.cons ?z2_20 (.cons ?z2_21 (.cons ?z2_22 (.cons ?z2_23 (.cons ?z2_24 (.cons ?z2_25 (.cons ?z2_26 (.cons ?z2_27 (.cons ?z2_28 (.cons ?z2_29 (.cons ?z2_30 (.cons ?z2_31 (.cons ?z2_32 (.cons ?z2_33 (.cons ?z2_34 (.cons ?z2_35 .nil)))))))))))))))))))))))))))))))))))) ?zsk2 ?zst2 ?zok2 ?zgd2 ?zk2
 case z2_0 => intro S_ a' w' hE hJ hS hafter hpre hK hg K_ Q_ hK'; exact okJ (φ := SP.isv (.pointer (some ⟨b4, 5, none⟩))) (by exact ok_fieldAddr fl26_5 (kn (hK 1 rfl) rfl q1)) (fun v2 w2 hE2 => JBox.pure hJ hE2 rfl) hK'
 case z2_1 => intro S_ a' w' hE hJ hS hafter hpre hK hg K_ Q_ hK'; exact okJ (φ := SP.isv (.string (str x_0.Before))) (by exact okl_loadJ ty9 rfl (ksv (j := 0) (hK 3 rfl) rfl rfl rfl) (JBox.own hJ (all_cons (fun _ => hafter 29 (by kernel_rfl)) (all_cons (fun e_ => absurd e_ (by show ¬ (6 : Nat) = 5; decide)) (all_cons (fun e_ => absurd e_ (by show ¬ (7 : Nat) = 5; decide)) (all_cons (fun e_ => absurd e_ (by show ¬ (8 : Nat) = 5; decide)) all_nil)))) rfl)) (fun v2 w2 hE2 => JBox.pure hJ hE2 rfl) hK'
 case z2_2 => intro S_ a' w' hE hJ hS hafter hpre hK hg K_ Q_ hK'; exact okJ (φ := SP.isv (.pointer (some ⟨b4, 5, none⟩))) (by exact ok_fieldAddr fl26_5 (kn (hK 1 rfl) rfl q1)) (fun v2 w2 hE2 => JBox.pure hJ hE2 rfl) hK'
 case z2_3 => intro S_ a' w' hE hJ hS hafter hpre hK hg K_ Q_ hK'; exact okJ (φ := SP.isv (.string (str x_0.Before))) (by exact okl_loadJ ty9 rfl (ksv (j := 2) (hK 5 rfl) rfl rfl rfl) (JBox.own hJ (all_cons (fun _ => hafter 29 (by kernel_rfl)) (all_cons (fun e_ => absurd e_ (by show ¬ (6 : Nat) = 5; decide)) (all_cons (fun e_ => absurd e_ (by show ¬ (7 : Nat) = 5; decide)) (all_cons (fun e_ => absurd e_ (by show ¬ (8 : Nat) = 5; decide)) all_nil)))) rfl)) (fun v2 w2 hE2 => JBox.pure hJ hE2 rfl) hK'
 case z2_4 => intro S_ a' w' hE hJ hS hafter hpre hK hg K_ Q_ hK'; exact okJ (φ := SP.isv (.int .i64 (x_0.Before.length : Int))) (by exact okl_lenS ty9 (ksv (j := 3) (hK 6 rfl) rfl rfl rfl)) (fun v2 w2 hE2 => JBox.pure hJ hE2 rfl) hK'
 case z2_5 => intro S_ a' w' hE hJ hS hafter hpre hK hg K_ Q_ hK'; exact okJ (φ := SP.isv (.int .i64 (min (x_0.Before.length : Int) 40))) (by exact ok_min (ksv (j := 4) (hK 7 rfl) rfl rfl rfl) rfl) (fun v2 w2 hE2 => JBox.pure hJ hE2 rfl) hK'
 case z2_6 => intro S_ a' w' hE hJ hS hafter hpre hK hg K_ Q_ hK'; exact okJ (φ := SP.isv (.string (str x11))) (by exact okl_sliceS_h ty9 (ksv (j := 1) (hK 4 rfl) rfl rfl rfl) (ksv (j := 5) (hK 8 rfl) rfl rfl rfl) hx11) (fun v2 w2 hE2 => JBox.pure hJ hE2 rfl) hK'
 case z2_7 => intro S_ a' w' hE hJ hS hafter hpre hK hg K_ Q_ hK'; exact okJ (φ := SP.isv (.pointer (some ⟨b4, 6, none⟩))) (by exact ok_fieldAddr fl26_6 (kn (hK 1 rfl) rfl q1)) (fun v2 w2 hE2 => JBox.pure hJ hE2 rfl) hK'
 case z2_8 => intro S_ a' w' hE hJ hS hafter hpre hK hg K_ Q_ hK'; exact okJ (φ := SP.isv (.string (str x_0.After))) (by exact okl_loadJ ty9 rfl (ksv (j := 7) (hK 10 rfl) rfl rfl rfl) (JBox.own hJ (all_cons (fun e_ => absurd e_ (by show ¬ (5 : Nat) = 6; decide)) (all_cons (fun _ => hafter 31 (by kernel_rfl)) (all_cons (fun e_ => absurd e_ (by show ¬ (7 : Nat) = 6; decide)) (all_cons (fun e_ => absurd e_ (by show ¬ (8 : Nat) = 6; decide)) all_nil)))) rfl)) (fun v2 w2 hE2 => JBox.pure hJ hE2 rfl) hK'
 case z2_9 => intro S_ a' w' hE hJ hS hafter hpre hK hg K_ Q_ hK'; exact okJ (φ := SP.isv (.pointer (some ⟨b4, 6, none⟩))) (by exact ok_fieldAddr fl26_6 (kn (hK 1 rfl) rfl q1)) (fun v2 w2 hE2 => JBox.pure hJ hE2 rfl) hK'
 case z2_10 => intro S_ a' w' hE hJ hS hafter hpre hK hg K_ Q_ hK'; exact okJ (φ := SP.isv (.string (str x_0.After))) (by exact okl_loadJ ty9 rfl (ksv (j := 9) (hK 12 rfl) rfl rfl rfl) (JBox.own hJ (all_cons (fun e_ => absurd e_ (by show ¬ (5 : Nat) = 6; decide)) (all_cons (fun _ => hafter 31 (by kernel_rfl)) (all_cons (fun e_ => absurd e_ (by show ¬ (7 : Nat) = 6; decide)) (all_cons (fun e_ => absurd e_ (by show ¬ (8 : Nat) = 6; decide)) all_nil)))) rfl)) (fun v2 w2 hE2 => JBox.pure hJ hE2 rfl) hK'
 case z2_11 => intro S_ a' w' hE hJ hS hafter hpre hK hg K_ Q_ hK'; exact okJ (φ := SP.isv (.int .i64 (x_0.After.length : Int))) (by exact okl_lenS ty9 (ksv (j := 10) (hK 13 rfl) rfl rfl rfl)) (fun v2 w2 hE2 => JBox.pure hJ hE2 rfl) hK'
 case z2_12 => intro S_ a' w' hE hJ hS hafter hpre hK hg K_ Q_ hK'; exact okJ (φ := SP.isv (.int .i64 (min (x_0.After.length : Int) 40))) (by exact ok_min (ksv (j := 11) (hK 14 rfl) rfl rfl rfl) rfl) (fun v2 w2 hE2 => JBox.pure hJ hE2 rfl) hK'
 case z2_13 => intro S_ a' w' hE hJ hS hafter hpre hK hg K_ Q_ hK'; exact okJ (φ := SP.isv (.string (str x12))) (by exact okl_sliceS_h ty9 (ksv (j := 8) (hK 11 rfl) rfl rfl rfl) (ksv (j := 12) (hK 15 rfl) rfl rfl rfl) hx12) (fun v2 w2 hE2 => JBox.pure hJ hE2 rfl) hK'
 case z2_14 => intro S_ a' w' hE hJ hS hafter hpre hK hg K_ Q_ hK'; exact okJ (φ := SP.isv (.pointer (some ⟨b4, 7, none⟩))) (by exact ok_fieldAddr fl26_7 (kn (hK 1 rfl) rfl q1)) (fun v2 w2 hE2 => JBox.pure hJ hE2 rfl) hK'
 case z2_15 => intro S_ a' w' hE hJ hS hafter hpre hK hg K_ Q_ hK'; exact okJ (φ := SP.isv (.string (str x_0.Prev))) (by exact okl_loadJ ty9 rfl (ksv (j := 14) (hK 17 rfl) rfl rfl rfl) (JBox.own hJ (all_cons (fun e_ => absurd e_ (by show ¬ (5 : Nat) = 7; decide)) (all_cons (fun e_ => absurd e_ (by show ¬ (6 : Nat) = 7; decide)) (all_cons (fun _ => hafter 33 (by kernel_rfl)) (all_cons (fun e_ => absurd e_ (by show ¬ (8 : Nat) = 7; decide)) all_nil)))) rfl)) (fun v2 w2 hE2 => JBox.pure hJ hE2 rfl) hK'
 case z2_16 => intro S_ a' w' hE hJ hS hafter hpre hK hg K_ Q_ hK'; exact okJ (φ := SP.isv (.pointer (some ⟨b4, 7, none⟩))) (by exact ok_fieldAddr fl26_7 (kn (hK 1 rfl) rfl q1)) (fun v2 w2 hE2 => JBox.pure hJ hE2 rfl) hK'
 case z2_17 => intro S_ a' w' hE hJ hS hafter hpre hK hg K_ Q_ hK'; exact okJ (φ := SP.isv (.string (str x_0.Prev))) (by exact okl_loadJ ty9 rfl (ksv (j := 16) (hK 19 rfl) rfl rfl rfl) (JBox.own hJ (all_cons (fun e_ => absurd e_ (by show ¬ (5 : Nat) = 7; decide)) (all_cons (fun e_ => absurd e_ (by show ¬ (6 : Nat) = 7; decide)) (all_cons (fun _ => hafter 33 (by kernel_rfl)) (all_cons (fun e_ => absurd e_ (by show ¬ (8 : Nat) = 7; decide)) all_nil)))) rfl)) (fun v2 w2 hE2 => JBox.pure hJ hE2 rfl) hK'
 case z2_18 => intro S_ a' w' hE hJ hS hafter hpre hK hg K_ Q_ hK'; exact okJ (φ := SP.isv (.int .i64 (x_0.Prev.length : Int))) (by exact okl_lenS ty9 (ksv (j := 17) (hK 20 rfl) rfl rfl rfl)) (fun v2 w2 hE2 => JBox.pure hJ hE2 rfl) hK'
 case z2_19 => intro S_ a' w' hE hJ hS hafter hpre hK hg K_ Q_ hK'; exact okJ (φ := SP.isv (.int .i64 (min (x_0.Prev.length : Int) 40))) (by exact ok_min (ksv (j := 18) (hK 21 rfl) rfl rfl rfl) rfl) (fun v2 w2 hE2 => JBox.pure hJ hE2 rfl) hK'
 case z2_20 => intro S_ a' w' hE hJ hS hafter hpre hK hg K_ Q_ hK'; exact okJ (φ := SP.isv (.string (str x13))) (by exact okl_sliceS_h ty9 (ksv (j := 15) (hK 18 rfl) rfl rfl rfl) (ksv (j := 19) (hK 22 rfl) rfl rfl rfl) hx13) (fun v2 w2 hE2 => JBox.pure hJ hE2 rfl) hK'
 case z2_21 => intro S_ a' w' hE hJ hS hafter hpre hK hg K_ Q_ hK'; exact okJ (φ := SP.isv (.pointer (some ⟨b4, 8, none⟩))) (by exact ok_fieldAddr fl26_8 (kn (hK 1 rfl) rfl q1)) (fun v2 w2 hE2 => JBox.pure hJ hE2 rfl) hK'
 case z2_22 => intro S_ a' w' hE hJ hS hafter hpre hK hg K_ Q_ hK'; exact okJ (φ := SP.isv (.string (str x_0.Mark))) (by exact okl_loadJ ty9 rfl (ksv (j := 21) (hK 24 rfl) rfl rfl rfl) (JBox.own hJ (all_cons (fun e_ => absurd e_ (by show ¬ (5 : Nat) = 8; decide)) (all_cons (fun e_ => absurd e_ (by show ¬ (6 : Nat) = 8; decide)) (all_cons (fun e_ => absurd e_ (by show ¬ (7 : Nat) = 8; decide)) (all_cons (fun _ => hafter 35 (by kernel_rfl)) all_nil)))) rfl)) (fun v2 w2 hE2 => JBox.pure hJ hE2 rfl) hK'
 case z2_23 => intro S_ a' w' hE hJ hS hafter hpre hK hg K_ Q_ hK'; exact okJ (φ := SP.isv (.pointer (some ⟨b4, 8, none⟩))) (by exact ok_fieldAddr fl26_8 (kn (hK 1 rfl) rfl q1)) (fun v2 w2 hE2 => JBox.pure hJ hE2 rfl) hK'
 case z2_24 => intro S_ a' w' hE hJ hS hafter hpre hK hg K_ Q_ hK'; exact okJ (φ := SP.isv (.string (str x_0.Mark))) (by exact okl_loadJ ty9 rfl (ksv (j := 23) (hK 26 rfl) rfl rfl rfl) (JBox.own hJ (all_cons (fun e_ => absurd e_ (by show ¬ (5 : Nat) = 8; decide)) (all_cons (fun e_ => absurd e_ (by show ¬ (6 : Nat) = 8; decide)) (all_cons (fun e_ => absurd e_ (by show ¬ (7 : Nat) = 8; decide)) (all_cons (fun _ => hafter 35 (by kernel_rfl)) all_nil)))) rfl)) (fun v2 w2 hE2 => JBox.pure hJ hE2 rfl) hK'
 case z2_25 => intro S_ a' w' hE hJ hS hafter hpre hK hg K_ Q_ hK'; exact okJ (φ := SP.isv (.int .i64 (x_0.Mark.length : Int))) (by exact okl_lenS ty9 (ksv (j := 24) (hK 27 rfl) rfl rfl rfl)) (fun v2 w2 hE2 => JBox.pure hJ hE2 rfl) hK'
 case z2_26 => intro S_ a' w' hE hJ hS hafter hpre hK hg K_ Q_ hK'; exact okJ (φ := SP.isv (.int .i64 (min (x_0.Mark.length : Int) 40))) (by exact ok_min (ksv (j := 25) (hK 28 rfl) rfl rfl rfl) rfl) (fun v2 w2 hE2 => JBox.pure hJ hE2 rfl) hK'
 case z2_27 => intro S_ a' w' hE hJ hS hafter hpre hK hg K_ Q_ hK'; exact okJ (φ := SP.isv (.string (str x14))) (by exact okl_sliceS_h ty9 (ksv (j := 22) (hK 25 rfl) rfl rfl rfl) (ksv (j := 26) (hK 29 rfl) rfl rfl rfl) hx14) (fun v2 w2 hE2 => JBox.pure hJ hE2 rfl) hK'
 case z2_28 => intro S_ a' w' hE hJ hS hafter hpre hK hg K_ Q_ hK'; exact okJ (φ := SP.isv (.pointer (some ⟨b4, 5, none⟩))) (by exact ok_fieldAddr fl26_5 (kn (hK 1 rfl) rfl q1)) (fun v2 w2 hE2 => JBox.pure hJ hE2 rfl) hK'
 case z2_29 => intro S_ a' w' hE hJ hS hafter hpre hK hg K_ Q_ hK'; exact storeJ (l1 := []) (l2 := [(31, 6, .string (str x12)), (33, 7, .string (str x13)), (35, 8, .string (str x14))]) ty9 (ksv (j := 28) (hK 31 rfl) rfl rfl rfl) (ksv (j := 6) (hK 9 rfl) rfl rfl rfl) rfl rfl hJ (by simp) hS rfl (all_cons (hafter 31 (by kernel_rfl)) (all_cons (hafter 33 (by kernel_rfl)) (all_cons (hafter 35 (by kernel_rfl)) all_nil))) rfl (by simp) (fun w2 h1 h2 h3 => hK' undef w2 h1 h3 rfl)
 case z2_30 => intro S_ a' w' hE hJ hS hafter hpre hK hg K_ Q_ hK'; exact okJ (φ := SP.isv (.pointer (some ⟨b4, 6, none⟩))) (by exact ok_fieldAddr fl26_6 (kn (hK 1 rfl) rfl q1)) (fun v2 w2 hE2 => JBox.pure hJ hE2 rfl) hK'
 case z2_31 => intro S_ a' w' hE hJ hS hafter hpre hK hg K_ Q_ hK'; exact storeJ (l1 := [(29, 5, .string (str x11))]) (l2 := [(33, 7, .string (str x13)), (35, 8, .string (str x14))]) ty9 (ksv (j := 30) (hK 32 rfl) rfl rfl rfl) (ksv (j := 13) (hK 16 rfl) rfl rfl rfl) rfl rfl hJ (by simp) hS rfl (all_cons (hafter 33 (by kernel_rfl)) (all_cons (hafter 35 (by kernel_rfl)) all_nil)) rfl (by simp) (fun w2 h1 h2 h3 => hK' undef w2 h1 h3 rfl)
 case z2_32 => intro S_ a' w' hE hJ hS hafter hpre hK hg K_ Q_ hK'; exact okJ (φ := SP.isv (.pointer (some ⟨b4, 7, none⟩))) (by exact ok_fieldAddr fl26_7 (kn (hK 1 rfl) rfl q1)) (fun v2 w2 hE2 => JBox.pure hJ hE2 rfl) hK'
 case z2_33 => intro S_ a' w' hE hJ hS hafter hpre hK hg K_ Q_ hK'; exact storeJ (l1 := [(29, 5, .string (str x11)), (31, 6, .string (str x12))]) (l2 := [(35, 8, .string (str x14))]) ty9 (ksv (j := 32) (hK 33 rfl) rfl rfl rfl) (ksv (j := 20) (hK 23 rfl) rfl rfl rfl) rfl rfl hJ (by simp) hS rfl (all_cons (hafter 35 (by kernel_rfl)) all_nil) rfl (by simp) (fun w2 h1 h2 h3 => hK' undef w2 h1 h3 rfl)
 case z2_34 => intro S_ a' w' hE hJ hS hafter hpre hK hg K_ Q_ hK'; exact okJ (φ := SP.isv (.pointer (some ⟨b4, 8, none⟩))) (by exact ok_fieldAddr fl26_8 (kn (hK 1 rfl) rfl q1)) (fun v2 w2 hE2 => JBox.pure hJ hE2 rfl) hK'
 case z2_35 => intro S_ a' w' hE hJ hS hafter hpre hK hg K_ Q_ hK'; exact storeJ (l1 := [(29, 5, .string (str x11)), (31, 6, .string (str x12)), (33, 7, .string (str x13))]) (l2 := []) ty9 (ksv (j := 34) (hK 34 rfl) rfl rfl rfl) (ksv (j := 27) (hK 30 rfl) rfl rfl rfl) rfl rfl hJ (by simp) hS rfl all_nil rfl (by simp) (fun w2 h1 h2 h3 => hK' undef w2 h1 h3 rfl)
 case zsk2 => exact fun i_ o_ S_ a_ w_ ho_ hg_ _ _ _ hJ => JBox.skip (by kernel_rfl) ho_ hg_ hJ
 case zst2 => exact (jstart f5)
 case zok2 => kernel_rfl
 case zgd2 => kernel_rfl
 intro a4 w4 hA' hE HF hJ
 replace q1 := kn (HF 1) rfl q1
 replace q2 := kn (HF 2) rfl q2
 clear hA HF; have hA := hA'; clear hA'
 have f15 : OwnB 1 (Fr w0) O8 w4 b4 #[.int .i64 x_0.Seq, .int .i64 x_0.Shop, .int .i64 x_0.Kind, .int .i64 x_0.Day, .int .i64 x_0.N, .string (str x11), .string (str x12), .string (str x13), .string (str x14)] 26 := hJ
 replace hB := Base.et hB hO hE (by rintro b_ rfl <;> first | exact hB.new _ f5.ge)
 replace f9 := OwnB.keep f9 (ET.keepO hE (by rintro b_ rfl <;> first | (rw [f5.tag]; decide)))
 clear f5
 clear hE hz hJ
 refine nx_then (wp_seq ?_)
 refine' regionT [SP.isv (.agg #[.int .i64 x_0.Seq, .int .i64 x_0.Shop, .int .i64 x_0.Kind, .int .i64 x_0.Day, .int .i64 x_0.N, .string (str x11), .string (str x12), .string (str x13), .string (str x14)])] hA (.cons ?z3_0 .nil) ?zok3 ?zgd3 ?zk3
 case z3_0 => intro a' w' hE hK hg; exact ok_loadOwnAgg ty26 rfl (kn (hK 1 rfl) rfl q1) (OwnB.ext f15 hE).own rfl
 case zok3 => kernel_rfl
 case zgd3 => kernel_rfl
 intro a5 w5 hA' hE HF
 replace q2 := kn (HF 2) rfl q2
 have q35 := ksv (HF 35) rfl rfl rfl
 clear q1
 clear hA HF; have hA := hA'; clear hA'
 replace f15 := f15.ext hE
 replace f9 := f9.ext hE
 replace hB := Base.step hB hE hO; clear hE
 refine l_storeSub (vs := [.int .i64 x_0.Seq, .int .i64 x_0.Shop, .int .i64 x_0.Kind, .int .i64 x_0.Day, .int .i64 x_0.N, .string (str x11), .string (str x12), .string (str x13), .string (str x14)]) (cs' := #[.int .i64 x_0.Seq, .int .i64 x_0.Shop, .int .i64 x_0.Kind, .int .i64 x_0.Day, .int .i64 x_0.N, .string (str x11), .string (str x12), .string (str x13), .string (str x14)]) hO hB (okB_fr hB) ty26 q2 q35 rfl (by simp [Value.oneCell']) f9 (by simp) rfl fun w6 f16 hB' hX => ?_
 clear hB f9; have hB := hB'; clear hB'
 clear hX
 refine li_nil (nx_then (wp_ret ?_))
 have h := Comp.run_pure h; subst h
 exact retG1 Try.results16 hA (.agg q2 ty26 rfl rfl f16.own) ⟨_, rfl, hB.ext, rfl⟩
theorem ok_colletlaw37_PassportForms {O : Tags} {w0 : World} (hO : OkO O w0) {v_0 : Value} {x_0 : colletlaw37_Case} (h_0 : r_colletlaw37_Case.v O w0 v_0 x_0) {x_1 : api_Entry} {x_2 : Bytes} {n : Nat} {y : Bool} (h : (colletlaw37_PassportForms x_0 x_1 x_2).run n = some y) : Pure Try.prog 3 #[v_0, .agg #[.int .i64 x_1.Seq, .int .i64 x_1.Shop, .int .i64 x_1.Kind, .int .i64 x_1.Day, .int .i64 x_1.N, .string (str x_1.Before), .string (str x_1.After), .string (str x_1.Prev), .string (str x_1.Mark)], .string (str x_2)] w0 (SP.isv (.bool y)).holds := by
 unfold colletlaw37_PassportForms at h
 refine pure_of_wp Try.func3 rfl 79 Try.ntmps3 (by simp) fun a0 hA hs0 => ?_
 have q0 : a0.get 0 = v_0 := hs0 0 _ rfl
 have q1 : a0.get 1 = .agg #[.int .i64 x_1.Seq, .int .i64 x_1.Shop, .int .i64 x_1.Kind, .int .i64 x_1.Day, .int .i64 x_1.N, .string (str x_1.Before), .string (str x_1.After), .string (str x_1.Prev), .string (str x_1.Mark)] := hs0 1 _ rfl
 have q2 : a0.get 2 = .string (str x_2) := hs0 2 _ rfl
 clear hs0
 have hB : Base (Fr w0) O w0 O w0 := Base.start hO
 refine wp_seq ?_
 refine' regionT [SP.vl (rBox r_colletlaw37_Case) O x_0] hA (.cons ?z1_0 .nil) ?zok1 ?zgd1 ?zk1
 case z1_0 => intro a' w' hE hK hg; exact okl_boxV (r := r_colletlaw37_Case) fit_colletlaw37_Case (OkO.ext hB.ok hE) (kn (hK 0 rfl) rfl q0) (GR.v_ext _ h_0 hE)
 case zok1 => kernel_rfl
 case zgd1 => kernel_rfl
 intro a1 w1 hA' hE HF
 replace q1 := kn (HF 1) rfl q1
 replace q2 := kn (HF 2) rfl q2
 have f2 := ksp (HF 3) rfl rfl rfl
 obtain ⟨u1, q3'⟩ : ∃ u, a1.get 3 = u := ⟨_, rfl⟩
 rw [q3'] at f2
 have q3 := q3'; clear q3'
 clear q0
 clear hA HF; have hA := hA'; clear hA'
 replace h_0 := GR.v_ext _ h_0 hE
 replace hB := Base.step hB hE hO; clear hE
 refine l_ok (φ := SP.box w1.heap.size #[.int .i64 x_1.Seq, .int .i64 x_1.Shop, .int .i64 x_1.Kind, .int .i64 x_1.Day, .int .i64 x_1.N, .string (str x_1.Before), .string (str x_1.After), .string (str x_1.Prev), .string (str x_1.Mark)] 26) hO hB (by exact ok_box (v := .agg #[.int .i64 x_1.Seq, .int .i64 x_1.Shop, .int .i64 x_1.Kind, .int .i64 x_1.Day, .int .i64 x_1.N, .string (str x_1.Before), .string (str x_1.After), .string (str x_1.Prev), .string (str x_1.Mark)]) (Nat.le_refl _) q1) rfl fun u3 w2 hE hB' f4 => ?_
 clear hB'; obtain ⟨O5, b7, hB', hX, e_, f6⟩ := boxNew hO hB hE f4 1 (by decide)
 subst e_; clear hB f4; have hB := hB'; clear hB'
 replace f2 := GR.kx _ f2 hX (by decide)
 clear hX hE
 refine put_cont hA (by decide) fun a3 hA' q_ hfr => ?_
 clear hA; have hA := hA'; clear hA'
 replace q1 := (hfr 1 rfl).trans q1
 replace q2 := (hfr 2 rfl).trans q2
 replace q3 := (hfr 3 rfl).trans q3
 have q4 := q_; clear q_ hfr
 refine l_ok (φ := SP.isv (.bool false)) hO hB (by exact ok_assign rfl) rfl fun u_ w4 hE hB' hv_ => ?_
 replace hv_ := Eq.symm hv_; subst hv_; clear hB; have hB := hB'; clear hB'
 replace f2 := GR.v_ext _ f2 hE
 replace f6 := f6.ext hE
 clear hE
 refine put_cont hA (by decide) fun a5 hA' q_ hfr => ?_
 clear hA; have hA := hA'; clear hA'
 replace q2 := (hfr 2 rfl).trans q2
 replace q3 := (hfr 3 rfl).trans q3
 replace q4 := (hfr 4 rfl).trans q4
 have q6 := q_; clear q_ hfr
 refine li_nil (nx_then (wp_seq ?_))
 obtain ⟨x8, hx8, h⟩ := Comp.run_bind h
 refine' region [SP.isv (.bool x8), _] mixed hA (.cons ?z2_0 (.cons ?z2_1 .nil)) ?zok2 ?zgd2 ?zk2
 case z2_0 => intro a' w' hE hK hg; have c_ := ok_colletlaw37_sanity (OkO.ext hB.ok hE)  hx8; exact ok_call0 fn14  c_
 case z2_1 => intro a' w' hE hK hg; exact ok_assign (ksv (j := 0) (hK 12 rfl) rfl rfl rfl)
 case zok2 => kernel_rfl
 case zgd2 => kernel_rfl
 intro a6 w6 hA' hE HF
 replace q2 := kn (HF 2) rfl q2
 replace q3 := kn (HF 3) rfl q3
 replace q4 := kn (HF 4) rfl q4
 have q7 := ksv (HF 7) rfl rfl rfl
 clear hA HF; have hA := hA'; clear hA'
 replace f2 := GR.v_ext _ f2 hE
 replace f6 := f6.ext hE
 replace hB := Base.step hB hE hO; clear hE
 refine li_nil (nx_then (wp_seq ?_))
 obtain ⟨x9, hx9, h⟩ := Comp.run_bind h
 refine' region [SP.vl r_colletlaw37_Case O5 x_0, SP.tup2 (SP.vl (rSl rStr) O5 x9.1) (SP.vl (rSl r_api_Entry) O5 x9.2), SP.tup2 (SP.vl (rSl rStr) O5 x9.1) (SP.vl (rSl r_api_Entry) O5 x9.2), SP.vl (rSl rStr) O5 x9.1, SP.vl (rSl r_api_Entry) O5 x9.2, SP.vl (rSl rStr) O5 x9.1, SP.vl (rSl r_api_Entry) O5 x9.2] mixed hA (.cons ?z3_0 (.cons ?z3_1 (.cons ?z3_2 (.cons ?z3_3 (.cons ?z3_4 (.cons ?z3_5 (.cons ?z3_6 .nil))))))) ?zok3 ?zgd3 ?zk3
 case z3_0 => intro a' w' hE hK hg; exact okl_ld (r := r_colletlaw37_Case) fit_colletlaw37_Case ty24 rfl rfl (kn (hK 3 rfl) rfl q3) (ptr_of_box fit_colletlaw37_Case (GR.v_ext _ f2 hE))
 case z3_1 => intro a' w' hE hK hg; have c_ := ok_colletlaw37_Case_made (OkO.ext hB.ok hE) (kspS (φ := SP.vl r_colletlaw37_Case O5 x_0) (j := 0) (hK 14 rfl) rfl rfl rfl) hx9; exact ok_weak (ok_call1 fn15 rfl c_) (fun _ _ _ ⟨a_, b_, e0_, h0_, h1_⟩ => ⟨a_, b_, e0_, (fun h => (OwnR.val h (fun g hg => (OkO.ext hB.ok hE) g (OwnR.ge h g hg).1))) h0_, h1_⟩)
 case z3_2 => intro a' w' hE hK hg; exact ok_move_pr (φ := SP.tup2 (SP.vl (rSl rStr) O5 x9.1) (SP.vl (rSl r_api_Entry) O5 x9.2)) (kspS (φ := SP.tup2 (SP.vl (rSl rStr) O5 x9.1) (SP.vl (rSl r_api_Entry) O5 x9.2)) (j := 1) (hK 15 rfl) rfl rfl rfl)
 case z3_3 => intro a' w' hE hK hg; exact okl_ext0 (kspS (φ := SP.tup2 (SP.vl (rSl rStr) O5 x9.1) (SP.vl (rSl r_api_Entry) O5 x9.2)) (j := 2) (hK 13 rfl) rfl rfl rfl)
 case z3_4 => intro a' w' hE hK hg; exact okl_ext1 (kspS (φ := SP.tup2 (SP.vl (rSl rStr) O5 x9.1) (SP.vl (rSl r_api_Entry) O5 x9.2)) (j := 2) (hK 13 rfl) rfl rfl rfl)
 case z3_5 => intro a' w' hE hK hg; exact ok_assign_pr (φ := SP.vl (rSl rStr) O5 x9.1) (kspS (φ := SP.vl (rSl rStr) O5 x9.1) (j := 3) (hK 16 rfl) rfl rfl rfl)
 case z3_6 => intro a' w' hE hK hg; exact ok_assign_pr (φ := SP.vl (rSl r_api_Entry) O5 x9.2) (kspS (φ := SP.vl (rSl r_api_Entry) O5 x9.2) (j := 4) (hK 17 rfl) rfl rfl rfl)
 case zok3 => kernel_rfl
 case zgd3 => kernel_rfl
 intro a7 w7 hA' hE HF
 replace q2 := kn (HF 2) rfl q2
 replace q4 := kn (HF 4) rfl q4
 replace q7 := kn (HF 7) rfl q7
 have f11 := ksp (HF 9) rfl rfl rfl
 obtain ⟨u10, q9'⟩ : ∃ u, a7.get 9 = u := ⟨_, rfl⟩
 rw [q9'] at f11
 have q9 := q9'; clear q9'
 clear q3
 clear hA HF; have hA := hA'; clear hA'
 replace f2 := GR.v_ext _ f2 hE
 replace f6 := f6.ext hE
 replace hB := Base.step hB hE hO; clear hE
 refine li_nil (nx_then (wp_seq ?_))
 obtain ⟨x12, hx12, h⟩ := Comp.run_bind h
 obtain ⟨x13, hx13, h⟩ := Comp.run_bind h
 refine' regionX (draw := true) (fun S_ a_ w_ => ∃ O_ : Tags, Base (Fr w0) O w0 O_ w_ ∧ Keep 0 O5 w7 O_ w_ ∧ (S_ 7 = false → OwnB 1 (Fr w0) O_ w_ b7 #[.int .i64 x_1.Seq, .int .i64 x_1.Shop, .int .i64 x_1.Kind, .int .i64 x_1.Day, .int .i64 x_1.N, .string (str x_1.Before), .string (str x_1.After), .string (str x_1.Prev), .string (str x_1.Mark)] 26) ∧ (S_ 7 = true → OwnB 1 (Fr w0) O_ w_ b7 #[.int .i64 x12.Seq, .int .i64 x12.Shop, .int .i64 x12.Kind, .int .i64 x12.Day, .int .i64 x12.N, .string (str x12.Before), .string (str x12.After), .string (str x12.Prev), .string (str x12.Mark)] 26)) [SP.isv (.agg #[.int .i64 x_1.Seq, .int .i64 x_1.Shop, .int .i64 x_1.Kind, .int .i64 x_1.Day, .int .i64 x_1.N, .string (str x_1.Before), .string (str x_1.After), .string (str x_1.Prev), .string (str x_1.Mark)]), SP.isv (.agg #[.int .i64 x12.Seq, .int .i64 x12.Shop, .int .i64 x12.Kind, .int .i64 x12.Day, .int .i64 x12.N, .string (str x12.Before), .string (str x12.After), .string (str x12.Prev), .string (str x12.Mark)]), SP.isv (.string (str x_2)), SP.isv (.string (str x_2)), SP.isv (.int .i64 (x_2.length : Int)), SP.isv (.int .i64 (min (x_2.length : Int) 40)), SP.isv (.string (str x13)), SP.tt, SP.isv (.string (str x13))] mixed hA (.cons (stE_isv _) (.cons (stE_isv _) (.cons (stE_isv _) (.cons (stE_isv _) (.cons (stE_isv _) (.cons (stE_isv _) (.cons (stE_isv _) (.cons (stE_tt _) (.cons (stE_isv _) .nil))))))))) (.cons ?z4_0 (.cons ?z4_1 (.cons ?z4_2 (.cons ?z4_3 (.cons ?z4_4 (.cons ?z4_5 (.cons ?z4_6 (.cons ?z4_7 (.cons ?z4_8 .nil))))))))) ?zsk4 ?zst4 ?zok4 ?zgd4 ?zk4
 case z4_0 =>
  intro S_ a' w' hA_ hJ_ hS_ hafter_ hbef_ hK hg K_ Q_ hK_
  obtain ⟨O_, hB_, k0_, v0_0_, v0_1_⟩ := hJ_
  refine x_ok (φ := SP.isv (.agg #[.int .i64 x_1.Seq, .int .i64 x_1.Shop, .int .i64 x_1.Kind, .int .i64 x_1.Day, .int .i64 x_1.N, .string (str x_1.Before), .string (str x_1.After), .string (str x_1.Prev), .string (str x_1.Mark)])) (by exact ok_loadOwnAgg ty26 rfl (kn (hK 4 rfl) rfl q4) (v0_0_ (hafter_ 7 (by kernel_rfl))).own rfl) fun v_ w2 hE hv_ => ?_
  have hB2_ := Base.step hB_ hE hO
  exact hK_ v_ w2 ⟨O_, hB2_, (k0_.trans (KX.keep (KX.ext hE) (by decide))), fun hq_ => OwnB.kx (v0_0_ (addS_no hq_)) (KX.ext hE) (by decide), fun hp_ => OwnB.kx (v0_1_ (addS_off rfl hp_)) (KX.ext hE) (by decide)⟩ hv_
 case z4_1 =>
  intro S_ a' w' hA_ hJ_ hS_ hafter_ hbef_ hK hg K_ Q_ hK_
  obtain ⟨O_, hB_, k0_, v0_0_, v0_1_⟩ := hJ_
  refine x_ok (φ := SP.isv (.agg #[.int .i64 x12.Seq, .int .i64 x12.Shop, .int .i64 x12.Kind, .int .i64 x12.Day, .int .i64 x12.N, .string (str x12.Before), .string (str x12.After), .string (str x12.Prev), .string (str x12.Mark)])) (by have c_ := ok_colletlaw37_short hB_.ok  hx12; exact ok_call1 fn16 (ksv (j := 0) (hK 18 rfl) rfl rfl rfl) c_) fun v_ w2 hE hv_ => ?_
  have hB2_ := Base.step hB_ hE hO
  exact hK_ v_ w2 ⟨O_, hB2_, (k0_.trans (KX.keep (KX.ext hE) (by decide))), fun hq_ => OwnB.kx (v0_0_ (addS_no hq_)) (KX.ext hE) (by decide), fun hp_ => OwnB.kx (v0_1_ (addS_off rfl hp_)) (KX.ext hE) (by decide)⟩ hv_
 case z4_2 =>
  intro S_ a' w' hA_ hJ_ hS_ hafter_ hbef_ hK hg K_ Q_ hK_
  obtain ⟨O_, hB_, k0_, v0_0_, v0_1_⟩ := hJ_
  refine x_ok (φ := SP.isv (.string (str x_2))) (by exact ok_move (kn (hK 2 rfl) rfl q2)) fun v_ w2 hE hv_ => ?_
  have hB2_ := Base.step hB_ hE hO
  exact hK_ v_ w2 ⟨O_, hB2_, (k0_.trans (KX.keep (KX.ext hE) (by decide))), fun hq_ => OwnB.kx (v0_0_ (addS_no hq_)) (KX.ext hE) (by decide), fun hp_ => OwnB.kx (v0_1_ (addS_off rfl hp_)) (KX.ext hE) (by decide)⟩ hv_
 case z4_3 =>
  intro S_ a' w' hA_ hJ_ hS_ hafter_ hbef_ hK hg K_ Q_ hK_
  obtain ⟨O_, hB_, k0_, v0_0_, v0_1_⟩ := hJ_
  refine x_ok (φ := SP.isv (.string (str x_2))) (by exact ok_move (kn (hK 2 rfl) rfl q2)) fun v_ w2 hE hv_ => ?_
  have hB2_ := Base.step hB_ hE hO
  exact hK_ v_ w2 ⟨O_, hB2_, (k0_.trans (KX.keep (KX.ext hE) (by decide))), fun hq_ => OwnB.kx (v0_0_ (addS_no hq_)) (KX.ext hE) (by decide), fun hp_ => OwnB.kx (v0_1_ (addS_off rfl hp_)) (KX.ext hE) (by decide)⟩ hv_
 case z4_4 =>
  intro S_ a' w' hA_ hJ_ hS_ hafter_ hbef_ hK hg K_ Q_ hK_
  obtain ⟨O_, hB_, k0_, v0_0_, v0_1_⟩ := hJ_
  refine x_ok (φ := SP.isv (.int .i64 (x_2.length : Int))) (by exact okl_lenS ty9 (ksv (j := 3) (hK 21 rfl) rfl rfl rfl)) fun v_ w2 hE hv_ => ?_
  have hB2_ := Base.step hB_ hE hO
  exact hK_ v_ w2 ⟨O_, hB2_, (k0_.trans (KX.keep (KX.ext hE) (by decide))), fun hq_ => OwnB.kx (v0_0_ (addS_no hq_)) (KX.ext hE) (by decide), fun hp_ => OwnB.kx (v0_1_ (addS_off rfl hp_)) (KX.ext hE) (by decide)⟩ hv_
 case z4_5 =>
  intro S_ a' w' hA_ hJ_ hS_ hafter_ hbef_ hK hg K_ Q_ hK_
  obtain ⟨O_, hB_, k0_, v0_0_, v0_1_⟩ := hJ_
  refine x_ok (φ := SP.isv (.int .i64 (min (x_2.length : Int) 40))) (by exact ok_min (ksv (j := 4) (hK 22 rfl) rfl rfl rfl) rfl) fun v_ w2 hE hv_ => ?_
  have hB2_ := Base.step hB_ hE hO
  exact hK_ v_ w2 ⟨O_, hB2_, (k0_.trans (KX.keep (KX.ext hE) (by decide))), fun hq_ => OwnB.kx (v0_0_ (addS_no hq_)) (KX.ext hE) (by decide), fun hp_ => OwnB.kx (v0_1_ (addS_off rfl hp_)) (KX.ext hE) (by decide)⟩ hv_
 case z4_6 =>
  intro S_ a' w' hA_ hJ_ hS_ hafter_ hbef_ hK hg K_ Q_ hK_
  obtain ⟨O_, hB_, k0_, v0_0_, v0_1_⟩ := hJ_
  refine x_ok (φ := SP.isv (.string (str x13))) (by exact okl_sliceS_h ty9 (ksv (j := 2) (hK 20 rfl) rfl rfl rfl) (ksv (j := 5) (hK 23 rfl) rfl rfl rfl) hx13) fun v_ w2 hE hv_ => ?_
  have hB2_ := Base.step hB_ hE hO
  exact hK_ v_ w2 ⟨O_, hB2_, (k0_.trans (KX.keep (KX.ext hE) (by decide))), fun hq_ => OwnB.kx (v0_0_ (addS_no hq_)) (KX.ext hE) (by decide), fun hp_ => OwnB.kx (v0_1_ (addS_off rfl hp_)) (KX.ext hE) (by decide)⟩ hv_
 case z4_7 =>
  intro S_ a' w' hA_ hJ_ hS_ hafter_ hbef_ hK hg K_ Q_ hK_
  obtain ⟨O_, hB_, k0_, v0_0_, v0_1_⟩ := hJ_
  refine x_storeSub (vs := [.int .i64 x12.Seq, .int .i64 x12.Shop, .int .i64 x12.Kind, .int .i64 x12.Day, .int .i64 x12.N, .string (str x12.Before), .string (str x12.After), .string (str x12.Prev), .string (str x12.Mark)]) (cs' := #[.int .i64 x12.Seq, .int .i64 x12.Shop, .int .i64 x12.Kind, .int .i64 x12.Day, .int .i64 x12.N, .string (str x12.Before), .string (str x12.After), .string (str x12.Prev), .string (str x12.Mark)]) hO hB_ (okB_fr hB_) ty26 (kn (hK 4 rfl) rfl q4) (ksv (j := 1) (hK 19 rfl) rfl rfl rfl) rfl (by simp [Value.oneCell']) (v0_0_ hS_) (by simp) rfl fun w2 f_ hB2_ hX_ => ?_
  exact hK_ undef w2 ⟨O_, hB2_, (k0_.trans (KX.keep hX_ (by decide))), fun hq_ => addS_me hq_, fun hp_ => f_⟩ trivial
 case z4_8 =>
  intro S_ a' w' hA_ hJ_ hS_ hafter_ hbef_ hK hg K_ Q_ hK_
  obtain ⟨O_, hB_, k0_, v0_0_, v0_1_⟩ := hJ_
  refine x_ok (φ := SP.isv (.string (str x13))) (by exact ok_assign (ksv (j := 6) (hK 24 rfl) rfl rfl rfl)) fun v_ w2 hE hv_ => ?_
  have hB2_ := Base.step hB_ hE hO
  exact hK_ v_ w2 ⟨O_, hB2_, (k0_.trans (KX.keep (KX.ext hE) (by decide))), fun hq_ => OwnB.kx (v0_0_ (addS_no hq_)) (KX.ext hE) (by decide), fun hp_ => OwnB.kx (v0_1_ (addS_off rfl hp_)) (KX.ext hE) (by decide)⟩ hv_
 case zsk4 =>
  intro i_ o_ S_ a_ w_ ho_ hact_ hA_ hS_ hbef_ hJ_
  obtain ⟨O_, hB_, k0_, v0_0_, v0_1_⟩ := hJ_
  exact ⟨O_, hB_, k0_, fun hq_ => (v0_0_ (addS_no hq_)), fun hp_ => by obtain ⟨h1_, h2_⟩ := skip_off (j := 7) hact_ rfl hp_; exact (v0_1_ h1_)⟩
 case zst4 => exact fun w1_ hE_ => ⟨O5, (Base.step hB hE_ hO), (Keep.ext hE_), fun _ => OwnB.ext f6 hE_, fun hp_ => no_ft hp_⟩
 case zok4 => kernel_rfl
 case zgd4 => kernel_rfl
 intro a8 w8 hA' HF hJ_
 obtain ⟨O14, hB_, k0_, v0_0_, v0_1_⟩ := hJ_
 have q2' := ksv (j := 8) (HF 2) rfl rfl rfl
 clear q2
 have q2 := q2'; clear q2'
 replace q4 := kn (HF 4) rfl q4
 replace q7 := kn (HF 7) rfl q7
 replace q9 := kn (HF 9) rfl q9
 clear hA HF; have hA := hA'; clear hA'
 replace f11 := GR.v_mono _ f11 k0_
 have f15 := (v0_1_ rfl)
 clear f6
 clear hB; have hB := hB_; clear hB_
 clear k0_ v0_0_ v0_1_
 refine nx_then ?_
 refine seq_join (fun a w => ∃ (O38 : Tags), a.fit 79 ∧ Base (Fr w0) O w0 O38 w ∧ a.get 4 = .pointer (some ⟨b7, 0, none⟩) ∧ a.get 7 = .bool x8 ∧ OwnB 1 (Fr w0) O38 w b7 #[.int .i64 x12.Seq, .int .i64 x12.Shop, .int .i64 x12.Kind, .int .i64 x12.Day, .int .i64 x12.N, .string (str x12.Before), .string (str x12.After), .string (str x12.Prev), .string (str x12.Mark)] 26 ∧ (colletlaw37_PassportForms_j1 x8 x12 ).run n = some y) ?_ ?_
 ·
  refine wp_seq ?_
  refine' region [_] mixed hA (.cons ?z5_0 .nil) ?zok5 ?zgd5 ?zk5
  case z5_0 => intro a' w' hE hK hg; exact ok_assign rfl
  case zok5 => kernel_rfl
  case zgd5 => kernel_rfl
  intro a9 w9 hA' hE HF
  replace q2 := kn (HF 2) rfl q2
  replace q4 := kn (HF 4) rfl q4
  replace q7 := kn (HF 7) rfl q7
  replace q9 := kn (HF 9) rfl q9
  have q10 := ksv (HF 10) rfl rfl rfl
  clear hA HF; have hA := hA'; clear hA'
  replace f11 := GR.v_ext _ f11 hE
  replace f15 := f15.ext hE
  replace hB := Base.step hB hE hO; clear hE
  refine li_nil (nx_then (wp_block ?_))
  obtain ⟨e2, he2, hk2⟩ := Comp.run_bind h; clear h
  refine loop_m (fun m a w => ∃ (O17 : Tags) (x16 : Int), a.fit 79 ∧ Base (Fr w0) O w0 O17 w ∧ a.get 2 = .string (str x13) ∧ a.get 4 = .pointer (some ⟨b7, 0, none⟩) ∧ a.get 7 = .bool x8 ∧ a.get 9 = u10 ∧ (rSl r_api_Entry).v O17 w u10 x9.2 ∧ a.get 10 = .int .i64 x16 ∧ OwnB 1 (Fr w0) O17 w b7 #[.int .i64 x12.Seq, .int .i64 x12.Shop, .int .i64 x12.Kind, .int .i64 x12.Day, .int .i64 x12.N, .string (str x12.Before), .string (str x12.After), .string (str x12.Prev), .string (str x12.Mark)] 26 ∧ Comp.loopN (fun s => colletlaw37_PassportForms_l2 x9 x13 x12 s) n m x16 = some e2) (m := n) ?st2 ?_
  case st2 =>
   exact ⟨_, _, hA, hB, q2, q4, q7, q9, f11, q10, f15, Comp.run_loop he2⟩
  intro m_ a10 w10 hI
  clear hA hB he2 q2 q4 q7 q9 q10 f11 f15
  obtain ⟨O17, x16, hA, hB, q2, q4, q7, q9, f11, q10, f15, hl⟩ := hI
  obtain ⟨m2, hlt2, st2, h, hnext2, hdone2⟩ := Comp.loopN_succ hl; clear hl
  replace h : (colletlaw37_PassportForms_l2 x9 x13 x12 x16).run n = some st2 := h
  unfold colletlaw37_PassportForms_l2 at h
  refine wp_seq (wp_seq ?_)
  refine' region [_, _, _, _] mixed hA (.cons ?z6_0 (.cons ?z6_1 (.cons ?z6_2 (.cons ?z6_3 .nil)))) ?zok6 ?zgd6 ?zk6
  case z6_0 => intro a' w' hE hK hg; exact ok_move (kn (hK 10 rfl) rfl q10)
  case z6_1 => intro a' w' hE hK hg; exact ok_move (kn (hK 9 rfl) rfl q9)
  case z6_2 => intro a' w' hE hK hg; exact okl_len (r := r_api_Entry) ty29 (ksv (j := 1) (hK 26 rfl) rfl rfl rfl) (rd_of (GR.v_ext _ f11 hE))
  case z6_3 => intro a' w' hE hK hg; exact ok_leq (ksv (j := 0) (hK 25 rfl) rfl rfl rfl) (ksv (j := 2) (hK 27 rfl) rfl rfl rfl)
  case zok6 => kernel_rfl
  case zgd6 => kernel_rfl
  intro a11 w11 hA' hE HF
  replace q2 := kn (HF 2) rfl q2
  replace q4 := kn (HF 4) rfl q4
  replace q7 := kn (HF 7) rfl q7
  replace q9 := kn (HF 9) rfl q9
  replace q10 := kn (HF 10) rfl q10
  have q28 := ksv (HF 28) rfl rfl rfl
  clear hA HF; have hA := hA'; clear hA'
  replace f11 := GR.v_ext _ f11 hE
  replace f15 := f15.ext hE
  replace hB := Base.step hB hE hO; clear hE
  refine li_nil (nx_then ?_)
  refine wp_cond_b q28 (fun hc => ?_) (fun hc => ?_)
  ·
   replace h := Comp.run_b_t hc h; clear hc
   refine wp_skip (nx_then (wp_seq (wp_block (wp_seq ?_))))
   refine' regionT [SP.isv (.agg #[.int .i64 x12.Seq, .int .i64 x12.Shop, .int .i64 x12.Kind, .int .i64 x12.Day, .int .i64 x12.N, .string (str x12.Before), .string (str x12.After), .string (str x12.Prev), .string (str x12.Mark)]), SP.box w11.heap.size #[.int .i64 ((api_Entry.mk 0 0 0 0 0 [] [] [] []).Seq), .int .i64 ((api_Entry.mk 0 0 0 0 0 [] [] [] []).Shop), .int .i64 ((api_Entry.mk 0 0 0 0 0 [] [] [] []).Kind), .int .i64 ((api_Entry.mk 0 0 0 0 0 [] [] [] []).Day), .int .i64 ((api_Entry.mk 0 0 0 0 0 [] [] [] []).N), .string (str ((api_Entry.mk 0 0 0 0 0 [] [] [] []).Before)), .string (str ((api_Entry.mk 0 0 0 0 0 [] [] [] []).After)), .string (str ((api_Entry.mk 0 0 0 0 0 [] [] [] []).Prev)), .string (str ((api_Entry.mk 0 0 0 0 0 [] [] [] []).Mark))] 26] hA (.cons ?z7_0 (.cons ?z7_1 .nil)) ?zok7 ?zgd7 ?zk7
   case z7_0 => intro a' w' hE hK hg; exact ok_loadOwnAgg ty26 rfl (kn (hK 4 rfl) rfl q4) (OwnB.ext f15 hE).own rfl
   case z7_1 => intro a' w' hE hK hg; exact ok_alloc hE.size ty26
   case zok7 => kernel_rfl
   case zgd7 => kernel_rfl
   intro a12 w12 hA' hE HF
   replace q2 := kn (HF 2) rfl q2
   replace q4 := kn (HF 4) rfl q4
   replace q7 := kn (HF 7) rfl q7
   replace q9 := kn (HF 9) rfl q9
   replace q10 := kn (HF 10) rfl q10
   have f19 := ksp (HF 11) rfl rfl rfl
   obtain ⟨u18, q11'⟩ : ∃ u, a12.get 11 = u := ⟨_, rfl⟩
   rw [q11'] at f19
   have q11 := q11'; clear q11'
   have q31 := ksv (HF 31) rfl rfl rfl
   clear q28
   clear hA HF; have hA := hA'; clear hA'
   obtain ⟨O20, b21, hB', hX, e_, f22⟩ := boxNew hO hB hE f19 2 (by decide)
   subst e_
   clear hB f19; have hB := hB'; clear hB'
   replace f11 := GR.kx _ f11 hX (by decide)
   replace f15 := f15.kx hX (by decide)
   clear hX hE
   refine l_storeSub (vs := [.int .i64 x12.Seq, .int .i64 x12.Shop, .int .i64 x12.Kind, .int .i64 x12.Day, .int .i64 x12.N, .string (str x12.Before), .string (str x12.After), .string (str x12.Prev), .string (str x12.Mark)]) (cs' := #[.int .i64 x12.Seq, .int .i64 x12.Shop, .int .i64 x12.Kind, .int .i64 x12.Day, .int .i64 x12.N, .string (str x12.Before), .string (str x12.After), .string (str x12.Prev), .string (str x12.Mark)]) hO hB (okB_fr hB) ty26 q11 q31 rfl (by simp [Value.oneCell']) f22 (by simp) rfl fun w13 f23 hB' hX => ?_
   clear hB f22; have hB := hB'; clear hB'
   replace f11 := GR.kx _ f11 hX (by decide)
   replace f15 := f15.kx hX (by decide)
   clear hX
   refine li_nil (nx_then ?_)
   refine seq_join (fun a w => ∃ (O27 : Tags) (x26 : api_Entry), a.fit 79 ∧ Base (Fr w0) O w0 O27 w ∧ a.get 2 = .string (str x13) ∧ a.get 4 = .pointer (some ⟨b7, 0, none⟩) ∧ a.get 7 = .bool x8 ∧ a.get 9 = u10 ∧ (rSl r_api_Entry).v O27 w u10 x9.2 ∧ a.get 10 = .int .i64 x16 ∧ a.get 11 = .pointer (some ⟨b21, 0, none⟩) ∧ OwnB 2 (Fr w0) O27 w b21 #[.int .i64 x26.Seq, .int .i64 x26.Shop, .int .i64 x26.Kind, .int .i64 x26.Day, .int .i64 x26.N, .string (str x26.Before), .string (str x26.After), .string (str x26.Prev), .string (str x26.Mark)] 26 ∧ OwnB 1 (Fr w0) O27 w b7 #[.int .i64 x12.Seq, .int .i64 x12.Shop, .int .i64 x12.Kind, .int .i64 x12.Day, .int .i64 x12.N, .string (str x12.Before), .string (str x12.After), .string (str x12.Prev), .string (str x12.Mark)] 26 ∧ (colletlaw37_PassportForms_j3 x13 x9 x16 x12 x26).run n = some st2) ?_ ?_
   ·
    refine wp_seq ?_
    refine' region [_, _, _, _] mixed hA (.cons ?z8_0 (.cons ?z8_1 (.cons ?z8_2 (.cons ?z8_3 .nil)))) ?zok8 ?zgd8 ?zk8
    case z8_0 => intro a' w' hE hK hg; exact ok_move (kn (hK 10 rfl) rfl q10)
    case z8_1 => intro a' w' hE hK hg; exact ok_move (kn (hK 9 rfl) rfl q9)
    case z8_2 => intro a' w' hE hK hg; exact okl_len (r := r_api_Entry) ty29 (ksv (j := 1) (hK 33 rfl) rfl rfl rfl) (rd_of (GR.v_ext _ f11 hE))
    case z8_3 => intro a' w' hE hK hg; exact ok_lss (ksv (j := 0) (hK 32 rfl) rfl rfl rfl) (ksv (j := 2) (hK 34 rfl) rfl rfl rfl)
    case zok8 => kernel_rfl
    case zgd8 => kernel_rfl
    intro a14 w14 hA' hE HF
    replace q2 := kn (HF 2) rfl q2
    replace q4 := kn (HF 4) rfl q4
    replace q7 := kn (HF 7) rfl q7
    replace q9 := kn (HF 9) rfl q9
    replace q10 := kn (HF 10) rfl q10
    replace q11 := kn (HF 11) rfl q11
    have q35 := ksv (HF 35) rfl rfl rfl
    clear hA HF; have hA := hA'; clear hA'
    replace f11 := GR.v_ext _ f11 hE
    replace f15 := f15.ext hE
    replace f23 := f23.ext hE
    replace hB := Base.step hB hE hO; clear hE
    refine li_nil (nx_then ?_)
    refine wp_cond_b q35 (fun hc => ?_) (fun hc => ?_)
    ·
     replace h := Comp.run_b_t hc h; clear hc
     obtain ⟨x24, hx24, h⟩ := Comp.run_bind h
     refine' regionT [_, _, SP.ptr r_api_Entry O20 x24, SP.isv (.agg #[.int .i64 x24.Seq, .int .i64 x24.Shop, .int .i64 x24.Kind, .int .i64 x24.Day, .int .i64 x24.N, .string (str x24.Before), .string (str x24.After), .string (str x24.Prev), .string (str x24.Mark)])] hA (.cons ?z9_0 (.cons ?z9_1 (.cons ?z9_2 (.cons ?z9_3 .nil)))) ?zok9 ?zgd9 ?zk9
     case z9_0 => intro a' w' hE hK hg; exact ok_move (kn (hK 9 rfl) rfl q9)
     case z9_1 => intro a' w' hE hK hg; exact ok_move (kn (hK 10 rfl) rfl q10)
     case z9_2 => intro a' w' hE hK hg; exact okl_idx (r := r_api_Entry) (O := O20) ty29 ty26 rfl (ksv (j := 0) (hK 36 rfl) rfl rfl rfl) (rd_of (GR.v_ext _ f11 hE)) (ksv (j := 1) (hK 37 rfl) rfl rfl rfl) hx24
     case z9_3 => intro a' w' hE hK hg; exact okl_ldr r_api_Entry fit_api_Entry ty26 rfl rfl rfl (kspS (φ := SP.ptr r_api_Entry O20 x24) (j := 2) (hK 38 rfl) rfl rfl rfl) (fun _ _ _ h => rC_v.1 h)
     case zok9 => kernel_rfl
     case zgd9 => kernel_rfl
     intro a15 w15 hA' hE HF
     replace q2 := kn (HF 2) rfl q2
     replace q4 := kn (HF 4) rfl q4
     replace q7 := kn (HF 7) rfl q7
     replace q9 := kn (HF 9) rfl q9
     replace q10 := kn (HF 10) rfl q10
     replace q11 := kn (HF 11) rfl q11
     have q39 := ksv (HF 39) rfl rfl rfl
     clear q35
     clear hA HF; have hA := hA'; clear hA'
     replace f11 := GR.v_ext _ f11 hE
     replace f15 := f15.ext hE
     replace f23 := f23.ext hE
     replace hB := Base.step hB hE hO; clear hE
     refine l_storeSub (vs := [.int .i64 x24.Seq, .int .i64 x24.Shop, .int .i64 x24.Kind, .int .i64 x24.Day, .int .i64 x24.N, .string (str x24.Before), .string (str x24.After), .string (str x24.Prev), .string (str x24.Mark)]) (cs' := #[.int .i64 x24.Seq, .int .i64 x24.Shop, .int .i64 x24.Kind, .int .i64 x24.Day, .int .i64 x24.N, .string (str x24.Before), .string (str x24.After), .string (str x24.Prev), .string (str x24.Mark)]) hO hB (okB_fr hB) ty26 q11 q39 rfl (by simp [Value.oneCell']) f23 (by simp) rfl fun w16 f25 hB' hX => ?_
     clear hB f23; have hB := hB'; clear hB'
     replace f11 := GR.kx _ f11 hX (by decide)
     replace f15 := f15.kx hX (by decide)
     clear hX
     refine li_nil (nx_then ?_)
     exact ⟨_, _, hA, hB, q2, q4, q7, q9, f11, q10, q11, f25, f15, h⟩
    ·
     replace h := Comp.run_b_f hc h; clear hc
     refine wp_skip (nx_then ?_)
     exact ⟨_, _, hA, hB, q2, q4, q7, q9, f11, q10, q11, f23, f15, h⟩
   intro a17 w17 hI
   clear hA hB h q2 q4 q7 q9 q10 q11 f11 f15 f23
   obtain ⟨O27, x26, hA, hB, q2, q4, q7, q9, f11, q10, q11, f25, f15, h⟩ := hI
   unfold colletlaw37_PassportForms_j3 at h
   refine wp_seq ?_
   obtain ⟨x28, hx28, h⟩ := Comp.run_bind h
   obtain ⟨x29, hx29, h⟩ := Comp.run_bind h
   obtain ⟨x30, hx30, h⟩ := Comp.run_bind h
   obtain ⟨x31, hx31, h⟩ := Comp.run_bind h
   obtain ⟨x32, hx32, h⟩ := Comp.run_bind h
   obtain ⟨x33, hx33, h⟩ := Comp.run_bind h
   obtain ⟨x34, hx34, h⟩ := Comp.run_bind h
   obtain ⟨x35, hx35, h⟩ := Comp.run_bind h
   refine' region [SP.isv (.agg #[.int .i64 x26.Seq, .int .i64 x26.Shop, .int .i64 x26.Kind, .int .i64 x26.Day, .int .i64 x26.N, .string (str x26.Before), .string (str x26.After), .string (str x26.Prev), .string (str x26.Mark)]), SP.isv (.string (str x28)), SP.isv (.agg #[.int .i64 x26.Seq, .int .i64 x26.Shop, .int .i64 x26.Kind, .int .i64 x26.Day, .int .i64 x26.N, .string (str x26.Before), .string (str x26.After), .string (str x26.Prev), .string (str x26.Mark)]), SP.isv (.string (str x29)), _, _, _, SP.isv (.agg #[.int .i64 x26.Seq, .int .i64 x26.Shop, .int .i64 x26.Kind, .int .i64 x26.Day, .int .i64 x26.N, .string (str x26.Before), .string (str x26.After), .string (str x26.Prev), .string (str x26.Mark)]), SP.isv (.agg #[.int .i64 x30.Seq, .int .i64 x30.Shop, .int .i64 x30.Kind, .int .i64 x30.Day, .int .i64 x30.N, .string (str x30.Before), .string (str x30.After), .string (str x30.Prev), .string (str x30.Mark)]), _, SP.isv (.agg #[.int .i64 x26.Seq, .int .i64 x26.Shop, .int .i64 x26.Kind, .int .i64 x26.Day, .int .i64 x26.N, .string (str x26.Before), .string (str x26.After), .string (str x26.Prev), .string (str x26.Mark)]), SP.isv (.agg #[.int .i64 x31.Seq, .int .i64 x31.Shop, .int .i64 x31.Kind, .int .i64 x31.Day, .int .i64 x31.N, .string (str x31.Before), .string (str x31.After), .string (str x31.Prev), .string (str x31.Mark)]), _, _, _, _, _, SP.vl (rSl r_api_Entry) O27 x32, SP.isv (.agg #[.int .i64 x12.Seq, .int .i64 x12.Shop, .int .i64 x12.Kind, .int .i64 x12.Day, .int .i64 x12.N, .string (str x12.Before), .string (str x12.After), .string (str x12.Prev), .string (str x12.Mark)]), SP.isv (.agg #[.int .i64 x33.Seq, .int .i64 x33.Shop, .int .i64 x33.Kind, .int .i64 x33.Day, .int .i64 x33.N, .string (str x33.Before), .string (str x33.After), .string (str x33.Prev), .string (str x33.Mark)]), _, _, SP.vl (rSl r_api_Entry) O27 x34, SP.isv (.agg #[.int .i64 x12.Seq, .int .i64 x12.Shop, .int .i64 x12.Kind, .int .i64 x12.Day, .int .i64 x12.N, .string (str x12.Before), .string (str x12.After), .string (str x12.Prev), .string (str x12.Mark)]), SP.isv (.agg #[.int .i64 x35.Seq, .int .i64 x35.Shop, .int .i64 x35.Kind, .int .i64 x35.Day, .int .i64 x35.N, .string (str x35.Before), .string (str x35.After), .string (str x35.Prev), .string (str x35.Mark)]), _, _] mixed hA (.cons ?z10_0 (.cons ?z10_1 (.cons ?z10_2 (.cons ?z10_3 (.cons ?z10_4 (.cons ?z10_5 (.cons ?z10_6 (.cons ?z10_7 (.cons ?z10_8 (.cons ?z10_9 (.cons ?z10_10 (.cons ?z10_11 (.cons ?z10_12 (.cons ?z10_13 (.cons ?z10_14 (.cons ?z10_15 (.cons ?z10_16 (.cons ?z10_17 (.cons ?z10_18 (.cons ?z10_19 (.cons ?z10_20 (.cons ?z10_21 (.cons ?z10_22 (.cons ?z10_23 (.cons ?z10_24 (.cons ?z10_25 (.cons ?z10_26 .nil))))))))))))))))))))))))))) ?zok10 ?zgd10 ?zk10
   case z10_0 => intro a' w' hE hK hg; exact ok_loadOwnAgg ty26 rfl (kn (hK 11 rfl) rfl q11) (OwnB.ext f25 hE).own rfl
   case z10_1 => intro a' w' hE hK hg; have c_ := ok_passport_Bytes (OkO.ext hB.ok hE)  hx28; exact ok_call1 fn17 (ksv (j := 0) (hK 40 rfl) rfl rfl rfl) c_
   case z10_2 => intro a' w' hE hK hg; exact ok_loadOwnAgg ty26 rfl (kn (hK 11 rfl) rfl q11) (OwnB.ext f25 hE).own rfl
   case z10_3 => intro a' w' hE hK hg; have c_ := ok_colletref37_Bytes (OkO.ext hB.ok hE)  hx29; exact ok_call1 fn18 (ksv (j := 2) (hK 42 rfl) rfl rfl rfl) c_
   case z10_4 => intro a' w' hE hK hg; exact okl_neqS (ksv (j := 1) (hK 41 rfl) rfl rfl rfl) (ksv (j := 3) (hK 43 rfl) rfl rfl rfl)
   case z10_5 => intro a' w' hE hK hg; exact ok_move (ksv (j := 4) (hK 44 rfl) rfl rfl rfl)
   case z10_6 => intro a' w' hE hK hg; exact ok_move (kn (hK 2 rfl) rfl q2)
   case z10_7 => intro a' w' hE hK hg; exact ok_loadOwnAgg ty26 rfl (kn (hK 11 rfl) rfl q11) (OwnB.ext f25 hE).own rfl
   case z10_8 => intro a' w' hE hK hg; have c_ := ok_passport_Sign (OkO.ext hB.ok hE)  (run_gdb hx30 hg); exact ok_call2 fn19 (ksv (j := 6) (hK 46 rfl) rfl rfl hg) (ksv (j := 7) (hK 47 rfl) rfl rfl hg) c_
   case z10_9 => intro a' w' hE hK hg; exact ok_move (kn (hK 2 rfl) rfl q2)
   case z10_10 => intro a' w' hE hK hg; exact ok_loadOwnAgg ty26 rfl (kn (hK 11 rfl) rfl q11) (OwnB.ext f25 hE).own rfl
   case z10_11 => intro a' w' hE hK hg; have c_ := ok_colletref37_Sign (OkO.ext hB.ok hE)  (run_gdb hx31 hg); exact ok_call2 fn20 (ksv (j := 9) (hK 49 rfl) rfl rfl hg) (ksv (j := 10) (hK 50 rfl) rfl rfl hg) c_
   case z10_12 => intro a' w' hE hK hg; exact okl_neqR (O1 := O27) (O2 := O27) (w1 := w17) (w2 := w17) eq_api_Entry rfl (by decide) (by kernel_rfl) (ksv (j := 8) (hK 48 rfl) rfl rfl hg) (ksv (j := 11) (hK 51 rfl) rfl rfl hg) (rC_v.2 rfl) (rC_v.2 rfl)
   case z10_13 => intro a' w' hE hK hg; exact ok_pick (ksv (j := 5) (hK 45 rfl) rfl rfl rfl) (fun _ => rfl) (fun hb => ksv (j := 12) (hK 52 rfl) rfl rfl (act_g1 rfl rfl hb))
   case z10_14 => intro a' w' hE hK hg; exact ok_move (ksv (j := 13) (hK 53 rfl) rfl rfl rfl)
   case z10_15 => intro a' w' hE hK hg; exact ok_move (kn (hK 9 rfl) rfl q9)
   case z10_16 => intro a' w' hE hK hg; exact ok_move (kn (hK 10 rfl) rfl q10)
   case z10_17 => intro a' w' hE hK hg; exact okl_slice_h (r := r_api_Entry) ty29 ty26 rfl (ksv (j := 15) (hK 55 rfl) rfl rfl hg) (GR.v_ext _ f11 hE) (ksv (j := 16) (hK 56 rfl) rfl rfl hg) (run_gdb hx32 hg)
   case z10_18 => intro a' w' hE hK hg; exact ok_loadOwnAgg ty26 rfl (kn (hK 4 rfl) rfl q4) (OwnB.ext f15 hE).own rfl
   case z10_19 => intro a' w' hE hK hg; have c_ := ok_passport_Next (OkO.ext hB.ok hE) (kspS (φ := SP.vl (rSl r_api_Entry) O27 x32) (j := 17) (hK 57 rfl) rfl rfl hg) (run_gdb hx33 hg); exact ok_call2 fn21 rfl (ksv (j := 18) (hK 58 rfl) rfl rfl hg) c_
   case z10_20 => intro a' w' hE hK hg; exact ok_move (kn (hK 9 rfl) rfl q9)
   case z10_21 => intro a' w' hE hK hg; exact ok_move (kn (hK 10 rfl) rfl q10)
   case z10_22 => intro a' w' hE hK hg; exact okl_slice_h (r := r_api_Entry) ty29 ty26 rfl (ksv (j := 20) (hK 60 rfl) rfl rfl hg) (GR.v_ext _ f11 hE) (ksv (j := 21) (hK 61 rfl) rfl rfl hg) (run_gdb hx34 hg)
   case z10_23 => intro a' w' hE hK hg; exact ok_loadOwnAgg ty26 rfl (kn (hK 4 rfl) rfl q4) (OwnB.ext f15 hE).own rfl
   case z10_24 => intro a' w' hE hK hg; have c_ := ok_colletref37_Next (OkO.ext hB.ok hE) (kspS (φ := SP.vl (rSl r_api_Entry) O27 x34) (j := 22) (hK 62 rfl) rfl rfl hg) (run_gdb hx35 hg); exact ok_call2 fn22 rfl (ksv (j := 23) (hK 63 rfl) rfl rfl hg) c_
   case z10_25 => intro a' w' hE hK hg; exact okl_neqR (O1 := O27) (O2 := O27) (w1 := w17) (w2 := w17) eq_api_Entry rfl (by decide) (by kernel_rfl) (ksv (j := 19) (hK 59 rfl) rfl rfl hg) (ksv (j := 24) (hK 64 rfl) rfl rfl hg) (rC_v.2 rfl) (rC_v.2 rfl)
   case z10_26 => intro a' w' hE hK hg; exact ok_pick (ksv (j := 14) (hK 54 rfl) rfl rfl rfl) (fun _ => rfl) (fun hb => ksv (j := 25) (hK 65 rfl) rfl rfl (act_g1 rfl rfl hb))
   case zok10 => kernel_rfl
   case zgd10 => kernel_rfl
   intro a18 w18 hA' hE HF
   replace q2 := kn (HF 2) rfl q2
   replace q4 := kn (HF 4) rfl q4
   replace q7 := kn (HF 7) rfl q7
   replace q9 := kn (HF 9) rfl q9
   replace q10 := kn (HF 10) rfl q10
   have q66 := ksv (HF 66) rfl rfl rfl
   clear q11
   clear hA HF; have hA := hA'; clear hA'
   replace f11 := GR.v_ext _ f11 hE
   replace f15 := f15.ext hE
   replace f25 := f25.ext hE
   replace hB := Base.step hB hE hO; clear hE
   obtain ⟨x36, hx_, h⟩ := Comp.run_bind h; replace hx_ := Comp.run_pure hx_; rw [hx_] at q66; clear hx_
   refine li_nil (nx_then ?_)
   refine wp_cond_b q66 (fun hc => ?_) (fun hc => ?_)
   ·
    replace h := Comp.run_b_t hc h; clear hc
    refine wp_seq ?_
    refine' region [_] mixed hA (.cons ?z11_0 .nil) ?zok11 ?zgd11 ?zk11
    case z11_0 => intro a' w' hE hK hg; exact ok_assign rfl
    case zok11 => kernel_rfl
    case zgd11 => kernel_rfl
    intro a19 w19 hA' hE HF
    have q6 := ksv (HF 6) rfl rfl rfl
    clear q2
    clear q4
    clear q7
    clear q9
    clear q10
    clear q66
    clear hA HF; have hA := hA'; clear hA'
    replace f11 := GR.v_ext _ f11 hE
    replace f15 := f15.ext hE
    replace hB := Base.step hB hE hO; clear hE
    refine li_nil (nx_then (wp_ret (rt_blk (rt_then (rt_then (rt_blk (rt_then ?_)))))))
    have hd_ := hdone2 _ (Comp.run_pure h).symm; clear h
    subst hd_; have h := hk2; clear hk2; try dsimp only at h
    have h := Comp.run_pure h; subst h
    exact retPure Try.results3 hA q6 hB.ext rfl
   ·
    replace h := Comp.run_b_f hc h; clear hc
    refine wp_skip (nx_blk (nx_then ?_))
    refine' region [_, _, _] mixed hA (.cons ?z12_0 (.cons ?z12_1 (.cons ?z12_2 .nil))) ?zok12 ?zgd12 ?zk12
    case z12_0 => intro a' w' hE hK hg; exact ok_move (kn (hK 10 rfl) rfl q10)
    case z12_1 => intro a' w' hE hK hg; exact ok_add (ksv (j := 0) (hK 29 rfl) rfl rfl rfl) rfl
    case z12_2 => intro a' w' hE hK hg; exact ok_assign (ksv (j := 1) (hK 30 rfl) rfl rfl rfl)
    case zok12 => kernel_rfl
    case zgd12 => kernel_rfl
    intro a20 w20 hA' hE HF
    replace q2 := kn (HF 2) rfl q2
    replace q4 := kn (HF 4) rfl q4
    replace q7 := kn (HF 7) rfl q7
    replace q9 := kn (HF 9) rfl q9
    have q10' := ksv (HF 10) rfl rfl rfl
    replace q10 := q10'; clear q10'
    clear q66
    clear hA HF; have hA := hA'; clear hA'
    replace f11 := GR.v_ext _ f11 hE
    replace f15 := f15.ext hE
    replace hB := Base.step hB hE hO; clear hE
    refine li_nil (nx_then ?_)
    have h := hnext2 _ (Comp.run_pure h).symm
    refine ⟨m2, hlt2, ?_⟩
    exact ⟨_, _, hA, hB, q2, q4, q7, q9, f11, q10, f15, h⟩
  ·
   replace h := Comp.run_b_f hc h; clear hc
   refine wp_exit (ex_then (ex_then (ex_same ?_)))
   have hd_ := hdone2 _ (Comp.run_pure h).symm; clear h
   subst hd_; have h := hk2; clear hk2; try dsimp only at h
   refine nx_then ?_
   exact ⟨_, hA, hB, q4, q7, f15, h⟩
 intro a21 w21 hI
 clear hA hB h q2 q4 q7 q9 f11 f15
 obtain ⟨O38, hA, hB, q4, q7, f15, h⟩ := hI
 unfold colletlaw37_PassportForms_j1 at h
 refine wp_seq ?_
 obtain ⟨x39, hx39, h⟩ := Comp.run_bind h
 obtain ⟨x40, hx40, h⟩ := Comp.run_bind h
 refine' region [_, _, SP.isv (.agg #[.int .i64 x12.Seq, .int .i64 x12.Shop, .int .i64 x12.Kind, .int .i64 x12.Day, .int .i64 x12.N, .string (str x12.Before), .string (str x12.After), .string (str x12.Prev), .string (str x12.Mark)]), SP.vl (rSl r_api_Entry) O38 [x12], SP.isv (.agg #[.int .i64 x12.Seq, .int .i64 x12.Shop, .int .i64 x12.Kind, .int .i64 x12.Day, .int .i64 x12.N, .string (str x12.Before), .string (str x12.After), .string (str x12.Prev), .string (str x12.Mark)]), SP.isv (.agg #[.int .i64 x39.Seq, .int .i64 x39.Shop, .int .i64 x39.Kind, .int .i64 x39.Day, .int .i64 x39.N, .string (str x39.Before), .string (str x39.After), .string (str x39.Prev), .string (str x39.Mark)]), SP.isv (.agg #[.int .i64 x12.Seq, .int .i64 x12.Shop, .int .i64 x12.Kind, .int .i64 x12.Day, .int .i64 x12.N, .string (str x12.Before), .string (str x12.After), .string (str x12.Prev), .string (str x12.Mark)]), SP.vl (rSl r_api_Entry) O38 [x12], SP.isv (.agg #[.int .i64 x12.Seq, .int .i64 x12.Shop, .int .i64 x12.Kind, .int .i64 x12.Day, .int .i64 x12.N, .string (str x12.Before), .string (str x12.After), .string (str x12.Prev), .string (str x12.Mark)]), SP.isv (.agg #[.int .i64 x40.Seq, .int .i64 x40.Shop, .int .i64 x40.Kind, .int .i64 x40.Day, .int .i64 x40.N, .string (str x40.Before), .string (str x40.After), .string (str x40.Prev), .string (str x40.Mark)]), _, _, _] mixed hA (.cons ?z13_0 (.cons ?z13_1 (.cons ?z13_2 (.cons ?z13_3 (.cons ?z13_4 (.cons ?z13_5 (.cons ?z13_6 (.cons ?z13_7 (.cons ?z13_8 (.cons ?z13_9 (.cons ?z13_10 (.cons ?z13_11 (.cons ?z13_12 .nil))))))))))))) ?zok13 ?zgd13 ?zk13
 case z13_0 => intro a' w' hE hK hg; exact ok_move (kn (hK 7 rfl) rfl q7)
 case z13_1 => intro a' w' hE hK hg; exact ok_move (ksv (j := 0) (hK 67 rfl) rfl rfl rfl)
 case z13_2 => intro a' w' hE hK hg; exact ok_loadOwnAgg ty26 rfl (kn (hK 4 rfl) rfl q4) (OwnB.ext f15 hE).own rfl
 case z13_3 => intro a' w' hE hK hg; exact okl_buildSliceV (r := r_api_Entry) fit_api_Entry rfl (OkO.ext hB.ok hE) ty29 ty26 (parts_cons (ksv (j := 2) (hK 69 rfl) rfl rfl hg) parts_nil) ⟨(by first | exact rInt_v.2 rfl | exact rBool_v.2 rfl | exact rStr_v.2 rfl | exact rC_v.2 rfl | exact ⟨_, rfl, rfl⟩), trivial⟩ rfl (by decide)
 case z13_4 => intro a' w' hE hK hg; exact ok_loadOwnAgg ty26 rfl (kn (hK 4 rfl) rfl q4) (OwnB.ext f15 hE).own rfl
 case z13_5 => intro a' w' hE hK hg; have c_ := ok_passport_Next (OkO.ext hB.ok hE) (kspS (φ := SP.vl (rSl r_api_Entry) O38 [x12]) (j := 3) (hK 70 rfl) rfl rfl hg) (run_gdb hx39 hg); exact ok_call2 fn21 rfl (ksv (j := 4) (hK 71 rfl) rfl rfl hg) c_
 case z13_6 => intro a' w' hE hK hg; exact ok_loadOwnAgg ty26 rfl (kn (hK 4 rfl) rfl q4) (OwnB.ext f15 hE).own rfl
 case z13_7 => intro a' w' hE hK hg; exact okl_buildSliceV (r := r_api_Entry) fit_api_Entry rfl (OkO.ext hB.ok hE) ty29 ty26 (parts_cons (ksv (j := 6) (hK 73 rfl) rfl rfl hg) parts_nil) ⟨(by first | exact rInt_v.2 rfl | exact rBool_v.2 rfl | exact rStr_v.2 rfl | exact rC_v.2 rfl | exact ⟨_, rfl, rfl⟩), trivial⟩ rfl (by decide)
 case z13_8 => intro a' w' hE hK hg; exact ok_loadOwnAgg ty26 rfl (kn (hK 4 rfl) rfl q4) (OwnB.ext f15 hE).own rfl
 case z13_9 => intro a' w' hE hK hg; have c_ := ok_colletref37_Next (OkO.ext hB.ok hE) (kspS (φ := SP.vl (rSl r_api_Entry) O38 [x12]) (j := 7) (hK 74 rfl) rfl rfl hg) (run_gdb hx40 hg); exact ok_call2 fn22 rfl (ksv (j := 8) (hK 75 rfl) rfl rfl hg) c_
 case z13_10 => intro a' w' hE hK hg; exact okl_eqlR (O1 := O38) (O2 := O38) (w1 := w21) (w2 := w21) eq_api_Entry rfl (by decide) (by kernel_rfl) (ksv (j := 5) (hK 72 rfl) rfl rfl hg) (ksv (j := 9) (hK 76 rfl) rfl rfl hg) (rC_v.2 rfl) (rC_v.2 rfl)
 case z13_11 => intro a' w' hE hK hg; exact ok_pick (ksv (j := 1) (hK 68 rfl) rfl rfl rfl) (fun hb => ksv (j := 10) (hK 77 rfl) rfl rfl (act_g1 rfl rfl hb)) (fun _ => rfl)
 case z13_12 => intro a' w' hE hK hg; exact ok_assign (ksv (j := 11) (hK 78 rfl) rfl rfl rfl)
 case zok13 => kernel_rfl
 case zgd13 => kernel_rfl
 intro a22 w22 hA' hE HF
 have q6 := ksv (HF 6) rfl rfl rfl
 clear q4
 clear q7
 clear hA HF; have hA := hA'; clear hA'
 replace f15 := f15.ext hE
 replace hB := Base.step hB hE hO; clear hE
 obtain ⟨x41, hx_, h⟩ := Comp.run_bind h; replace hx_ := Comp.run_pure hx_; rw [hx_] at q6; clear hx_
 refine li_nil (nx_then (wp_ret ?_))
 have h := Comp.run_pure h; subst h
 exact retPure Try.results3 hA q6 hB.ext rfl
end Go.Proofs.Ytkbipbfncbopnaa
end
section
namespace Go.Dig
open Go Go.RowKit Go.Eng
def stepX (x : Nat) (c : UInt8) : Nat := (48271 * x + c.toNat + 1) % 2147483629
def stepY (y : Nat) (c : UInt8) : Nat := (69621 * y + c.toNat + 1) % 2147483587
def dx (l : List UInt8) : Nat := l.foldl stepX 17
def dy (l : List UInt8) : Nat := l.foldl stepY 29
def be4 (n : Nat) : List UInt8 := [UInt8.ofNat (n / 16777216), UInt8.ofNat (n / 65536), UInt8.ofNat (n / 256), UInt8.ofNat n]
def le4 (n : Nat) : List UInt8 := [UInt8.ofNat n, UInt8.ofNat (n / 256), UInt8.ofNat (n / 65536), UInt8.ofNat (n / 16777216)]
def D (l : List UInt8) : List UInt8 := be4 (dx l) ++ be4 (dy l)
def str (l : List UInt8) : ByteArray := ⟨l.toArray⟩
abbrev bs (s : ByteArray) : List UInt8 := s.data.toList
theorem str_bs (s : ByteArray) : str (bs s) = s := by cases s; rfl
theorem bs_str (l : List UInt8) : bs (str l) = l := rfl
theorem bs_length (s : ByteArray) : (bs s).length = s.size := Array.length_toList
theorem bs_append (s t : ByteArray) : bs (s ++ t) = bs s ++ bs t := by
  show (s ++ t).data.toList = s.data.toList ++ t.data.toList
  rw [ByteArray.data_append, Array.toList_append]
theorem bs_inj {s t : ByteArray} (h : bs s = bs t) : s = t := by rw [← str_bs s, h, str_bs]
theorem str_append (l m : List UInt8) : str l ++ str m = str (l ++ m) := by apply bs_inj; rw [bs_append, bs_str, bs_str, bs_str]
theorem str_size (l : List UInt8) : (str l).size = l.length := by rw [← bs_length, bs_str]
theorem D_length (l : List UInt8) : (D l).length = 8 := rfl
theorem stepX_lt (x : Nat) (c : UInt8) : stepX x c < 2147483629 := Nat.mod_lt _ (by decide)
theorem stepY_lt (x : Nat) (c : UInt8) : stepY x c < 2147483587 := Nat.mod_lt _ (by decide)
theorem foldX_lt : ∀ (l : List UInt8) (x : Nat), x < 2147483629 → l.foldl stepX x < 2147483629
  | [], _, h => h
  | c :: l, x, _ => foldX_lt l _ (stepX_lt x c)
theorem foldY_lt : ∀ (l : List UInt8) (x : Nat), x < 2147483587 → l.foldl stepY x < 2147483587
  | [], _, h => h
  | c :: l, x, _ => foldY_lt l _ (stepY_lt x c)
theorem dx_lt (l : List UInt8) : dx l < 2147483629 := foldX_lt l 17 (by decide)
theorem dy_lt (l : List UInt8) : dy l < 2147483587 := foldY_lt l 29 (by decide)
theorem dx_snoc (l : List UInt8) (c : UInt8) : dx (l ++ [c]) = (48271 * dx l + c.toNat + 1) % 2147483629 := by
  simp [dx, stepX]
theorem dy_snoc (l : List UInt8) (c : UInt8) : dy (l ++ [c]) = (69621 * dy l + c.toNat + 1) % 2147483587 := by
  simp [dy, stepY]
theorem dxi (l : List UInt8) (c : UInt8) : (48271 * (dx l : Int) + (c.toNat : Int) + 1) % 2147483629 = ((dx (l ++ [c]) : Nat) : Int) := by
  rw [dx_snoc]; omega
theorem dyi (l : List UInt8) (c : UInt8) : (69621 * (dy l : Int) + (c.toNat : Int) + 1) % 2147483587 = ((dy (l ++ [c]) : Nat) : Int) := by
  rw [dy_snoc]; omega
theorem ofNat_i (m : Nat) : ((UInt8.ofNat m).toNat : Int) = (m : Int) % 256 := by
  rw [UInt8.toNat_ofNat']; simp
theorem shr_i (n : Nat) (j : Nat) : (n : Int).fdiv (2 ^ j) = ((n / 2 ^ j : Nat) : Int) := by
  rw [Int.fdiv_eq_ediv_of_nonneg _ (by exact_mod_cast Nat.zero_le _)]; norm_cast
inductive Strs : List Value → List ByteArray → Prop
  | nil : Strs [] []
  | cons (s : ByteArray) {xs ss} (h : Strs xs ss) : Strs (.string s :: xs) (s :: ss)
theorem Strs.map {xs : List Value} {ss : List ByteArray} (h : Strs xs ss) : xs = ss.map .string := by
  induction h with
  | nil => rfl
  | cons s _ ih => simp [ih]
def cat (ss : List ByteArray) : List UInt8 := ss.flatMap bs
def lenL (l : List UInt8) : List UInt8 := le4 l.length
def leafL (s : List UInt8) : List UInt8 := [1] ++ s
def missL : List UInt8 := [3]
def chainL (b s : List UInt8) : List UInt8 := [4] ++ lenL b ++ b ++ s
def markL (k m : List UInt8) : List UInt8 := [5] ++ lenL k ++ k ++ lenL m ++ m ++ k
end Go.Dig
end
section
namespace Go.Dig
open Go Go.RowKit Go.Eng
abbrev Bytes := List UInt8
def leafD (s : Bytes) : Bytes := D (leafL s)
def missD : Bytes := D missL
def lg (n : Nat) : Nat := if n ≤ 1 then 0 else if n ≤ 2 then 1 else if n ≤ 4 then 2 else if n ≤ 8 then 3 else if n ≤ 16 then 4 else 5
def base (ss : List Bytes) : List Bytes := ss.map leafD ++ List.replicate (2 ^ lg ss.length - ss.length) missD
end Go.Dig
end
section
set_option linter.unusedVariables false
set_option linter.unusedSimpArgs false
namespace Go.Dgp
open Go Go.Lift Go.F
open Go.Dig hiding Bytes cat
theorem wrapu {n : Int} (h : 0 ≤ n ∧ n < 18446744073709551616) : IntKind.wrap .u64 n = n := by
  have : IntKind.wrap .u64 n = n % 18446744073709551616 := by simp [IntKind.wrap, IntKind.bits, IntKind.signed]
  rw [this]; omega
theorem wrapi {n : Int} (h : -9223372036854775808 ≤ n ∧ n < 9223372036854775808) : IntKind.wrap .i64 n = n := IntWalk.i64_in _ ⟨by omega, by omega⟩
theorem stepx (l : List UInt8) (c : UInt8) : Int.tmod (IntKind.wrap .u64 (IntKind.wrap .u64 (IntKind.wrap .u64 (48271 * (dx l : Int)) + IntKind.wrap .u64 (c.toNat : Int)) + 1)) 2147483629 = ((dx (l ++ [c]) : Nat) : Int) := by
  have h1 := dx_lt l; have h2 : c.toNat < 256 := c.toNat_lt
  rw [wrapu (n := 48271 * (dx l : Int)) (by omega), wrapu (n := (c.toNat : Int)) (by omega), wrapu (n := 48271 * (dx l : Int) + (c.toNat : Int)) (by omega), wrapu (by omega), Int.tmod_eq_emod_of_nonneg (by omega), dxi]
theorem stepy (l : List UInt8) (c : UInt8) : Int.tmod (IntKind.wrap .u64 (IntKind.wrap .u64 (IntKind.wrap .u64 (69621 * (dy l : Int)) + IntKind.wrap .u64 (c.toNat : Int)) + 1)) 2147483587 = ((dy (l ++ [c]) : Nat) : Int) := by
  have h1 := dy_lt l; have h2 : c.toNat < 256 := c.toNat_lt
  rw [wrapu (n := 69621 * (dy l : Int)) (by omega), wrapu (n := (c.toNat : Int)) (by omega), wrapu (n := 69621 * (dy l : Int) + (c.toNat : Int)) (by omega), wrapu (by omega), Int.tmod_eq_emod_of_nonneg (by omega), dyi]
theorem idxn {α : Type} (xs : List α) (i : Nat) : (idx xs (i : Int)).val = xs[i]? := by
  cases h : xs[i]? with
  | some x => exact idx_val h
  | none => unfold idx; rw [if_pos (by omega)]; simp [h]
theorem take1 {s : List UInt8} {i : Nat} (h : i < s.length) : s.take (i + 1) = s.take i ++ [s[i]] := List.take_succ_eq_append_getElem h
theorem inner_loop (pre s : List UInt8) (hs : s.length ≤ 1099511627776) : (Comp.loop (fun t : Int × Int × Int => digest_of_l3 s t.1 t.2.1 t.2.2) ((dx pre : Int), (dy pre : Int), 0)).val = some (((dx (pre ++ s) : Nat) : Int), ((dy (pre ++ s) : Nat) : Int)) := by
  have := Comp.loop_seq (body := fun t : Int × Int × Int => digest_of_l3 s t.1 t.2.1 t.2.2) (fun i => (((dx (pre ++ s.take i) : Nat) : Int), ((dy (pre ++ s.take i) : Nat) : Int), (i : Int))) s.length (((dx (pre ++ s) : Nat) : Int), ((dy (pre ++ s) : Nat) : Int))
    (by
      intro i hi
      show (digest_of_l3 s _ _ (i : Int)).val = _
      unfold digest_of_l3
      have hg : (ofStr s)[i]? = some ((s[i].toNat : Nat) : Int) := by simp [ofStr, hi]
      simp only [Comp.val_bind, Comp.val_pure, Option.bind_some]
      rw [Comp.val_ite, if_pos (by rw [decide_eq_true_iff]; simp [ofStr]; omega)]
      simp only [Comp.val_bind, Comp.val_pure, Option.bind_some, idxn, hg, stepx, stepy]
      rw [Comp.wrap_succ (by omega), take1 hi, List.append_assoc])
    (by
      show (digest_of_l3 s _ _ (s.length : Int)).val = _
      unfold digest_of_l3
      simp only [Comp.val_bind, Comp.val_pure, Option.bind_some]
      rw [Comp.val_ite, if_neg (by simp [ofStr]), Comp.val_pure]
      simp)
  simpa using this
def flat (l : List Bytes) : List UInt8 := l.flatten
def vecD (l : List UInt8) : Vector Int 8 := ⟨((D l).map fun b => (b.toNat : Int)).toArray, rfl⟩
theorem vecD_list (l : List UInt8) : (vecD l).toList = (D l).map fun b => (b.toNat : Int) := rfl
theorem outer_loop (l : List Bytes) (hl : l.length ≤ 1099511627776) (hs : ∀ s ∈ l, s.length ≤ 1099511627776) : (Comp.loop (fun t : Int × Int × Int => digest_of_l2 l t.1 t.2.1 t.2.2) (17, 29, 0)).val = some (((dx (flat l) : Nat) : Int), ((dy (flat l) : Nat) : Int)) := by
  have := Comp.loop_seq (body := fun t : Int × Int × Int => digest_of_l2 l t.1 t.2.1 t.2.2) (fun i => (((dx (flat (l.take i)) : Nat) : Int), ((dy (flat (l.take i)) : Nat) : Int), (i : Int))) l.length (((dx (flat l) : Nat) : Int), ((dy (flat l) : Nat) : Int))
    (by
      intro i hi
      show (digest_of_l2 l _ _ (i : Int)).val = _
      unfold digest_of_l2
      rw [Comp.val_ite, if_pos (by rw [decide_eq_true_iff]; omega)]
      simp only [Comp.val_bind, idxn, List.getElem?_eq_getElem hi, Option.bind_some, inner_loop _ _ (hs _ (List.getElem_mem hi)), Comp.val_pure]
      rw [Comp.wrap_succ (by omega)]
      have e : flat (l.take (i + 1)) = flat (l.take i) ++ l[i] := by
        unfold flat; rw [List.take_succ_eq_append_getElem hi, List.flatten_append]; simp only [List.flatten_cons, List.flatten_nil, List.append_nil]
      rw [e])
    (by
      show (digest_of_l2 l _ _ (l.length : Int)).val = _
      unfold digest_of_l2
      rw [Comp.val_ite, if_neg (by simp), Comp.val_pure]
      simp)
  exact this
theorem vupd_val {n : Nat} {x : Vector Int n} {i : Nat} {y : Int} (h : i < n) : (vupd x (i : Int) y).val = some (x.setIfInBounds i y) := by
  unfold vupd; rw [if_pos ⟨by omega, by omega⟩]; simp
theorem u8b (X : Nat) (k : Nat) : IntKind.wrap .u8 (shrF .u64 (X : Int) (k : Int)) = ((UInt8.ofNat (X / 2 ^ min k 64)).toNat : Int) := by
  unfold shrF
  rw [IntKind.wrap_u8, ofNat_i, show IntKind.bits .u64 = 64 from rfl, Int.toNat_natCast, shr_i]
theorem four (X Y : Nat) : (Comp.loop (fun s : Int × Vector Int 8 => digest_of_l5 (X : Int) (Y : Int) s.1 s.2) (0, (Vector.replicate 8 0))).val = some ⟨((be4 X ++ be4 Y).map fun b => (b.toNat : Int)).toArray, rfl⟩ := by
  have hx : ∀ k : Nat, k ≤ 3 → IntKind.wrap .i64 (24 - IntKind.wrap .i64 (8 * (k : Int))) = ((24 - 8 * k : Nat) : Int) := by
    intro k hk; rw [wrapi (n := 8 * (k : Int)) (by omega), wrapi (by omega)]; omega
  let v : Nat → Vector Int 8 := fun i => ⟨#[if 0 < i then ((UInt8.ofNat (X / 16777216)).toNat : Int) else 0, if 1 < i then ((UInt8.ofNat (X / 65536)).toNat : Int) else 0, if 2 < i then ((UInt8.ofNat (X / 256)).toNat : Int) else 0, if 3 < i then ((UInt8.ofNat (X / 1)).toNat : Int) else 0,
    if 0 < i then ((UInt8.ofNat (Y / 16777216)).toNat : Int) else 0, if 1 < i then ((UInt8.ofNat (Y / 65536)).toNat : Int) else 0, if 2 < i then ((UInt8.ofNat (Y / 256)).toNat : Int) else 0, if 3 < i then ((UInt8.ofNat (Y / 1)).toNat : Int) else 0], rfl⟩
  have hset : ∀ i : Nat, i < 4 → ((v i).setIfInBounds i ((UInt8.ofNat (X / 2 ^ min (24 - 8 * i) 64)).toNat : Int)).setIfInBounds (4 + i) ((UInt8.ofNat (Y / 2 ^ min (24 - 8 * i) 64)).toNat : Int) = v (i + 1) := by
    intro i hi
    obtain rfl | rfl | rfl | rfl : i = 0 ∨ i = 1 ∨ i = 2 ∨ i = 3 := by omega
    all_goals simp [v, Vector.setIfInBounds]
  have := Comp.loop_seq (body := fun s : Int × Vector Int 8 => digest_of_l5 (X : Int) (Y : Int) s.1 s.2) (fun i => ((i : Int), v i)) 4 (v 4)
    (by
      intro i hi
      show (digest_of_l5 (X : Int) (Y : Int) (i : Int) (v i)).val = _
      unfold digest_of_l5
      rw [Comp.val_ite, if_pos (by rw [decide_eq_true_iff]; omega)]
      have e4 : IntKind.wrap .i64 (4 + (i : Int)) = ((4 + i : Nat) : Int) := by rw [wrapi (by omega)]; omega
      have g1 : ∀ z : Vector Int 8, ∀ j, j < 8 → (z.toList)[j]? = some ((z.toList)[j]?.getD 0) := by
        intro z j hj
        rw [List.getElem?_eq_getElem (by rw [Vector.length_toList]; exact hj)]; rfl
      simp only [Comp.val_bind, hx i (by omega), e4, nonneg_val (n := ((24 - 8 * i : Nat) : Int)) (by omega), Option.bind_some, idxn, vupd_val (show i < 8 by omega), vupd_val (show 4 + i < 8 by omega), Comp.val_pure, u8b]
      rw [g1 _ i (by omega), Option.bind_some, g1 _ (4 + i) (by omega), Option.bind_some, hset i hi, Comp.wrap_succ (by omega)])
    (by
      show (digest_of_l5 (X : Int) (Y : Int) (4 : Int) (v 4)).val = _
      unfold digest_of_l5
      rw [Comp.val_ite, if_neg (by simp), Comp.val_pure])
  have e0 : v 0 = Vector.replicate 8 0 := rfl
  have e4 : v 4 = ⟨((be4 X ++ be4 Y).map fun b => (b.toNat : Int)).toArray, rfl⟩ := by
    simp [v, be4, Nat.div_one]
  rw [← e0, ← e4]; exact this
theorem of_val (l : List Bytes) (hl : l.length ≤ 1099511627776) (hs : ∀ s ∈ l, s.length ≤ 1099511627776) : (digest_of l).val = some (vecD (flat l)) := by
  unfold digest_of
  rw [Comp.val_bind, outer_loop l hl hs, Option.bind_some]
  show (digest_of_j1 _ _).val = _
  unfold digest_of_j1
  rw [Comp.val_bind, four, Option.bind_some]
  unfold digest_of_j4
  rw [Comp.val_pure]; rfl
theorem toStr_b (l : List UInt8) : toStr (l.map fun b => (b.toNat : Int)) = Comp.pure l := by
  unfold toStr
  rw [if_pos]
  · congr 1
    rw [List.map_map]
    conv => rhs; rw [← List.map_id l]
    apply List.map_congr_left
    intro x _; simp
  · rw [List.all_eq_true]
    intro x hx
    obtain ⟨b, _, rfl⟩ := List.mem_map.1 hx
    have : b.toNat < 256 := b.toNat_lt
    simp; omega
theorem text_val (l : List UInt8) : (digest_digest_text (vecD l)).val = some (D l) := by
  unfold digest_digest_text strings_Clone cloneS
  rw [vecD_list, toStr_b]
  simp only [Comp.val_bind, Comp.val_pure, Option.bind_some]
  rw [if_pos (by rw [D_length]; decide)]
  simp
theorem le_list (n : Nat) : [IntKind.wrap .u8 (n : Int), IntKind.wrap .u8 (shrF .i64 (n : Int) 8), IntKind.wrap .u8 (shrF .i64 (n : Int) 16), IntKind.wrap .u8 (shrF .i64 (n : Int) 24)] = (le4 n).map fun b => (b.toNat : Int) := by
  have h : ∀ k : Nat, k ≤ 60 → IntKind.wrap .u8 (shrF .i64 (n : Int) (k : Int)) = ((UInt8.ofNat (n / 2 ^ k)).toNat : Int) := by
    intro k hk
    unfold shrF
    rw [IntKind.wrap_u8, ofNat_i, show IntKind.bits .i64 = 64 from rfl, Int.toNat_natCast, Nat.min_eq_left (by omega), shr_i]
  have h8 : IntKind.wrap .u8 (shrF .i64 (n : Int) 8) = ((UInt8.ofNat (n / 256)).toNat : Int) := h 8 (by omega)
  have h16 : IntKind.wrap .u8 (shrF .i64 (n : Int) 16) = ((UInt8.ofNat (n / 65536)).toNat : Int) := h 16 (by omega)
  have h24 : IntKind.wrap .u8 (shrF .i64 (n : Int) 24) = ((UInt8.ofNat (n / 16777216)).toNat : Int) := h 24 (by omega)
  have h0 : IntKind.wrap .u8 (n : Int) = ((UInt8.ofNat n).toNat : Int) := by rw [IntKind.wrap_u8, ofNat_i]
  simp only [le4, List.map, h8, h16, h24, h0]
theorem length_val (s : Bytes) : (digest_length s).val = some (lenL s) := by
  unfold digest_length
  rw [le_list, toStr_b]
  simp [Comp.val_bind, lenL]
theorem least4_val (n : Nat) : (colletref02_least4 (n : Int)).val = some (le4 n) := by
  unfold colletref02_least4
  rw [le_list, toStr_b]
  simp [Comp.val_bind]
theorem most4_val (n : Nat) : (colletref02_most4 (n : Int)).val = some (be4 n) := by
  unfold colletref02_most4
  have e : [IntKind.wrap .u8 (shrF .i64 (n : Int) 24), IntKind.wrap .u8 (shrF .i64 (n : Int) 16), IntKind.wrap .u8 (shrF .i64 (n : Int) 8), IntKind.wrap .u8 (n : Int)] = (be4 n).map fun b => (b.toNat : Int) := by
    have := le_list n
    simp only [le4, be4, List.map, List.cons.injEq] at this ⊢
    obtain ⟨h1, h2, h3, h4, _⟩ := this
    exact ⟨h4, h3, h2, h1, trivial⟩
  rw [e, toStr_b]
  simp [Comp.val_bind]
theorem cat_val {s t : Bytes} (h : s.length + t.length ≤ 1099511627776) : (Lift.cat s t).val = some (s ++ t) := by
  unfold Lift.cat; rw [if_pos h]; simp
theorem cat_bind {α : Type} {s t : Bytes} (h : s.length + t.length ≤ 1099511627776) (f : Bytes → Comp α) : ((Lift.cat s t).bind f).val = (f (s ++ t)).val := Comp.val_bind_of (cat_val h) f
theorem rOf_val (s : Bytes) (hs : s.length ≤ 1099511627776) : (colletref02_Of s).val = some (D s) := by
  have hx : ∀ (l : List UInt8) (c : UInt8), Int.tmod (IntKind.wrap .i64 (IntKind.wrap .i64 (IntKind.wrap .i64 (48271 * (dx l : Int)) + IntKind.wrap .i64 (c.toNat : Int)) + 1)) 2147483629 = ((dx (l ++ [c]) : Nat) : Int) := by
    intro l c
    have h1 := dx_lt l; have h2 : c.toNat < 256 := c.toNat_lt
    rw [wrapi (n := 48271 * (dx l : Int)) (by omega), wrapi (n := (c.toNat : Int)) (by omega), wrapi (n := 48271 * (dx l : Int) + (c.toNat : Int)) (by omega), wrapi (by omega), Int.tmod_eq_emod_of_nonneg (by omega), dxi]
  have hy : ∀ (l : List UInt8) (c : UInt8), Int.tmod (IntKind.wrap .i64 (IntKind.wrap .i64 (IntKind.wrap .i64 (69621 * (dy l : Int)) + IntKind.wrap .i64 (c.toNat : Int)) + 1)) 2147483587 = ((dy (l ++ [c]) : Nat) : Int) := by
    intro l c
    have h1 := dy_lt l; have h2 : c.toNat < 256 := c.toNat_lt
    rw [wrapi (n := 69621 * (dy l : Int)) (by omega), wrapi (n := (c.toNat : Int)) (by omega), wrapi (n := 69621 * (dy l : Int) + (c.toNat : Int)) (by omega), wrapi (by omega), Int.tmod_eq_emod_of_nonneg (by omega), dyi]
  have := Comp.loop_seq (body := fun t : Int × Int × Int => colletref02_Of_l2 s t.1 t.2.1 t.2.2) (fun i => (((dx (s.take i) : Nat) : Int), ((dy (s.take i) : Nat) : Int), (i : Int))) s.length (((dx s : Nat) : Int), ((dy s : Nat) : Int))
    (by
      intro i hi
      show (colletref02_Of_l2 s _ _ (i : Int)).val = _
      unfold colletref02_Of_l2 strIdx
      rw [Comp.val_ite, if_pos (by rw [decide_eq_true_iff]; omega)]
      simp only [Comp.val_bind, Comp.val_pure, Option.bind_some, idxn, List.getElem?_eq_getElem hi, hx, hy]
      rw [Comp.wrap_succ (by omega), take1 hi])
    (by
      show (colletref02_Of_l2 s _ _ (s.length : Int)).val = _
      unfold colletref02_Of_l2
      rw [Comp.val_ite, if_neg (by simp), Comp.val_pure]
      simp)
  have h0 : (Comp.loop (fun t : Int × Int × Int => colletref02_Of_l2 s t.1 t.2.1 t.2.2) (17, 29, 0)).val = some (((dx s : Nat) : Int), ((dy s : Nat) : Int)) := this
  unfold colletref02_Of
  rw [Comp.val_bind, h0, Option.bind_some]
  show (colletref02_Of_j1 _ _).val = _
  unfold colletref02_Of_j1
  rw [Comp.val_bind, most4_val, Option.bind_some, Comp.val_bind, most4_val, Option.bind_some, cat_bind (by simp [be4]), Comp.val_pure]
  rfl
theorem lenL_len (s : Bytes) : (lenL s).length = 4 := rfl
theorem le4_len (n : Nat) : (le4 n).length = 4 := rfl
theorem marked_val (k m : Bytes) (hk : k.length ≤ 1099511627776) (hm : m.length ≤ 1099511627776) : (digest_marked k m).val = some (vecD (markL k m)) := by
  unfold digest_marked
  simp only [Comp.val_bind, length_val, Option.bind_some, Comp.val_pure]
  rw [of_val _ (by simp) (by simp [lenL_len]; omega)]
  simp [flat, markL]
theorem Mark_val (k m : Bytes) (hk : k.length ≤ 1099511627776) (hm : m.length ≤ 1099511627776) : (digest_Mark k m).val = some (D (markL k m)) := by
  unfold digest_Mark
  rw [Comp.val_bind, marked_val k m hk hm]
  simp [Comp.val_bind, text_val]
theorem Chain_val (b s : Bytes) (hk : b.length ≤ 1099511627776) (hm : s.length ≤ 1099511627776) : (digest_Chain b s).val = some (D (chainL b s)) := by
  unfold digest_Chain
  simp only [Comp.val_bind, length_val, Option.bind_some, Comp.val_pure]
  rw [of_val _ (by simp) (by simp [lenL_len]; omega)]
  simp [flat, chainL, text_val]
def chk (k m x : Bytes) : Bool := decide (k ≠ []) && decide (x = D (markL k m))
theorem rMark_val (k m : Bytes) (hk : k.length ≤ 274877906944) (hm : m.length ≤ 274877906944) : (colletref02_Mark k m).val = some (D (markL k m)) := by
  unfold colletref02_Mark
  rw [Comp.val_bind, least4_val, Option.bind_some, cat_bind (by simp [le4_len]), cat_bind (by simp [le4_len]; omega), Comp.val_bind, least4_val, Option.bind_some, cat_bind (by simp [le4_len]; omega), cat_bind (by simp [le4_len]; omega), cat_bind (by simp [le4_len]; omega), Comp.val_bind, rOf_val _ (by simp [le4_len]; omega)]
  simp [markL, lenL]
theorem rChain_val (b s : Bytes) (hk : b.length ≤ 274877906944) (hm : s.length ≤ 274877906944) : (colletref02_Chain b s).val = some (D (chainL b s)) := by
  unfold colletref02_Chain
  rw [Comp.val_bind, least4_val, Option.bind_some, cat_bind (by simp [le4_len]), cat_bind (by simp [le4_len]; omega), cat_bind (by simp [le4_len]; omega), Comp.val_bind, rOf_val _ (by simp [le4_len]; omega)]
  simp [chainL, lenL]
end Go.Dgp
end
section
set_option linter.unusedVariables false
set_option linter.unusedSimpArgs false
namespace Go.Dgp
open Go Go.Lift Go.F
open Go.Dig hiding Bytes cat
def vb (c : Nat) : Bytes := if h : c < 128 then [UInt8.ofNat c] else UInt8.ofNat (c % 128 + 128) :: vb (c / 128)
termination_by c
decreasing_by omega
def zz (x : Int) : Nat := if 0 ≤ x then (2 * x).toNat else (2 * (-(x + 1)) + 1).toNat
def I64 (x : Int) : Prop := -9223372036854775808 ≤ x ∧ x < 9223372036854775808
theorem zz_lt {x : Int} (h : I64 x) : zz x < 18446744073709551616 := by
  unfold I64 at h; unfold zz; split <;> omega
theorem wrap_u64 (n : Int) : IntKind.wrap .u64 n = n % 18446744073709551616 := by simp [IntKind.wrap, IntKind.bits, IntKind.signed]
theorem ref_code {x : Int} (h : I64 x) : (colletref04_code x).val = some (zz x : Int) := by
  unfold I64 at h
  unfold colletref04_code zz
  rw [Comp.val_ite]
  by_cases hx : 0 ≤ x
  · rw [if_pos (by rw [decide_eq_true_iff]; omega), if_pos hx]
    simp only [Comp.val_bind, Comp.val_pure, Option.bind_some, wrap_u64]
    congr 1; omega
  · rw [if_neg (by rw [decide_eq_true_iff]; omega), if_neg hx]
    rw [wrapi (n := x + 1) (by omega), wrapi (by omega)]
    simp only [Comp.val_bind, Comp.val_pure, Option.bind_some, wrap_u64]
    congr 1; omega
theorem own_code {x : Int} (h : I64 x) : xorB .u64 (shlF .u64 (IntKind.wrap .u64 x) 1) (IntKind.wrap .u64 (shrF .i64 x 63)) = (zz x : Int) := by
  unfold I64 at h
  unfold shlF shrF xorB zz
  simp only [wrap_u64, show IntKind.bits .u64 = 64 from rfl, show IntKind.bits .i64 = 64 from rfl, show min (Int.toNat 1) 64 = 1 from rfl, show min (Int.toNat 63) 64 = 63 from rfl]
  rw [Int.fdiv_eq_ediv_of_nonneg _ (by decide)]
  by_cases hx : 0 ≤ x
  · rw [if_pos hx, show x / 2 ^ 63 = 0 by omega]
    have e : BitVec.ofInt 64 ((x % 18446744073709551616 * 2 ^ 1) % 18446744073709551616) ^^^ BitVec.ofInt 64 ((0 : Int) % 18446744073709551616) = BitVec.ofInt 64 (2 * x) := by
      rw [show (0 : Int) % 18446744073709551616 = 0 from rfl, show BitVec.ofInt 64 0 = 0#64 from rfl, BitVec.xor_zero]
      congr 1; omega
    show (((BitVec.ofInt 64 ((x % 18446744073709551616 * 2 ^ 1) % 18446744073709551616) ^^^ BitVec.ofInt 64 ((0 : Int) % 18446744073709551616)).toNat : Nat) : Int) % 18446744073709551616 = _
    rw [e, BitVec.toNat_ofInt]; omega
  · rw [if_neg hx, show x / 2 ^ 63 = -1 by omega]
    have e : BitVec.ofInt 64 ((x % 18446744073709551616 * 2 ^ 1) % 18446744073709551616) ^^^ BitVec.ofInt 64 ((-1 : Int) % 18446744073709551616) = ~~~ BitVec.ofInt 64 (2 * x) := by
      rw [show BitVec.ofInt 64 ((-1 : Int) % 18446744073709551616) = BitVec.allOnes 64 from by decide, BitVec.xor_allOnes]
      congr 1
      apply BitVec.eq_of_toNat_eq
      rw [BitVec.toNat_ofInt, BitVec.toNat_ofInt]; omega
    show (((BitVec.ofInt 64 ((x % 18446744073709551616 * 2 ^ 1) % 18446744073709551616) ^^^ BitVec.ofInt 64 ((-1 : Int) % 18446744073709551616)).toNat : Nat) : Int) % 18446744073709551616 = _
    rw [e, BitVec.toNat_not, BitVec.toNat_ofInt]; omega
set_option maxRecDepth 100000
theorem or128 : ∀ b : Fin 256, orB .u8 (b.val : Int) 128 = ((b.val % 128 + 128 : Nat) : Int) := by decide +kernel
theorem byte_list (c : Nat) : [IntKind.wrap .u8 (c : Int)] = [UInt8.ofNat c].map fun b => (b.toNat : Int) := by
  rw [IntKind.wrap_u8, List.map_singleton, ofNat_i]
theorem vb_small {c : Nat} (h : c < 128) : vb c = [UInt8.ofNat c] := by rw [vb, dif_pos h]
theorem vb_big {c : Nat} (h : ¬ c < 128) : vb c = UInt8.ofNat (c % 128 + 128) :: vb (c / 128) := by rw [vb, dif_neg h]
theorem pow128 (k : Nat) : 128 ^ (k + 1) = 128 ^ k * 128 := Nat.pow_succ ..
theorem ref_loop : ∀ (k c : Nat) (acc : Bytes), c < 128 ^ k → c < 18446744073709551616 → acc.length + k ≤ 1000 → 1 ≤ k →
    ((Comp.loop (fun s : Bytes × Int => colletref04_Int_l2 s.1 s.2) (acc, (c : Int))).bind fun p => colletref04_Int_j1 p.1 p.2).val = some (acc ++ vb c)
  | 0, c, acc, _, _, _, h => by omega
  | k + 1, c, acc, hc, hc2, ha, _ => by
      rw [Comp.val_bind, Comp.val_loop]
      by_cases h : c < 128
      · have hb : (colletref04_Int_l2 acc (c : Int)).val = some (.done (acc, (c : Int))) := by
          unfold colletref04_Int_l2
          rw [Comp.val_ite, if_neg (by rw [decide_eq_true_iff]; omega), Comp.val_pure]
        show ((colletref04_Int_l2 acc (c : Int)).val.bind _).bind _ = _
        rw [hb]
        show (colletref04_Int_j1 acc (c : Int)).val = _
        unfold colletref04_Int_j1
        rw [byte_list, toStr_b, vb_small h]
        simp only [Comp.val_bind, Comp.val_pure, Option.bind_some]
        rw [cat_val (by simp; omega), Option.bind_some]
      · have e1 : IntKind.wrap .u8 (IntKind.wrap .u64 (Int.tmod (c : Int) 128 + 128)) = IntKind.wrap .u8 ((c % 128 + 128 : Nat) : Int) := by
          rw [Int.tmod_eq_emod_of_nonneg (by omega), wrapu (by omega)]; congr 1
        have e2 : IntKind.wrap .u64 (Int.tdiv (c : Int) 128) = ((c / 128 : Nat) : Int) := by
          rw [Int.tdiv_eq_ediv_of_nonneg (by omega), wrapu (by omega)]; omega
        have hb : (colletref04_Int_l2 acc (c : Int)).val = some (.next (acc ++ [UInt8.ofNat (c % 128 + 128)], ((c / 128 : Nat) : Int))) := by
          unfold colletref04_Int_l2
          rw [Comp.val_ite, if_pos (by rw [decide_eq_true_iff]; omega), e1, byte_list, toStr_b, e2]
          simp only [Comp.val_bind, Comp.val_pure, Option.bind_some]
          rw [cat_val (by simp; omega), Option.bind_some]
        show ((colletref04_Int_l2 acc (c : Int)).val.bind _).bind _ = _
        rw [hb]
        have hp := pow128 k
        have hk : 1 ≤ k := by
          rcases Nat.eq_zero_or_pos k with h0 | h0
          · subst h0; omega
          · exact h0
        have := ref_loop k (c / 128) (acc ++ [UInt8.ofNat (c % 128 + 128)]) (by omega) (by omega) (by simp; omega) hk
        rw [Comp.val_bind] at this
        rw [vb_big h]
        show (Comp.loop (fun s : Bytes × Int => colletref04_Int_l2 s.1 s.2) (acc ++ [UInt8.ofNat (c % 128 + 128)], ((c / 128 : Nat) : Int))).val.bind _ = _
        rw [this, List.append_assoc]; rfl
theorem rInt_val {x : Int} (h : I64 x) : (colletref04_Int x).val = some (vb (zz x)) := by
  have hz := zz_lt h
  unfold colletref04_Int
  rw [Comp.val_bind, ref_code h, Option.bind_some]
  exact ref_loop 10 (zz x) [] (by omega) hz (by simp) (by omega)
theorem own_loop : ∀ (k c : Nat) (acc : Bytes), c < 128 ^ k → c < 18446744073709551616 → acc.length + k ≤ 1000 → 1 ≤ k →
    ((Comp.loop (fun s : Int × List Int => wire_Int_l2 s.1 s.2) ((c : Int), acc.map fun b => (b.toNat : Int))).bind fun p => wire_Int_j1 p.1 p.2).val = some (acc ++ vb c)
  | 0, c, acc, _, _, _, h => by omega
  | k + 1, c, acc, hc, hc2, ha, _ => by
      have hL : LIM = 1073741824 := rfl
      rw [Comp.val_bind, Comp.val_loop]
      by_cases h : c < 128
      · have hb : (wire_Int_l2 (c : Int) (acc.map fun b => (b.toNat : Int))).val = some (.done ((c : Int), acc.map fun b => (b.toNat : Int))) := by
          unfold wire_Int_l2
          rw [Comp.val_ite, if_neg (by rw [decide_eq_true_iff]; omega), Comp.val_pure]
        show ((wire_Int_l2 (c : Int) (acc.map fun b => (b.toNat : Int))).val.bind _).bind _ = _
        rw [hb]
        show (wire_Int_j1 (c : Int) (acc.map fun b => (b.toNat : Int))).val = _
        unfold wire_Int_j1
        rw [byte_list, Comp.val_bind, app_val (by simp; omega), Option.bind_some, ← List.map_append, toStr_b, vb_small h]
        simp only [Comp.val_bind, Comp.val_pure, Option.bind_some]
      · have e1 : orB .u8 (IntKind.wrap .u8 (c : Int)) 128 = ((UInt8.ofNat (c % 128 + 128)).toNat : Int) := by
          have := or128 ⟨c % 256, by omega⟩
          rw [IntKind.wrap_u8, show (c : Int) % 256 = ((c % 256 : Nat) : Int) by omega]
          rw [show ((⟨c % 256, by omega⟩ : Fin 256).val : Int) = ((c % 256 : Nat) : Int) from rfl] at this
          rw [this, ofNat_i]
          show ((c % 256 % 128 + 128 : Nat) : Int) = _
          omega
        have e2 : shrF .u64 (c : Int) 7 = ((c / 128 : Nat) : Int) := by
          unfold shrF
          rw [show min (Int.toNat 7) (IntKind.bits .u64) = 7 from rfl, shr_i]
        have hb : (wire_Int_l2 (c : Int) (acc.map fun b => (b.toNat : Int))).val = some (.next (((c / 128 : Nat) : Int), (acc ++ [UInt8.ofNat (c % 128 + 128)]).map fun b => (b.toNat : Int))) := by
          unfold wire_Int_l2
          rw [Comp.val_ite, if_pos (by rw [decide_eq_true_iff]; omega), e1, e2, Comp.val_bind, app_val (by simp; omega), Option.bind_some, Comp.val_pure, List.map_append]
          rfl
        show ((wire_Int_l2 (c : Int) (acc.map fun b => (b.toNat : Int))).val.bind _).bind _ = _
        rw [hb]
        have hp := pow128 k
        have hk : 1 ≤ k := by
          rcases Nat.eq_zero_or_pos k with h0 | h0
          · subst h0; omega
          · exact h0
        have := own_loop k (c / 128) (acc ++ [UInt8.ofNat (c % 128 + 128)]) (by omega) (by omega) (by simp; omega) hk
        rw [Comp.val_bind] at this
        rw [vb_big h]
        show (Comp.loop (fun s : Int × List Int => wire_Int_l2 s.1 s.2) (((c / 128 : Nat) : Int), (acc ++ [UInt8.ofNat (c % 128 + 128)]).map fun b => (b.toNat : Int))).val.bind _ = _
        rw [this, List.append_assoc]; rfl
theorem wInt_val {x : Int} (h : I64 x) : (wire_Int x).val = some (vb (zz x)) := by
  have hz := zz_lt h
  unfold wire_Int
  rw [Comp.val_bind, Comp.val_pure, Option.bind_some, own_code h]
  exact own_loop 10 (zz x) [] (by omega) hz (by simp) (by omega)
end Go.Dgp
end
section
set_option linter.unusedVariables false
set_option linter.unusedSimpArgs false
namespace Go.Dgp
open Go Go.Lift Go.F
open Go.Dig hiding Bytes cat
theorem vb_len : ∀ (k c : Nat), c < 128 ^ k → 1 ≤ k → (vb c).length ≤ k
  | 0, c, _, h => by omega
  | k + 1, c, hc, _ => by
      by_cases h : c < 128
      · rw [vb_small h]; simp
      · have hp := pow128 k
        have hk : 1 ≤ k := by
          rcases Nat.eq_zero_or_pos k with h0 | h0
          · subst h0; omega
          · exact h0
        have := vb_len k (c / 128) (by omega) hk
        rw [vb_big h, List.length_cons]; omega
theorem vbz_len {x : Int} (h : I64 x) : (vb (zz x)).length ≤ 10 := vb_len 10 _ (by have := zz_lt h; omega) (by omega)
theorem i64_nat {n : Nat} (h : n ≤ 1099511627776) : I64 (n : Int) := ⟨by omega, by omega⟩
def vtext (s : Bytes) : Bytes := vb (zz (s.length : Int)) ++ s
def vints (l : List Int) : Bytes := vb (zz (l.length : Int)) ++ l.flatMap fun x => vb (zz x)
theorem wText_val {s : Bytes} (h : s.length ≤ 274877906944) : (wire_Text s).val = some (vtext s) := by
  have hi := i64_nat (n := s.length) (by omega)
  have := vbz_len hi
  unfold wire_Text
  rw [Comp.val_bind, wInt_val hi, Option.bind_some, cat_bind (by omega), Comp.val_pure]; rfl
theorem rText_val {s : Bytes} (h : s.length ≤ 274877906944) : (colletref04_Text s).val = some (vtext s) := by
  have hi := i64_nat (n := s.length) (by omega)
  have := vbz_len hi
  unfold colletref04_Text
  rw [Comp.val_bind, rInt_val hi, Option.bind_some, cat_bind (by omega), Comp.val_pure]; rfl
theorem allF_val : ∀ (l : List Int) (acc : Bytes), (∀ x ∈ l, I64 x) → acc.length + 10 * l.length ≤ 1000000 → (Bld.allF wire_Int l acc).val = some (acc ++ l.flatMap fun x => vb (zz x))
  | [], acc, _, _ => by unfold Bld.allF; simp
  | x :: l, acc, hx, ha => by
      have h1 := vbz_len (hx x (by simp))
      simp only [List.length_cons] at ha
      unfold Bld.allF
      rw [Comp.val_bind, wInt_val (hx x (by simp)), Option.bind_some, cat_bind (by omega), allF_val l _ (fun y hy => hx y (by simp [hy])) (by rw [List.length_append]; omega)]
      simp
theorem wInts_val {l : List Int} (h : l.length ≤ 1000) (hx : ∀ x ∈ l, I64 x) : (wire_Ints l).val = some (vints l) := by
  have hi := i64_nat (n := l.length) (by omega)
  have h1 := vbz_len hi
  have hL : LIM = 1073741824 := rfl
  unfold wire_Ints Bld.allC
  rw [Comp.val_bind, Comp.val_ite, if_pos (by omega), Comp.val_bind, wInt_val hi, Option.bind_some, cat_bind (by simp; omega), List.nil_append, allF_val l _ hx (by omega), Option.bind_some, Comp.val_pure]; rfl
theorem rInts_val {l : List Int} (h : l.length ≤ 1000) (hx : ∀ x ∈ l, I64 x) : (colletref04_Ints l).val = some (vints l) := by
  have hi := i64_nat (n := l.length) (by omega)
  have h1 := vbz_len hi
  have hlen : ∀ i, ((l.take i).flatMap fun x => vb (zz x)).length ≤ 10 * l.length := by
    intro i
    have : ∀ (m : List Int), (∀ x ∈ m, I64 x) → (m.flatMap fun x => vb (zz x)).length ≤ 10 * m.length := by
      intro m hm
      induction m with
      | nil => simp
      | cons x m ih =>
        have := ih (fun y hy => hm y (by simp [hy]))
        have := vbz_len (hm x (by simp))
        simp only [List.flatMap_cons, List.length_append, List.length_cons]; omega
    have h2 := this (l.take i) (fun x hx' => hx x (List.mem_of_mem_take hx'))
    have : (l.take i).length ≤ l.length := by rw [List.length_take]; omega
    omega
  have key := Comp.loop_seq (body := fun s : Bytes × Int => colletref04_Ints_l2 l s.1 s.2) (fun i => (vb (zz (l.length : Int)) ++ (l.take i).flatMap fun x => vb (zz x), (i : Int))) l.length (vints l)
    (by
      intro i hi
      show (colletref04_Ints_l2 l (vb (zz (l.length : Int)) ++ (l.take i).flatMap fun x => vb (zz x)) (i : Int)).val = _
      have hxi := hx l[i] (List.getElem_mem hi)
      have h3 := vbz_len hxi
      have h4 := hlen i
      unfold colletref04_Ints_l2
      rw [Comp.val_ite, if_pos (by rw [decide_eq_true_iff]; omega), Comp.val_bind, idxn, List.getElem?_eq_getElem hi, Option.bind_some, Comp.val_bind, rInt_val hxi, Option.bind_some, cat_bind (by rw [List.length_append]; omega), Comp.val_pure, Comp.wrap_succ (by omega), List.take_succ_eq_append_getElem hi, List.flatMap_append, List.append_assoc]
      simp)
    (by
      show (colletref04_Ints_l2 l (vb (zz (l.length : Int)) ++ (l.take l.length).flatMap fun x => vb (zz x)) (l.length : Int)).val = _
      unfold colletref04_Ints_l2
      rw [Comp.val_ite, if_neg (by rw [decide_eq_true_iff]; omega), Comp.val_pure, List.take_of_length_le (Nat.le_refl _)]; rfl)
  have key' : (Comp.loop (fun s : Bytes × Int => colletref04_Ints_l2 l s.1 s.2) (vb (zz (l.length : Int)), 0)).val = some (vints l) := by simpa using key
  unfold colletref04_Ints
  rw [Comp.val_bind, rInt_val hi, Option.bind_some, Comp.val_bind, key', Option.bind_some]
  show (colletref04_Ints_j1 _).val = _
  unfold colletref04_Ints_j1
  rw [Comp.val_pure]
end Go.Dgp
end
section
set_option linter.unusedVariables false
set_option linter.unusedSimpArgs false
namespace Go.Dgp
open Go Go.Lift Go.F
open Go.Dig hiding Bytes cat
structure EW (e : api_Entry) : Prop where
  seq : I64 e.Seq
  shop : I64 e.Shop
  kind : I64 e.Kind
  day : I64 e.Day
  n : I64 e.N
  before : e.Before.length ≤ 68719476736
  after : e.After.length ≤ 68719476736
  prev : e.Prev.length ≤ 68719476736
  mark : e.Mark.length ≤ 68719476736
def nums (e : api_Entry) : List Int := [e.Seq, e.Shop, e.Kind, e.Day, e.N]
def vbytes (e : api_Entry) : Bytes := vints (nums e) ++ vtext e.Before ++ vtext e.After ++ vtext e.Prev
theorem vtext_len {s : Bytes} (h : s.length ≤ 274877906944) : (vtext s).length ≤ s.length + 10 := by
  have := vbz_len (i64_nat (n := s.length) (by omega))
  unfold vtext; rw [List.length_append]; omega
theorem nums_wf {e : api_Entry} (h : EW e) : ∀ x ∈ nums e, I64 x := by
  intro x hx
  simp only [nums, List.mem_cons, List.not_mem_nil, or_false] at hx
  rcases hx with rfl | rfl | rfl | rfl | rfl
  · exact h.seq
  · exact h.shop
  · exact h.kind
  · exact h.day
  · exact h.n
theorem vints_len {e : api_Entry} (h : EW e) : (vints (nums e)).length ≤ 60 := by
  have h1 := vbz_len h.seq; have h2 := vbz_len h.shop; have h3 := vbz_len h.kind; have h4 := vbz_len h.day; have h5 := vbz_len h.n
  have h0 := vbz_len (i64_nat (n := 5) (by omega))
  have e5 : ((5 : Nat) : Int) = 5 := rfl
  rw [e5] at h0
  simp only [vints, nums, List.length_append, List.flatMap_cons, List.flatMap_nil, List.length_cons, List.length_nil]
  have : ((0 + 1 + 1 + 1 + 1 + 1 : Nat) : Int) = 5 := rfl
  rw [this]; omega
theorem vbytes_len {e : api_Entry} (h : EW e) : (vbytes e).length ≤ 206158430308 := by
  have h0 := vints_len h
  have h1 := vtext_len (s := e.Before) (by have := h.before; omega)
  have h2 := vtext_len (s := e.After) (by have := h.after; omega)
  have h3 := vtext_len (s := e.Prev) (by have := h.prev; omega)
  have := h.before; have := h.after; have := h.prev
  unfold vbytes
  simp only [List.length_append]; omega
theorem pBytes_val {e : api_Entry} (h : EW e) : (passport_Bytes e).val = some (vbytes e) := by
  have h0 := vints_len h
  have b1 := h.before; have b2 := h.after; have b3 := h.prev
  have h1 := vtext_len (s := e.Before) (by omega)
  have h2 := vtext_len (s := e.After) (by omega)
  have h3 := vtext_len (s := e.Prev) (by omega)
  have hi : (wire_Ints [e.Seq, e.Shop, e.Kind, e.Day, e.N]).val = some (vints (nums e)) := wInts_val (l := nums e) (by simp [nums]) (nums_wf h)
  unfold passport_Bytes
  rw [Comp.val_bind, hi, Option.bind_some, Comp.val_bind, wText_val (by omega), Option.bind_some, cat_bind (by omega), Comp.val_bind, wText_val (by omega), Option.bind_some, cat_bind (by simp only [List.length_append]; omega),
    Comp.val_bind, wText_val (by omega), Option.bind_some, cat_bind (by simp only [List.length_append]; omega), Comp.val_pure]
  rfl
theorem rBytes_val {e : api_Entry} (h : EW e) : (colletref37_Bytes e).val = some (vbytes e) := by
  have h0 := vints_len h
  have b1 := h.before; have b2 := h.after; have b3 := h.prev
  have h1 := vtext_len (s := e.Before) (by omega)
  have h2 := vtext_len (s := e.After) (by omega)
  have h3 := vtext_len (s := e.Prev) (by omega)
  have hi : (colletref04_Ints [e.Seq, e.Shop, e.Kind, e.Day, e.N]).val = some (vints (nums e)) := rInts_val (l := nums e) (by simp [nums]) (nums_wf h)
  unfold colletref37_Bytes
  rw [Comp.val_bind, hi, Option.bind_some, Comp.val_bind, rText_val (by omega), Option.bind_some, cat_bind (by omega), Comp.val_bind, rText_val (by omega), Option.bind_some, cat_bind (by simp only [List.length_append]; omega),
    Comp.val_bind, rText_val (by omega), Option.bind_some, cat_bind (by simp only [List.length_append]; omega), Comp.val_pure]
  rfl
def signE (key : Bytes) (e : api_Entry) : api_Entry := ⟨e.Seq, e.Shop, e.Kind, e.Day, e.N, e.Before, e.After, e.Prev, D (markL key (vbytes e))⟩
theorem pSign_val {key : Bytes} {e : api_Entry} (hk : key.length ≤ 274877906944) (h : EW e) : (passport_Sign key e).val = some (signE key e) := by
  have := vbytes_len h
  unfold passport_Sign
  simp only [Comp.val_bind, pBytes_val h, Option.bind_some, Mark_val key (vbytes e) (by omega) (by omega), Comp.val_pure]
  rfl
theorem rSign_val {key : Bytes} {e : api_Entry} (hk : key.length ≤ 274877906944) (h : EW e) : (colletref37_Sign key e).val = some (signE key e) := by
  have := vbytes_len h
  unfold colletref37_Sign
  simp only [Comp.val_bind, rBytes_val h, Option.bind_some, rMark_val key (vbytes e) (by omega) (by omega), Comp.val_pure]
  rfl
def linkE (e : api_Entry) : Bytes := D (chainL (vbytes e) e.Mark)
theorem pLink_val {e : api_Entry} (h : EW e) : (passport_link e).val = some (linkE e) := by
  have := vbytes_len h; have := h.mark
  unfold passport_link
  simp only [Comp.val_bind, pBytes_val h, Option.bind_some, Chain_val (vbytes e) e.Mark (by omega) (by omega), Comp.val_pure]
  rfl
theorem rLink_val {e : api_Entry} (h : EW e) : (colletref37_link e).val = some (linkE e) := by
  have := vbytes_len h; have := h.mark
  unfold colletref37_link
  simp only [Comp.val_bind, rBytes_val h, Option.bind_some, rChain_val (vbytes e) e.Mark (by omega) (by omega), Comp.val_pure]
  rfl
end Go.Dgp
end
section
set_option linter.unusedVariables false
set_option linter.unusedSimpArgs false
namespace Go.Dgp
open Go Go.Lift Go.F
open Go.Dig hiding Bytes cat
def nextE (l : List api_Entry) (e : api_Entry) : api_Entry :=
  match l.getLast? with
  | some p => ⟨(l.length : Int), e.Shop, e.Kind, e.Day, e.N, p.After, e.After, linkE p, []⟩
  | none => ⟨(l.length : Int), e.Shop, e.Kind, e.Day, e.N, e.Before, e.After, [], []⟩
theorem last_idx {l : List api_Entry} (h : 0 < l.length) (hl : l.length ≤ 1073741824) : ∃ p, l.getLast? = some p ∧ p ∈ l ∧ (idx l (IntKind.wrap .i64 ((l.length : Int) - 1))).val = some p := by
  have h1 : l[l.length - 1]? = some l[l.length - 1] := List.getElem?_eq_getElem (by omega)
  refine ⟨l[l.length - 1], ?_, List.getElem_mem _, ?_⟩
  · rw [List.getLast?_eq_getElem?, h1]
  · rw [wrapi (by omega), show (l.length : Int) - 1 = ((l.length - 1 : Nat) : Int) by omega, idxn, h1]
theorem pNext_val {l : List api_Entry} {e : api_Entry} (hl : l.length ≤ 1073741824) (hw : ∀ x ∈ l, EW x) : (passport_Next l e).val = some (nextE l e) := by
  unfold passport_Next nextE
  rw [Comp.val_ite]
  by_cases h : 0 < l.length
  · obtain ⟨p, h1, h2, h3⟩ := last_idx h hl
    rw [if_pos (by rw [decide_eq_true_iff]; omega), h1]
    simp only [Comp.val_bind, h3, Option.bind_some, pLink_val (hw p h2)]
    unfold passport_Next_j1
    rw [Comp.val_pure]
  · have h0 : l = [] := List.eq_nil_of_length_eq_zero (by omega)
    rw [if_neg (by rw [decide_eq_true_iff]; omega), h0]
    unfold passport_Next_j1
    rw [Comp.val_pure]; rfl
theorem rNext_val {l : List api_Entry} {e : api_Entry} (hl : l.length ≤ 1073741824) (hw : ∀ x ∈ l, EW x) : (colletref37_Next l e).val = some (nextE l e) := by
  unfold colletref37_Next nextE
  rw [Comp.val_ite]
  by_cases h : 0 < l.length
  · obtain ⟨p, h1, h2, h3⟩ := last_idx h hl
    rw [if_pos (by rw [decide_eq_true_iff]; omega), h1]
    simp only [Comp.val_bind, h3, Option.bind_some, rLink_val (hw p h2)]
    unfold colletref37_Next_j1
    rw [Comp.val_pure]
  · have h0 : l = [] := List.eq_nil_of_length_eq_zero (by omega)
    rw [if_neg (by rw [decide_eq_true_iff]; omega), h0]
    unfold colletref37_Next_j1
    rw [Comp.val_pure]; rfl
theorem linkE_len (e : api_Entry) : (linkE e).length = 8 := D_length _
theorem nextE_wf {l : List api_Entry} {e : api_Entry} (hl : l.length ≤ 1073741824) (hw : ∀ x ∈ l, EW x) (he : EW e) : EW (nextE l e) := by
  unfold nextE
  split
  · rename_i p hp
    have hm : p ∈ l := List.mem_of_getLast? hp
    exact ⟨⟨by show -9223372036854775808 ≤ ((l.length : Nat) : Int); omega, by show ((l.length : Nat) : Int) < 9223372036854775808; omega⟩, he.shop, he.kind, he.day, he.n, (hw p hm).after, he.after, by show (linkE p).length ≤ _; rw [linkE_len]; decide, by simp⟩
  · exact ⟨⟨by show -9223372036854775808 ≤ ((l.length : Nat) : Int); omega, by show ((l.length : Nat) : Int) < 9223372036854775808; omega⟩, he.shop, he.kind, he.day, he.n, he.before, he.after, by simp, by simp⟩
theorem signE_wf {k : Bytes} {e : api_Entry} (he : EW e) : EW (signE k e) :=
  ⟨he.seq, he.shop, he.kind, he.day, he.n, he.before, he.after, he.prev, by show (D _).length ≤ _; rw [D_length]; decide⟩
end Go.Dgp
end
section
set_option linter.unusedVariables false
set_option linter.unusedSimpArgs false
namespace Go.Dgp
open Go Go.Lift Go.F
open Go.Dig hiding Bytes cat
def decT (n : Nat) : Bytes := (((colletref01_Of (n : Int)).bind colletref01_Text).run 20).getD []
set_option maxRecDepth 1000000 in
theorem dec_run : ∀ n : Fin 256, (((colletref01_Of (n.val : Int)).bind colletref01_Text).run 20).isSome = true ∧ (decT n.val).length ≤ 3 := by decide +kernel
theorem dec_val {n : Nat} (h : n < 256) : ((colletref01_Of (n : Int)).bind colletref01_Text).val = some (decT n) := by
  have h1 := (dec_run ⟨n, h⟩).1
  obtain ⟨y, hy⟩ := Option.isSome_iff_exists.1 h1
  have : decT n = y := by unfold decT; rw [hy]; rfl
  rw [this]; exact Comp.val_run hy
theorem dec_len {n : Nat} (h : n < 256) : (decT n).length ≤ 3 := (dec_run ⟨n, h⟩).2
def keyT (n : Nat) : Bytes := [107, 101, 121, 32] ++ decT n
def rootT (n : Nat) : Bytes := D ([114, 111, 111, 116, 32] ++ decT n)
theorem root37_val {n : Nat} (h : n < 256) : (colletref37_Root (n : Int)).val = some (rootT n) := by
  have h1 := dec_val h
  rw [Comp.val_bind] at h1
  have hl := dec_len h
  unfold colletref37_Root
  rw [Comp.val_bind]
  cases ha : (colletref01_Of (n : Int)).val with
  | none => rw [ha] at h1; cases h1
  | some a =>
    rw [ha, Option.bind_some] at h1
    rw [Option.bind_some, Comp.val_bind, h1, Option.bind_some, cat_bind (by simp; omega), Comp.val_bind, rOf_val _ (by simp; omega), Option.bind_some, Comp.val_pure]; rfl
theorem keys_val {m : Nat} (h : m ≤ 200) : (colletref37_Keys (m : Int)).val = some ((List.range m).map keyT) := by
  have hL : LIM = 1073741824 := rfl
  have key := Comp.loop_seq (body := fun s : List Bytes × Int => colletref37_Keys_l2 (m : Int) s.1 s.2) (fun i => ((List.range i).map keyT, (i : Int))) m ((List.range m).map keyT)
    (by
      intro i hi
      show (colletref37_Keys_l2 (m : Int) ((List.range i).map keyT) (i : Int)).val = _
      have h1 := dec_val (n := i) (by omega)
      have hl := dec_len (n := i) (by omega)
      rw [Comp.val_bind] at h1
      unfold colletref37_Keys_l2
      rw [Comp.val_ite, if_pos (by rw [decide_eq_true_iff]; omega), Comp.val_bind]
      cases ha : (colletref01_Of (i : Int)).val with
      | none => rw [ha] at h1; cases h1
      | some a =>
        rw [ha, Option.bind_some] at h1
        rw [Option.bind_some, Comp.val_bind, h1, Option.bind_some, cat_bind (by simp; omega), Comp.val_bind, app_val (by simp; omega), Option.bind_some, Comp.val_pure, Comp.wrap_succ (by omega), List.range_succ, List.map_append]
        rfl)
    (by
      show (colletref37_Keys_l2 (m : Int) ((List.range m).map keyT) (m : Int)).val = _
      unfold colletref37_Keys_l2
      rw [Comp.val_ite, if_neg (by rw [decide_eq_true_iff]; omega), Comp.val_pure])
  have key' : (Comp.loop (fun s : List Bytes × Int => colletref37_Keys_l2 (m : Int) s.1 s.2) ([], 0)).val = some ((List.range m).map keyT) := key
  unfold colletref37_Keys
  rw [Comp.val_bind, key', Option.bind_some]
  show (colletref37_Keys_j1 _).val = _
  unfold colletref37_Keys_j1
  rw [Comp.val_pure]
end Go.Dgp
end
section
set_option linter.unusedVariables false
set_option linter.unusedSimpArgs false
namespace Go.Dgp
open Go Go.Lift Go.F
open Go.Dig hiding Bytes cat
theorem mod_val {x m : Int} (hx : I64 x) (hm : 1 ≤ m ∧ m ≤ 1099511627776) : (colletref01_Mod x m).val = some (x % m) := by
  unfold I64 at hx
  have h1 : -m < x.tmod m := Int.lt_tmod_of_pos x (by omega)
  have h2 : x.tmod m < m := Int.tmod_lt_of_pos x (by omega)
  unfold colletref01_Mod
  rw [Comp.val_ite, if_neg (by rw [decide_eq_true_iff]; omega), Comp.val_bind, rem_val (by omega), Option.bind_some, wrapi (by omega), Comp.val_bind, rem_val (by omega), Option.bind_some, Comp.val_pure]
  congr 1
  rw [Int.tmod_eq_emod_of_nonneg (by omega), Int.add_emod_right, Int.tmod_eq_emod]
  split
  · simp
  · rw [show m.natAbs = m.toNat by omega, show ((m.toNat : Nat) : Int) = m by omega, Int.sub_emod_right, Int.emod_emod]
def drawN (L : List Int) (k m : Nat) : Nat × Nat := if L.length ≤ k then (k, 0) else (k + 1, (L.getD k 0 % (m : Int)).toNat)
theorem drawN_lt (L : List Int) (k m : Nat) (h : 1 ≤ m) : (drawN L k m).2 < m := by
  unfold drawN; split
  · exact h
  · have := Int.emod_lt_of_pos (L.getD k 0) (by omega : (0 : Int) < m)
    have := Int.emod_nonneg (L.getD k 0) (by omega : (m : Int) ≠ 0)
    show (L.getD k 0 % (m : Int)).toNat < m
    omega
theorem drawN_at (L : List Int) (k m : Nat) : (drawN L k m).1 ≤ k + 1 := by unfold drawN; split <;> simp
theorem draw_val {L : List Int} {k m : Nat} (hL : ∀ x ∈ L, I64 x) (hk : k ≤ 1000000) (hm : 1 ≤ m ∧ m ≤ 1000000) : (colletref01_Draw_Next ⟨L, (k : Int)⟩ (m : Int)).val = some (⟨L, ((drawN L k m).1 : Int)⟩, ((drawN L k m).2 : Int)) := by
  unfold colletref01_Draw_Next drawN
  rw [Comp.val_ite]
  by_cases h : L.length ≤ k
  · rw [if_pos (by rw [decide_eq_true_iff]; show (k : Int) ≥ (L.length : Int); omega), if_pos h, Comp.val_pure]; rfl
  · have hg : L[k]? = some (L.getD k 0) := by rw [List.getD_eq_getElem?_getD, List.getElem?_eq_getElem (by omega)]; rfl
    have hx := hL _ (List.mem_of_getElem? hg)
    rw [if_neg (by rw [decide_eq_true_iff]; show ¬ (k : Int) ≥ (L.length : Int); omega), if_neg h]
    show ((idx L (IntKind.wrap .i64 (IntKind.wrap .i64 ((k : Int) + 1) - 1))).bind fun x4 => (colletref01_Mod x4 (m : Int)).bind fun x5 => Comp.pure ((colletref01_Draw.mk L (IntKind.wrap .i64 ((k : Int) + 1))), x5)).val = _
    rw [Comp.wrap_succ (by omega), show IntKind.wrap .i64 (((k + 1 : Nat) : Int) - 1) = (k : Int) by rw [wrapi (by omega)]; omega, Comp.val_bind, idxn, hg, Option.bind_some, Comp.val_bind, mod_val hx (by omega), Option.bind_some, Comp.val_pure]
    have := Int.emod_nonneg (L.getD k 0) (by omega : (m : Int) ≠ 0)
    have e : (((L.getD k 0 % (m : Int)).toNat : Nat) : Int) = L.getD k 0 % (m : Int) := by omega
    show some (colletref01_Draw.mk L ((k + 1 : Nat) : Int), L.getD k 0 % (m : Int)) = some (⟨L, ((k + 1 : Nat) : Int)⟩, (((L.getD k 0 % (m : Int)).toNat : Nat) : Int))
    rw [e]
end Go.Dgp
end
section
set_option linter.unusedVariables false
set_option linter.unusedSimpArgs false
namespace Go.Dgp
open Go Go.Lift Go.F
open Go.Dig hiding Bytes cat
theorem sub0_val {α : Type} (l : List α) (k : Nat) : (sub l 0 (min (l.length : Int) (k : Int))).val = some (l.take k) := by
  rw [sub_val ⟨by omega, by omega, by omega⟩]
  simp only [Int.toNat_zero, List.drop_zero]
  congr 1
  by_cases h : l.length ≤ k
  · rw [List.take_of_length_le h, List.take_of_length_le (by omega)]
  · congr 1; omega
theorem take_len {α : Type} (l : List α) (k : Nat) : (l.take k).length ≤ k := by rw [List.length_take]; omega
def lsts (l : List (List Int)) : List (List Int) := (l.take 8).map (·.take 6)
theorem lsts_len (l : List (List Int)) : (lsts l).length ≤ 8 := by unfold lsts; rw [List.length_map]; exact take_len _ _
theorem lists_val (c : colletlaw37_Case) : (colletlaw37_Case_lists c).val = some (lsts c.L) := by
  have hN : min c.L.length 8 ≤ c.L.length := Nat.min_le_left _ _
  have h8 : min c.L.length 8 ≤ 8 := Nat.min_le_right _ _
  have hmin : min c.L.length 8 = c.L.length ∨ min c.L.length 8 = 8 := by omega
  have key := Comp.loop_seq (body := fun s : List (List Int) × Int => colletlaw37_Case_lists_l2 c s.1 s.2) (fun i => ((c.L.take i).map (·.take 6), (i : Int))) (min c.L.length 8) (lsts c.L)
    (by
      intro i hi
      show (colletlaw37_Case_lists_l2 c ((c.L.take i).map (·.take 6)) (i : Int)).val = _
      have hi' : i < c.L.length := by omega
      unfold colletlaw37_Case_lists_l2
      have hc : (bif (decide ((i : Int) < (c.L.length : Int))) then (decide ((i : Int) < 8)) else false) = true := by
        rw [decide_eq_true (by omega), decide_eq_true (by omega)]; rfl
      have h6 := sub0_val c.L[i] 6
      rw [show ((6 : Nat) : Int) = 6 from rfl] at h6
      simp only [Comp.val_bind, Comp.val_pure, Option.bind_some, hc]
      rw [Comp.val_ite, if_pos trivial]
      simp only [Comp.val_bind, idxn, List.getElem?_eq_getElem hi', Option.bind_some, h6]
      rw [app_val (by rw [List.length_map, List.length_take]; simp only [List.length_cons, List.length_nil]; unfold LIM; omega), Option.bind_some, Comp.val_pure, Comp.wrap_succ (by omega), List.take_succ_eq_append_getElem hi', List.map_append]
      rfl)
    (by
      show (colletlaw37_Case_lists_l2 c ((c.L.take (min c.L.length 8)).map (·.take 6)) ((min c.L.length 8 : Nat) : Int)).val = _
      unfold colletlaw37_Case_lists_l2
      have hc : (bif (decide (((min c.L.length 8 : Nat) : Int) < (c.L.length : Int))) then (decide (((min c.L.length 8 : Nat) : Int) < 8)) else false) = false := by
        rcases hmin with h | h
        · rw [decide_eq_false (by omega)]; rfl
        · rw [decide_eq_false (p := ((min c.L.length 8 : Nat) : Int) < 8) (by omega)]; cases decide (((min c.L.length 8 : Nat) : Int) < (c.L.length : Int)) <;> rfl
      simp only [Comp.val_bind, Comp.val_pure, Option.bind_some, hc]
      rw [Comp.val_ite, if_neg (by simp), Comp.val_pure]
      have : c.L.take (min c.L.length 8) = c.L.take 8 := by
        rcases hmin with h | h
        · rw [h, List.take_of_length_le (Nat.le_refl _), List.take_of_length_le (by omega)]
        · rw [h]
      rw [this]; rfl)
  have key' : (Comp.loop (fun s : List (List Int) × Int => colletlaw37_Case_lists_l2 c s.1 s.2) ([], 0)).val = some (lsts c.L) := key
  unfold colletlaw37_Case_lists
  rw [Comp.val_bind, key', Option.bind_some]
  show (colletlaw37_Case_lists_j1 _).val = _
  unfold colletlaw37_Case_lists_j1
  rw [Comp.val_pure]
end Go.Dgp
end
section
set_option linter.unusedVariables false
set_option linter.unusedSimpArgs false
namespace Go.Dgp
open Go Go.Lift Go.F
open Go.Dig hiding Bytes cat
def wrt (p : api_Entry) : Int := if p.Kind = 4 then p.N else p.Shop
theorem writer_val (p : api_Entry) : (colletref37_writer p).val = some (wrt p) := by
  unfold colletref37_writer wrt
  rw [Comp.val_ite]
  by_cases h : p.Kind = 4
  · rw [if_pos (by rw [decide_eq_true_iff]; exact h), if_pos h, Comp.val_pure]
  · rw [if_neg (by rw [decide_eq_true_iff]; exact h), if_neg h, Comp.val_pure]
def stepE (m : Nat) (l : List api_Entry) (n : List Int) : api_Entry :=
  let d1 := drawN n 0 m
  let d2 := drawN n d1.1 9
  let d3 := drawN n d2.1 20
  match l.getLast? with
  | none => ⟨0, (d1.2 : Int), 1, (d2.2 : Int), 0, [], rootT d3.2, [], []⟩
  | some p =>
    let d4 := drawN n d3.1 4
    if d4.2 ≤ 1 then ⟨0, wrt p, 2, p.Day + (d2.2 / 3 : Nat), ((drawN n d4.1 8).2 : Int), [], rootT d3.2, [], []⟩
    else if d4.2 = 2 then ⟨0, wrt p, 3, p.Day + (d2.2 / 3 : Nat), 0, [], p.After, [], []⟩
    else ⟨0, wrt p, 4, p.Day + (d2.2 / 3 : Nat), ((drawN n d4.1 m).2 : Int), [], p.After, [], []⟩
def keysT (m : Nat) : List Bytes := (List.range m).map keyT
theorem keysT_len (m : Nat) : (keysT m).length = m := by simp [keysT]
theorem keysT_get {m k : Nat} (h : k < m) : (keysT m)[k]? = some (keyT k) := by simp [keysT, h]
theorem keyT_len {k : Nat} (h : k < 256) : (keyT k).length ≤ 7 := by
  have := dec_len h
  unfold keyT; simp; omega
theorem j1_val {m : Nat} {l : List api_Entry} {e : api_Entry} {k : Nat} (hm : m ≤ 200) (hk : k < m) (he : e.Shop = (k : Int)) (hl : l.length ≤ 1000) (hw : ∀ x ∈ l, EW x) (hE : EW e) :
    (colletref37_Step_j1 (keysT m) l e.Seq e.Shop e.Kind e.Day e.N e.Before e.After e.Prev e.Mark).val = some (signE (keyT k) (nextE l e)) := by
  have hkl := keyT_len (k := k) (by omega)
  unfold colletref37_Step_j1
  rw [Comp.val_bind, he, idxn, keysT_get hk, Option.bind_some, Comp.val_bind, ← he]
  rw [show api_Entry.mk e.Seq e.Shop e.Kind e.Day e.N e.Before e.After e.Prev e.Mark = e from rfl, rNext_val (by omega) hw, Option.bind_some, Comp.val_bind, rSign_val (by omega) (nextE_wf (by omega) hw hE), Option.bind_some, Comp.val_pure]
theorem rootT_len (n : Nat) : (rootT n).length = 8 := D_length _
theorem step0_val {m : Nat} {n : List Int} (hm : 1 ≤ m ∧ m ≤ 200) (hn : ∀ x ∈ n, I64 x) :
    (colletref37_Step (keysT m) [] n).val = some (signE (keyT (drawN n 0 m).2) (nextE [] (stepE m [] n))) ∧ EW (stepE m [] n) := by
  have l1 := drawN_lt n 0 m hm.1
  have a1 := drawN_at n 0 m
  have l2 := drawN_lt n (drawN n 0 m).1 9 (by omega)
  have a2 := drawN_at n (drawN n 0 m).1 9
  have l3 := drawN_lt n (drawN n (drawN n 0 m).1 9).1 20 (by omega)
  have a3 := drawN_at n (drawN n (drawN n 0 m).1 9).1 20
  have d1 := draw_val (k := 0) (m := m) hn (by omega) (by omega)
  have d2 := draw_val (k := (drawN n 0 m).1) (m := 9) hn (by omega) (by omega)
  have d3 := draw_val (k := (drawN n (drawN n 0 m).1 9).1) (m := 20) hn (by omega) (by omega)
  have hE : EW (stepE m [] n) := ⟨by unfold I64; show -9223372036854775808 ≤ (0 : Int) ∧ (0 : Int) < 9223372036854775808; omega, by show I64 (((drawN n 0 m).2 : Nat) : Int); unfold I64; omega, by show I64 1; unfold I64; omega, by show I64 (((drawN n (drawN n 0 m).1 9).2 : Nat) : Int); unfold I64; omega, by show I64 0; unfold I64; omega, by show ([] : Bytes).length ≤ _; simp, by show (rootT _).length ≤ _; rw [rootT_len]; decide, by show ([] : Bytes).length ≤ _; simp, by show ([] : Bytes).length ≤ _; simp⟩
  refine ⟨?_, hE⟩
  unfold colletref37_Step
  rw [keysT_len, Comp.val_bind]
  rw [show ((0 : Nat) : Int) = 0 from rfl] at d1
  rw [d1, Option.bind_some, Comp.val_bind]
  rw [show ((9 : Nat) : Int) = 9 from rfl] at d2
  rw [d2, Option.bind_some, Comp.val_bind]
  rw [show ((20 : Nat) : Int) = 20 from rfl] at d3
  rw [d3, Option.bind_some, Comp.val_bind, root37_val (by omega), Option.bind_some, Comp.val_ite, if_neg (by simp)]
  exact j1_val (e := stepE m [] n) (k := (drawN n 0 m).2) hm.2 l1 rfl (by simp) (by simp) hE
theorem idx_kind : ∀ k : Nat, k < 4 → (idx ([2, 2, 3, 4] : List Int) (k : Int)).val = some (if k ≤ 1 then 2 else if k = 2 then 3 else 4) := by
  intro k hk
  obtain rfl | rfl | rfl | rfl : k = 0 ∨ k = 1 ∨ k = 2 ∨ k = 3 := by omega
  all_goals (rw [idxn]; rfl)
theorem j2_val {m : Nat} {l : List api_Entry} {n : List Int} {at_ : Nat} {shop kind day N : Int} {after : Bytes} {k : Nat} (hm : 1 ≤ m ∧ m ≤ 200) (hn : ∀ x ∈ n, I64 x) (ha : at_ ≤ 1000) (hk : k < m) (hs : shop = (k : Int)) (hl : l.length ≤ 1000) (hw : ∀ x ∈ l, EW x)
    (hE : EW ⟨0, shop, kind, day, if kind = 4 then ((drawN n at_ m).2 : Int) else N, [], after, [], []⟩) :
    (colletref37_Step_j2 (keysT m) l n (at_ : Int) 0 shop kind day N [] after [] []).val = some (signE (keyT k) (nextE l ⟨0, shop, kind, day, if kind = 4 then ((drawN n at_ m).2 : Int) else N, [], after, [], []⟩)) := by
  have d := draw_val (k := at_) (m := m) hn (by omega) (by omega)
  unfold colletref37_Step_j2
  rw [Comp.val_ite]
  by_cases h : kind = 4
  · rw [if_pos h] at hE ⊢
    rw [if_pos (by rw [decide_eq_true_iff]; exact h), keysT_len, Comp.val_bind, d, Option.bind_some]
    exact j1_val (e := ⟨0, shop, kind, day, ((drawN n at_ m).2 : Int), [], after, [], []⟩) hm.2 hk hs hl hw hE
  · rw [if_neg h] at hE ⊢
    rw [if_neg (by rw [decide_eq_true_iff]; exact h)]
    exact j1_val (e := ⟨0, shop, kind, day, N, [], after, [], []⟩) hm.2 hk hs hl hw hE
theorem drawN_at2 (L : List Int) (k m : Nat) (c : Nat) (h : k ≤ c) : (drawN L k m).1 ≤ c + 1 := Nat.le_trans (drawN_at L k m) (by omega)
theorem stepK_val {m : Nat} {l : List api_Entry} {p : api_Entry} {n : List Int} {k : Nat} (hm : 1 ≤ m ∧ m ≤ 200) (hn : ∀ x ∈ n, I64 x) (hl : 0 < l.length ∧ l.length ≤ 1000) (hw : ∀ x ∈ l, EW x) (hp : l.getLast? = some p) (hk : k < m) (hs : wrt p = (k : Int)) (hd : 0 ≤ p.Day ∧ p.Day ≤ 1000000) :
    (colletref37_Step (keysT m) l n).val = some (signE (keyT k) (nextE l (stepE m l n))) ∧ EW (stepE m l n) := by
  obtain ⟨p', hp', hmem, hidx⟩ := last_idx hl.1 (by omega)
  rw [hp] at hp'; cases hp'
  have hpw := hw p hmem
  have a1 := drawN_at n 0 m
  have a2 := drawN_at2 n (drawN n 0 m).1 9 1 a1
  have a3 := drawN_at2 n (drawN n (drawN n 0 m).1 9).1 20 2 a2
  have d1 := draw_val (k := 0) (m := m) hn (by omega) (by omega)
  have l2 := drawN_lt n (drawN n 0 m).1 9 (by omega)
  have d2 := draw_val (k := (drawN n 0 m).1) (m := 9) hn (by omega) (by omega)
  have l3 := drawN_lt n (drawN n (drawN n 0 m).1 9).1 20 (by omega)
  have d3 := draw_val (k := (drawN n (drawN n 0 m).1 9).1) (m := 20) hn (by omega) (by omega)
  rw [show ((0 : Nat) : Int) = 0 from rfl] at d1
  rw [show ((9 : Nat) : Int) = 9 from rfl] at d2
  rw [show ((20 : Nat) : Int) = 20 from rfl] at d3
  have hst : stepE m l n = (if (drawN n (drawN n (drawN n (drawN n 0 m).1 9).1 20).1 4).2 ≤ 1 then ⟨0, wrt p, 2, p.Day + ((drawN n (drawN n 0 m).1 9).2 / 3 : Nat), ((drawN n (drawN n (drawN n (drawN n (drawN n 0 m).1 9).1 20).1 4).1 8).2 : Int), [], rootT (drawN n (drawN n (drawN n 0 m).1 9).1 20).2, [], []⟩
    else if (drawN n (drawN n (drawN n (drawN n 0 m).1 9).1 20).1 4).2 = 2 then ⟨0, wrt p, 3, p.Day + ((drawN n (drawN n 0 m).1 9).2 / 3 : Nat), 0, [], p.After, [], []⟩
    else ⟨0, wrt p, 4, p.Day + ((drawN n (drawN n 0 m).1 9).2 / 3 : Nat), ((drawN n (drawN n (drawN n (drawN n (drawN n 0 m).1 9).1 20).1 4).1 m).2 : Int), [], p.After, [], []⟩) := by
    unfold stepE; rw [hp]
  have l4 := drawN_lt n (drawN n (drawN n (drawN n 0 m).1 9).1 20).1 4 (by omega)
  have d4 := draw_val (k := (drawN n (drawN n (drawN n 0 m).1 9).1 20).1) (m := 4) hn (by omega) (by omega)
  have a4 := drawN_at2 n (drawN n (drawN n (drawN n 0 m).1 9).1 20).1 4 3 a3
  rw [show ((4 : Nat) : Int) = 4 from rfl] at d4
  generalize (drawN n (drawN n (drawN n (drawN n 0 m).1 9).1 20).1 4).1 = q4 at *
  generalize (drawN n (drawN n (drawN n (drawN n 0 m).1 9).1 20).1 4).2 = r4 at *
  generalize (drawN n (drawN n (drawN n 0 m).1 9).1 20).1 = q3 at *
  generalize (drawN n (drawN n (drawN n 0 m).1 9).1 20).2 = r3 at *
  generalize (drawN n (drawN n 0 m).1 9).1 = q2 at *
  generalize (drawN n (drawN n 0 m).1 9).2 = r2 at *
  generalize (drawN n 0 m).1 = q1 at *
  generalize (drawN n 0 m).2 = r1 at *
  have l5 := drawN_lt n q4 8 (by omega)
  have d5 := draw_val (k := q4) (m := 8) hn (by omega) (by omega)
  have a5 := drawN_at2 n q4 8 4 a4
  have l6 := drawN_lt n q4 m (by omega)
  rw [show ((8 : Nat) : Int) = 8 from rfl] at d5
  have hday : IntKind.wrap .i64 (p.Day + IntKind.wrap .i64 (Int.tdiv (r2 : Int) 3)) = p.Day + ((r2 / 3 : Nat) : Int) := by
    rw [show Int.tdiv (r2 : Int) 3 = ((r2 / 3 : Nat) : Int) by rw [Int.tdiv_eq_ediv_of_nonneg (by omega)]; omega, wrapi (n := ((r2 / 3 : Nat) : Int)) (by omega), wrapi (by omega)]
  have iI : ∀ z : Int, 0 ≤ z → z < 10000000 → I64 z := by intro z h1 h2; unfold I64; omega
  have hw2 : ∀ z : Nat, z < 8 → EW ⟨0, wrt p, 2, p.Day + ((r2 / 3 : Nat) : Int), (z : Int), [], rootT r3, [], []⟩ := by
    intro z hz
    exact ⟨iI _ (by simp) (by simp), by show I64 (wrt p); rw [hs]; exact iI _ (by omega) (by omega), iI _ (by simp) (by simp), iI _ (by show 0 ≤ p.Day + _; omega) (by show p.Day + _ < _; omega), iI _ (by show (0 : Int) ≤ (z : Int); omega) (by show (z : Int) < _; omega), by simp, by show (rootT _).length ≤ _; rw [rootT_len]; decide, by simp, by simp⟩
  have hw3 : ∀ (kd : Int) (z : Nat), 0 ≤ kd → kd ≤ 4 → z ≤ 200 → EW ⟨0, wrt p, kd, p.Day + ((r2 / 3 : Nat) : Int), (z : Int), [], p.After, [], []⟩ := by
    intro kd z h1 h2 hz
    exact ⟨iI _ (by simp) (by simp), by show I64 (wrt p); rw [hs]; exact iI _ (by omega) (by omega), iI _ h1 (by show kd < _; omega), iI _ (by show 0 ≤ p.Day + _; omega) (by show p.Day + _ < _; omega), iI _ (by show (0 : Int) ≤ (z : Int); omega) (by show (z : Int) < _; omega), by simp, hpw.after, by simp, by simp⟩
  have hlen : decide ((l.length : Int) > 0) = true := by rw [decide_eq_true_iff]; omega
  have hpos : (colletref37_Step (keysT m) l n).val = some (signE (keyT k) (nextE l (if r4 ≤ 1 then ⟨0, wrt p, 2, p.Day + ((r2 / 3 : Nat) : Int), ((drawN n q4 8).2 : Int), [], rootT r3, [], []⟩
      else if r4 = 2 then ⟨0, wrt p, 3, p.Day + ((r2 / 3 : Nat) : Int), 0, [], p.After, [], []⟩
      else ⟨0, wrt p, 4, p.Day + ((r2 / 3 : Nat) : Int), ((drawN n q4 m).2 : Int), [], p.After, [], []⟩))) := by
    unfold colletref37_Step
    rw [keysT_len, Comp.val_bind, d1, Option.bind_some, Comp.val_bind, d2, Option.bind_some, Comp.val_bind, d3, Option.bind_some, Comp.val_bind, root37_val (by omega), Option.bind_some, Comp.val_ite, if_pos hlen, Comp.val_bind, hidx, Option.bind_some, Comp.val_bind, d4, Option.bind_some]
    dsimp only
    rw [Comp.val_bind, idx_kind _ l4, Option.bind_some, Comp.val_bind, writer_val, Option.bind_some, Comp.val_ite]
    by_cases c1 : r4 ≤ 1
    · simp only [if_pos c1]
      rw [if_pos (by simp), Comp.val_bind, d5, Option.bind_some]
      show (colletref37_Step_j2 (keysT m) l n ((drawN n q4 8).1 : Int) 0 (wrt p) 2 (IntKind.wrap .i64 (p.Day + IntKind.wrap .i64 (Int.tdiv (r2 : Int) 3))) ((drawN n q4 8).2 : Int) [] (rootT r3) [] []).val = _
      rw [hday]
      exact j2_val (kind := 2) (N := ((drawN n q4 8).2 : Int)) hm hn (by omega) hk hs (by omega) hw (hw2 _ l5)
    · simp only [if_neg c1]
      by_cases c2 : r4 = 2
      · simp only [if_pos c2]
        rw [if_neg (by simp)]
        show (colletref37_Step_j2 (keysT m) l n (q4 : Int) 0 (wrt p) 3 (IntKind.wrap .i64 (p.Day + IntKind.wrap .i64 (Int.tdiv (r2 : Int) 3))) 0 [] p.After [] []).val = _
        rw [hday]
        exact j2_val (kind := 3) (N := 0) hm hn (by omega) hk hs (by omega) hw (hw3 3 0 (by omega) (by omega) (by omega))
      · simp only [if_neg c2]
        rw [if_neg (by simp)]
        show (colletref37_Step_j2 (keysT m) l n (q4 : Int) 0 (wrt p) 4 (IntKind.wrap .i64 (p.Day + IntKind.wrap .i64 (Int.tdiv (r2 : Int) 3))) 0 [] p.After [] []).val = _
        rw [hday]
        exact j2_val (kind := 4) (N := 0) hm hn (by omega) hk hs (by omega) hw (hw3 4 _ (by omega) (by omega) (by omega))
  rw [hst]
  refine ⟨hpos, ?_⟩
  by_cases c1 : r4 ≤ 1
  · rw [if_pos c1]; exact hw2 _ l5
  · rw [if_neg c1]
    by_cases c2 : r4 = 2
    · rw [if_pos c2]; exact hw3 3 0 (by omega) (by omega) (by omega)
    · rw [if_neg c2]; exact hw3 4 _ (by omega) (by omega) (by omega)
end Go.Dgp
end
section
set_option linter.unusedVariables false
set_option linter.unusedSimpArgs false
namespace Go.Lift
open Go Go.Eng
variable {α β γ δ ε σ τ : Type}
def Ok (c : Comp α) (P : α → Prop) : Prop := ∃ a, c.val = some a ∧ P a
namespace Ok
theorem of_val {c : Comp α} {a : α} {P : α → Prop} (h : c.val = some a) : Ok c P ↔ P a := by
  constructor
  · rintro ⟨b, h1, h2⟩; rw [h] at h1; cases h1; exact h2
  · exact fun hp => ⟨a, h, hp⟩
theorem val {c : Comp α} {a : α} (h : Ok c (fun x => x = a)) : c.val = some a := by
  obtain ⟨b, h1, h2⟩ := h; rw [h1, h2]
theorem mono {c : Comp α} {P Q : α → Prop} (h : Ok c P) (i : ∀ a, P a → Q a) : Ok c Q := by
  obtain ⟨a, h1, h2⟩ := h; exact ⟨a, h1, i a h2⟩
theorem pure {a : α} {P : α → Prop} : Ok (Comp.pure a) P ↔ P a := of_val (Comp.val_pure a)
theorem bind {c : Comp α} {f : α → Comp β} {P : β → Prop} : Ok (c.bind f) P ↔ Ok c fun a => Ok (f a) P := by
  unfold Ok
  rw [Comp.val_bind]
  cases hc : c.val with
  | none => simp
  | some a => simp
theorem ite {p : Prop} [Decidable p] {c d : Comp α} {P : α → Prop} : Ok (if p then c else d) P ↔ if p then Ok c P else Ok d P := by split <;> rfl
theorem gd {g : Bool} {c : Comp α} {d : α} {P : α → Prop} : Ok (Comp.gd g c d) P ↔ if g = true then Ok c P else P d := by
  cases g with
  | true => exact Iff.rfl
  | false => exact pure
theorem idx {xs : List α} {i : Int} {P : α → Prop} {x : α} (h0 : 0 ≤ i) (h : xs[i.toNat]? = some x) : Ok (Lift.idx xs i) P ↔ P x := of_val (idx_val' h0 h)
theorem idxn {xs : List α} {i : Nat} {P : α → Prop} {x : α} (h : xs[i]? = some x) : Ok (Lift.idx xs (i : Int)) P ↔ P x := of_val (idx_val h)
theorem app {xs ys : List α} {P : List α → Prop} (h : xs.length + ys.length ≤ LIM) : Ok (Lift.app xs ys) P ↔ P (xs ++ ys) := of_val (app_val h)
theorem sub {xs : List α} {l h : Int} {P : List α → Prop} (hr : 0 ≤ l ∧ l ≤ h ∧ h ≤ xs.length) : Ok (Lift.sub xs l h) P ↔ P ((xs.take h.toNat).drop l.toNat) := of_val (sub_val hr)
theorem rem {a b : Int} {P : Int → Prop} (h : b ≠ 0) : Ok (Lift.rem a b) P ↔ P (a.tmod b) := of_val (rem_val h)
theorem upd {xs : List α} {i : Int} {x : α} {P : List α → Prop} (h : 0 ≤ i ∧ i < xs.length) : Ok (Lift.upd xs i x) P ↔ P (xs.set i.toNat x) := of_val (upd_val h)
theorem mk {n : Int} {z : α} {P : List α → Prop} (h : 0 ≤ n ∧ n ≤ LIM) : Ok (Lift.mk n z) P ↔ P (List.replicate n.toNat z) := of_val (mk_val h)
theorem nonneg {n : Int} {P : Unit → Prop} (h : 0 ≤ n) : Ok (Lift.nonneg n) P ↔ P () := of_val (nonneg_val h)
theorem loop {body : σ → Comp (Comp.Step σ ε)} (I : σ → Prop) (m : σ → Nat) {P : ε → Prop} {s : σ} (h0 : I s)
    (hb : ∀ s, I s → Ok (body s) fun t => match t with | .next s' => I s' ∧ m s' < m s | .done e => P e) : Ok (Comp.loop body s) P := by
  have key : ∀ k s, m s = k → I s → Ok (Comp.loop body s) P := by
    intro k
    induction k using Nat.strongRecOn with
    | _ k ih =>
      intro s hk hI
      obtain ⟨t, h1, h2⟩ := hb s hI
      cases t with
      | next s' =>
        obtain ⟨e, h3, h4⟩ := ih (m s') (by have := h2.2; omega) s' rfl h2.1
        exact ⟨e, by rw [Comp.val_loop, h1]; exact h3, h4⟩
      | done e => exact ⟨e, by rw [Comp.val_loop, h1]; rfl, h2⟩
  exact key _ s rfl h0
theorem count {body : σ → Comp (Comp.Step σ ε)} (N : Nat) (I : Nat → σ → Prop) {P : ε → Prop} {s : σ} (h0 : I 0 s)
    (hb : ∀ i s, i < N → I i s → Ok (body s) fun t => match t with | .next s' => I (i + 1) s' | .done e => P e)
    (he : ∀ s, I N s → Ok (body s) fun t => match t with | .next _ => False | .done e => P e) : Ok (Comp.loop body s) P := by
  have key : ∀ k i s, i + k = N → I i s → Ok (Comp.loop body s) P := by
    intro k
    induction k with
    | zero =>
      intro i s hi hI
      have : i = N := by omega
      subst this
      obtain ⟨t, h1, h2⟩ := he s hI
      cases t with
      | next _ => exact h2.elim
      | done e => exact ⟨e, by rw [Comp.val_loop, h1]; rfl, h2⟩
    | succ k ih =>
      intro i s hi hI
      obtain ⟨t, h1, h2⟩ := hb i s (by omega) hI
      cases t with
      | next s' =>
        obtain ⟨e, h3, h4⟩ := ih (i + 1) s' (by omega) h2
        exact ⟨e, by rw [Comp.val_loop, h1]; exact h3, h4⟩
      | done e => exact ⟨e, by rw [Comp.val_loop, h1]; rfl, h2⟩
  exact key N 0 s (by omega) h0
theorem tt {c : Comp Bool} (h : Ok c fun b => b = true) : c.val = some true := val h
end Ok
theorem bif_and (b c : Bool) : (bif b then c else false) = (b && c) := by cases b <;> rfl
end Go.Lift
end
section
set_option linter.unusedVariables false
set_option linter.unusedSimpArgs false
namespace Go.Dgp
open Go Go.Lift Go.F
open Go.Dig hiding Bytes cat
def shopB (m : Nat) (n : Int) : Bool := bif decide (n ≥ 0) then decide (n < (m : Int)) else false
theorem shopB_iff {m : Nat} {n : Int} : shopB m n = true ↔ 0 ≤ n ∧ n < (m : Int) := by
  unfold shopB
  by_cases h : n ≥ 0
  · simp [h]
  · simp [h]
def wrtP : Option api_Entry → Int | none => 0 | some p => wrt p
def dayP : Option api_Entry → Int | none => 0 | some p => p.Day
def prevP : Option api_Entry → Bytes | none => [] | some p => linkE p
def befP : Option api_Entry → Bytes | none => [] | some p => p.After
def mrk (keys : List Bytes) (e : api_Entry) : Bool := match keys[e.Shop.toNat]? with | some k => chk k (vbytes e) e.Mark | none => false
def d2 (keys : List Bytes) (k : Nat) (p : Option api_Entry) (e : api_Entry) : Bool := bif shopB keys.length e.Shop then (bif decide ((k : Int) = 0) then true else decide (e.Shop = wrtP p)) else false
def d3 (k : Nat) (e : api_Entry) : Bool := bif decide (decide (e.Kind = 1) = decide ((k : Int) = 0)) then (bif (bif (bif decide (e.Kind = 1) then true else decide (e.Kind = 2)) then true else decide (e.Kind = 4)) then true else decide (e.Kind = 3)) else false
def d4 (keys : List Bytes) (e : api_Entry) : Bool := bif !decide (e.Kind = 4) then true else shopB keys.length e.N
def d5 (e : api_Entry) : Bool := bif (bif decide (e.Kind = 4) then true else decide (e.N = 0)) then true else (bif (bif decide (e.Kind = 2) then decide (e.N > 0) else false) then decide (e.N ≤ 1048576) else false)
def d6 (e : api_Entry) : Bool := bif decide (e.Day ≥ 0) then decide (e.Day ≤ 100000) else false
def d9 (p : Option api_Entry) (e : api_Entry) : Bool := bif (bif decide (e.Before = befP p) then decide ((e.After.length : Int) = 8) else false) then (bif (bif decide (e.Kind = 1) then true else decide (e.Kind = 2)) then true else decide (e.After = e.Before)) else false
def entE (keys : List Bytes) (k : Nat) (p : Option api_Entry) (e : api_Entry) : Int :=
  if decide (e.Seq = (k : Int)) = true then
    if d2 keys k p e = true then
      if d3 k e = true then
        if d4 keys e = true then
          if d5 e = true then
            if d6 e = true then
              if decide (e.Day ≥ dayP p) = true then
                if decide (e.Prev = prevP p) = true then
                  if d9 p e = true then
                    if mrk keys e = true then 0 else 50
                  else 53
                else 51
              else 7
            else 3
          else 4
        else 55
      else 4
    else 55
  else 7
end Go.Dgp
end
section
set_option linter.unusedVariables false
set_option linter.unusedSimpArgs false
namespace Go.Dgp
open Go Go.Lift Go.F
open Go.Dig hiding Bytes cat
theorem gdT {α : Type} (c : Comp α) (d : α) : Comp.gd true c d = c := rfl
end Go.Dgp
end
section
set_option linter.unusedVariables false
set_option linter.unusedSimpArgs false
namespace Go.Dgp
open Go Go.Lift Go.F
open Go.Dig hiding Bytes cat
def allR (keys : List Bytes) : Nat → Option api_Entry → List api_Entry → Prop
  | _, _, [] => True
  | k, p, e :: es => entE keys k p e = 0 ∧ allR keys (k + 1) (some e) es
def lastP (p : Option api_Entry) : List api_Entry → Option api_Entry
  | [] => p
  | e :: es => lastP (some e) es
theorem lastP_none : ∀ (l : List api_Entry) (p : Option api_Entry), lastP p l = l.getLast?.or p
  | [], p => by simp [lastP]
  | e :: es, p => by
    rw [lastP, lastP_none es (some e), List.getLast?_cons]
    cases h : es.getLast? <;> simp
theorem lastP_eq (l : List api_Entry) : lastP none l = l.getLast? := by rw [lastP_none]; simp
theorem allR_app (keys : List Bytes) : ∀ (a b : List api_Entry) (k : Nat) (p : Option api_Entry), allR keys k p (a ++ b) ↔ allR keys k p a ∧ allR keys (k + a.length) (lastP p a) b
  | [], b, k, p => by simp [allR, lastP]
  | e :: es, b, k, p => by
    rw [List.cons_append, allR, allR, allR_app keys es b, lastP, List.length_cons, and_assoc]
    rw [show k + 1 + es.length = k + (es.length + 1) by omega]
theorem chk_own {k m : Bytes} (h : k ≠ []) : chk k m (D (markL k m)) = true := by unfold chk; simp [h]
theorem grow {keys : List Bytes} {l : List api_Entry} {e : api_Entry} {key : Bytes} (hs : shopB keys.length e.Shop = true) (hkey : keys[e.Shop.toNat]? = some key) (hne : key ≠ [])
    (h0 : l = [] → e.Kind = 1 ∧ e.Before = []) (h1 : ∀ p, l.getLast? = some p → e.Shop = wrt p ∧ (e.Kind = 2 ∨ e.Kind = 3 ∨ e.Kind = 4) ∧ p.Day ≤ e.Day ∧ (e.Kind = 3 ∨ e.Kind = 4 → e.After = p.After))
    (hN4 : e.Kind = 4 → shopB keys.length e.N = true) (hN : e.Kind ≠ 4 → e.N = 0 ∨ e.Kind = 2 ∧ 0 < e.N ∧ e.N ≤ 1048576) (hd : 0 ≤ e.Day ∧ e.Day ≤ 100000) (ha : e.After.length = 8) :
    entE keys l.length l.getLast? (signE key (nextE l e)) = 0 := by
  have hm : mrk keys (signE key (nextE l e)) = true := by
    have e1 : (signE key (nextE l e)).Shop = e.Shop := by unfold signE nextE; cases l.getLast? <;> rfl
    unfold mrk
    rw [e1, hkey]
    exact chk_own hne
  have h5 : d5 (signE key (nextE l e)) = true := by
    have e1 : (signE key (nextE l e)).Kind = e.Kind := by unfold signE nextE; cases l.getLast? <;> rfl
    have e2 : (signE key (nextE l e)).N = e.N := by unfold signE nextE; cases l.getLast? <;> rfl
    unfold d5; rw [e1, e2]
    by_cases hk : e.Kind = 4
    · simp [hk]
    · rcases hN hk with h | ⟨h1, h2, h3⟩
      · simp [h]
      · simp [h1, h2, h3]
  have h4 : d4 keys (signE key (nextE l e)) = true := by
    have e1 : (signE key (nextE l e)).Kind = e.Kind := by unfold signE nextE; cases l.getLast? <;> rfl
    have e2 : (signE key (nextE l e)).N = e.N := by unfold signE nextE; cases l.getLast? <;> rfl
    unfold d4; rw [e1, e2]
    by_cases hk : e.Kind = 4
    · simp [hk, hN4 hk]
    · simp [hk]
  have h6 : d6 (signE key (nextE l e)) = true := by
    have e1 : (signE key (nextE l e)).Day = e.Day := by unfold signE nextE; cases l.getLast? <;> rfl
    unfold d6; rw [e1]; simp [hd]
  have hseq : (signE key (nextE l e)).Seq = (l.length : Int) := by unfold signE nextE; cases l.getLast? <;> rfl
  unfold entE
  rw [hm, h4, h5, h6, decide_eq_true hseq]
  simp only [if_true]
  cases hl : l.getLast? with
  | none =>
    have hnil : l = [] := List.getLast?_eq_none_iff.1 hl
    obtain ⟨k1, b0⟩ := h0 hnil
    subst hnil
    have e2 : d2 keys ([] : List api_Entry).length none (signE key (nextE [] e)) = true := by
      unfold d2
      rw [show (signE key (nextE [] e)).Shop = e.Shop from rfl, hs]; rfl
    have e3 : d3 ([] : List api_Entry).length (signE key (nextE [] e)) = true := by
      unfold d3
      rw [show (signE key (nextE [] e)).Kind = e.Kind from rfl, k1]; rfl
    have e9 : d9 none (signE key (nextE [] e)) = true := by
      unfold d9
      rw [show (signE key (nextE [] e)).Kind = e.Kind from rfl, show (signE key (nextE [] e)).Before = e.Before from rfl, show (signE key (nextE [] e)).After = e.After from rfl, k1, b0, show befP none = [] from rfl]
      simp [ha]
    rw [e2, e3, e9, decide_eq_true (show (signE key (nextE [] e)).Day ≥ dayP none from hd.1), decide_eq_true (show (signE key (nextE [] e)).Prev = prevP none from rfl)]
    rfl
  | some p =>
    obtain ⟨k1, k2, k3, k4⟩ := h1 p hl
    have hpos : ¬ (l.length : Int) = 0 := by
      intro h
      have : l = [] := List.eq_nil_of_length_eq_zero (by omega)
      rw [this] at hl; cases hl
    have hx : signE key (nextE l e) = signE key ⟨(l.length : Int), e.Shop, e.Kind, e.Day, e.N, p.After, e.After, linkE p, []⟩ := by unfold nextE; rw [hl]
    rw [hx]
    have e2 : d2 keys l.length (some p) (signE key ⟨(l.length : Int), e.Shop, e.Kind, e.Day, e.N, p.After, e.After, linkE p, []⟩) = true := by
      unfold d2
      show (bif shopB keys.length e.Shop then (bif decide ((l.length : Int) = 0) then true else decide (e.Shop = wrt p)) else false) = true
      rw [hs, decide_eq_true k1]; simp
    have e3 : d3 l.length (signE key ⟨(l.length : Int), e.Shop, e.Kind, e.Day, e.N, p.After, e.After, linkE p, []⟩) = true := by
      unfold d3
      show (bif decide (decide (e.Kind = 1) = decide ((l.length : Int) = 0)) then (bif (bif (bif decide (e.Kind = 1) then true else decide (e.Kind = 2)) then true else decide (e.Kind = 4)) then true else decide (e.Kind = 3)) else false) = true
      rw [decide_eq_false hpos]
      rcases k2 with h | h | h <;> simp [h]
    have e9 : d9 (some p) (signE key ⟨(l.length : Int), e.Shop, e.Kind, e.Day, e.N, p.After, e.After, linkE p, []⟩) = true := by
      unfold d9
      show (bif (bif decide (p.After = p.After) then decide ((e.After.length : Int) = 8) else false) then (bif (bif decide (e.Kind = 1) then true else decide (e.Kind = 2)) then true else decide (e.After = p.After)) else false) = true
      rcases k2 with h | h | h
      · simp [h, ha]
      · simp [h, ha, k4 (Or.inl h)]; rw [← k4 (Or.inl h)]; omega
      · simp [h, ha, k4 (Or.inr h)]; rw [← k4 (Or.inr h)]; omega
    rw [e2, e3, e9, decide_eq_true (show (signE key ⟨(l.length : Int), e.Shop, e.Kind, e.Day, e.N, p.After, e.After, linkE p, []⟩).Day ≥ dayP (some p) from k3), decide_eq_true (show (signE key ⟨(l.length : Int), e.Shop, e.Kind, e.Day, e.N, p.After, e.After, linkE p, []⟩).Prev = prevP (some p) from rfl)]
    rfl
structure Good (m : Nat) (l : List api_Entry) : Prop where
  ew : ∀ e ∈ l, EW e
  r : allR (keysT m) 0 none l
  day : ∀ e ∈ l, 0 ≤ e.Day ∧ e.Day ≤ 10 * (l.length : Int)
  aft : ∀ e ∈ l, e.After.length = 8
theorem Good.nil (m : Nat) : Good m [] := ⟨by simp, trivial, by simp, by simp⟩
theorem d_of_ent {keys : List Bytes} {k : Nat} {p : Option api_Entry} {e : api_Entry} (h : entE keys k p e = 0) :
    e.Seq = (k : Int) ∧ d2 keys k p e = true ∧ d3 k e = true ∧ d4 keys e = true ∧ d5 e = true ∧ d6 e = true ∧ e.Day ≥ dayP p ∧ e.Prev = prevP p ∧ d9 p e = true ∧ mrk keys e = true := by
  unfold entE at h
  by_cases c1 : decide (e.Seq = (k : Int)) = true
  rotate_left
  · rw [if_neg c1] at h; simp at h
  rw [if_pos c1] at h
  by_cases c2 : d2 keys k p e = true
  rotate_left
  · rw [if_neg c2] at h; simp at h
  rw [if_pos c2] at h
  by_cases c3 : d3 k e = true
  rotate_left
  · rw [if_neg c3] at h; simp at h
  rw [if_pos c3] at h
  by_cases c4 : d4 keys e = true
  rotate_left
  · rw [if_neg c4] at h; simp at h
  rw [if_pos c4] at h
  by_cases c5 : d5 e = true
  rotate_left
  · rw [if_neg c5] at h; simp at h
  rw [if_pos c5] at h
  by_cases c6 : d6 e = true
  rotate_left
  · rw [if_neg c6] at h; simp at h
  rw [if_pos c6] at h
  by_cases c7 : decide (e.Day ≥ dayP p) = true
  rotate_left
  · rw [if_neg c7] at h; simp at h
  rw [if_pos c7] at h
  by_cases c8 : decide (e.Prev = prevP p) = true
  rotate_left
  · rw [if_neg c8] at h; simp at h
  rw [if_pos c8] at h
  by_cases c9 : d9 p e = true
  rotate_left
  · rw [if_neg c9] at h; simp at h
  rw [if_pos c9] at h
  by_cases c10 : mrk keys e = true
  rotate_left
  · rw [if_neg c10] at h; simp at h
  exact ⟨of_decide_eq_true c1, c2, c3, c4, c5, c6, of_decide_eq_true c7, of_decide_eq_true c8, c9, c10⟩
theorem shop_of_d2 {keys : List Bytes} {k : Nat} {p : Option api_Entry} {e : api_Entry} (h : d2 keys k p e = true) : shopB keys.length e.Shop = true := by
  unfold d2 at h
  cases hc : shopB keys.length e.Shop with
  | true => rfl
  | false => rw [hc] at h; exact h
theorem allR_mem {keys : List Bytes} : ∀ {l : List api_Entry} {k : Nat} {p : Option api_Entry}, allR keys k p l → ∀ e ∈ l, ∃ k' p', entE keys k' p' e = 0
  | [], _, _, _, _, he => by simp at he
  | x :: xs, k, p, h, e, he => by
    rw [allR] at h
    rcases List.mem_cons.1 he with rfl | he
    · exact ⟨k, p, h.1⟩
    · exact allR_mem h.2 e he
theorem wrt_known {m : Nat} {l : List api_Entry} (hg : Good m l) {p : api_Entry} (hp : p ∈ l) : shopB m (wrt p) = true := by
  obtain ⟨k, q, h⟩ := allR_mem hg.r p hp
  obtain ⟨_, h2, _, h4, _⟩ := d_of_ent h
  have := shop_of_d2 h2
  rw [keysT_len] at this
  unfold wrt
  by_cases hk : p.Kind = 4
  · rw [if_pos hk]
    unfold d4 at h4
    rw [keysT_len] at h4
    simpa [hk] using h4
  · rw [if_neg hk]; exact this
theorem keyT_ne (k : Nat) : keyT k ≠ [] := by unfold keyT; simp
theorem stepE_day {m : Nat} {l : List api_Entry} {n : List Int} : (l = [] → 0 ≤ (stepE m l n).Day ∧ (stepE m l n).Day ≤ 8) ∧ (∀ p, l.getLast? = some p → p.Day ≤ (stepE m l n).Day ∧ (stepE m l n).Day ≤ p.Day + 2) := by
  have l2 := drawN_lt n (drawN n 0 m).1 9 (by omega)
  constructor
  · intro h; subst h
    show (0 : Int) ≤ ((drawN n (drawN n 0 m).1 9).2 : Int) ∧ ((drawN n (drawN n 0 m).1 9).2 : Int) ≤ 8
    omega
  · intro p hp
    unfold stepE
    rw [hp]
    simp only []
    by_cases c1 : (drawN n (drawN n (drawN n (drawN n 0 m).1 9).1 20).1 4).2 ≤ 1
    · rw [if_pos c1]
      show p.Day ≤ p.Day + ((_ : Nat) : Int) ∧ p.Day + ((_ : Nat) : Int) ≤ p.Day + 2
      omega
    · rw [if_neg c1]
      by_cases c2 : (drawN n (drawN n (drawN n (drawN n 0 m).1 9).1 20).1 4).2 = 2
      · rw [if_pos c2]
        show p.Day ≤ p.Day + ((_ : Nat) : Int) ∧ p.Day + ((_ : Nat) : Int) ≤ p.Day + 2
        omega
      · rw [if_neg c2]
        show p.Day ≤ p.Day + ((_ : Nat) : Int) ∧ p.Day + ((_ : Nat) : Int) ≤ p.Day + 2
        omega
theorem step_good {m : Nat} (hm : 1 ≤ m ∧ m ≤ 200) {l : List api_Entry} (hg : Good m l) (hl : l.length ≤ 500) {n : List Int} (hn : ∀ x ∈ n, I64 x) :
    ∃ e, (colletref37_Step (keysT m) l n).val = some e ∧ Good m (l ++ [e]) := by
  cases hp : l.getLast? with
  | none =>
    have hnil : l = [] := List.getLast?_eq_none_iff.1 hp
    subst hnil
    obtain ⟨h1, h2⟩ := step0_val hm hn
    have hd := (stepE_day (m := m) (l := []) (n := n)).1 rfl
    have l1 := drawN_lt n 0 m hm.1
    have hsh : (stepE m [] n).Shop = ((drawN n 0 m).2 : Int) := rfl
    have haf : (stepE m [] n).After.length = 8 := rootT_len _
    refine ⟨_, h1, ?_⟩
    have hE : EW (signE (keyT (drawN n 0 m).2) (nextE [] (stepE m [] n))) := signE_wf (nextE_wf (by simp) (by simp) h2)
    refine ⟨by simpa using hE, ?_, ?_, ?_⟩
    · rw [List.nil_append, allR]
      refine ⟨?_, trivial⟩
      refine grow (l := []) (by rw [keysT_len, hsh, shopB_iff]; omega) (key := keyT (drawN n 0 m).2) ?_ (keyT_ne _) (fun _ => ⟨rfl, rfl⟩) (by simp) (fun h => ?_) (fun _ => Or.inl rfl) ⟨hd.1, by omega⟩ haf
      · rw [hsh, Int.toNat_natCast, keysT_get l1]
      · exact absurd (show (1 : Int) = 4 from h) (by decide)
    · intro e he
      rw [List.nil_append, List.mem_singleton] at he
      subst he
      show 0 ≤ (stepE m [] n).Day ∧ (stepE m [] n).Day ≤ 10 * _
      simp; omega
    · intro e he
      rw [List.nil_append, List.mem_singleton] at he
      subst he
      exact haf
  | some p =>
    have hpm : p ∈ l := List.mem_of_getLast? hp
    have hpos : 0 < l.length := List.length_pos_of_mem hpm
    have hw := wrt_known hg hpm
    rw [shopB_iff] at hw
    have hday := hg.day p hpm
    obtain ⟨h1, h2⟩ := stepK_val hm hn ⟨hpos, by omega⟩ hg.ew hp (k := (wrt p).toNat) (by omega) (by omega) (by omega)
    have hd := (stepE_day (m := m) (l := l) (n := n)).2 p hp
    have hpa := hg.aft p hpm
    have hst : (stepE m l n).Shop = wrt p ∧ ((stepE m l n).Kind = 2 ∨ (stepE m l n).Kind = 3 ∨ (stepE m l n).Kind = 4) ∧ ((stepE m l n).Kind = 3 ∨ (stepE m l n).Kind = 4 → (stepE m l n).After = p.After) ∧ ((stepE m l n).Kind = 4 → shopB m (stepE m l n).N = true)
        ∧ ((stepE m l n).Kind ≠ 4 → (stepE m l n).N = 0 ∨ (stepE m l n).Kind = 2 ∧ 0 < (stepE m l n).N ∧ (stepE m l n).N ≤ 1048576) ∧ (stepE m l n).After.length = 8 := by
      unfold stepE
      rw [hp]
      simp only []
      have l5 := drawN_lt n (drawN n (drawN n (drawN n (drawN n 0 m).1 9).1 20).1 4).1 8 (by omega)
      have l6 := drawN_lt n (drawN n (drawN n (drawN n (drawN n 0 m).1 9).1 20).1 4).1 m (by omega)
      by_cases c1 : (drawN n (drawN n (drawN n (drawN n 0 m).1 9).1 20).1 4).2 ≤ 1
      · rw [if_pos c1]
        refine ⟨rfl, Or.inl rfl, by simp, by simp, fun _ => ?_, rootT_len _⟩
        show ((drawN n _ 8).2 : Int) = 0 ∨ (2 : Int) = 2 ∧ 0 < ((drawN n _ 8).2 : Int) ∧ ((drawN n _ 8).2 : Int) ≤ 1048576
        omega
      · rw [if_neg c1]
        by_cases c2 : (drawN n (drawN n (drawN n (drawN n 0 m).1 9).1 20).1 4).2 = 2
        · rw [if_pos c2]
          exact ⟨rfl, Or.inr (Or.inl rfl), fun _ => rfl, by simp, fun _ => Or.inl rfl, hpa⟩
        · rw [if_neg c2]
          refine ⟨rfl, Or.inr (Or.inr rfl), fun _ => rfl, fun _ => ?_, by simp, hpa⟩
          rw [shopB_iff]
          show 0 ≤ ((drawN n _ m).2 : Int) ∧ ((drawN n _ m).2 : Int) < (m : Int)
          omega
    obtain ⟨s1, s2, s3, s4, s5, s6⟩ := hst
    refine ⟨_, h1, ?_⟩
    have hE : EW (signE (keyT (wrt p).toNat) (nextE l (stepE m l n))) := signE_wf (nextE_wf (by omega) hg.ew h2)
    have hday' : (signE (keyT (wrt p).toNat) (nextE l (stepE m l n))).Day = (stepE m l n).Day := by unfold signE nextE; cases l.getLast? <;> rfl
    have haft' : (signE (keyT (wrt p).toNat) (nextE l (stepE m l n))).After = (stepE m l n).After := by unfold signE nextE; cases l.getLast? <;> rfl
    refine ⟨?_, ?_, ?_, ?_⟩
    · intro e he
      rcases List.mem_append.1 he with he | he
      · exact hg.ew e he
      · rw [List.mem_singleton] at he; subst he; exact hE
    · rw [allR_app]
      refine ⟨hg.r, ?_, trivial⟩
      rw [Nat.zero_add, lastP_eq]
      refine grow (by rw [keysT_len, s1, shopB_iff]; omega) (key := keyT (wrt p).toNat) ?_ (keyT_ne _) (fun h => ?_) (fun q hq => ?_) (fun h => by rw [keysT_len]; exact s4 h) s5 ⟨by omega, by omega⟩ s6
      · rw [s1, keysT_get (by omega)]
      · rw [h] at hp; cases hp
      · rw [hp] at hq; cases hq
        exact ⟨s1, s2, hd.1, s3⟩
    · intro e he
      rw [List.length_append, List.length_singleton]
      rcases List.mem_append.1 he with he | he
      · have := hg.day e he; omega
      · rw [List.mem_singleton] at he; subst he
        rw [hday']; omega
    · intro e he
      rcases List.mem_append.1 he with he | he
      · exact hg.aft e he
      · rw [List.mem_singleton] at he; subst he
        rw [haft']; exact s6
end Go.Dgp
end
section
set_option linter.unusedVariables false
set_option linter.unusedSimpArgs false
namespace Go.Dgp
open Go Go.Lift Go.F
set_option maxRecDepth 1000000 in
theorem san_val : (colletlaw37_sanity).val = some true := Comp.val_run (n := 130) (by kernel_rfl)
end Go.Dgp
end
section
set_option linter.unusedVariables false
set_option linter.unusedSimpArgs false
namespace Go.Dgp
open Go Go.Lift Go.F
open Go.Dig hiding Bytes cat
structure CW (c : colletlaw37_Case) : Prop where
  l : ∀ x ∈ c.L, ∀ y ∈ x, I64 y
  s : 0 ≤ c.Shops ∧ c.Shops < 256
theorem lsts_wf {c : colletlaw37_Case} (h : CW c) : ∀ x ∈ lsts c.L, ∀ y ∈ x, I64 y := by
  intro x hx y hy
  unfold lsts at hx
  obtain ⟨z, hz, rfl⟩ := List.mem_map.1 hx
  exact h.l z (List.mem_of_mem_take hz) y (List.mem_of_mem_take hy)
theorem made_good {m : Nat} (hm : 1 ≤ m ∧ m ≤ 200) {L : List (List Int)} (hL : ∀ x ∈ L, ∀ y ∈ x, I64 y) (hlen : L.length ≤ 100) :
    ∃ l, (colletref37_Made (keysT m) L 8).val = some l ∧ Good m l ∧ l.length ≤ 8 := by
  have key : Ok (colletref37_Made (keysT m) L 8) (fun l => Good m l ∧ l.length ≤ 8) := by
    unfold colletref37_Made
    rw [Ok.bind]
    refine Ok.count (min L.length 8) (fun i s => Good m s.1 ∧ s.1.length = i ∧ s.2 = (i : Int)) ⟨Good.nil m, rfl, rfl⟩ ?_ ?_
    · rintro i ⟨l, j⟩ hi ⟨h1, h2, h3⟩
      simp only at h1 h2 h3
      subst h3
      simp only []
      unfold colletref37_Made_l2
      obtain ⟨e, he, hg⟩ := step_good hm h1 (by omega) (n := L[i]) (hL _ (List.getElem_mem _))
      rw [Ok.bind, Ok.pure, Ok.ite, if_pos (by rw [bif_and]; simp; omega), Ok.bind, Ok.idxn (List.getElem?_eq_getElem (by omega)), Ok.bind, Ok.of_val he, Ok.bind, Ok.app (by simp; unfold LIM; omega), Ok.pure]
      refine ⟨hg, by simp [h2], ?_⟩
      rw [Comp.wrap_succ (by omega)]
    · rintro ⟨l, j⟩ ⟨h1, h2, h3⟩
      simp only at h1 h2 h3
      subst h3
      simp only []
      unfold colletref37_Made_l2
      rw [Ok.bind, Ok.pure, Ok.ite, if_neg (by rw [bif_and]; simp; omega), Ok.pure]
      simp only []
      unfold colletref37_Made_j1
      rw [Ok.pure]
      exact ⟨h1, by omega⟩
  obtain ⟨l, h1, h2⟩ := key
  exact ⟨l, h1, h2⟩
theorem made_val {c : colletlaw37_Case} (h : CW c) : ∃ m l, 1 ≤ m ∧ m ≤ 3 ∧ (colletlaw37_Case_made c).val = some (keysT m, l) ∧ Good m l ∧ l.length ≤ 8 := by
  obtain ⟨h1, h2⟩ := h.s
  have e : IntKind.wrap .i64 (1 + Int.tmod (IntKind.wrap .i64 c.Shops) 3) = ((1 + (c.Shops.toNat % 3) : Nat) : Int) := by
    rw [wrapi (n := c.Shops) (by omega), Int.tmod_eq_emod_of_nonneg h1, wrapi (by omega)]; omega
  obtain ⟨l, hl, hg, hn⟩ := made_good (m := 1 + c.Shops.toNat % 3) (by omega) (lsts_wf h) (by have := lsts_len c.L; omega)
  refine ⟨1 + c.Shops.toNat % 3, l, by omega, by omega, ?_, hg, hn⟩
  unfold colletlaw37_Case_made
  rw [e, Comp.val_bind, keys_val (by omega), Option.bind_some, Comp.val_bind, lists_val, Option.bind_some, Comp.val_bind]
  show ((colletref37_Made (keysT _) _ 8).val.bind _) = _
  rw [hl, Option.bind_some, Comp.val_pure]; rfl
structure EA (e : api_Entry) : Prop where
  seq : I64 e.Seq
  shop : I64 e.Shop
  kind : I64 e.Kind
  day : I64 e.Day
  n : I64 e.N
def shortE (e : api_Entry) : api_Entry := ⟨e.Seq, e.Shop, e.Kind, e.Day, e.N, e.Before.take 40, e.After.take 40, e.Prev.take 40, e.Mark.take 40⟩
theorem short_val (e : api_Entry) : (colletlaw37_short e).val = some (shortE e) := by
  unfold colletlaw37_short shortE
  have h := fun s : Bytes => sub0_val s 40
  rw [show ((40 : Nat) : Int) = 40 from rfl] at h
  rw [Comp.val_bind, h, Option.bind_some, Comp.val_bind, h, Option.bind_some, Comp.val_bind, h, Option.bind_some, Comp.val_bind, h, Option.bind_some, Comp.val_pure]
theorem short_wf {e : api_Entry} (h : EA e) : EW (shortE e) := by
  have t : ∀ s : Bytes, (s.take 40).length ≤ 68719476736 := fun s => Nat.le_trans (take_len s 40) (by decide)
  exact ⟨h.seq, h.shop, h.kind, h.day, h.n, t _, t _, t _, t _⟩
theorem forms_j3 {key : Bytes} (hk : key.length ≤ 40) {ks : List Bytes} {l : List api_Entry} {m : Nat} (hg : Good m l) (hl : l.length ≤ 8) {i : Nat} (hi : i ≤ l.length) {r e : api_Entry} (he : EW e) :
    (colletlaw37_PassportForms_j3 key (ks, l) (i : Int) r e).val = some (.next ((i + 1 : Nat) : Int)) := by
  have hs : (sub l 0 (i : Int)).val = some (l.take i) := by rw [sub_val ⟨by omega, by omega, by omega⟩]; simp
  have hw : ∀ x ∈ l.take i, EW x := fun x hx => hg.ew x (List.mem_of_mem_take hx)
  have hlen : (l.take i).length ≤ 1073741824 := by rw [List.length_take]; omega
  unfold colletlaw37_PassportForms_j3
  rw [Comp.val_bind, pBytes_val he, Option.bind_some, Comp.val_bind, rBytes_val he, Option.bind_some]
  simp [Comp.val_bind, gdT, pSign_val (key := key) (by omega) he, rSign_val (key := key) (by omega) he, hs, pNext_val (e := r) hlen hw, rNext_val (e := r) hlen hw, Comp.wrap_succ (show i < 9223372036854775807 by omega)]
theorem law_PassportForms {c : colletlaw37_Case} {raw : api_Entry} {key : Bytes} (hc : CW c) (hr : EA raw) : (colletlaw37_PassportForms c raw key).val = some true := by
  obtain ⟨m, l, hm1, hm2, hv, hg, hl⟩ := made_val hc
  have hw := short_wf hr
  have h40 := sub0_val key 40
  rw [show ((40 : Nat) : Int) = 40 from rfl] at h40
  have hk40 := take_len key 40
  unfold colletlaw37_PassportForms
  rw [Comp.val_bind, san_val, Option.bind_some, Comp.val_bind, hv, Option.bind_some, Comp.val_bind, short_val, Option.bind_some, Comp.val_bind, h40, Option.bind_some]
  have hloop := Comp.loop_seq (body := fun s : Int => colletlaw37_PassportForms_l2 (keysT m, l) (key.take 40) (shortE raw) s) (fun i => (i : Int)) (l.length + 1) (.inr ())
    (by
      intro i hi
      show (colletlaw37_PassportForms_l2 (keysT m, l) (key.take 40) (shortE raw) (i : Int)).val = _
      unfold colletlaw37_PassportForms_l2
      rw [Comp.val_ite, if_pos (by rw [decide_eq_true_iff]; show (i : Int) ≤ (l.length : Int); omega), Comp.val_ite]
      by_cases h : i < l.length
      · rw [if_pos (by rw [decide_eq_true_iff]; show (i : Int) < (l.length : Int); omega), Comp.val_bind]
        show ((idx l (i : Int)).val.bind _) = _
        rw [idxn, List.getElem?_eq_getElem h, Option.bind_some]
        exact forms_j3 hk40 hg hl (by omega) (hg.ew _ (List.getElem_mem _))
      · rw [if_neg (by rw [decide_eq_true_iff]; show ¬ (i : Int) < (l.length : Int); omega)]
        exact forms_j3 hk40 hg hl (by omega) hw)
    (by
      show (colletlaw37_PassportForms_l2 (keysT m, l) (key.take 40) (shortE raw) ((l.length + 1 : Nat) : Int)).val = _
      unfold colletlaw37_PassportForms_l2
      rw [Comp.val_ite, if_neg (by rw [decide_eq_true_iff]; show ¬ ((l.length + 1 : Nat) : Int) ≤ (l.length : Int); omega), Comp.val_pure])
  rw [Comp.val_bind]
  have hloop' : (Comp.loop (fun s : Int => colletlaw37_PassportForms_l2 (keysT m, l) (key.take 40) (shortE raw) s) 0).val = some (.inr ()) := hloop
  rw [hloop', Option.bind_some]
  show (colletlaw37_PassportForms_j1 true (shortE raw)).val = _
  unfold colletlaw37_PassportForms_j1
  have h1 : ∀ x ∈ [shortE raw], EW x := by intro x hx; rw [List.mem_singleton] at hx; subst hx; exact hw
  simp [Comp.val_bind, gdT, pNext_val (e := shortE raw) (l := [shortE raw]) (by simp) h1, rNext_val (e := shortE raw) (l := [shortE raw]) (by simp) h1]
end Go.Dgp
end
section
set_option linter.unusedVariables false
set_option linter.unusedSimpArgs false
namespace Go.Lift
open Go Go.RowKit Go.Eng Go.ChangeShapes Go.WideShapes Go.ChangeAt Go.Joins Go.Deep Go.WideElems
variable {H : Type} {enc : TypeId × Value → H} {P : Program} {w : World} {base : Nat} {sp : Nat → Bool} {held : Bool} {α β γ : Type}
abbrev O0 : Tags := fun _ => 0
structure Opens (enc : TypeId × Value → H) (P : Program) (w : World) (base : Nat) (sp : Nat → Bool) (held : Bool) (t : Nat) (r : GR α) (Q : α → Prop) : Prop where
  size : P.cellsOf t = r.sz
  fits : r.fits
  op : ∀ fuel cs x, DataW.trod enc P w base sp held fuel t cs = some x → ∃ y, r.rel O0 w cs y ∧ Q y
theorem opens_int {t : Nat} {k : IntKind} (ht : P.underlying t = some (.int k)) (hs : P.cellsOf t = 1) : Opens enc P w base sp held t (rInt k) fun n => (Lit.int k n).wf = true :=
  ⟨hs, fun _ => rfl, fun fuel cs x h => by obtain ⟨n, h1, _, h2⟩ := DataW.trod_int ht h; exact ⟨n, h1, h2⟩⟩
theorem opens_str {t : Nat} (ht : P.underlying t = some .string) (hs : P.cellsOf t = 1) : Opens enc P w base sp held t rStr fun s => s.length ≤ maxLen :=
  ⟨hs, fun _ => rfl, fun fuel cs x h => by obtain ⟨s, h1, _, h2⟩ := DataW.trod_string ht h; exact ⟨bs s, by rw [h1]; show _ = [Value.string (str (bs s))]; rw [str_bs], by rw [← str_size, str_bs]; exact h2⟩⟩
theorem relL_of {r : GR α} {O : Tags} {Q : α → Prop} : ∀ {vs : List Value}, (∀ v ∈ vs, ∃ y, r.v O w v y ∧ Q y) → ∃ ys, RelL r O w vs ys ∧ ∀ y ∈ ys, Q y
  | [], _ => ⟨[], trivial, by simp⟩
  | v :: vs, h => by
      obtain ⟨y, h1, h2⟩ := h v (by simp)
      obtain ⟨ys, h3, h4⟩ := relL_of (vs := vs) fun u hu => h u (List.mem_cons_of_mem _ hu)
      exact ⟨y :: ys, ⟨h1, h3⟩, fun z hz => (List.mem_cons.1 hz).elim (fun e => by rw [e]; exact h2) (h4 z)⟩
theorem opens_slice {t e : Nat} {r : GR α} {Q : α → Prop} (ht : P.underlying t = some (.slice e)) (hs : P.cellsOf t = 1) (hE : Opens enc P w base sp held e r Q) (hpos : 0 < r.sz) : Opens enc P w base sp held t (rSl r) fun xs => (∀ x ∈ xs, Q x) ∧ xs.length ≤ maxLen := by
  refine ⟨hs, fun _ => rfl, fun fuel cs x h => ?_⟩
  rcases DataW.trod_slice ht h with ⟨rfl, _⟩ | ⟨a, len, cap, elems, rest, n, _, rfl, _, hb, hl, hm, hlen, hel, _, _⟩
  · exact ⟨[], ⟨_, [], rfl, ⟨none, 0, rfl, by simp, by simp, .inl rfl⟩, trivial, fun h => absurd rfl h⟩, by simp, by simp⟩
  · have each : ∀ i, i < len → ∃ cs, w.cells? base (a.add (i * r.sz)) r.sz = some cs ∧ ∃ y, r.rel O0 w cs y ∧ Q y := by
      intro i hi
      have := hel i hi
      rw [List.getElem?_eq_getElem (by omega), hE.size, Option.bind_eq_some_iff] at this
      obtain ⟨cs, h1, h2⟩ := this
      exact ⟨cs, h1, hE.op n cs _ h2⟩
    let f : Nat → Value := fun i => packV r.agg ((w.cells? base (a.add (i * r.sz)) r.sz).getD [])
    have hf : ∀ i, i < len → ∃ y, r.v O0 w (f i) y ∧ Q y := by
      intro i hi
      obtain ⟨cs, h1, y, h2, h3⟩ := each i hi
      exact ⟨y, ⟨cs, h2, by show packV r.agg ((w.cells? base (a.add (i * r.sz)) r.sz).getD []) = _; rw [h1]; rfl⟩, h3⟩
    have hfc : ∀ i, i < len → ∀ j, j < r.sz → w.cell? (a.add (i * r.sz + j)) = (f i).cells[j]? := by
      intro i hi j hj
      obtain ⟨cs, h1, y, h2, _⟩ := each i hi
      have h4 := (World.cells?_some h1).2.2 j hj
      have h5 : (f i).cells = cs.toArray := by
        show (packV r.agg ((w.cells? base (a.add (i * r.sz)) r.sz).getD [])).cells = _
        rw [h1]
        exact cells_pack (fun ha => by show cs.length = 1; rw [r.len h2, hE.fits ha]) (r.one h2)
      rw [h5, List.getElem?_toArray, ← h4]
      rw [_root_.Go.Addr.add_add]
    obtain ⟨ys, h1, h2⟩ := relL_of (r := r) (O := O0) (w := w) (Q := Q) (vs := (List.range len).map f) (by
      intro v hv
      obtain ⟨i, hi, rfl⟩ := List.mem_map.1 hv
      exact hf i (List.mem_range.1 hi))
    have hyl : ys.length = len := by have := h1.len; simpa using this.symm
    refine ⟨ys, ⟨_, (List.range len).map f, rfl, ⟨some a, cap, by simp, by simpa using hl, ?_, ?_⟩, h1, ?_⟩, h2, by omega⟩
    · intro v hv
      obtain ⟨y, hy⟩ : ∃ y, r.v O0 w v y := by
        obtain ⟨i, hi, rfl⟩ := List.mem_map.1 hv
        obtain ⟨y, hy, _⟩ := hf i (List.mem_range.1 hi); exact ⟨y, hy⟩
      exact r.cells_size hE.fits hy
    · by_cases h0 : len = 0
      · left; simp [h0]
      · right
        obtain ⟨b, off, spot⟩ := a
        have hc0 : (w.cell? (Addr.add ⟨b, off, spot⟩ (0 * r.sz + 0))).isSome = true := by
          rw [hfc 0 (by omega) 0 hpos]
          obtain ⟨y, hy, _⟩ := hf 0 (by omega)
          have := r.cells_size hE.fits hy
          rw [Array.getElem?_eq_getElem (by omega)]; rfl
        obtain ⟨v0, hv0⟩ := Option.isSome_iff_exists.1 hc0
        have hspot : spot = none := by simpa [Addr.add] using World.cell?_spot hv0
        subst hspot
        refine ⟨b, off, rfl, fun i x hx j hj => ?_⟩
        have hi : i < len := by have := (List.getElem?_eq_some_iff.1 hx).1; simpa using this
        have hx' : x = f i := by
          rw [List.getElem?_map, List.getElem?_range hi] at hx
          simpa using hx.symm
        rw [hx', ← hfc i hi j hj]
        unfold Addr.add
        split
        · rename_i h0; congr 1; simp [h0]
        · rfl
    · intro hne g hg
      have h0 : 0 < len := by
        rcases Nat.eq_zero_or_pos len with h0 | h0
        · subst h0; exact absurd rfl hne
        · exact h0
      have hgb : g = a.block := by
        have : (Value.slice (some a) len cap).ownBlock = some a.block := rfl
        rw [this] at hg; exact (Option.some.inj hg).symm
      subst hgb
      refine ⟨?_, rfl⟩
      obtain ⟨cs, h3, _⟩ := each 0 h0
      have h4 := (World.cells?_some h3)
      have h5 := h4.2.2 0 hpos
      rw [List.getElem?_eq_getElem (by omega)] at h5
      have he : (a.add (0 * r.sz)).add 0 = a := by simp [Addr.add]
      rw [he] at h5
      exact World.block_lt_of_cell? _ _ h5
theorem open_top {t : Nat} {r : GR α} {Q : α → Prop} {v : Value} {d : DataW H} {ps : List MemPlace} (hE : Opens enc P w base sp held t r Q) (hv : packV r.agg v.cells.toList = v) (h : DataW.Trod enc P w base sp held t v d ps) : ∃ x, r.v O0 w v x ∧ Q x := by
  obtain ⟨fuel, hf⟩ := h
  obtain ⟨y, h1, h2⟩ := hE.op fuel _ _ hf
  exact ⟨y, ⟨_, h1, hv.symm⟩, h2⟩
theorem okO_O0 : OkO O0 w := fun _ _ => rfl
end Go.Lift
end
section
set_option linter.unusedVariables false
set_option linter.unusedSimpArgs false
namespace Go.Lift
open Go Go.RowKit Go.Eng Go.ChangeShapes Go.WideShapes Go.ChangeAt Go.Joins Go.Deep Go.WideElems
variable {H : Type} {enc : TypeId × Value → H} {P : Program} {w : World} {base : Nat} {sp : Nat → Bool} {held : Bool} {α β γ : Type}
theorem chop (cs : List Value) (off s : Nat) : cs.drop off = (cs.drop off).take s ++ cs.drop (off + s) := by
  rw [← List.drop_drop, List.take_append_drop]
theorem Opens.at_ {t : Nat} {r : GR α} {Q : α → Prop} (hE : Opens enc P w base sp held t r Q) {off n : Nat} {cs : List Value} {y} (h : DataW.trod enc P w base sp held n t ((cs.drop off).take (P.cellsOf t)) = some y) : ∃ a, r.rel O0 w ((cs.drop off).take r.sz) a ∧ Q a := by
  rw [hE.size] at h; exact hE.op n _ _ h
theorem open_struct {t : Nat} {fs : Array Field} {r : GR α} {Q : α → Prop} {re : Reach} {b0 : Nat} {v : Value} {d : DataW H} {ps : List MemPlace} (ht : P.underlying t = some (.struct fs)) (hE : Opens enc P w base sp held t r Q) (ha : r.agg = true) (hval : Value.okWide P w re b0 t v) (h : DataW.Trod enc P w base sp held t v d ps) : ∃ x, r.v O0 w v x ∧ Q x := by
  obtain ⟨cs, rfl, _⟩ := okWide_struct ht hval
  exact open_top hE (by simp [Value.cells, packV, ha]) h
theorem wf_i64 {n : Int} (h : (Lit.int .i64 n).wf = true) : -9223372036854775808 ≤ n ∧ n < 9223372036854775808 := by
  simp [Lit.wf, IntKind.min, IntKind.max, IntKind.signed, IntKind.bits] at h; omega
theorem wf_u8 {n : Int} (h : (Lit.int .u8 n).wf = true) : 0 ≤ n ∧ n < 256 := by
  simp [Lit.wf, IntKind.min, IntKind.max, IntKind.signed, IntKind.bits] at h; omega
end Go.Lift
end
section
set_option linter.unusedVariables false
namespace Go.Dgp
open Go Go.Lift Go.F
theorem cw_of {c : colletlaw37_Case} (h : ∀ y ∈ c.L, (∀ z ∈ y, (Lit.int .i64 z).wf = true) ∧ y.length ≤ maxLen) (k : (Lit.int .u8 c.Shops).wf = true) : CW c :=
  ⟨fun x hx y hy => wf_i64 ((h x hx).1 y hy), wf_u8 k⟩
theorem ea_of {e : api_Entry} (h0 : (Lit.int .i64 e.Seq).wf = true) (h1 : (Lit.int .i64 e.Shop).wf = true) (h2 : (Lit.int .i64 e.Kind).wf = true) (h3 : (Lit.int .i64 e.Day).wf = true) (h4 : (Lit.int .i64 e.N).wf = true) : EA e :=
  ⟨wf_i64 h0, wf_i64 h1, wf_i64 h2, wf_i64 h3, wf_i64 h4⟩
end Go.Dgp
end
section
namespace Go.Proofs.Ytkbipbfncbopnaa.passportFormsDone
open Go Go.ChangeShapes Go.WideShapes Go.ChangeAt Go.RowKit Go.Eng Go.Lift Go.Joins Go.F
open Go.ChangeMaps (open_string shut_string)
open Go.Proofs.Ytkbipbfncbopnaa
set_option linter.unusedVariables false
set_option linter.unusedSimpArgs false
theorem op_3 {H : Type} {enc : TypeId × Value → H} {w : World} {base : Nat} {sp : Nat → Bool} {held : Bool} : Opens enc Try.prog w base sp held 3 (rInt .i64) (fun z => (Lit.int .i64 z).wf = true) := opens_int Try.underlying3 (by kernel_rfl)
theorem op_58 {H : Type} {enc : TypeId × Value → H} {w : World} {base : Nat} {sp : Nat → Bool} {held : Bool} : Opens enc Try.prog w base sp held 58 (rSl (rInt .i64)) (fun z => (∀ y ∈ z, (fun z => (Lit.int .i64 z).wf = true) y) ∧ z.length ≤ maxLen) := opens_slice Try.underlying58 (by kernel_rfl) op_3 (by decide)
theorem op_22 {H : Type} {enc : TypeId × Value → H} {w : World} {base : Nat} {sp : Nat → Bool} {held : Bool} : Opens enc Try.prog w base sp held 22 (rSl (rSl (rInt .i64))) (fun z => (∀ y ∈ z, (fun z => (∀ y ∈ z, (fun z => (Lit.int .i64 z).wf = true) y) ∧ z.length ≤ maxLen) y) ∧ z.length ≤ maxLen) := opens_slice Try.underlying22 (by kernel_rfl) op_58 (by decide)
theorem op_5 {H : Type} {enc : TypeId × Value → H} {w : World} {base : Nat} {sp : Nat → Bool} {held : Bool} : Opens enc Try.prog w base sp held 5 (rInt .u8) (fun z => (Lit.int .u8 z).wf = true) := opens_int Try.underlying5 (by kernel_rfl)
def Q_colletlaw37_Case (x : colletlaw37_Case) : Prop := ((∀ y ∈ x.L, (fun z => (∀ y ∈ z, (fun z => (Lit.int .i64 z).wf = true) y) ∧ z.length ≤ maxLen) y) ∧ x.L.length ≤ maxLen) ∧ ((Lit.int .u8 x.Shops).wf = true) ∧ True
theorem op_24 {H : Type} {enc : TypeId × Value → H} {w : World} {base : Nat} {sp : Nat → Bool} {held : Bool} : Opens enc Try.prog w base sp held 24 r_colletlaw37_Case Q_colletlaw37_Case := by
  refine ⟨by kernel_rfl, fit_colletlaw37_Case, fun fuel cs x h => ?_⟩
  obtain ⟨xs, n, rfl, rfl, hl, hlen, hf⟩ := DataW.trod_struct Try.underlying24 h
  have hl' : cs.length = 2 := hl.trans (by kernel_rfl)
  obtain ⟨y0, hy0⟩ : ∃ y, xs[0]? = some y := ⟨_, List.getElem?_eq_getElem (by rw [hlen]; decide)⟩
  obtain ⟨a0, k0, q0⟩ := Opens.at_ (off := 0) (n := n) (cs := cs) (op_22 (enc := enc) (w := w) (base := base) (sp := sp) (held := held)) ((hf 0 _ rfl).trans hy0)
  obtain ⟨y1, hy1⟩ : ∃ y, xs[1]? = some y := ⟨_, List.getElem?_eq_getElem (by rw [hlen]; decide)⟩
  obtain ⟨a1, k1, q1⟩ := Opens.at_ (off := 1) (n := n) (cs := cs) (op_5 (enc := enc) (w := w) (base := base) (sp := sp) (held := held)) ((hf 1 _ rfl).trans hy1)
  exact ⟨⟨a0, a1⟩, ⟨_, _, chop cs 0 1, k0, ⟨_, _, chop cs 1 1, k1, List.drop_of_length_le (by rw [hl']; decide)⟩⟩, ⟨q0, q1, trivial⟩⟩
theorem op_9 {H : Type} {enc : TypeId × Value → H} {w : World} {base : Nat} {sp : Nat → Bool} {held : Bool} : Opens enc Try.prog w base sp held 9 rStr (fun z => z.length ≤ maxLen) := opens_str Try.underlying9 (by kernel_rfl)
def Q_api_Entry (x : api_Entry) : Prop := ((Lit.int .i64 x.Seq).wf = true) ∧ ((Lit.int .i64 x.Shop).wf = true) ∧ ((Lit.int .i64 x.Kind).wf = true) ∧ ((Lit.int .i64 x.Day).wf = true) ∧ ((Lit.int .i64 x.N).wf = true) ∧ (x.Before.length ≤ maxLen) ∧ (x.After.length ≤ maxLen) ∧ (x.Prev.length ≤ maxLen) ∧ (x.Mark.length ≤ maxLen) ∧ True
theorem op_26 {H : Type} {enc : TypeId × Value → H} {w : World} {base : Nat} {sp : Nat → Bool} {held : Bool} : Opens enc Try.prog w base sp held 26 r_api_Entry Q_api_Entry := by
  refine ⟨by kernel_rfl, fit_api_Entry, fun fuel cs x h => ?_⟩
  obtain ⟨xs, n, rfl, rfl, hl, hlen, hf⟩ := DataW.trod_struct Try.underlying26 h
  have hl' : cs.length = 9 := hl.trans (by kernel_rfl)
  obtain ⟨y0, hy0⟩ : ∃ y, xs[0]? = some y := ⟨_, List.getElem?_eq_getElem (by rw [hlen]; decide)⟩
  obtain ⟨a0, k0, q0⟩ := Opens.at_ (off := 0) (n := n) (cs := cs) (op_3 (enc := enc) (w := w) (base := base) (sp := sp) (held := held)) ((hf 0 _ rfl).trans hy0)
  obtain ⟨y1, hy1⟩ : ∃ y, xs[1]? = some y := ⟨_, List.getElem?_eq_getElem (by rw [hlen]; decide)⟩
  obtain ⟨a1, k1, q1⟩ := Opens.at_ (off := 1) (n := n) (cs := cs) (op_3 (enc := enc) (w := w) (base := base) (sp := sp) (held := held)) ((hf 1 _ rfl).trans hy1)
  obtain ⟨y2, hy2⟩ : ∃ y, xs[2]? = some y := ⟨_, List.getElem?_eq_getElem (by rw [hlen]; decide)⟩
  obtain ⟨a2, k2, q2⟩ := Opens.at_ (off := 2) (n := n) (cs := cs) (op_3 (enc := enc) (w := w) (base := base) (sp := sp) (held := held)) ((hf 2 _ rfl).trans hy2)
  obtain ⟨y3, hy3⟩ : ∃ y, xs[3]? = some y := ⟨_, List.getElem?_eq_getElem (by rw [hlen]; decide)⟩
  obtain ⟨a3, k3, q3⟩ := Opens.at_ (off := 3) (n := n) (cs := cs) (op_3 (enc := enc) (w := w) (base := base) (sp := sp) (held := held)) ((hf 3 _ rfl).trans hy3)
  obtain ⟨y4, hy4⟩ : ∃ y, xs[4]? = some y := ⟨_, List.getElem?_eq_getElem (by rw [hlen]; decide)⟩
  obtain ⟨a4, k4, q4⟩ := Opens.at_ (off := 4) (n := n) (cs := cs) (op_3 (enc := enc) (w := w) (base := base) (sp := sp) (held := held)) ((hf 4 _ rfl).trans hy4)
  obtain ⟨y5, hy5⟩ : ∃ y, xs[5]? = some y := ⟨_, List.getElem?_eq_getElem (by rw [hlen]; decide)⟩
  obtain ⟨a5, k5, q5⟩ := Opens.at_ (off := 5) (n := n) (cs := cs) (op_9 (enc := enc) (w := w) (base := base) (sp := sp) (held := held)) ((hf 5 _ rfl).trans hy5)
  obtain ⟨y6, hy6⟩ : ∃ y, xs[6]? = some y := ⟨_, List.getElem?_eq_getElem (by rw [hlen]; decide)⟩
  obtain ⟨a6, k6, q6⟩ := Opens.at_ (off := 6) (n := n) (cs := cs) (op_9 (enc := enc) (w := w) (base := base) (sp := sp) (held := held)) ((hf 6 _ rfl).trans hy6)
  obtain ⟨y7, hy7⟩ : ∃ y, xs[7]? = some y := ⟨_, List.getElem?_eq_getElem (by rw [hlen]; decide)⟩
  obtain ⟨a7, k7, q7⟩ := Opens.at_ (off := 7) (n := n) (cs := cs) (op_9 (enc := enc) (w := w) (base := base) (sp := sp) (held := held)) ((hf 7 _ rfl).trans hy7)
  obtain ⟨y8, hy8⟩ : ∃ y, xs[8]? = some y := ⟨_, List.getElem?_eq_getElem (by rw [hlen]; decide)⟩
  obtain ⟨a8, k8, q8⟩ := Opens.at_ (off := 8) (n := n) (cs := cs) (op_9 (enc := enc) (w := w) (base := base) (sp := sp) (held := held)) ((hf 8 _ rfl).trans hy8)
  have e : cs = (cs.drop 0).take 1 ++ ((cs.drop 1).take 1 ++ ((cs.drop 2).take 1 ++ ((cs.drop 3).take 1 ++ ((cs.drop 4).take 1 ++ ((cs.drop 5).take 1 ++ ((cs.drop 6).take 1 ++ ((cs.drop 7).take 1 ++ ((cs.drop 8).take 1 ++ ([]))))))))) := ((chop cs 0 1).trans (congrArg ((cs.drop 0).take 1 ++ ·) ((chop cs 1 1).trans (congrArg ((cs.drop 1).take 1 ++ ·) ((chop cs 2 1).trans (congrArg ((cs.drop 2).take 1 ++ ·) ((chop cs 3 1).trans (congrArg ((cs.drop 3).take 1 ++ ·) ((chop cs 4 1).trans (congrArg ((cs.drop 4).take 1 ++ ·) ((chop cs 5 1).trans (congrArg ((cs.drop 5).take 1 ++ ·) ((chop cs 6 1).trans (congrArg ((cs.drop 6).take 1 ++ ·) ((chop cs 7 1).trans (congrArg ((cs.drop 7).take 1 ++ ·) ((chop cs 8 1).trans (congrArg ((cs.drop 8).take 1 ++ ·) (List.drop_of_length_le (by rw [hl']; decide))))))))))))))))))))
  have k0' : (cs.drop 0).take 1 = [.int .i64 a0] := k0
  have k1' : (cs.drop 1).take 1 = [.int .i64 a1] := k1
  have k2' : (cs.drop 2).take 1 = [.int .i64 a2] := k2
  have k3' : (cs.drop 3).take 1 = [.int .i64 a3] := k3
  have k4' : (cs.drop 4).take 1 = [.int .i64 a4] := k4
  have k5' : (cs.drop 5).take 1 = [.string (str a5)] := k5
  have k6' : (cs.drop 6).take 1 = [.string (str a6)] := k6
  have k7' : (cs.drop 7).take 1 = [.string (str a7)] := k7
  have k8' : (cs.drop 8).take 1 = [.string (str a8)] := k8
  refine ⟨⟨a0, a1, a2, a3, a4, a5, a6, a7, a8⟩, ?_, ⟨q0, q1, q2, q3, q4, q5, q6, q7, q8, trivial⟩⟩
  show cs = [.int .i64 a0, .int .i64 a1, .int .i64 a2, .int .i64 a3, .int .i64 a4, .string (str a5), .string (str a6), .string (str a7), .string (str a8)]
  rw [e, k0', k1', k2', k3', k4', k5', k6', k7', k8']
  first | done | rfl | simp
theorem own : ownKnob Try.prog.godebug = none := by kernel_rfl
theorem laidOut : laidOutB Try.prog = true := by kernel_rfl
set_option maxRecDepth 100000 in
theorem lifted (os : Os) (started : os.Started) (H : Type) (enc : TypeId × Value → H) :
    ReturnsInHanded {} Try.checked os 3 .any (Rows.passportFormsSpec.pre6 enc Try.prog Try.f3 Rows.passportFormsRow.domain false) (Rows.passportFormsSpec.post enc Try.prog Try.f3 false true false false) := by
  refine returnsInHanded_of_change (C := Try.checked) own started (by kernel_rfl) Try.func3
    (ChangeSpec.witness6 (enc := enc) (C := Try.checked) false ⟨#[], #[.agg #[.slice none 0 0, .int .u8 0], .agg #[.int .i64 0, .int .i64 0, .int .i64 0, .int .i64 0, .int .i64 0, .string ⟨#[]⟩, .string ⟨#[]⟩, .string ⟨#[]⟩, .string ⟨#[]⟩], .string ⟨#[]⟩], []⟩ 8 (by kernel_rfl) (by kernel_rfl) (by kernel_rfl) (by kernel_rfl)) ?_
  intro W base args ds gs before hval0 hW hcnd _
  have hval : ∀ (j : Nat) t v, Try.f3.params[j]? = some t → args[j]? = some v → Value.okWide Try.prog W .any base t v := hval0
  have hW' := hW
  obtain ⟨p, q, hA0, hV, rfl, hfz, hnd⟩ := hW
  have hA : DataW.TrodAll enc Try.prog W 0 (fun _ => true) true Try.f3.params.toList args.toList ds p := hA0
  rw [Try.params3] at hA hval
  obtain ⟨v0, vs0, d0, ds0, p0, q0_, hargs, rfl, rfl, h0, r0⟩ := trodAll_cons hA
  obtain ⟨v1, vs1, d1, ds1, p1, q1_, rfl, rfl, rfl, h1, r1⟩ := trodAll_cons r0
  obtain ⟨v2, vs2, d2, ds2, p2, q2_, rfl, rfl, rfl, h2, r2⟩ := trodAll_cons r1
  obtain ⟨rfl, rfl, rfl⟩ := trodAll_nil r2
  obtain rfl : args = #[v0, v1, v2] := by cases args; simp_all
  obtain ⟨rfl, rfl⟩ := trodVars_none hV
  have k0 := h0
  have lt0 : ∀ x ∈ p0, x.block < W.heap.size := by obtain ⟨m, hm⟩ := k0; exact DataW.trod_lt m _ _ _ hm
  have k1 := h1
  have lt1 : ∀ x ∈ p1, x.block < W.heap.size := by obtain ⟨m, hm⟩ := k1; exact DataW.trod_lt m _ _ _ hm
  have k2 := h2
  have lt2 : ∀ x ∈ p2, x.block < W.heap.size := by obtain ⟨m, hm⟩ := k2; exact DataW.trod_lt m _ _ _ hm
  obtain ⟨x0, hr0, q0⟩ := open_struct Try.underlying24 op_24 rfl (hval 0 24 v0 rfl rfl) h0
  obtain ⟨x1, hr1, q1⟩ := open_struct Try.underlying26 op_26 rfl (hval 1 26 v1 rfl rfl) h1
  have e1 : v1 = .agg #[.int .i64 x1.Seq, .int .i64 x1.Shop, .int .i64 x1.Kind, .int .i64 x1.Day, .int .i64 x1.N, .string (str x1.Before), .string (str x1.After), .string (str x1.Prev), .string (str x1.Mark)] := rC_v.1 hr1
  obtain ⟨s2, e2, _, _, q2⟩ := open_string Try.underlying9 (hval 2 9 v2 rfl rfl) h2
  rw [← str_bs s2] at e2
  generalize hs2 : bs s2 = x2 at e2
  replace q2 : x2.length ≤ maxLen := by rw [← hs2, ← str_size, str_bs]; exact q2
  clear hA0 hval0
  obtain ⟨n_, hn_⟩ := Comp.val_some.1 (Go.Dgp.law_PassportForms (Go.Dgp.cw_of q0.1.1 q0.2.1) (Go.Dgp.ea_of q1.1 q1.2.1 q1.2.2.1 q1.2.2.2.1 q1.2.2.2.2.1))
  have walk := ok_colletlaw37_PassportForms (w0 := W) okO_O0 hr0 hn_
  refine Calls.mono (R := fun e W' => e = .returned (.bool true) ∧ Below W.heap.size W W') ?_ fun e W' ⟨he, bel⟩ => ?_
  · rw [e1]; rw [e2]; exact Calls.mono walk fun e W' ⟨_, h1, h2, h3⟩ => ⟨by rw [h1]; exact congrArg _ h3, h2⟩
  · subst he
    exact ⟨_, rfl, _, _, _, [], _, [], hW', trodAll_mk1 (shut_bool Try.underlying4 _), (trodAll_cons_mk (Below.trod laidOut (by kernel_rfl) (of_decide_eq_true (by kernel_rfl)) k0 bel lt0) (trodAll_cons_mk (Below.trod laidOut (by kernel_rfl) (of_decide_eq_true (by kernel_rfl)) k1 bel lt1) (trodAll_cons_mk (Below.trod laidOut (by kernel_rfl) (of_decide_eq_true (by kernel_rfl)) k2 bel lt2) trodAll_mk0))), rfl, bel.frame _, fun h => by cases h⟩
theorem proved : Rows.PassportFormsSaid :=
  OpenClaim.holds_of_wide 3 Try.f3 rfl rfl rfl rfl rfl rfl rfl ⟨rfl, rfl, rfl, rfl, rfl⟩ rfl rfl rfl rfl rfl (by kernel_rfl) Try.func3 (by kernel_rfl)
    (of_decide_eq_true (by kernel_rfl)) (by unfold Func.isWrapper; first | (rw [if_pos (by decide +kernel)]; kernel_rfl) | (rw [if_neg (by decide +kernel)]; exact ⟨rfl, rfl⟩))
    (fun os started H enc _ => lifted os started H enc)
#print axioms proved
end Go.Proofs.Ytkbipbfncbopnaa.passportFormsDone
end
