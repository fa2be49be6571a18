/- Lemmas behind a claim of this seat. No statement of the program stands here. -/
import Derived.Test.YtkbipbfncbopnaaZFormsE
set_option linter.unusedSimpArgs false
set_option linter.unusedVariables false
section
namespace Go.Proofs.Ytkbipbfncbopnaa
open Go Go.RowKit Go.Eng Go.Lift Go.F
set_option linter.unusedVariables false
set_option linter.unusedSimpArgs false
set_option maxRecDepth 100000
theorem ok_colletref01_signed {O : Tags} {w0 : World} (hO : OkO O w0) {x_0 : Bool} {v_1 : Value} {x_1 : List Int} (h_1 : (rSl (rInt .u32)).v O w0 v_1 x_1) {n : Nat} {y : (api_Num × Bool)} (h : (colletref01_signed x_0 x_1).run n = some y) : Pure Try.prog 101 #[.bool x_0, v_1] w0 (SP.tup2 (SP.vl r_api_Num O y.1) (SP.isv (.bool y.2))).holds := by
 unfold colletref01_signed at h
 refine pure_of_wp Try.func101 rfl 22 Try.ntmps101 (by simp) fun a0 hA hs0 => ?_
 have q0 : a0.get 0 = .bool x_0 := hs0 0 _ rfl
 have q1 : a0.get 1 = v_1 := hs0 1 _ rfl
 clear hs0
 have hB : Base (Fr w0) O w0 O w0 := Base.start hO
 refine wp_seq ?_
 refine' region [SP.box w0.heap.size #[.bool false, .slice none 0 0] 89, _] mixed hA (.cons ?z1_0 (.cons ?z1_1 .nil)) ?zok1 ?zgd1 ?zk1
 case z1_0 => intro a' w' hE hK hg; exact ok_alloc hE.size ty89
 case z1_1 => intro a' w' hE hK hg; exact ok_assign rfl
 case zok1 => kernel_rfl
 case zgd1 => kernel_rfl
 intro a1 w1 hA' hE HF
 replace q0 := kn (HF 0) rfl q0
 replace q1 := kn (HF 1) rfl q1
 have f2 := ksp (HF 4) rfl rfl rfl
 obtain ⟨u1, q4'⟩ : ∃ u, a1.get 4 = u := ⟨_, rfl⟩
 rw [q4'] at f2
 have q4 := q4'; clear q4'
 clear hA HF; have hA := hA'; clear hA'
 obtain ⟨O3, b4, hB', hX, e_, f5⟩ := boxNew hO hB hE f2 1 (by decide)
 subst e_
 clear hB f2; have hB := hB'; clear hB'
 replace h_1 := GR.kx _ h_1 hX (by decide)
 clear hX hE
 refine li_nil (nx_then (wp_seq ?_))
 obtain ⟨x6, hx6, h⟩ := Comp.run_bind h
 refine' region [_, SP.vl (rSl (rInt .u32)) O3 x6, SP.vl (rSl (rInt .u32)) O3 x6] mixed hA (.cons ?z2_0 (.cons ?z2_1 (.cons ?z2_2 .nil))) ?zok2 ?zgd2 ?zk2
 case z2_0 => intro a' w' hE hK hg; exact ok_move (kn (hK 1 rfl) rfl q1)
 case z2_1 => intro a' w' hE hK hg; have c_ := ok_colletref01_trim (OkO.ext hB.ok hE) (GR.v_ext _ h_1 hE) hx6; exact ok_call1 fn100 (ksv (j := 0) (hK 7 rfl) rfl rfl rfl) c_
 case z2_2 => intro a' w' hE hK hg; exact ok_assign_pr (φ := SP.vl (rSl (rInt .u32)) O3 x6) (kspS (φ := SP.vl (rSl (rInt .u32)) O3 x6) (j := 1) (hK 8 rfl) rfl rfl rfl)
 case zok2 => kernel_rfl
 case zgd2 => kernel_rfl
 intro a2 w2 hA' hE HF
 replace q0 := kn (HF 0) rfl q0
 replace q4 := kn (HF 4) rfl q4
 have f8 := ksp (HF 6) rfl rfl rfl
 obtain ⟨u7, q6'⟩ : ∃ u, a2.get 6 = u := ⟨_, rfl⟩
 rw [q6'] at f8
 have q6 := q6'; clear q6'
 clear q1
 clear hA HF; have hA := hA'; clear hA'
 replace h_1 := GR.v_ext _ h_1 hE
 replace f5 := f5.ext hE
 replace hB := Base.step hB hE hO; clear hE
 refine li_nil (nx_then (wp_seq (wp_seq ?_)))
 refine' region [_, _, _] mixed hA (.cons ?z3_0 (.cons ?z3_1 (.cons ?z3_2 .nil))) ?zok3 ?zgd3 ?zk3
 case z3_0 => intro a' w' hE hK hg; exact ok_move (kn (hK 6 rfl) rfl q6)
 case z3_1 => intro a' w' hE hK hg; exact okl_len (r := (rInt .u32)) ty87 (ksv (j := 0) (hK 9 rfl) rfl rfl rfl) (rd_of (GR.v_ext _ f8 hE))
 case z3_2 => intro a' w' hE hK hg; exact ok_gtr (ksv (j := 1) (hK 10 rfl) rfl rfl rfl) rfl
 case zok3 => kernel_rfl
 case zgd3 => kernel_rfl
 intro a3 w3 hA' hE HF
 replace q0 := kn (HF 0) rfl q0
 replace q4 := kn (HF 4) rfl q4
 replace q6 := kn (HF 6) rfl q6
 have q11 := ksv (HF 11) rfl rfl rfl
 clear hA HF; have hA := hA'; clear hA'
 replace f8 := GR.v_ext _ f8 hE
 replace f5 := f5.ext hE
 replace hB := Base.step hB hE hO; clear hE
 refine li_nil (nx_then ?_)
 refine wp_cond_b q11 (fun hc => ?_) (fun hc => ?_)
 ·
  replace h := Comp.run_b_t hc h; clear hc
  refine wp_seq ?_
  refine' regionT [SP.isv (.agg #[.bool false, .slice none 0 0])] hA (.cons ?z4_0 .nil) ?zok4 ?zgd4 ?zk4
  case z4_0 => intro a' w' hE hK hg; exact okl_build plc89 ty89 pk_nil rfl .nil rfl
  case zok4 => kernel_rfl
  case zgd4 => kernel_rfl
  intro a4 w4 hA' hE HF
  replace q4 := kn (HF 4) rfl q4
  have q12 := ksv (HF 12) rfl rfl rfl
  clear q0
  clear q6
  clear q11
  clear hA HF; have hA := hA'; clear hA'
  replace f8 := GR.v_ext _ f8 hE
  replace f5 := f5.ext hE
  replace hB := Base.step hB hE hO; clear hE
  refine l_storeSub (vs := [.bool false, .slice none 0 0]) (cs' := #[.bool false, .slice none 0 0]) hO hB (okB_fr hB) ty89 q4 q12 rfl (by simp [Value.oneCell']) f5 (by simp) rfl fun w5 f9 hB' hX => ?_
  clear hB f5; have hB := hB'; clear hB'
  clear hX
  refine l_ok (φ := SP.isv (.bool false)) hO hB (by exact ok_assign rfl) rfl fun u_ w6 hE hB' hv_ => ?_
  replace hv_ := Eq.symm hv_; subst hv_; clear hB; have hB := hB'; clear hB'
  replace f9 := f9.ext hE
  clear hE
  refine put_cont hA (by decide) fun a7 hA' q_ hfr => ?_
  clear hA; have hA := hA'; clear hA'
  replace q4 := (hfr 4 rfl).trans q4
  have q5 := q_; clear q_ hfr
  refine li_nil (nx_then (wp_ret (rt_then ?_)))
  have h := Comp.run_pure h; subst h
  exact retG2 Try.results101 hA (.agg q4 ty89 rfl rfl f9.own) (.tmp q5) ⟨_, rfl, hB.ext, ⟨_, _, rfl, (hB.res r_api_Num ⟨_, ⟨_, _, rfl, rfl, ⟨_, _, rfl, (rel_ofF (r := (rSl (rInt .u32))) (rSl_nil _ _ _ 0) rfl rfl), rfl⟩⟩, rfl⟩), rfl⟩⟩
 ·
  replace h := Comp.run_b_f hc h; clear hc
  refine wp_skip (nx_then (wp_seq (wp_seq ?_)))
  refine' region [_, _, _] mixed hA (.cons ?z5_0 (.cons ?z5_1 (.cons ?z5_2 .nil))) ?zok5 ?zgd5 ?zk5
  case z5_0 => intro a' w' hE hK hg; exact ok_move (kn (hK 6 rfl) rfl q6)
  case z5_1 => intro a' w' hE hK hg; exact okl_len (r := (rInt .u32)) ty87 (ksv (j := 0) (hK 13 rfl) rfl rfl rfl) (rd_of (GR.v_ext _ f8 hE))
  case z5_2 => intro a' w' hE hK hg; exact ok_eqlI (ksv (j := 1) (hK 14 rfl) rfl rfl rfl) rfl
  case zok5 => kernel_rfl
  case zgd5 => kernel_rfl
  intro a8 w8 hA' hE HF
  replace q0 := kn (HF 0) rfl q0
  replace q4 := kn (HF 4) rfl q4
  replace q6 := kn (HF 6) rfl q6
  have q15 := ksv (HF 15) rfl rfl rfl
  clear q11
  clear hA HF; have hA := hA'; clear hA'
  replace f8 := GR.v_ext _ f8 hE
  replace f5 := f5.ext hE
  replace hB := Base.step hB hE hO; clear hE
  refine li_nil (nx_then ?_)
  refine wp_cond_b q15 (fun hc => ?_) (fun hc => ?_)
  ·
   replace h := Comp.run_b_t hc h; clear hc
   refine wp_seq ?_
   refine' regionT [SP.isv (.agg #[.bool false, .slice none 0 0])] hA (.cons ?z6_0 .nil) ?zok6 ?zgd6 ?zk6
   case z6_0 => intro a' w' hE hK hg; exact okl_build plc89 ty89 pk_nil rfl .nil rfl
   case zok6 => kernel_rfl
   case zgd6 => kernel_rfl
   intro a9 w9 hA' hE HF
   replace q4 := kn (HF 4) rfl q4
   have q16 := ksv (HF 16) rfl rfl rfl
   clear q0
   clear q6
   clear q15
   clear hA HF; have hA := hA'; clear hA'
   replace f8 := GR.v_ext _ f8 hE
   replace f5 := f5.ext hE
   replace hB := Base.step hB hE hO; clear hE
   refine l_storeSub (vs := [.bool false, .slice none 0 0]) (cs' := #[.bool false, .slice none 0 0]) hO hB (okB_fr hB) ty89 q4 q16 rfl (by simp [Value.oneCell']) f5 (by simp) rfl fun w10 f10 hB' hX => ?_
   clear hB f5; have hB := hB'; clear hB'
   clear hX
   refine l_ok (φ := SP.isv (.bool true)) hO hB (by exact ok_assign rfl) rfl fun u_ w11 hE hB' hv_ => ?_
   replace hv_ := Eq.symm hv_; subst hv_; clear hB; have hB := hB'; clear hB'
   replace f10 := f10.ext hE
   clear hE
   refine put_cont hA (by decide) fun a12 hA' q_ hfr => ?_
   clear hA; have hA := hA'; clear hA'
   replace q4 := (hfr 4 rfl).trans q4
   have q5 := q_; clear q_ hfr
   refine li_nil (nx_then (wp_ret (rt_then ?_)))
   have h := Comp.run_pure h; subst h
   exact retG2 Try.results101 hA (.agg q4 ty89 rfl rfl f10.own) (.tmp q5) ⟨_, rfl, hB.ext, ⟨_, _, rfl, (hB.res r_api_Num ⟨_, ⟨_, _, rfl, rfl, ⟨_, _, rfl, (rel_ofF (r := (rSl (rInt .u32))) (rSl_nil _ _ _ 0) rfl rfl), rfl⟩⟩, rfl⟩), rfl⟩⟩
  ·
   replace h := Comp.run_b_f hc h; clear hc
   refine wp_skip (nx_then (wp_seq ?_))
   refine' regionT [_] hA (.cons ?z7_0 .nil) ?zok7 ?zgd7 ?zk7
   case z7_0 => intro a' w' hE hK hg; exact ok_move (kn (hK 0 rfl) rfl q0)
   case zok7 => kernel_rfl
   case zgd7 => kernel_rfl
   intro a13 w13 hA' hE HF
   replace q4 := kn (HF 4) rfl q4
   replace q6 := kn (HF 6) rfl q6
   have q17 := ksv (HF 17) rfl rfl rfl
   clear q0
   clear q15
   clear hA HF; have hA := hA'; clear hA'
   replace f8 := GR.v_ext _ f8 hE
   replace f5 := f5.ext hE
   replace hB := Base.step hB hE hO; clear hE
   refine l_ok (φ := SP.ownr (rInt .u32) 123 w13.heap.size O3 []) hO hB (by exact okl_buildSlice (r := (rInt .u32)) (fun _ => rfl) rfl hB.ok ty87 ty123 (Nat.le_refl _) parts_nil trivial rfl (by decide)) rfl fun u11 w14 hE hB' f12 => ?_
   clear hB'; obtain ⟨O13, hB', hX, f14⟩ := ownNew hO hB hE f12 rfl 2 (by decide)
   clear hB f12; have hB := hB'; clear hB'
   replace f8 := GR.kx _ f8 hX (by decide)
   replace f5 := f5.kx hX (by decide)
   clear hX hE
   refine put_cont hA (by decide) fun a15 hA' q_ hfr => ?_
   clear hA; have hA := hA'; clear hA'
   replace q4 := (hfr 4 rfl).trans q4
   replace q6 := (hfr 6 rfl).trans q6
   replace q17 := (hfr 17 rfl).trans q17
   have q18 := q_; clear q_ hfr
   refine l_ok (φ := SP.isv (u7)) hO hB (by exact ok_move q6) rfl fun u_ w16 hE hB' hv_ => ?_
   replace hv_ := Eq.symm hv_; subst hv_; clear hB; have hB := hB'; clear hB'
   replace f8 := GR.v_ext _ f8 hE
   replace f14 := f14.ext hE
   replace f5 := f5.ext hE
   clear hE
   refine put_cont hA (by decide) fun a17 hA' q_ hfr => ?_
   clear hA; have hA := hA'; clear hA'
   replace q4 := (hfr 4 rfl).trans q4
   replace q6 := (hfr 6 rfl).trans q6
   replace q17 := (hfr 17 rfl).trans q17
   replace q18 := (hfr 18 rfl).trans q18
   have q19 := q_; clear q_ hfr
   obtain ⟨x15, hx15, h⟩ := Comp.run_bind h
   refine l_append (r := (rInt .u32)) (fun _ => rfl) rfl ty87 ty123 rfl (by decide) hO hB (okB_fr hB) q18 f14 q19 (rd_of f8) hx15 (by decide) fun u16 w18 O17 f18 hB' hX => ?_
   clear hB; have hB := hB'; clear hB'
   clear f14
   replace f8 := GR.kx _ f8 hX (by decide)
   replace f5 := f5.kx hX (by decide)
   clear hX
   refine put_cont hA (by decide) fun a19 hA' q_ hfr => ?_
   clear hA; have hA := hA'; clear hA'
   replace q4 := (hfr 4 rfl).trans q4
   replace q17 := (hfr 17 rfl).trans q17
   replace q18 := (hfr 18 rfl).trans q18
   replace q19 := (hfr 19 rfl).trans q19
   have q20 := q_; clear q_ hfr
   refine l_ok (φ := SP.isv (.agg #[.bool x_0, u16])) hO hB (by refine okl_build (vals := [(0, .bool x_0), (1, u16)]) (out := [.bool x_0, u16]) plc89 ty89 ?_ rfl ?_ rfl; exact (pk_cons (v := .bool x_0) q17 (pk_cons (v := u16) q20 pk_nil)); exact (.cons rfl rfl rfl (Nat.le_of_ble_eq_true rfl) (.cons rfl (own_cells f18) rfl (Nat.le_of_ble_eq_true rfl) .nil))) rfl fun u_ w20 hE hB' hv_ => ?_
   replace hv_ := Eq.symm hv_; subst hv_; clear hB; have hB := hB'; clear hB'
   replace f18 := f18.ext hE
   replace f5 := f5.ext hE
   clear hE
   refine put_cont hA (by decide) fun a21 hA' q_ hfr => ?_
   clear hA; have hA := hA'; clear hA'
   replace q4 := (hfr 4 rfl).trans q4
   replace q17 := (hfr 17 rfl).trans q17
   replace q20 := (hfr 20 rfl).trans q20
   have q21 := q_; clear q_ hfr
   refine l_storeSub (vs := [.bool x_0, u16]) (cs' := #[.bool x_0, u16]) hO hB (okB_fr hB) ty89 q4 q21 rfl (by intro c_ hc_; simp only [List.mem_cons, List.not_mem_nil, or_false] at hc_; rcases hc_ with rfl | rfl <;> first | rfl | assumption | exact own_one f18) f5 (by simp) rfl fun w22 f19 hB' hX => ?_
   clear hB f5; have hB := hB'; clear hB'
   replace f18 := f18.kx hX (by decide) (by decide)
   clear hX
   refine l_ok (φ := SP.isv (.bool true)) hO hB (by exact ok_assign rfl) rfl fun u_ w23 hE hB' hv_ => ?_
   replace hv_ := Eq.symm hv_; subst hv_; clear hB; have hB := hB'; clear hB'
   replace f19 := f19.ext hE
   replace f18 := f18.ext hE
   clear hE
   refine put_cont hA (by decide) fun a24 hA' q_ hfr => ?_
   clear hA; have hA := hA'; clear hA'
   replace q4 := (hfr 4 rfl).trans q4
   have q5 := q_; clear q_ hfr
   refine li_nil (nx_then (wp_ret ?_))
   obtain ⟨O20, hB', hX, f21⟩ := freezeL hO hB f18 (by decide)
   clear f18 hB; have hB := hB'; clear hB'
   replace f19 := f19.kx hX (by decide)
   clear hX
   have h := Comp.run_pure h; subst h
   exact retG2 Try.results101 hA (.agg q4 ty89 rfl rfl f19.own) (.tmp q5) ⟨_, rfl, hB.ext, ⟨_, _, rfl, (hB.res r_api_Num ⟨_, ⟨_, _, rfl, rfl, ⟨_, _, rfl, (rel_ofF (r := (rSl (rInt .u32))) f21 rfl rfl), rfl⟩⟩, rfl⟩), rfl⟩⟩
theorem ok_colletref01_Of {O : Tags} {w0 : World} (hO : OkO O w0) {x_0 : Int} {n : Nat} {y : api_Num} (h : (colletref01_Of x_0).run n = some y) : Pure Try.prog 65 #[.int .i64 x_0] w0 (SP.vl r_api_Num O y).holds := by
 unfold colletref01_Of at h
 refine pure_of_wp Try.func65 rfl 21 Try.ntmps65 (by simp) fun a0 hA hs0 => ?_
 have q0 : a0.get 0 = .int .i64 x_0 := hs0 0 _ rfl
 clear hs0
 have hB : Base (Fr w0) O w0 O w0 := Base.start hO
 refine wp_seq ?_
 refine' region [SP.box w0.heap.size #[.bool false, .slice none 0 0] 89] mixed hA (.cons ?z1_0 .nil) ?zok1 ?zgd1 ?zk1
 case z1_0 => intro a' w' hE hK hg; exact ok_alloc hE.size ty89
 case zok1 => kernel_rfl
 case zgd1 => kernel_rfl
 intro a1 w1 hA' hE HF
 replace q0 := kn (HF 0) rfl q0
 have f2 := ksp (HF 2) rfl rfl rfl
 obtain ⟨u1, q2'⟩ : ∃ u, a1.get 2 = u := ⟨_, rfl⟩
 rw [q2'] at f2
 have q2 := q2'; clear q2'
 clear hA HF; have hA := hA'; clear hA'
 obtain ⟨O3, b4, hB', hX, e_, f5⟩ := boxNew hO hB hE f2 1 (by decide)
 subst e_
 clear hB f2; have hB := hB'; clear hB'
 clear hX hE
 refine li_nil (nx_then (wp_seq ?_))
 refine' region [_, _, _] mixed hA (.cons ?z2_0 (.cons ?z2_1 (.cons ?z2_2 .nil))) ?zok2 ?zgd2 ?zk2
 case z2_0 => intro a' w' hE hK hg; exact ok_move (kn (hK 0 rfl) rfl q0)
 case z2_1 => intro a' w' hE hK hg; exact ok_convI ty3 ty122 (ksv (j := 0) (hK 6 rfl) rfl rfl rfl)
 case z2_2 => intro a' w' hE hK hg; exact ok_assign (ksv (j := 1) (hK 7 rfl) rfl rfl rfl)
 case zok2 => kernel_rfl
 case zgd2 => kernel_rfl
 intro a2 w2 hA' hE HF
 replace q0 := kn (HF 0) rfl q0
 replace q2 := kn (HF 2) rfl q2
 have q3 := ksv (HF 3) rfl rfl rfl
 clear hA HF; have hA := hA'; clear hA'
 replace f5 := f5.ext hE
 replace hB := Base.step hB hE hO; clear hE
 refine li_nil (nx_then ?_)
 refine seq_join (fun a w => ∃ (O8 : Tags) (x7 : Int), a.fit 21 ∧ Base (Fr w0) O w0 O8 w ∧ a.get 0 = .int .i64 x_0 ∧ a.get 2 = .pointer (some ⟨b4, 0, none⟩) ∧ a.get 3 = .int .u64 x7 ∧ OwnB 1 (Fr w0) O8 w b4 #[.bool false, .slice none 0 0] 89 ∧ (colletref01_Of_j1 x_0 x7).run n = some y) ?_ ?_
 ·
  refine wp_seq ?_
  refine' region [_, _] mixed hA (.cons ?z3_0 (.cons ?z3_1 .nil)) ?zok3 ?zgd3 ?zk3
  case z3_0 => intro a' w' hE hK hg; exact ok_move (kn (hK 0 rfl) rfl q0)
  case z3_1 => intro a' w' hE hK hg; exact ok_lss (ksv (j := 0) (hK 8 rfl) rfl rfl rfl) rfl
  case zok3 => kernel_rfl
  case zgd3 => kernel_rfl
  intro a3 w3 hA' hE HF
  replace q0 := kn (HF 0) rfl q0
  replace q2 := kn (HF 2) rfl q2
  replace q3 := kn (HF 3) rfl q3
  have q9 := ksv (HF 9) rfl rfl rfl
  clear hA HF; have hA := hA'; clear hA'
  replace f5 := f5.ext hE
  replace hB := Base.step hB hE hO; clear hE
  refine li_nil (nx_then ?_)
  refine wp_cond_b q9 (fun hc => ?_) (fun hc => ?_)
  ·
   replace h := Comp.run_b_t hc h; clear hc
   refine' region [_, _, _] mixed hA (.cons ?z4_0 (.cons ?z4_1 (.cons ?z4_2 .nil))) ?zok4 ?zgd4 ?zk4
   case z4_0 => intro a' w' hE hK hg; exact ok_move (kn (hK 3 rfl) rfl q3)
   case z4_1 => intro a' w' hE hK hg; exact ok_neg (ksv (j := 0) (hK 10 rfl) rfl rfl rfl)
   case z4_2 => intro a' w' hE hK hg; exact ok_assign (ksv (j := 1) (hK 11 rfl) rfl rfl rfl)
   case zok4 => kernel_rfl
   case zgd4 => kernel_rfl
   intro a4 w4 hA' hE HF
   replace q0 := kn (HF 0) rfl q0
   replace q2 := kn (HF 2) rfl q2
   have q3' := ksv (HF 3) rfl rfl rfl
   replace q3 := q3'; clear q3'
   clear q9
   clear hA HF; have hA := hA'; clear hA'
   replace f5 := f5.ext hE
   replace hB := Base.step hB hE hO; clear hE
   obtain ⟨x6, hx_, h⟩ := Comp.run_bind h; replace hx_ := Comp.run_pure hx_; rw [hx_] at q3; clear hx_
   refine li_nil (nx_then ?_)
   exact ⟨_, _, hA, hB, q0, q2, q3, f5, h⟩
  ·
   replace h := Comp.run_b_f hc h; clear hc
   refine wp_skip (nx_then ?_)
   exact ⟨_, _, hA, hB, q0, q2, q3, f5, h⟩
 intro a5 w5 hI
 clear hA hB h q0 q2 q3 f5
 obtain ⟨O8, x7, hA, hB, q0, q2, q3, f5, h⟩ := hI
 unfold colletref01_Of_j1 at h
 refine wp_seq ?_
 obtain ⟨x9, hx9, h⟩ := Comp.run_bind h
 obtain ⟨x10, hx10, h⟩ := Comp.run_bind h
 refine' regionT [_, _, _, SP.vl (rSl (rInt .u32)) O8 x9, SP.tup2 (SP.vl r_api_Num O8 x10.1) (SP.isv (.bool x10.2)), SP.tup2 (SP.vl r_api_Num O8 x10.1) (SP.isv (.bool x10.2)), SP.vl r_api_Num O8 x10.1, SP.isv (.bool x10.2)] hA (.cons ?z5_0 (.cons ?z5_1 (.cons ?z5_2 (.cons ?z5_3 (.cons ?z5_4 (.cons ?z5_5 (.cons ?z5_6 (.cons ?z5_7 .nil)))))))) ?zok5 ?zgd5 ?zk5
 case z5_0 => intro a' w' hE hK hg; exact ok_move (kn (hK 0 rfl) rfl q0)
 case z5_1 => intro a' w' hE hK hg; exact ok_lss (ksv (j := 0) (hK 13 rfl) rfl rfl rfl) rfl
 case z5_2 => intro a' w' hE hK hg; exact ok_move (kn (hK 3 rfl) rfl q3)
 case z5_3 => intro a' w' hE hK hg; have c_ := ok_colletref01_digits (OkO.ext hB.ok hE)  hx9; exact ok_weak (ok_call1 fn102 (ksv (j := 2) (hK 15 rfl) rfl rfl rfl) c_) (fun _ _ _ h => (OwnR.val h (fun g hg => (OkO.ext hB.ok hE) g (OwnR.ge h g hg).1)))
 case z5_4 => intro a' w' hE hK hg; have c_ := ok_colletref01_signed (OkO.ext hB.ok hE) (kspS (φ := SP.vl (rSl (rInt .u32)) O8 x9) (j := 3) (hK 16 rfl) rfl rfl rfl) hx10; exact ok_call2 fn101 (ksv (j := 1) (hK 14 rfl) rfl rfl rfl) rfl c_
 case z5_5 => intro a' w' hE hK hg; exact ok_move_pr (φ := SP.tup2 (SP.vl r_api_Num O8 x10.1) (SP.isv (.bool x10.2))) (kspS (φ := SP.tup2 (SP.vl r_api_Num O8 x10.1) (SP.isv (.bool x10.2))) (j := 4) (hK 17 rfl) rfl rfl rfl)
 case z5_6 => intro a' w' hE hK hg; exact okl_ext0 (kspS (φ := SP.tup2 (SP.vl r_api_Num O8 x10.1) (SP.isv (.bool x10.2))) (j := 5) (hK 12 rfl) rfl rfl rfl)
 case z5_7 => intro a' w' hE hK hg; exact okl_ext1 (kspS (φ := SP.tup2 (SP.vl r_api_Num O8 x10.1) (SP.isv (.bool x10.2))) (j := 5) (hK 12 rfl) rfl rfl rfl)
 case zok5 => kernel_rfl
 case zgd5 => kernel_rfl
 intro a6 w6 hA' hE HF
 replace q2 := kn (HF 2) rfl q2
 have f12 := ksp (HF 18) rfl rfl rfl
 obtain ⟨u11, q18'⟩ : ∃ u, a6.get 18 = u := ⟨_, rfl⟩
 rw [q18'] at f12
 have q18 := q18'; clear q18'
 have q19 := ksv (HF 19) rfl rfl rfl
 clear q0
 clear q3
 clear hA HF; have hA := hA'; clear hA'
 replace f5 := f5.ext hE
 replace hB := Base.step hB hE hO; clear hE
 refine l_ok (φ := SP.box w6.heap.size #[.bool false, .slice none 0 0] 89) hO hB (by exact ok_alloc (Nat.le_refl _) ty89) rfl fun u13 w7 hE hB' f14 => ?_
 clear hB'; obtain ⟨O15, b17, hB', hX, e_, f16⟩ := boxNew hO hB hE f14 2 (by decide)
 subst e_; clear hB f14; have hB := hB'; clear hB'
 replace f12 := GR.kx _ f12 hX (by decide)
 replace f5 := f5.kx hX (by decide)
 clear hX hE
 refine put_cont hA (by decide) fun a8 hA' q_ hfr => ?_
 clear hA; have hA := hA'; clear hA'
 replace q2 := (hfr 2 rfl).trans q2
 replace q18 := (hfr 18 rfl).trans q18
 replace q19 := (hfr 19 rfl).trans q19
 have q4 := q_; clear q_ hfr
 obtain ⟨u18, e_, f19⟩ := openV_api_Num f12; subst e_
 refine l_storeSub (vs := [.bool x10.1.Neg, u18]) (cs' := #[.bool x10.1.Neg, u18]) hO hB (okB_fr hB) ty89 q4 q18 rfl (by intro c_ hc_; simp only [List.mem_cons, List.not_mem_nil, or_false] at hc_; rcases hc_ with rfl | rfl <;> first | rfl | assumption | exact sl_one f19 rfl rfl) f16 (by simp) rfl fun w9 f20 hB' hX => ?_
 clear hB f16; have hB := hB'; clear hB'
 replace f19 := GR.kx _ f19 hX (by decide)
 replace f5 := f5.kx hX (by decide)
 clear hX
 refine l_ok (φ := SP.isv (.bool x10.2)) hO hB (by exact ok_assign q19) rfl fun u_ w10 hE hB' hv_ => ?_
 replace hv_ := Eq.symm hv_; subst hv_; clear hB; have hB := hB'; clear hB'
 replace f5 := f5.ext hE
 replace f20 := f20.ext hE
 replace f19 := GR.v_ext _ f19 hE
 clear hE
 refine put_cont hA (by decide) fun a11 hA' q_ hfr => ?_
 clear hA; have hA := hA'; clear hA'
 replace q2 := (hfr 2 rfl).trans q2
 replace q4 := (hfr 4 rfl).trans q4
 replace q19 := (hfr 19 rfl).trans q19
 have q5 := q_; clear q_ hfr
 refine li_nil (nx_then (wp_seq ?_))
 refine' regionT [SP.isv (.agg #[.bool x10.1.Neg, u18])] hA (.cons ?z6_0 .nil) ?zok6 ?zgd6 ?zk6
 case z6_0 => intro a' w' hE hK hg; exact ok_loadOwnAgg ty89 rfl (kn (hK 4 rfl) rfl q4) (OwnB.ext f20 hE).own rfl
 case zok6 => kernel_rfl
 case zgd6 => kernel_rfl
 intro a12 w12 hA' hE HF
 replace q2 := kn (HF 2) rfl q2
 have q20 := ksv (HF 20) rfl rfl rfl
 clear q4
 clear hA HF; have hA := hA'; clear hA'
 replace f5 := f5.ext hE
 replace f20 := f20.ext hE
 replace f19 := GR.v_ext _ f19 hE
 replace hB := Base.step hB hE hO; clear hE
 refine l_storeSub (vs := [.bool x10.1.Neg, u18]) (cs' := #[.bool x10.1.Neg, u18]) hO hB (okB_fr hB) ty89 q2 q20 rfl (by intro c_ hc_; simp only [List.mem_cons, List.not_mem_nil, or_false] at hc_; rcases hc_ with rfl | rfl <;> first | rfl | assumption | exact sl_one f19 rfl rfl) f5 (by simp) rfl fun w13 f21 hB' hX => ?_
 clear hB f5; have hB := hB'; clear hB'
 replace f19 := GR.kx _ f19 hX (by decide)
 clear hX
 refine li_nil (nx_then (wp_ret ?_))
 have h := Comp.run_pure h; subst h
 exact retG1 Try.results65 hA (.agg q2 ty89 rfl rfl f21.own) ⟨_, rfl, hB.ext, (hB.res r_api_Num ⟨_, ⟨_, _, rfl, rfl, ⟨_, _, rfl, (rel_ofF (r := (rSl (rInt .u32))) f19 rfl rfl), rfl⟩⟩, rfl⟩)⟩
theorem ok_colletref01_Right {O : Tags} {w0 : World} (hO : OkO O w0) {v_0 : Value} {x_0 : api_Num} (h_0 : r_api_Num.v O w0 v_0 x_0) {n : Nat} {y : Bool} (h : (colletref01_Right x_0).run n = some y) : Pure Try.prog 99 #[v_0] w0 (SP.isv (.bool y)).holds := by
 unfold colletref01_Right at h
 refine pure_of_wp Try.func99 rfl 25 Try.ntmps99 (by simp) fun a0 hA hs0 => ?_
 have q0 : a0.get 0 = v_0 := hs0 0 _ rfl
 clear hs0
 have hB : Base (Fr w0) O w0 O w0 := Base.start hO
 refine wp_seq ?_
 refine' region [SP.vl (rBox r_api_Num) O x_0, _] mixed hA (.cons ?z1_0 (.cons ?z1_1 .nil)) ?zok1 ?zgd1 ?zk1
 case z1_0 => intro a' w' hE hK hg; exact okl_boxV (r := r_api_Num) fit_api_Num (OkO.ext hB.ok hE) (kn (hK 0 rfl) rfl q0) (GR.v_ext _ h_0 hE)
 case z1_1 => intro a' w' hE hK hg; exact ok_assign rfl
 case zok1 => kernel_rfl
 case zgd1 => kernel_rfl
 intro a1 w1 hA' hE HF
 have f2 := ksp (HF 1) rfl rfl rfl
 obtain ⟨u1, q1'⟩ : ∃ u, a1.get 1 = u := ⟨_, rfl⟩
 rw [q1'] at f2
 have q1 := q1'; clear q1'
 clear q0
 clear hA HF; have hA := hA'; clear hA'
 replace h_0 := GR.v_ext _ h_0 hE
 replace hB := Base.step hB hE hO; clear hE
 refine li_nil (nx_then (wp_seq (wp_seq ?_)))
 refine' region [SP.ptr (rSl (rInt .u32)) O x_0.D, SP.vl (rSl (rInt .u32)) O x_0.D, _, _] mixed hA (.cons ?z2_0 (.cons ?z2_1 (.cons ?z2_2 (.cons ?z2_3 .nil)))) ?zok2 ?zgd2 ?zk2
 case z2_0 => intro a' w' hE hK hg; exact okl_fldB (S := r_api_Num) fit_api_Num rfl (fun _ => rfl) sb_api_Num_1 fl89_1 (kn (hK 1 rfl) rfl q1) (GR.v_ext _ f2 hE)
 case z2_1 => intro a' w' hE hK hg; exact okl_ld (r := (rSl (rInt .u32))) (fun _ => rfl) ty87 rfl rfl rfl (kspS (φ := SP.ptr (rSl (rInt .u32)) O x_0.D) (j := 0) (hK 3 rfl) rfl rfl rfl)
 case z2_2 => intro a' w' hE hK hg; exact okl_len (r := (rInt .u32)) ty87 rfl (rd_of (kspS (φ := SP.vl (rSl (rInt .u32)) O x_0.D) (j := 1) (hK 4 rfl) rfl rfl rfl))
 case z2_3 => intro a' w' hE hK hg; exact ok_eqlI (ksv (j := 2) (hK 5 rfl) rfl rfl rfl) rfl
 case zok2 => kernel_rfl
 case zgd2 => kernel_rfl
 intro a2 w2 hA' hE HF
 replace q1 := kn (HF 1) rfl q1
 have q6 := ksv (HF 6) rfl rfl rfl
 clear hA HF; have hA := hA'; clear hA'
 replace f2 := GR.v_ext _ f2 hE
 replace hB := Base.step hB hE hO; clear hE
 refine li_nil (nx_then ?_)
 refine wp_cond_b q6 (fun hc => ?_) (fun hc => ?_)
 ·
  replace h := Comp.run_b_t hc h; clear hc
  refine wp_seq ?_
  refine' region [SP.ptr rBool O x_0.Neg, SP.isv (.bool x_0.Neg), _, _] mixed hA (.cons ?z3_0 (.cons ?z3_1 (.cons ?z3_2 (.cons ?z3_3 .nil)))) ?zok3 ?zgd3 ?zk3
  case z3_0 => intro a' w' hE hK hg; exact okl_fldB (S := r_api_Num) fit_api_Num rfl (fun _ => rfl) sb_api_Num_0 fl89_0 (kn (hK 1 rfl) rfl q1) (GR.v_ext _ f2 hE)
  case z3_1 => intro a' w' hE hK hg; exact okl_ldr rBool (fun _ => rfl) ty4 rfl rfl rfl (kspS (φ := SP.ptr rBool O x_0.Neg) (j := 0) (hK 7 rfl) rfl rfl rfl) (fun _ _ _ h => rBool_v.1 h)
  case z3_2 => intro a' w' hE hK hg; exact ok_not (ksv (j := 1) (hK 8 rfl) rfl rfl rfl)
  case z3_3 => intro a' w' hE hK hg; exact ok_assign (ksv (j := 2) (hK 9 rfl) rfl rfl rfl)
  case zok3 => kernel_rfl
  case zgd3 => kernel_rfl
  intro a3 w3 hA' hE HF
  have q2 := ksv (HF 2) rfl rfl rfl
  clear q1
  clear q6
  clear hA HF; have hA := hA'; clear hA'
  replace f2 := GR.v_ext _ f2 hE
  replace hB := Base.step hB hE hO; clear hE
  refine li_nil (nx_then (wp_ret (rt_then ?_)))
  have h := Comp.run_pure h; subst h
  exact retPure Try.results99 hA q2 hB.ext rfl
 ·
  replace h := Comp.run_b_f hc h; clear hc
  refine wp_skip (nx_then (wp_seq ?_))
  obtain ⟨x3, hx3, h⟩ := Comp.run_bind h
  refine' region [SP.ptr (rSl (rInt .u32)) O x_0.D, SP.vl (rSl (rInt .u32)) O x_0.D, _, _, _, SP.ptr (rSl (rInt .u32)) O x_0.D, SP.vl (rSl (rInt .u32)) O x_0.D, SP.ptr (rSl (rInt .u32)) O x_0.D, SP.vl (rSl (rInt .u32)) O x_0.D, _, _, SP.ptr (rInt .u32) O x3, SP.isv (.int .u32 x3), _, _, _] mixed hA (.cons ?z4_0 (.cons ?z4_1 (.cons ?z4_2 (.cons ?z4_3 (.cons ?z4_4 (.cons ?z4_5 (.cons ?z4_6 (.cons ?z4_7 (.cons ?z4_8 (.cons ?z4_9 (.cons ?z4_10 (.cons ?z4_11 (.cons ?z4_12 (.cons ?z4_13 (.cons ?z4_14 (.cons ?z4_15 .nil)))))))))))))))) ?zok4 ?zgd4 ?zk4
  case z4_0 => intro a' w' hE hK hg; exact okl_fldB (S := r_api_Num) fit_api_Num rfl (fun _ => rfl) sb_api_Num_1 fl89_1 (kn (hK 1 rfl) rfl q1) (GR.v_ext _ f2 hE)
  case z4_1 => intro a' w' hE hK hg; exact okl_ld (r := (rSl (rInt .u32))) (fun _ => rfl) ty87 rfl rfl rfl (kspS (φ := SP.ptr (rSl (rInt .u32)) O x_0.D) (j := 0) (hK 10 rfl) rfl rfl rfl)
  case z4_2 => intro a' w' hE hK hg; exact okl_len (r := (rInt .u32)) ty87 rfl (rd_of (kspS (φ := SP.vl (rSl (rInt .u32)) O x_0.D) (j := 1) (hK 11 rfl) rfl rfl rfl))
  case z4_3 => intro a' w' hE hK hg; exact ok_leq (ksv (j := 2) (hK 12 rfl) rfl rfl rfl) rfl
  case z4_4 => intro a' w' hE hK hg; exact ok_move (ksv (j := 3) (hK 13 rfl) rfl rfl rfl)
  case z4_5 => intro a' w' hE hK hg; exact okl_fldB (S := r_api_Num) fit_api_Num rfl (fun _ => rfl) sb_api_Num_1 fl89_1 (kn (hK 1 rfl) rfl q1) (GR.v_ext _ f2 hE)
  case z4_6 => intro a' w' hE hK hg; exact okl_ld (r := (rSl (rInt .u32))) (fun _ => rfl) ty87 rfl rfl rfl (kspS (φ := SP.ptr (rSl (rInt .u32)) O x_0.D) (j := 5) (hK 15 rfl) rfl rfl hg)
  case z4_7 => intro a' w' hE hK hg; exact okl_fldB (S := r_api_Num) fit_api_Num rfl (fun _ => rfl) sb_api_Num_1 fl89_1 (kn (hK 1 rfl) rfl q1) (GR.v_ext _ f2 hE)
  case z4_8 => intro a' w' hE hK hg; exact okl_ld (r := (rSl (rInt .u32))) (fun _ => rfl) ty87 rfl rfl rfl (kspS (φ := SP.ptr (rSl (rInt .u32)) O x_0.D) (j := 7) (hK 17 rfl) rfl rfl hg)
  case z4_9 => intro a' w' hE hK hg; exact okl_len (r := (rInt .u32)) ty87 rfl (rd_of (kspS (φ := SP.vl (rSl (rInt .u32)) O x_0.D) (j := 8) (hK 18 rfl) rfl rfl hg))
  case z4_10 => intro a' w' hE hK hg; exact ok_sub (ksv (j := 9) (hK 19 rfl) rfl rfl hg) rfl
  case z4_11 => intro a' w' hE hK hg; exact okl_idx (r := (rInt .u32)) (O := O) ty87 ty123 rfl rfl (rd_of (kspS (φ := SP.vl (rSl (rInt .u32)) O x_0.D) (j := 6) (hK 16 rfl) rfl rfl hg)) (ksv (j := 10) (hK 20 rfl) rfl rfl hg) (run_gdb hx3 hg)
  case z4_12 => intro a' w' hE hK hg; exact okl_ldr (rInt .u32) (fun _ => rfl) ty123 rfl rfl rfl (kspS (φ := SP.ptr (rInt .u32) O x3) (j := 11) (hK 21 rfl) rfl rfl hg) (fun _ _ _ h => rInt_v.1 h)
  case z4_13 => intro a' w' hE hK hg; exact ok_neqI (ksv (j := 12) (hK 22 rfl) rfl rfl hg) rfl
  case z4_14 => intro a' w' hE hK hg; exact ok_pick (ksv (j := 4) (hK 14 rfl) rfl rfl rfl) (fun hb => ksv (j := 13) (hK 23 rfl) rfl rfl (act_g1 rfl rfl hb)) (fun _ => rfl)
  case z4_15 => intro a' w' hE hK hg; exact ok_assign (ksv (j := 14) (hK 24 rfl) rfl rfl rfl)
  case zok4 => kernel_rfl
  case zgd4 => kernel_rfl
  intro a4 w4 hA' hE HF
  have q2 := ksv (HF 2) rfl rfl rfl
  clear q1
  clear q6
  clear hA HF; have hA := hA'; clear hA'
  replace f2 := GR.v_ext _ f2 hE
  replace hB := Base.step hB hE hO; clear hE
  obtain ⟨x4, hx_, h⟩ := Comp.run_bind h; replace hx_ := Comp.run_pure hx_; rw [hx_] at q2; clear hx_
  refine li_nil (nx_then (wp_ret ?_))
  have h := Comp.run_pure h; subst h
  exact retPure Try.results99 hA q2 hB.ext rfl
theorem ok_colletref01_Text {O : Tags} {w0 : World} (hO : OkO O w0) {v_0 : Value} {x_0 : api_Num} (h_0 : r_api_Num.v O w0 v_0 x_0) {n : Nat} {y : Bytes} (h : (colletref01_Text x_0).run n = some y) : Pure Try.prog 64 #[v_0] w0 (SP.isv (.string (str y))).holds := by
 unfold colletref01_Text at h
 refine pure_of_wp Try.func64 rfl 58 Try.ntmps64 (by simp) fun a0 hA hs0 => ?_
 have q0 : a0.get 0 = v_0 := hs0 0 _ rfl
 clear hs0
 have hB : Base (Fr w0) O w0 O w0 := Base.start hO
 refine wp_seq ?_
 refine' region [SP.vl (rBox r_api_Num) O x_0, _] mixed hA (.cons ?z1_0 (.cons ?z1_1 .nil)) ?zok1 ?zgd1 ?zk1
 case z1_0 => intro a' w' hE hK hg; exact okl_boxV (r := r_api_Num) fit_api_Num (OkO.ext hB.ok hE) (kn (hK 0 rfl) rfl q0) (GR.v_ext _ h_0 hE)
 case z1_1 => intro a' w' hE hK hg; exact ok_assign rfl
 case zok1 => kernel_rfl
 case zgd1 => kernel_rfl
 intro a1 w1 hA' hE HF
 have f2 := ksp (HF 1) rfl rfl rfl
 obtain ⟨u1, q1'⟩ : ∃ u, a1.get 1 = u := ⟨_, rfl⟩
 rw [q1'] at f2
 have q1 := q1'; clear q1'
 clear q0
 clear hA HF; have hA := hA'; clear hA'
 replace h_0 := GR.v_ext _ h_0 hE
 replace hB := Base.step hB hE hO; clear hE
 refine li_nil (nx_then (wp_seq (wp_seq ?_)))
 obtain ⟨x3, hx3, h⟩ := Comp.run_bind h
 refine' region [SP.vl r_api_Num O x_0, SP.isv (.bool x3), _] mixed hA (.cons ?z2_0 (.cons ?z2_1 (.cons ?z2_2 .nil))) ?zok2 ?zgd2 ?zk2
 case z2_0 => intro a' w' hE hK hg; exact okl_ld (r := r_api_Num) fit_api_Num ty89 rfl rfl (kn (hK 1 rfl) rfl q1) (ptr_of_box fit_api_Num (GR.v_ext _ f2 hE))
 case z2_1 => intro a' w' hE hK hg; have c_ := ok_colletref01_Right (OkO.ext hB.ok hE) (kspS (φ := SP.vl r_api_Num O x_0) (j := 0) (hK 7 rfl) rfl rfl rfl) hx3; exact ok_call1 fn99 rfl c_
 case z2_2 => intro a' w' hE hK hg; exact ok_not (ksv (j := 1) (hK 8 rfl) rfl rfl rfl)
 case zok2 => kernel_rfl
 case zgd2 => kernel_rfl
 intro a2 w2 hA' hE HF
 replace q1 := kn (HF 1) rfl q1
 have q9 := ksv (HF 9) rfl rfl rfl
 clear hA HF; have hA := hA'; clear hA'
 replace f2 := GR.v_ext _ f2 hE
 replace hB := Base.step hB hE hO; clear hE
 refine li_nil (nx_then ?_)
 refine wp_cond_b q9 (fun hc => ?_) (fun hc => ?_)
 ·
  replace h := Comp.run_b_t hc h; clear hc
  refine wp_seq ?_
  refine' region [_] mixed hA (.cons ?z3_0 .nil) ?zok3 ?zgd3 ?zk3
  case z3_0 => intro a' w' hE hK hg; exact ok_assign rfl
  case zok3 => kernel_rfl
  case zgd3 => kernel_rfl
  intro a3 w3 hA' hE HF
  have q2 := ksv (HF 2) rfl rfl rfl
  clear q1
  clear q9
  clear hA HF; have hA := hA'; clear hA'
  replace f2 := GR.v_ext _ f2 hE
  replace hB := Base.step hB hE hO; clear hE
  refine li_nil (nx_then (wp_ret (rt_then ?_)))
  have h := Comp.run_pure h; subst h
  exact retPure Try.results64 hA q2 hB.ext rfl
 ·
  replace h := Comp.run_b_f hc h; clear hc
  refine wp_skip (nx_then (wp_seq (wp_seq ?_)))
  refine' region [SP.ptr (rSl (rInt .u32)) O x_0.D, SP.vl (rSl (rInt .u32)) O x_0.D, _, _] mixed hA (.cons ?z4_0 (.cons ?z4_1 (.cons ?z4_2 (.cons ?z4_3 .nil)))) ?zok4 ?zgd4 ?zk4
  case z4_0 => intro a' w' hE hK hg; exact okl_fldB (S := r_api_Num) fit_api_Num rfl (fun _ => rfl) sb_api_Num_1 fl89_1 (kn (hK 1 rfl) rfl q1) (GR.v_ext _ f2 hE)
  case z4_1 => intro a' w' hE hK hg; exact okl_ld (r := (rSl (rInt .u32))) (fun _ => rfl) ty87 rfl rfl rfl (kspS (φ := SP.ptr (rSl (rInt .u32)) O x_0.D) (j := 0) (hK 10 rfl) rfl rfl rfl)
  case z4_2 => intro a' w' hE hK hg; exact okl_len (r := (rInt .u32)) ty87 rfl (rd_of (kspS (φ := SP.vl (rSl (rInt .u32)) O x_0.D) (j := 1) (hK 11 rfl) rfl rfl rfl))
  case z4_3 => intro a' w' hE hK hg; exact ok_eqlI (ksv (j := 2) (hK 12 rfl) rfl rfl rfl) rfl
  case zok4 => kernel_rfl
  case zgd4 => kernel_rfl
  intro a4 w4 hA' hE HF
  replace q1 := kn (HF 1) rfl q1
  have q13 := ksv (HF 13) rfl rfl rfl
  clear q9
  clear hA HF; have hA := hA'; clear hA'
  replace f2 := GR.v_ext _ f2 hE
  replace hB := Base.step hB hE hO; clear hE
  refine li_nil (nx_then ?_)
  refine wp_cond_b q13 (fun hc => ?_) (fun hc => ?_)
  ·
   replace h := Comp.run_b_t hc h; clear hc
   refine wp_seq ?_
   refine' region [_] mixed hA (.cons ?z5_0 .nil) ?zok5 ?zgd5 ?zk5
   case z5_0 => intro a' w' hE hK hg; exact ok_assign rfl
   case zok5 => kernel_rfl
   case zgd5 => kernel_rfl
   intro a5 w5 hA' hE HF
   have q2 := ksv (HF 2) rfl rfl rfl
   clear q1
   clear q13
   clear hA HF; have hA := hA'; clear hA'
   replace f2 := GR.v_ext _ f2 hE
   replace hB := Base.step hB hE hO; clear hE
   refine li_nil (nx_then (wp_ret (rt_then ?_)))
   have h := Comp.run_pure h; subst h
   exact retPure Try.results64 hA q2 hB.ext rfl
  ·
   replace h := Comp.run_b_f hc h; clear hc
   refine wp_skip (nx_then (wp_seq ?_))
   refine' region [_] mixed hA (.cons ?z6_0 .nil) ?zok6 ?zgd6 ?zk6
   case z6_0 => intro a' w' hE hK hg; exact ok_assign rfl
   case zok6 => kernel_rfl
   case zgd6 => kernel_rfl
   intro a6 w6 hA' hE HF
   replace q1 := kn (HF 1) rfl q1
   have q3 := ksv (HF 3) rfl rfl rfl
   clear q13
   clear hA HF; have hA := hA'; clear hA'
   replace f2 := GR.v_ext _ f2 hE
   replace hB := Base.step hB hE hO; clear hE
   refine li_nil (nx_then (wp_seq ?_))
   refine' regionT [] hA .nil ?zok7 ?zgd7 ?zk7
   case zok7 => kernel_rfl
   case zgd7 => kernel_rfl
   intro a7 w7 hA' hE HF
   replace q1 := kn (HF 1) rfl q1
   replace q3 := kn (HF 3) rfl q3
   clear hA HF; have hA := hA'; clear hA'
   replace f2 := GR.v_ext _ f2 hE
   replace hB := Base.step hB hE hO; clear hE
   refine l_ok (φ := SP.ownr (rInt .u32) 123 w7.heap.size O []) hO hB (by exact okl_buildSlice (r := (rInt .u32)) (fun _ => rfl) rfl hB.ok ty87 ty123 (Nat.le_refl _) parts_nil trivial rfl (by decide)) rfl fun u4 w8 hE hB' f5 => ?_
   clear hB'; obtain ⟨O6, hB', hX, f7⟩ := ownNew hO hB hE f5 rfl 1 (by decide)
   clear hB f5; have hB := hB'; clear hB'
   replace f2 := GR.kx _ f2 hX (by decide)
   clear hX hE
   refine put_cont hA (by decide) fun a9 hA' q_ hfr => ?_
   clear hA; have hA := hA'; clear hA'
   replace q1 := (hfr 1 rfl).trans q1
   replace q3 := (hfr 3 rfl).trans q3
   have q14 := q_; clear q_ hfr
   refine l_ok (φ := SP.ptr (rSl (rInt .u32)) O6 x_0.D) hO hB (by exact okl_fldB (S := r_api_Num) fit_api_Num rfl (fun _ => rfl) sb_api_Num_1 fl89_1 q1 f2) rfl fun u8 w10 hE hB' f9 => ?_
   clear hB; have hB := hB'; clear hB'
   replace f2 := GR.v_ext _ f2 hE
   replace f7 := f7.ext hE
   clear hE
   refine put_cont hA (by decide) fun a11 hA' q_ hfr => ?_
   clear hA; have hA := hA'; clear hA'
   replace q1 := (hfr 1 rfl).trans q1
   replace q3 := (hfr 3 rfl).trans q3
   replace q14 := (hfr 14 rfl).trans q14
   have q15 := q_; clear q_ hfr
   refine l_ok (φ := SP.vl (rSl (rInt .u32)) O6 x_0.D) hO hB (by exact okl_ld (r := (rSl (rInt .u32))) (fun _ => rfl) ty87 rfl rfl q15 f9) rfl fun u10 w12 hE hB' f11 => ?_
   clear hB; have hB := hB'; clear hB'
   replace f2 := GR.v_ext _ f2 hE
   replace f7 := f7.ext hE
   clear hE
   refine put_cont hA (by decide) fun a13 hA' q_ hfr => ?_
   clear hA; have hA := hA'; clear hA'
   replace q1 := (hfr 1 rfl).trans q1
   replace q3 := (hfr 3 rfl).trans q3
   replace q14 := (hfr 14 rfl).trans q14
   replace q15 := (hfr 15 rfl).trans q15
   have q16 := q_; clear q_ hfr
   obtain ⟨x12, hx12, h⟩ := Comp.run_bind h
   refine l_append (r := (rInt .u32)) (fun _ => rfl) rfl ty87 ty123 rfl (by decide) hO hB (okB_fr hB) q14 f7 q16 (rd_of f11) hx12 (by decide) fun u13 w14 O14 f15 hB' hX => ?_
   clear hB; have hB := hB'; clear hB'
   clear f7
   replace f2 := GR.kx _ f2 hX (by decide)
   replace f11 := GR.kx _ f11 hX (by decide)
   clear hX
   refine put_cont hA (by decide) fun a15 hA' q_ hfr => ?_
   clear hA; have hA := hA'; clear hA'
   replace q1 := (hfr 1 rfl).trans q1
   replace q3 := (hfr 3 rfl).trans q3
   replace q14 := (hfr 14 rfl).trans q14
   replace q16 := (hfr 16 rfl).trans q16
   have q17 := q_; clear q_ hfr
   refine l_ok (φ := SP.isv (u13)) hO hB (by exact ok_assign q17) rfl fun u_ w16 hE hB' hv_ => ?_
   replace hv_ := Eq.symm hv_; subst hv_; clear hB; have hB := hB'; clear hB'
   replace f2 := GR.v_ext _ f2 hE
   replace f15 := f15.ext hE
   clear hE
   refine put_cont hA (by decide) fun a17 hA' q_ hfr => ?_
   clear hA; have hA := hA'; clear hA'
   replace q1 := (hfr 1 rfl).trans q1
   replace q3 := (hfr 3 rfl).trans q3
   replace q17 := (hfr 17 rfl).trans q17
   have q4 := q_; clear q_ hfr
   refine li_nil (nx_then ?_)
   refine seq_join (fun a w => ∃ (O56 : Tags) (x55 : Bytes), a.fit 58 ∧ Base (Fr w0) O w0 O56 w ∧ a.get 1 = u1 ∧ (rBox r_api_Num).v O56 w u1 x_0 ∧ a.get 3 = .string (str x55) ∧ (colletref01_Text_j1 x_0 x55).run n = some y) ?_ ?_
   ·
    refine wp_block ?_
    obtain ⟨O20, hB', hX, f21⟩ := retagL (okB_fr hB) hB f15 2 (by decide) (by decide)
    clear f15 hB; have hB := hB'; clear hB'
    replace f2 := GR.kx _ f2 hX (by decide)
    clear hX
    obtain ⟨e2, he2, hk2⟩ := Comp.run_bind h; clear h
    refine loop_m (fun m a w => ∃ (O22 : Tags) (x16 : Bytes) (x17 : List Int) (u18 : Value), a.fit 58 ∧ Base (Fr w0) O w0 O22 w ∧ a.get 1 = u1 ∧ (rBox r_api_Num).v O22 w u1 x_0 ∧ a.get 3 = .string (str x16) ∧ a.get 4 = u18 ∧ OwnL 2 (rInt .u32) 123 (Fr w0) O22 w u18 x17 ∧ Comp.loopN (fun s => colletref01_Text_l2 s.1 s.2) n m (x16, x17) = some e2) (m := n) ?st2 ?_
    case st2 =>
     exact ⟨_, _, _, _, hA, hB, q1, f2, q3, q4, f21, Comp.run_loop he2⟩
    intro m_ a18 w18 hI
    clear hA hB he2 q1 q3 q4 f2 f21
    obtain ⟨O22, x16, x17, u18, hA, hB, q1, f2, q3, q4, f19, hl⟩ := hI
    obtain ⟨m2, hlt2, st2, h, hnext2, hdone2⟩ := Comp.loopN_succ hl; clear hl
    replace h : (colletref01_Text_l2 x16 x17).run n = some st2 := h
    unfold colletref01_Text_l2 at h
    refine wp_seq (wp_seq ?_)
    refine' region [_, _, _] mixed hA (.cons ?z8_0 (.cons ?z8_1 (.cons ?z8_2 .nil))) ?zok8 ?zgd8 ?zk8
    case z8_0 => intro a' w' hE hK hg; exact ok_move (kn (hK 4 rfl) rfl q4)
    case z8_1 => intro a' w' hE hK hg; exact okl_len (r := (rInt .u32)) ty87 (ksv (j := 0) (hK 18 rfl) rfl rfl rfl) (OwnL.rd (OwnL.ext f19 hE))
    case z8_2 => intro a' w' hE hK hg; exact ok_gtr (ksv (j := 1) (hK 19 rfl) rfl rfl rfl) rfl
    case zok8 => kernel_rfl
    case zgd8 => kernel_rfl
    intro a19 w19 hA' hE HF
    replace q1 := kn (HF 1) rfl q1
    replace q3 := kn (HF 3) rfl q3
    replace q4 := kn (HF 4) rfl q4
    have q20 := ksv (HF 20) rfl rfl rfl
    clear hA HF; have hA := hA'; clear hA'
    replace f2 := GR.v_ext _ f2 hE
    replace f19 := f19.ext hE
    replace hB := Base.step hB hE hO; clear hE
    refine li_nil (nx_then ?_)
    refine wp_cond_b q20 (fun hc => ?_) (fun hc => ?_)
    ·
     replace h := Comp.run_b_t hc h; clear hc
     refine wp_skip (nx_then (wp_block (wp_seq ?_)))
     refine' region [_] mixed hA (.cons ?z9_0 .nil) ?zok9 ?zgd9 ?zk9
     case z9_0 => intro a' w' hE hK hg; exact ok_assign rfl
     case zok9 => kernel_rfl
     case zgd9 => kernel_rfl
     intro a20 w20 hA' hE HF
     replace q1 := kn (HF 1) rfl q1
     replace q3 := kn (HF 3) rfl q3
     replace q4 := kn (HF 4) rfl q4
     have q5 := ksv (HF 5) rfl rfl rfl
     clear q20
     clear hA HF; have hA := hA'; clear hA'
     replace f2 := GR.v_ext _ f2 hE
     replace f19 := f19.ext hE
     replace hB := Base.step hB hE hO; clear hE
     refine li_nil (nx_then ?_)
     refine seq_join (fun a w => ∃ (O45 : Tags) (x41 : List Int) (x44 : Int) (u42 : Value), a.fit 58 ∧ Base (Fr w0) O w0 O45 w ∧ a.get 1 = u1 ∧ (rBox r_api_Num).v O45 w u1 x_0 ∧ a.get 3 = .string (str x16) ∧ a.get 4 = u42 ∧ OwnL 2 (rInt .u32) 123 (Fr w0) O45 w u42 x41 ∧ a.get 5 = .int .u64 x44 ∧ (colletref01_Text_j3 x16 x41 x44).run n = some st2) ?_ ?_
     ·
      refine wp_seq ?_
      refine' region [_, _, _, _] mixed hA (.cons ?z10_0 (.cons ?z10_1 (.cons ?z10_2 (.cons ?z10_3 .nil)))) ?zok10 ?zgd10 ?zk10
      case z10_0 => intro a' w' hE hK hg; exact ok_move (kn (hK 4 rfl) rfl q4)
      case z10_1 => intro a' w' hE hK hg; exact okl_len (r := (rInt .u32)) ty87 (ksv (j := 0) (hK 21 rfl) rfl rfl rfl) (OwnL.rd (OwnL.ext f19 hE))
      case z10_2 => intro a' w' hE hK hg; exact ok_sub (ksv (j := 1) (hK 22 rfl) rfl rfl rfl) rfl
      case z10_3 => intro a' w' hE hK hg; exact ok_assign (ksv (j := 2) (hK 23 rfl) rfl rfl rfl)
      case zok10 => kernel_rfl
      case zgd10 => kernel_rfl
      intro a21 w21 hA' hE HF
      replace q1 := kn (HF 1) rfl q1
      replace q3 := kn (HF 3) rfl q3
      replace q4 := kn (HF 4) rfl q4
      replace q5 := kn (HF 5) rfl q5
      have q6 := ksv (HF 6) rfl rfl rfl
      clear hA HF; have hA := hA'; clear hA'
      replace f2 := GR.v_ext _ f2 hE
      replace f19 := f19.ext hE
      replace hB := Base.step hB hE hO; clear hE
      obtain ⟨x23, hx_, h⟩ := Comp.run_bind h; replace hx_ := Comp.run_pure hx_; rw [hx_] at q6; clear hx_
      refine li_nil (nx_then (wp_block ?_))
      obtain ⟨e4, he4, hk4⟩ := Comp.run_bind h; clear h
      refine loop_m (fun m a w => ∃ (O29 : Tags) (x24 : List Int) (x27 : Int) (x28 : Int) (u25 : Value), a.fit 58 ∧ Base (Fr w0) O w0 O29 w ∧ a.get 1 = u1 ∧ (rBox r_api_Num).v O29 w u1 x_0 ∧ a.get 3 = .string (str x16) ∧ a.get 4 = u25 ∧ OwnL 2 (rInt .u32) 123 (Fr w0) O29 w u25 x24 ∧ a.get 5 = .int .u64 x27 ∧ a.get 6 = .int .i64 x28 ∧ Comp.loopN (fun s => colletref01_Text_l4 s.1 s.2.1 s.2.2) n m (x24, x27, x28) = some e4) (m := n) ?st4 ?_
      case st4 =>
       exact ⟨_, _, _, _, _, hA, hB, q1, f2, q3, q4, f19, q5, q6, Comp.run_loop he4⟩
      intro m_ a22 w22 hI
      clear hA hB he4 q1 q3 q4 q5 q6 f19 f2
      obtain ⟨O29, x24, x27, x28, u25, hA, hB, q1, f2, q3, q4, f26, q5, q6, hl⟩ := hI
      obtain ⟨m4, hlt4, st4, h, hnext4, hdone4⟩ := Comp.loopN_succ hl; clear hl
      replace h : (colletref01_Text_l4 x24 x27 x28).run n = some st4 := h
      unfold colletref01_Text_l4 at h
      refine wp_seq (wp_seq ?_)
      refine' region [_, _] mixed hA (.cons ?z11_0 (.cons ?z11_1 .nil)) ?zok11 ?zgd11 ?zk11
      case z11_0 => intro a' w' hE hK hg; exact ok_move (kn (hK 6 rfl) rfl q6)
      case z11_1 => intro a' w' hE hK hg; exact ok_geq (ksv (j := 0) (hK 24 rfl) rfl rfl rfl) rfl
      case zok11 => kernel_rfl
      case zgd11 => kernel_rfl
      intro a23 w23 hA' hE HF
      replace q1 := kn (HF 1) rfl q1
      replace q3 := kn (HF 3) rfl q3
      replace q4 := kn (HF 4) rfl q4
      replace q5 := kn (HF 5) rfl q5
      replace q6 := kn (HF 6) rfl q6
      have q25 := ksv (HF 25) rfl rfl rfl
      clear hA HF; have hA := hA'; clear hA'
      replace f2 := GR.v_ext _ f2 hE
      replace f26 := f26.ext hE
      replace hB := Base.step hB hE hO; clear hE
      refine li_nil (nx_then ?_)
      refine wp_cond_b q25 (fun hc => ?_) (fun hc => ?_)
      ·
       replace h := Comp.run_b_t hc h; clear hc
       refine wp_skip (nx_then (wp_seq (wp_block (wp_seq ?_))))
       obtain ⟨x30, hx30, h⟩ := Comp.run_bind h
       refine' region [_, _, _, _, SP.ptr (rInt .u32) O29 x30, SP.isv (.int .u32 x30), _, _, _] mixed hA (.cons ?z12_0 (.cons ?z12_1 (.cons ?z12_2 (.cons ?z12_3 (.cons ?z12_4 (.cons ?z12_5 (.cons ?z12_6 (.cons ?z12_7 (.cons ?z12_8 .nil))))))))) ?zok12 ?zgd12 ?zk12
       case z12_0 => intro a' w' hE hK hg; exact ok_move (kn (hK 5 rfl) rfl q5)
       case z12_1 => intro a' w' hE hK hg; exact okl_shl (ksv (j := 0) (hK 28 rfl) rfl rfl rfl) rfl (by decide)
       case z12_2 => intro a' w' hE hK hg; exact ok_move (kn (hK 4 rfl) rfl q4)
       case z12_3 => intro a' w' hE hK hg; exact ok_move (kn (hK 6 rfl) rfl q6)
       case z12_4 => intro a' w' hE hK hg; exact okl_idx (r := (rInt .u32)) (O := O29) ty87 ty123 rfl (ksv (j := 2) (hK 30 rfl) rfl rfl rfl) (OwnL.rd (OwnL.ext f26 hE)) (ksv (j := 3) (hK 31 rfl) rfl rfl rfl) hx30
       case z12_5 => intro a' w' hE hK hg; exact okl_ldr (rInt .u32) (fun _ => rfl) ty123 rfl rfl rfl (kspS (φ := SP.ptr (rInt .u32) O29 x30) (j := 4) (hK 32 rfl) rfl rfl rfl) (fun _ _ _ h => rInt_v.1 h)
       case z12_6 => intro a' w' hE hK hg; exact ok_convI ty123 ty122 (ksv (j := 5) (hK 33 rfl) rfl rfl rfl)
       case z12_7 => intro a' w' hE hK hg; exact ok_add (ksv (j := 1) (hK 29 rfl) rfl rfl rfl) (ksv (j := 6) (hK 34 rfl) rfl rfl rfl)
       case z12_8 => intro a' w' hE hK hg; exact ok_assign (ksv (j := 7) (hK 35 rfl) rfl rfl rfl)
       case zok12 => kernel_rfl
       case zgd12 => kernel_rfl
       intro a24 w24 hA' hE HF
       replace q1 := kn (HF 1) rfl q1
       replace q3 := kn (HF 3) rfl q3
       replace q4 := kn (HF 4) rfl q4
       have q5' := ksv (HF 5) rfl rfl rfl
       replace q5 := q5'; clear q5'
       replace q6 := kn (HF 6) rfl q6
       clear q25
       clear hA HF; have hA := hA'; clear hA'
       replace f2 := GR.v_ext _ f2 hE
       replace f26 := f26.ext hE
       replace hB := Base.step hB hE hO; clear hE
       obtain ⟨x31, hx_, h⟩ := Comp.run_bind h; replace hx_ := Comp.run_pure hx_; rw [hx_] at q5; clear hx_
       refine li_nil (nx_then (wp_seq ?_))
       obtain ⟨x32, hx32, h⟩ := Comp.run_bind h
       refine' regionT [_, _, _, _, _, SP.elt (u25) (Int.toNat x28 * 1)] hA (.cons ?z13_0 (.cons ?z13_1 (.cons ?z13_2 (.cons ?z13_3 (.cons ?z13_4 (.cons ?z13_5 .nil)))))) ?zok13 ?zgd13 ?zk13
       case z13_0 => intro a' w' hE hK hg; exact ok_move (kn (hK 4 rfl) rfl q4)
       case z13_1 => intro a' w' hE hK hg; exact ok_move (kn (hK 6 rfl) rfl q6)
       case z13_2 => intro a' w' hE hK hg; exact ok_move (kn (hK 5 rfl) rfl q5)
       case z13_3 => intro a' w' hE hK hg; exact ok_quo (ksv (j := 2) (hK 38 rfl) rfl rfl rfl) rfl (by decide)
       case z13_4 => intro a' w' hE hK hg; exact ok_convI ty122 ty123 (ksv (j := 3) (hK 39 rfl) rfl rfl rfl)
       case z13_5 => intro a' w' hE hK hg; exact okl_idxOwn rfl ty87 ty123 (ksv (j := 0) (hK 36 rfl) rfl rfl rfl) (OwnL.ext f26 hE) (ksv (j := 1) (hK 37 rfl) rfl rfl rfl) (idx_lt hx32)
       case zok13 => kernel_rfl
       case zgd13 => kernel_rfl
       intro a25 w25 hA' hE HF
       replace q1 := kn (HF 1) rfl q1
       replace q3 := kn (HF 3) rfl q3
       replace q4 := kn (HF 4) rfl q4
       replace q5 := kn (HF 5) rfl q5
       replace q6 := kn (HF 6) rfl q6
       have q40 := ksv (HF 40) rfl rfl rfl
       have f34 := ksp (HF 41) rfl rfl rfl
       obtain ⟨u33, q41'⟩ : ∃ u, a25.get 41 = u := ⟨_, rfl⟩
       rw [q41'] at f34
       have q41 := q41'; clear q41'
       clear hA HF; have hA := hA'; clear hA'
       replace f2 := GR.v_ext _ f2 hE
       replace f26 := f26.ext hE
       replace hB := Base.step hB hE hO; clear hE
       obtain ⟨x36, hx36, h⟩ := Comp.run_bind h
       refine l_storeElt (r := (rInt .u32)) (fun _ => rfl) rfl hO hB (okB_fr hB) ty123 q41 f34 f26 q40 (by first | exact rInt_v.2 rfl | exact rBool_v.2 rfl | exact rStr_v.2 rfl | exact rC_v.2 rfl | exact ⟨_, rfl, rfl⟩) hx36 (by decide) fun w26 f35 hB' hX => ?_
       clear hB; have hB := hB'; clear hB'
       replace f2 := GR.kx _ f2 hX (by decide)
       clear hX f26
       refine li_nil (nx_then ?_)
       refine' region [_, _, _] mixed hA (.cons ?z14_0 (.cons ?z14_1 (.cons ?z14_2 .nil))) ?zok14 ?zgd14 ?zk14
       case z14_0 => intro a' w' hE hK hg; exact ok_move (kn (hK 5 rfl) rfl q5)
       case z14_1 => intro a' w' hE hK hg; exact ok_rem (ksv (j := 0) (hK 42 rfl) rfl rfl rfl) rfl (by decide)
       case z14_2 => intro a' w' hE hK hg; exact ok_assign (ksv (j := 1) (hK 43 rfl) rfl rfl rfl)
       case zok14 => kernel_rfl
       case zgd14 => kernel_rfl
       intro a27 w27 hA' hE HF
       replace q1 := kn (HF 1) rfl q1
       replace q3 := kn (HF 3) rfl q3
       replace q4 := kn (HF 4) rfl q4
       have q5' := ksv (HF 5) rfl rfl rfl
       replace q5 := q5'; clear q5'
       replace q6 := kn (HF 6) rfl q6
       clear hA HF; have hA := hA'; clear hA'
       replace f2 := GR.v_ext _ f2 hE
       replace f35 := f35.ext hE
       replace hB := Base.step hB hE hO; clear hE
       refine li_nil (nx_blk (nx_then ?_))
       refine' region [_, _, _] mixed hA (.cons ?z15_0 (.cons ?z15_1 (.cons ?z15_2 .nil))) ?zok15 ?zgd15 ?zk15
       case z15_0 => intro a' w' hE hK hg; exact ok_move (kn (hK 6 rfl) rfl q6)
       case z15_1 => intro a' w' hE hK hg; exact ok_sub (ksv (j := 0) (hK 26 rfl) rfl rfl rfl) rfl
       case z15_2 => intro a' w' hE hK hg; exact ok_assign (ksv (j := 1) (hK 27 rfl) rfl rfl rfl)
       case zok15 => kernel_rfl
       case zgd15 => kernel_rfl
       intro a28 w28 hA' hE HF
       replace q1 := kn (HF 1) rfl q1
       replace q3 := kn (HF 3) rfl q3
       replace q4 := kn (HF 4) rfl q4
       replace q5 := kn (HF 5) rfl q5
       have q6' := ksv (HF 6) rfl rfl rfl
       replace q6 := q6'; clear q6'
       clear hA HF; have hA := hA'; clear hA'
       replace f2 := GR.v_ext _ f2 hE
       replace f35 := f35.ext hE
       replace hB := Base.step hB hE hO; clear hE
       refine li_nil (nx_then ?_)
       have h := hnext4 _ (Comp.run_pure h).symm
       refine ⟨m4, hlt4, ?_⟩
       exact ⟨_, _, _, _, _, hA, hB, q1, f2, q3, q4, f35, q5, q6, h⟩
      ·
       replace h := Comp.run_b_f hc h; clear hc
       refine wp_exit (ex_then (ex_then (ex_same ?_)))
       have hd_ := hdone4 _ (Comp.run_pure h).symm; clear h
       subst hd_; have h := hk4; clear hk4; try dsimp only at h
       refine nx_then ?_
       exact ⟨_, _, _, _, hA, hB, q1, f2, q3, q4, f26, q5, h⟩
     intro a29 w29 hI
     clear hA hB h q1 q3 q4 q5 f19 f2
     obtain ⟨O45, x41, x44, u42, hA, hB, q1, f2, q3, q4, f43, q5, h⟩ := hI
     unfold colletref01_Text_j3 at h
     refine wp_seq ?_
     obtain ⟨x46, hx46, h⟩ := Comp.run_bind h
     obtain ⟨x47, hx47, h⟩ := Comp.run_bind h
     refine' region [_, _, _, SP.vl (rSl (rInt .u8)) O45 [(IntKind.wrap .u8 (IntKind.wrap .u64 (48 + x44)))], SP.isv (.string (str x46)), _, SP.isv (.string (str x47)), _] mixed hA (.cons ?z16_0 (.cons ?z16_1 (.cons ?z16_2 (.cons ?z16_3 (.cons ?z16_4 (.cons ?z16_5 (.cons ?z16_6 (.cons ?z16_7 .nil)))))))) ?zok16 ?zgd16 ?zk16
     case z16_0 => intro a' w' hE hK hg; exact ok_move (kn (hK 5 rfl) rfl q5)
     case z16_1 => intro a' w' hE hK hg; exact ok_add rfl (ksv (j := 0) (hK 44 rfl) rfl rfl rfl)
     case z16_2 => intro a' w' hE hK hg; exact ok_convI ty122 ty5 (ksv (j := 1) (hK 45 rfl) rfl rfl rfl)
     case z16_3 => intro a' w' hE hK hg; exact okl_buildSliceV (r := (rInt .u8)) (fun _ => rfl) rfl (OkO.ext hB.ok hE) ty104 ty5 (parts_cons (ksv (j := 2) (hK 46 rfl) rfl rfl rfl) parts_nil) ⟨(by first | exact rInt_v.2 rfl | exact rBool_v.2 rfl | exact rStr_v.2 rfl | exact rC_v.2 rfl | exact ⟨_, rfl, rfl⟩), trivial⟩ rfl (by decide)
     case z16_4 => intro a' w' hE hK hg; exact okl_bytesToStr ty104 ty5 ty9 rfl (rd_of (kspS (φ := SP.vl (rSl (rInt .u8)) O45 [(IntKind.wrap .u8 (IntKind.wrap .u64 (48 + x44)))]) (j := 3) (hK 47 rfl) rfl rfl rfl)) hx46
     case z16_5 => intro a' w' hE hK hg; exact ok_move (kn (hK 3 rfl) rfl q3)
     case z16_6 => intro a' w' hE hK hg; exact okl_addS (ksv (j := 4) (hK 48 rfl) rfl rfl rfl) (ksv (j := 5) (hK 49 rfl) rfl rfl rfl) hx47
     case z16_7 => intro a' w' hE hK hg; exact ok_assign (ksv (j := 6) (hK 50 rfl) rfl rfl rfl)
     case zok16 => kernel_rfl
     case zgd16 => kernel_rfl
     intro a30 w30 hA' hE HF
     replace q1 := kn (HF 1) rfl q1
     have q3' := ksv (HF 3) rfl rfl rfl
     replace q3 := q3'; clear q3'
     replace q4 := kn (HF 4) rfl q4
     clear q5
     clear hA HF; have hA := hA'; clear hA'
     replace f2 := GR.v_ext _ f2 hE
     replace f43 := f43.ext hE
     replace hB := Base.step hB hE hO; clear hE
     refine li_nil (nx_then ?_)
     refine' regionT [_] hA (.cons ?z17_0 .nil) ?zok17 ?zgd17 ?zk17
     case z17_0 => intro a' w' hE hK hg; exact ok_move (kn (hK 4 rfl) rfl q4)
     case zok17 => kernel_rfl
     case zgd17 => kernel_rfl
     intro a31 w31 hA' hE HF
     replace q1 := kn (HF 1) rfl q1
     replace q3 := kn (HF 3) rfl q3
     replace q4 := kn (HF 4) rfl q4
     have q51 := ksv (HF 51) rfl rfl rfl
     clear hA HF; have hA := hA'; clear hA'
     replace f2 := GR.v_ext _ f2 hE
     replace f43 := f43.ext hE
     replace hB := Base.step hB hE hO; clear hE
     obtain ⟨x48, hx48, h⟩ := Comp.run_bind h
     refine l_io (r := (rInt .u32)) (E := 123) (k := 2) hO hB (okB_fr hB) fn100 (map1 q51) (m_colletref01_trim hB.ok (OwnL.arg f43 (by decide)) hx48) f43 (by decide) fun u50 u49 w32 O51 f52 hB' hX hps => ?_
     clear hB; have hB := hB'; clear hB'
     clear f43
     replace hps : _ = _ := hps; subst hps
     replace f2 := GR.kx _ f2 hX (by decide)
     clear hX
     refine put_cont hA (by decide) fun a33 hA' q_ hfr => ?_
     clear hA; have hA := hA'; clear hA'
     replace q1 := (hfr 1 rfl).trans q1
     replace q3 := (hfr 3 rfl).trans q3
     replace q4 := (hfr 4 rfl).trans q4
     replace q51 := (hfr 51 rfl).trans q51
     have q52 := q_; clear q_ hfr
     refine l_ok (φ := SP.isv (u50)) hO hB (by exact ok_assign q52) rfl fun u_ w34 hE hB' hv_ => ?_
     replace hv_ := Eq.symm hv_; subst hv_; clear hB; have hB := hB'; clear hB'
     replace f2 := GR.v_ext _ f2 hE
     replace f52 := f52.ext hE
     clear hE
     refine put_cont hA (by decide) fun a35 hA' q_ hfr => ?_
     clear hA; have hA := hA'; clear hA'
     replace q1 := (hfr 1 rfl).trans q1
     replace q3 := (hfr 3 rfl).trans q3
     replace q52 := (hfr 52 rfl).trans q52
     clear q4
     have q4 := q_; clear q_ hfr
     refine li_nil (nx_blk (nx_then ?_))
     have h := hnext2 _ (Comp.run_pure h).symm
     refine ⟨m2, hlt2, ?_⟩
     exact ⟨_, _, _, _, hA, hB, q1, f2, q3, q4, f52, h⟩
    ·
     replace h := Comp.run_b_f hc h; clear hc
     refine wp_exit (ex_then (ex_then (ex_same ?_)))
     have hd_ := hdone2 _ (Comp.run_pure h).symm; clear h
     subst hd_; have h := hk2; clear hk2; try dsimp only at h
     refine nx_then ?_
     exact ⟨_, _, hA, hB, q1, f2, q3, h⟩
   intro a36 w36 hI
   clear hA hB h q1 q3 q4 f15 f2
   obtain ⟨O56, x55, hA, hB, q1, f2, q3, h⟩ := hI
   unfold colletref01_Text_j1 at h
   refine wp_seq (wp_seq ?_)
   refine' region [SP.ptr rBool O56 x_0.Neg, SP.isv (.bool x_0.Neg)] mixed hA (.cons ?z18_0 (.cons ?z18_1 .nil)) ?zok18 ?zgd18 ?zk18
   case z18_0 => intro a' w' hE hK hg; exact okl_fldB (S := r_api_Num) fit_api_Num rfl (fun _ => rfl) sb_api_Num_0 fl89_0 (kn (hK 1 rfl) rfl q1) (GR.v_ext _ f2 hE)
   case z18_1 => intro a' w' hE hK hg; exact okl_ldr rBool (fun _ => rfl) ty4 rfl rfl rfl (kspS (φ := SP.ptr rBool O56 x_0.Neg) (j := 0) (hK 53 rfl) rfl rfl rfl) (fun _ _ _ h => rBool_v.1 h)
   case zok18 => kernel_rfl
   case zgd18 => kernel_rfl
   intro a37 w37 hA' hE HF
   replace q3 := kn (HF 3) rfl q3
   have q54 := ksv (HF 54) rfl rfl rfl
   clear q1
   clear hA HF; have hA := hA'; clear hA'
   replace f2 := GR.v_ext _ f2 hE
   replace hB := Base.step hB hE hO; clear hE
   refine li_nil (nx_then ?_)
   refine wp_cond_b q54 (fun hc => ?_) (fun hc => ?_)
   ·
    replace h := Comp.run_b_t hc h; clear hc
    refine wp_seq ?_
    obtain ⟨x57, hx57, h⟩ := Comp.run_bind h
    refine' region [_, SP.isv (.string (str x57)), _] mixed hA (.cons ?z19_0 (.cons ?z19_1 (.cons ?z19_2 .nil))) ?zok19 ?zgd19 ?zk19
    case z19_0 => intro a' w' hE hK hg; exact ok_move (kn (hK 3 rfl) rfl q3)
    case z19_1 => intro a' w' hE hK hg; exact okl_addS rfl (ksv (j := 0) (hK 55 rfl) rfl rfl rfl) hx57
    case z19_2 => intro a' w' hE hK hg; exact ok_assign (ksv (j := 1) (hK 56 rfl) rfl rfl rfl)
    case zok19 => kernel_rfl
    case zgd19 => kernel_rfl
    intro a38 w38 hA' hE HF
    have q2 := ksv (HF 2) rfl rfl rfl
    clear q3
    clear q54
    clear hA HF; have hA := hA'; clear hA'
    replace hB := Base.step hB hE hO; clear hE
    refine li_nil (nx_then (wp_ret (rt_then ?_)))
    have h := Comp.run_pure h; subst h
    exact retPure Try.results64 hA q2 hB.ext rfl
   ·
    replace h := Comp.run_b_f hc h; clear hc
    refine wp_skip (nx_then (wp_seq ?_))
    refine' region [_, _] mixed hA (.cons ?z20_0 (.cons ?z20_1 .nil)) ?zok20 ?zgd20 ?zk20
    case z20_0 => intro a' w' hE hK hg; exact ok_move (kn (hK 3 rfl) rfl q3)
    case z20_1 => intro a' w' hE hK hg; exact ok_assign (ksv (j := 0) (hK 57 rfl) rfl rfl rfl)
    case zok20 => kernel_rfl
    case zgd20 => kernel_rfl
    intro a39 w39 hA' hE HF
    have q2 := ksv (HF 2) rfl rfl rfl
    clear q3
    clear q54
    clear hA HF; have hA := hA'; clear hA'
    replace hB := Base.step hB hE hO; clear hE
    refine li_nil (nx_then (wp_ret ?_))
    have h := Comp.run_pure h; subst h
    exact retPure Try.results64 hA q2 hB.ext rfl
theorem ok_colletref37_Keys {O : Tags} {w0 : World} (hO : OkO O w0) {x_0 : Int} {n : Nat} {y : (List Bytes)} (h : (colletref37_Keys x_0).run n = some y) : Pure Try.prog 23 #[.int .i64 x_0] w0 (SP.ownr rStr 9 (w0.heap.size) O y).holds := by
 unfold colletref37_Keys at h
 refine pure_of_wp Try.func23 rfl 18 Try.ntmps23 (by simp) fun a0 hA hs0 => ?_
 have q0 : a0.get 0 = .int .i64 x_0 := hs0 0 _ rfl
 clear hs0
 have hB : Base (Fr w0) O w0 O w0 := Base.start hO
 refine wp_seq ?_
 refine' region [_] mixed hA (.cons ?z1_0 .nil) ?zok1 ?zgd1 ?zk1
 case z1_0 => intro a' w' hE hK hg; exact ok_assign rfl
 case zok1 => kernel_rfl
 case zgd1 => kernel_rfl
 intro a1 w1 hA' hE HF
 replace q0 := kn (HF 0) rfl q0
 clear hA HF; have hA := hA'; clear hA'
 replace hB := Base.step hB hE hO; clear hE
 refine li_nil (nx_then (wp_seq ?_))
 refine' region [_] mixed hA (.cons ?z2_0 .nil) ?zok2 ?zgd2 ?zk2
 case z2_0 => intro a' w' hE hK hg; exact ok_assign rfl
 case zok2 => kernel_rfl
 case zgd2 => kernel_rfl
 intro a2 w2 hA' hE HF
 replace q0 := kn (HF 0) rfl q0
 have q3 := ksv (HF 3) rfl rfl rfl
 clear hA HF; have hA := hA'; clear hA'
 replace hB := Base.step hB hE hO; clear hE
 refine li_nil (nx_then ?_)
 refine seq_join (fun a w => ∃ (O20 : Tags) (x17 : List Bytes) (u18 : Value), a.fit 18 ∧ Base (Fr w0) O w0 O20 w ∧ a.get 3 = u18 ∧ OwnL 1 rStr 9 (Fr w0) O20 w u18 x17 ∧ (colletref37_Keys_j1 x17).run n = some y) ?_ ?_
 ·
  refine wp_seq ?_
  refine' region [_] mixed hA (.cons ?z3_0 .nil) ?zok3 ?zgd3 ?zk3
  case z3_0 => intro a' w' hE hK hg; exact ok_assign rfl
  case zok3 => kernel_rfl
  case zgd3 => kernel_rfl
  intro a3 w3 hA' hE HF
  replace q0 := kn (HF 0) rfl q0
  replace q3 := kn (HF 3) rfl q3
  have q4 := ksv (HF 4) rfl rfl rfl
  clear hA HF; have hA := hA'; clear hA'
  replace hB := Base.step hB hE hO; clear hE
  refine li_nil (nx_then (wp_block ?_))
  obtain ⟨e2, he2, hk2⟩ := Comp.run_bind h; clear h
  refine loop_m (fun m a w => ∃ (O5 : Tags) (x1 : List Bytes) (x4 : Int) (u2 : Value), a.fit 18 ∧ Base (Fr w0) O w0 O5 w ∧ a.get 0 = .int .i64 x_0 ∧ a.get 3 = u2 ∧ OwnL 1 rStr 9 (Fr w0) O5 w u2 x1 ∧ a.get 4 = .int .i64 x4 ∧ Comp.loopN (fun s => colletref37_Keys_l2 x_0 s.1 s.2) n m (x1, x4) = some e2) (m := n) ?st2 ?_
  case st2 =>
   exact ⟨_, _, _, _, hA, hB, q0, q3, (OwnL.nil _ _ _ _ _ _), q4, Comp.run_loop he2⟩
  intro m_ a4 w4 hI
  clear hA hB he2 q0 q3 q4
  obtain ⟨O5, x1, x4, u2, hA, hB, q0, q3, f3, q4, hl⟩ := hI
  obtain ⟨m2, hlt2, st2, h, hnext2, hdone2⟩ := Comp.loopN_succ hl; clear hl
  replace h : (colletref37_Keys_l2 x_0 x1 x4).run n = some st2 := h
  unfold colletref37_Keys_l2 at h
  refine wp_seq (wp_seq ?_)
  refine' region [_, _, _] mixed hA (.cons ?z4_0 (.cons ?z4_1 (.cons ?z4_2 .nil))) ?zok4 ?zgd4 ?zk4
  case z4_0 => intro a' w' hE hK hg; exact ok_move (kn (hK 4 rfl) rfl q4)
  case z4_1 => intro a' w' hE hK hg; exact ok_move (kn (hK 0 rfl) rfl q0)
  case z4_2 => intro a' w' hE hK hg; exact ok_lss (ksv (j := 0) (hK 5 rfl) rfl rfl rfl) (ksv (j := 1) (hK 6 rfl) rfl rfl rfl)
  case zok4 => kernel_rfl
  case zgd4 => kernel_rfl
  intro a5 w5 hA' hE HF
  replace q0 := kn (HF 0) rfl q0
  replace q3 := kn (HF 3) rfl q3
  replace q4 := kn (HF 4) rfl q4
  have q7 := ksv (HF 7) rfl rfl rfl
  clear hA HF; have hA := hA'; clear hA'
  replace f3 := f3.ext hE
  replace hB := Base.step hB hE hO; clear hE
  refine li_nil (nx_then ?_)
  refine wp_cond_b q7 (fun hc => ?_) (fun hc => ?_)
  ·
   replace h := Comp.run_b_t hc h; clear hc
   refine wp_skip (nx_then (wp_seq (wp_block ?_)))
   obtain ⟨x6, hx6, h⟩ := Comp.run_bind h
   obtain ⟨x7, hx7, h⟩ := Comp.run_bind h
   obtain ⟨x8, hx8, h⟩ := Comp.run_bind h
   refine' regionT [_, _, SP.vl r_api_Num O5 x6, SP.isv (.string (str x7)), SP.isv (.string (str x8)), SP.vl (rSl rStr) O5 [x8]] hA (.cons ?z5_0 (.cons ?z5_1 (.cons ?z5_2 (.cons ?z5_3 (.cons ?z5_4 (.cons ?z5_5 .nil)))))) ?zok5 ?zgd5 ?zk5
   case z5_0 => intro a' w' hE hK hg; exact ok_move (kn (hK 3 rfl) rfl q3)
   case z5_1 => intro a' w' hE hK hg; exact ok_move (kn (hK 4 rfl) rfl q4)
   case z5_2 => intro a' w' hE hK hg; have c_ := ok_colletref01_Of (OkO.ext hB.ok hE)  hx6; exact ok_call1 fn65 (ksv (j := 1) (hK 11 rfl) rfl rfl rfl) c_
   case z5_3 => intro a' w' hE hK hg; have c_ := ok_colletref01_Text (OkO.ext hB.ok hE) (kspS (φ := SP.vl r_api_Num O5 x6) (j := 2) (hK 12 rfl) rfl rfl rfl) hx7; exact ok_call1 fn64 rfl c_
   case z5_4 => intro a' w' hE hK hg; exact okl_addS rfl (ksv (j := 3) (hK 13 rfl) rfl rfl rfl) hx8
   case z5_5 => intro a' w' hE hK hg; exact okl_buildSliceV (r := rStr) (fun _ => rfl) rfl (OkO.ext hB.ok hE) ty28 ty9 (parts_cons (ksv (j := 4) (hK 14 rfl) rfl rfl rfl) parts_nil) ⟨(by first | exact rInt_v.2 rfl | exact rBool_v.2 rfl | exact rStr_v.2 rfl | exact rC_v.2 rfl | exact ⟨_, rfl, rfl⟩), trivial⟩ rfl (by decide)
   case zok5 => kernel_rfl
   case zgd5 => kernel_rfl
   intro a6 w6 hA' hE HF
   replace q0 := kn (HF 0) rfl q0
   replace q3 := kn (HF 3) rfl q3
   replace q4 := kn (HF 4) rfl q4
   have q10 := ksv (HF 10) rfl rfl rfl
   have f10 := ksp (HF 15) rfl rfl rfl
   obtain ⟨u9, q15'⟩ : ∃ u, a6.get 15 = u := ⟨_, rfl⟩
   rw [q15'] at f10
   have q15 := q15'; clear q15'
   clear q7
   clear hA HF; have hA := hA'; clear hA'
   replace f3 := f3.ext hE
   replace hB := Base.step hB hE hO; clear hE
   obtain ⟨x11, hx11, h⟩ := Comp.run_bind h
   refine l_append (r := rStr) (fun _ => rfl) rfl ty28 ty9 rfl (by decide) hO hB (okB_fr hB) q10 f3 q15 (rd_of f10) hx11 (by decide) fun u12 w7 O13 f14 hB' hX => ?_
   clear hB; have hB := hB'; clear hB'
   clear f3
   replace f10 := GR.kx _ f10 hX (by decide)
   clear hX
   refine put_cont hA (by decide) fun a8 hA' q_ hfr => ?_
   clear hA; have hA := hA'; clear hA'
   replace q0 := (hfr 0 rfl).trans q0
   replace q3 := (hfr 3 rfl).trans q3
   replace q4 := (hfr 4 rfl).trans q4
   replace q10 := (hfr 10 rfl).trans q10
   replace q15 := (hfr 15 rfl).trans q15
   have q16 := q_; clear q_ hfr
   refine l_ok (φ := SP.isv (u12)) hO hB (by exact ok_assign q16) rfl fun u_ w9 hE hB' hv_ => ?_
   replace hv_ := Eq.symm hv_; subst hv_; clear hB; have hB := hB'; clear hB'
   replace f14 := f14.ext hE
   clear hE
   refine put_cont hA (by decide) fun a10 hA' q_ hfr => ?_
   clear hA; have hA := hA'; clear hA'
   replace q0 := (hfr 0 rfl).trans q0
   replace q4 := (hfr 4 rfl).trans q4
   replace q16 := (hfr 16 rfl).trans q16
   clear q3
   have q3 := q_; clear q_ hfr
   refine li_nil (nx_blk (nx_then ?_))
   refine' region [_, _, _] mixed hA (.cons ?z6_0 (.cons ?z6_1 (.cons ?z6_2 .nil))) ?zok6 ?zgd6 ?zk6
   case z6_0 => intro a' w' hE hK hg; exact ok_move (kn (hK 4 rfl) rfl q4)
   case z6_1 => intro a' w' hE hK hg; exact ok_add (ksv (j := 0) (hK 8 rfl) rfl rfl rfl) rfl
   case z6_2 => intro a' w' hE hK hg; exact ok_assign (ksv (j := 1) (hK 9 rfl) rfl rfl rfl)
   case zok6 => kernel_rfl
   case zgd6 => kernel_rfl
   intro a11 w11 hA' hE HF
   replace q0 := kn (HF 0) rfl q0
   replace q3 := kn (HF 3) rfl q3
   have q4' := ksv (HF 4) rfl rfl rfl
   replace q4 := q4'; clear q4'
   clear hA HF; have hA := hA'; clear hA'
   replace f14 := f14.ext hE
   replace hB := Base.step hB hE hO; clear hE
   refine li_nil (nx_then ?_)
   have h := hnext2 _ (Comp.run_pure h).symm
   refine ⟨m2, hlt2, ?_⟩
   exact ⟨_, _, _, _, hA, hB, q0, q3, f14, q4, h⟩
  ·
   replace h := Comp.run_b_f hc h; clear hc
   refine wp_exit (ex_then (ex_then (ex_same ?_)))
   have hd_ := hdone2 _ (Comp.run_pure h).symm; clear h
   subst hd_; have h := hk2; clear hk2; try dsimp only at h
   refine nx_then ?_
   exact ⟨_, _, _, hA, hB, q3, f3, h⟩
 intro a12 w12 hI
 clear hA hB h q0 q3
 obtain ⟨O20, x17, u18, hA, hB, q3, f19, h⟩ := hI
 unfold colletref37_Keys_j1 at h
 refine wp_seq ?_
 refine' region [_, _] mixed hA (.cons ?z7_0 (.cons ?z7_1 .nil)) ?zok7 ?zgd7 ?zk7
 case z7_0 => intro a' w' hE hK hg; exact ok_move (kn (hK 3 rfl) rfl q3)
 case z7_1 => intro a' w' hE hK hg; exact ok_assign (ksv (j := 0) (hK 17 rfl) rfl rfl rfl)
 case zok7 => kernel_rfl
 case zgd7 => kernel_rfl
 intro a13 w13 hA' hE HF
 have q2 := ksv (HF 2) rfl rfl rfl
 clear q3
 clear hA HF; have hA := hA'; clear hA'
 replace f19 := f19.ext hE
 replace hB := Base.step hB hE hO; clear hE
 refine li_nil (nx_then (wp_ret ?_))
 have h := Comp.run_pure h; subst h
 exact retPure Try.results23 hA q2 hB.ext (OwnL.res f19 (by decide) hB.zero)
theorem ok_colletlaw37_Case_lists {O : Tags} {w0 : World} (hO : OkO O w0) {v_0 : Value} {x_0 : colletlaw37_Case} (h_0 : r_colletlaw37_Case.v O w0 v_0 x_0) {n : Nat} {y : (List (List Int))} (h : (colletlaw37_Case_lists x_0).run n = some y) : Pure Try.prog 55 #[v_0] w0 (SP.ownr (rSl (rInt .i64)) 58 (w0.heap.size) O y).holds := by
 unfold colletlaw37_Case_lists at h
 refine pure_of_wp Try.func55 rfl 33 Try.ntmps55 (by simp) fun a0 hA hs0 => ?_
 have q0 : a0.get 0 = v_0 := hs0 0 _ rfl
 clear hs0
 have hB : Base (Fr w0) O w0 O w0 := Base.start hO
 refine wp_seq ?_
 refine' region [SP.vl (rBox r_colletlaw37_Case) O x_0, _] mixed hA (.cons ?z1_0 (.cons ?z1_1 .nil)) ?zok1 ?zgd1 ?zk1
 case z1_0 => intro a' w' hE hK hg; exact okl_boxV (r := r_colletlaw37_Case) fit_colletlaw37_Case (OkO.ext hB.ok hE) (kn (hK 0 rfl) rfl q0) (GR.v_ext _ h_0 hE)
 case z1_1 => intro a' w' hE hK hg; exact ok_assign rfl
 case zok1 => kernel_rfl
 case zgd1 => kernel_rfl
 intro a1 w1 hA' hE HF
 have f2 := ksp (HF 1) rfl rfl rfl
 obtain ⟨u1, q1'⟩ : ∃ u, a1.get 1 = u := ⟨_, rfl⟩
 rw [q1'] at f2
 have q1 := q1'; clear q1'
 clear q0
 clear hA HF; have hA := hA'; clear hA'
 replace h_0 := GR.v_ext _ h_0 hE
 replace hB := Base.step hB hE hO; clear hE
 refine li_nil (nx_then (wp_seq ?_))
 refine' region [_] mixed hA (.cons ?z2_0 .nil) ?zok2 ?zgd2 ?zk2
 case z2_0 => intro a' w' hE hK hg; exact ok_assign rfl
 case zok2 => kernel_rfl
 case zgd2 => kernel_rfl
 intro a2 w2 hA' hE HF
 replace q1 := kn (HF 1) rfl q1
 have q3 := ksv (HF 3) rfl rfl rfl
 clear hA HF; have hA := hA'; clear hA'
 replace f2 := GR.v_ext _ f2 hE
 replace hB := Base.step hB hE hO; clear hE
 refine li_nil (nx_then ?_)
 refine seq_join (fun a w => ∃ (O23 : Tags) (x20 : List (List Int)) (u21 : Value), a.fit 33 ∧ Base (Fr w0) O w0 O23 w ∧ a.get 3 = u21 ∧ OwnL 1 (rSl (rInt .i64)) 58 (Fr w0) O23 w u21 x20 ∧ (colletlaw37_Case_lists_j1 x20).run n = some y) ?_ ?_
 ·
  refine wp_seq ?_
  refine' region [_] mixed hA (.cons ?z3_0 .nil) ?zok3 ?zgd3 ?zk3
  case z3_0 => intro a' w' hE hK hg; exact ok_assign rfl
  case zok3 => kernel_rfl
  case zgd3 => kernel_rfl
  intro a3 w3 hA' hE HF
  replace q1 := kn (HF 1) rfl q1
  replace q3 := kn (HF 3) rfl q3
  have q4 := ksv (HF 4) rfl rfl rfl
  clear hA HF; have hA := hA'; clear hA'
  replace f2 := GR.v_ext _ f2 hE
  replace hB := Base.step hB hE hO; clear hE
  refine li_nil (nx_then (wp_block ?_))
  obtain ⟨e2, he2, hk2⟩ := Comp.run_bind h; clear h
  refine loop_m (fun m a w => ∃ (O7 : Tags) (x3 : List (List Int)) (x6 : Int) (u4 : Value), a.fit 33 ∧ Base (Fr w0) O w0 O7 w ∧ a.get 1 = u1 ∧ (rBox r_colletlaw37_Case).v O7 w u1 x_0 ∧ a.get 3 = u4 ∧ OwnL 1 (rSl (rInt .i64)) 58 (Fr w0) O7 w u4 x3 ∧ a.get 4 = .int .i64 x6 ∧ Comp.loopN (fun s => colletlaw37_Case_lists_l2 x_0 s.1 s.2) n m (x3, x6) = some e2) (m := n) ?st2 ?_
  case st2 =>
   exact ⟨_, _, _, _, hA, hB, q1, f2, q3, (OwnL.nil _ _ _ _ _ _), q4, Comp.run_loop he2⟩
  intro m_ a4 w4 hI
  clear hA hB he2 q1 q3 q4 f2
  obtain ⟨O7, x3, x6, u4, hA, hB, q1, f2, q3, f5, q4, hl⟩ := hI
  obtain ⟨m2, hlt2, st2, h, hnext2, hdone2⟩ := Comp.loopN_succ hl; clear hl
  replace h : (colletlaw37_Case_lists_l2 x_0 x3 x6).run n = some st2 := h
  unfold colletlaw37_Case_lists_l2 at h
  refine wp_seq (wp_seq ?_)
  refine' region [_, SP.ptr (rSl (rSl (rInt .i64))) O7 x_0.L, SP.vl (rSl (rSl (rInt .i64))) O7 x_0.L, _, _, _, _, _, _] mixed hA (.cons ?z4_0 (.cons ?z4_1 (.cons ?z4_2 (.cons ?z4_3 (.cons ?z4_4 (.cons ?z4_5 (.cons ?z4_6 (.cons ?z4_7 (.cons ?z4_8 .nil))))))))) ?zok4 ?zgd4 ?zk4
  case z4_0 => intro a' w' hE hK hg; exact ok_move (kn (hK 4 rfl) rfl q4)
  case z4_1 => intro a' w' hE hK hg; exact okl_fldB (S := r_colletlaw37_Case) fit_colletlaw37_Case rfl (fun _ => rfl) sb_colletlaw37_Case_0 fl24_0 (kn (hK 1 rfl) rfl q1) (GR.v_ext _ f2 hE)
  case z4_2 => intro a' w' hE hK hg; exact okl_ld (r := (rSl (rSl (rInt .i64)))) (fun _ => rfl) ty22 rfl rfl rfl (kspS (φ := SP.ptr (rSl (rSl (rInt .i64))) O7 x_0.L) (j := 1) (hK 6 rfl) rfl rfl rfl)
  case z4_3 => intro a' w' hE hK hg; exact okl_len (r := (rSl (rInt .i64))) ty22 rfl (rd_of (kspS (φ := SP.vl (rSl (rSl (rInt .i64))) O7 x_0.L) (j := 2) (hK 7 rfl) rfl rfl rfl))
  case z4_4 => intro a' w' hE hK hg; exact ok_lss (ksv (j := 0) (hK 5 rfl) rfl rfl rfl) (ksv (j := 3) (hK 8 rfl) rfl rfl rfl)
  case z4_5 => intro a' w' hE hK hg; exact ok_move (ksv (j := 4) (hK 9 rfl) rfl rfl rfl)
  case z4_6 => intro a' w' hE hK hg; exact ok_move (kn (hK 4 rfl) rfl q4)
  case z4_7 => intro a' w' hE hK hg; exact ok_lss (ksv (j := 6) (hK 11 rfl) rfl rfl hg) rfl
  case z4_8 => intro a' w' hE hK hg; exact ok_pick (ksv (j := 5) (hK 10 rfl) rfl rfl rfl) (fun hb => ksv (j := 7) (hK 12 rfl) rfl rfl (act_g1 rfl rfl hb)) (fun _ => rfl)
  case zok4 => kernel_rfl
  case zgd4 => kernel_rfl
  intro a5 w5 hA' hE HF
  replace q1 := kn (HF 1) rfl q1
  replace q3 := kn (HF 3) rfl q3
  replace q4 := kn (HF 4) rfl q4
  have q13 := ksv (HF 13) rfl rfl rfl
  clear hA HF; have hA := hA'; clear hA'
  replace f2 := GR.v_ext _ f2 hE
  replace f5 := f5.ext hE
  replace hB := Base.step hB hE hO; clear hE
  obtain ⟨x8, hx_, h⟩ := Comp.run_bind h; replace hx_ := Comp.run_pure hx_; rw [hx_] at q13; clear hx_
  refine li_nil (nx_then ?_)
  refine wp_cond_b q13 (fun hc => ?_) (fun hc => ?_)
  ·
   replace h := Comp.run_b_t hc h; clear hc
   refine wp_skip (nx_then (wp_seq (wp_block ?_)))
   obtain ⟨x9, hx9, h⟩ := Comp.run_bind h
   obtain ⟨x10, hx10, h⟩ := Comp.run_bind h
   obtain ⟨x11, hx11, h⟩ := Comp.run_bind h
   refine' region [_, SP.ptr (rSl (rSl (rInt .i64))) O7 x_0.L, SP.vl (rSl (rSl (rInt .i64))) O7 x_0.L, _, SP.ptr (rSl (rInt .i64)) O7 x9, SP.vl (rSl (rInt .i64)) O7 x9, SP.ptr (rSl (rSl (rInt .i64))) O7 x_0.L, SP.vl (rSl (rSl (rInt .i64))) O7 x_0.L, _, SP.ptr (rSl (rInt .i64)) O7 x10, SP.vl (rSl (rInt .i64)) O7 x10, _, _, SP.vl (rSl (rInt .i64)) O7 x11, SP.vl (rSl (rSl (rInt .i64))) O7 [x11]] mixed hA (.cons ?z5_0 (.cons ?z5_1 (.cons ?z5_2 (.cons ?z5_3 (.cons ?z5_4 (.cons ?z5_5 (.cons ?z5_6 (.cons ?z5_7 (.cons ?z5_8 (.cons ?z5_9 (.cons ?z5_10 (.cons ?z5_11 (.cons ?z5_12 (.cons ?z5_13 (.cons ?z5_14 .nil))))))))))))))) ?zok5 ?zgd5 ?zk5
   case z5_0 => intro a' w' hE hK hg; exact ok_move (kn (hK 3 rfl) rfl q3)
   case z5_1 => intro a' w' hE hK hg; exact okl_fldB (S := r_colletlaw37_Case) fit_colletlaw37_Case rfl (fun _ => rfl) sb_colletlaw37_Case_0 fl24_0 (kn (hK 1 rfl) rfl q1) (GR.v_ext _ f2 hE)
   case z5_2 => intro a' w' hE hK hg; exact okl_ld (r := (rSl (rSl (rInt .i64)))) (fun _ => rfl) ty22 rfl rfl rfl (kspS (φ := SP.ptr (rSl (rSl (rInt .i64))) O7 x_0.L) (j := 1) (hK 17 rfl) rfl rfl rfl)
   case z5_3 => intro a' w' hE hK hg; exact ok_move (kn (hK 4 rfl) rfl q4)
   case z5_4 => intro a' w' hE hK hg; exact okl_idx (r := (rSl (rInt .i64))) (O := O7) ty22 ty58 rfl rfl (rd_of (kspS (φ := SP.vl (rSl (rSl (rInt .i64))) O7 x_0.L) (j := 2) (hK 18 rfl) rfl rfl rfl)) (ksv (j := 3) (hK 19 rfl) rfl rfl rfl) hx9
   case z5_5 => intro a' w' hE hK hg; exact okl_ld (r := (rSl (rInt .i64))) (fun _ => rfl) ty58 rfl rfl rfl (kspS (φ := SP.ptr (rSl (rInt .i64)) O7 x9) (j := 4) (hK 20 rfl) rfl rfl rfl)
   case z5_6 => intro a' w' hE hK hg; exact okl_fldB (S := r_colletlaw37_Case) fit_colletlaw37_Case rfl (fun _ => rfl) sb_colletlaw37_Case_0 fl24_0 (kn (hK 1 rfl) rfl q1) (GR.v_ext _ f2 hE)
   case z5_7 => intro a' w' hE hK hg; exact okl_ld (r := (rSl (rSl (rInt .i64)))) (fun _ => rfl) ty22 rfl rfl rfl (kspS (φ := SP.ptr (rSl (rSl (rInt .i64))) O7 x_0.L) (j := 6) (hK 22 rfl) rfl rfl rfl)
   case z5_8 => intro a' w' hE hK hg; exact ok_move (kn (hK 4 rfl) rfl q4)
   case z5_9 => intro a' w' hE hK hg; exact okl_idx (r := (rSl (rInt .i64))) (O := O7) ty22 ty58 rfl rfl (rd_of (kspS (φ := SP.vl (rSl (rSl (rInt .i64))) O7 x_0.L) (j := 7) (hK 23 rfl) rfl rfl rfl)) (ksv (j := 8) (hK 24 rfl) rfl rfl rfl) hx10
   case z5_10 => intro a' w' hE hK hg; exact okl_ld (r := (rSl (rInt .i64))) (fun _ => rfl) ty58 rfl rfl rfl (kspS (φ := SP.ptr (rSl (rInt .i64)) O7 x10) (j := 9) (hK 25 rfl) rfl rfl rfl)
   case z5_11 => intro a' w' hE hK hg; exact okl_len (r := (rInt .i64)) ty58 rfl (rd_of (kspS (φ := SP.vl (rSl (rInt .i64)) O7 x10) (j := 10) (hK 26 rfl) rfl rfl rfl))
   case z5_12 => intro a' w' hE hK hg; exact ok_min (ksv (j := 11) (hK 27 rfl) rfl rfl rfl) rfl
   case z5_13 => intro a' w' hE hK hg; exact okl_slice_h (r := (rInt .i64)) ty58 ty3 rfl rfl (kspS (φ := SP.vl (rSl (rInt .i64)) O7 x9) (j := 5) (hK 21 rfl) rfl rfl rfl) (ksv (j := 12) (hK 28 rfl) rfl rfl rfl) hx11
   case z5_14 => intro a' w' hE hK hg; exact okl_buildSliceV (r := (rSl (rInt .i64))) (fun _ => rfl) rfl (OkO.ext hB.ok hE) ty22 ty58 (parts_cons rfl parts_nil) ⟨(kspS (φ := SP.vl (rSl (rInt .i64)) O7 x11) (j := 13) (hK 29 rfl) rfl rfl rfl), trivial⟩ rfl (by decide)
   case zok5 => kernel_rfl
   case zgd5 => kernel_rfl
   intro a6 w6 hA' hE HF
   replace q1 := kn (HF 1) rfl q1
   replace q3 := kn (HF 3) rfl q3
   replace q4 := kn (HF 4) rfl q4
   have q16 := ksv (HF 16) rfl rfl rfl
   have f13 := ksp (HF 30) rfl rfl rfl
   obtain ⟨u12, q30'⟩ : ∃ u, a6.get 30 = u := ⟨_, rfl⟩
   rw [q30'] at f13
   have q30 := q30'; clear q30'
   clear q13
   clear hA HF; have hA := hA'; clear hA'
   replace f2 := GR.v_ext _ f2 hE
   replace f5 := f5.ext hE
   replace hB := Base.step hB hE hO; clear hE
   obtain ⟨x14, hx14, h⟩ := Comp.run_bind h
   refine l_append (r := (rSl (rInt .i64))) (fun _ => rfl) rfl ty22 ty58 rfl (by decide) hO hB (okB_fr hB) q16 f5 q30 (rd_of f13) hx14 (by decide) fun u15 w7 O16 f17 hB' hX => ?_
   clear hB; have hB := hB'; clear hB'
   clear f5
   replace f2 := GR.kx _ f2 hX (by decide)
   replace f13 := GR.kx _ f13 hX (by decide)
   clear hX
   refine put_cont hA (by decide) fun a8 hA' q_ hfr => ?_
   clear hA; have hA := hA'; clear hA'
   replace q1 := (hfr 1 rfl).trans q1
   replace q3 := (hfr 3 rfl).trans q3
   replace q4 := (hfr 4 rfl).trans q4
   replace q16 := (hfr 16 rfl).trans q16
   replace q30 := (hfr 30 rfl).trans q30
   have q31 := q_; clear q_ hfr
   refine l_ok (φ := SP.isv (u15)) hO hB (by exact ok_assign q31) rfl fun u_ w9 hE hB' hv_ => ?_
   replace hv_ := Eq.symm hv_; subst hv_; clear hB; have hB := hB'; clear hB'
   replace f2 := GR.v_ext _ f2 hE
   replace f17 := f17.ext hE
   clear hE
   refine put_cont hA (by decide) fun a10 hA' q_ hfr => ?_
   clear hA; have hA := hA'; clear hA'
   replace q1 := (hfr 1 rfl).trans q1
   replace q4 := (hfr 4 rfl).trans q4
   replace q31 := (hfr 31 rfl).trans q31
   clear q3
   have q3 := q_; clear q_ hfr
   refine li_nil (nx_blk (nx_then ?_))
   refine' region [_, _, _] mixed hA (.cons ?z6_0 (.cons ?z6_1 (.cons ?z6_2 .nil))) ?zok6 ?zgd6 ?zk6
   case z6_0 => intro a' w' hE hK hg; exact ok_move (kn (hK 4 rfl) rfl q4)
   case z6_1 => intro a' w' hE hK hg; exact ok_add (ksv (j := 0) (hK 14 rfl) rfl rfl rfl) rfl
   case z6_2 => intro a' w' hE hK hg; exact ok_assign (ksv (j := 1) (hK 15 rfl) rfl rfl rfl)
   case zok6 => kernel_rfl
   case zgd6 => kernel_rfl
   intro a11 w11 hA' hE HF
   replace q1 := kn (HF 1) rfl q1
   replace q3 := kn (HF 3) rfl q3
   have q4' := ksv (HF 4) rfl rfl rfl
   replace q4 := q4'; clear q4'
   clear hA HF; have hA := hA'; clear hA'
   replace f2 := GR.v_ext _ f2 hE
   replace f17 := f17.ext hE
   replace hB := Base.step hB hE hO; clear hE
   refine li_nil (nx_then ?_)
   have h := hnext2 _ (Comp.run_pure h).symm
   refine ⟨m2, hlt2, ?_⟩
   exact ⟨_, _, _, _, hA, hB, q1, f2, q3, f17, q4, h⟩
  ·
   replace h := Comp.run_b_f hc h; clear hc
   refine wp_exit (ex_then (ex_then (ex_same ?_)))
   have hd_ := hdone2 _ (Comp.run_pure h).symm; clear h
   subst hd_; have h := hk2; clear hk2; try dsimp only at h
   refine nx_then ?_
   exact ⟨_, _, _, hA, hB, q3, f5, h⟩
 intro a12 w12 hI
 clear hA hB h q1 q3 f2
 obtain ⟨O23, x20, u21, hA, hB, q3, f22, h⟩ := hI
 unfold colletlaw37_Case_lists_j1 at h
 refine wp_seq ?_
 refine' region [_, _] mixed hA (.cons ?z7_0 (.cons ?z7_1 .nil)) ?zok7 ?zgd7 ?zk7
 case z7_0 => intro a' w' hE hK hg; exact ok_move (kn (hK 3 rfl) rfl q3)
 case z7_1 => intro a' w' hE hK hg; exact ok_assign (ksv (j := 0) (hK 32 rfl) rfl rfl rfl)
 case zok7 => kernel_rfl
 case zgd7 => kernel_rfl
 intro a13 w13 hA' hE HF
 have q2 := ksv (HF 2) rfl rfl rfl
 clear q3
 clear hA HF; have hA := hA'; clear hA'
 replace f22 := f22.ext hE
 replace hB := Base.step hB hE hO; clear hE
 refine li_nil (nx_then (wp_ret ?_))
 have h := Comp.run_pure h; subst h
 exact retPure Try.results55 hA q2 hB.ext (OwnL.res f22 (by decide) hB.zero)
theorem ok_colletref01_Mod {O : Tags} {w0 : World} (hO : OkO O w0) {x_0 : Int} {x_1 : Int} {n : Nat} {y : Int} (h : (colletref01_Mod x_0 x_1).run n = some y) : Pure Try.prog 37 #[.int .i64 x_0, .int .i64 x_1] w0 (SP.isv (.int .i64 y)).holds := by
 unfold colletref01_Mod at h
 refine pure_of_wp Try.func37 rfl 14 Try.ntmps37 (by simp) fun a0 hA hs0 => ?_
 have q0 : a0.get 0 = .int .i64 x_0 := hs0 0 _ rfl
 have q1 : a0.get 1 = .int .i64 x_1 := hs0 1 _ rfl
 clear hs0
 have hB : Base (Fr w0) O w0 O w0 := Base.start hO
 refine wp_seq ?_
 refine' region [_] mixed hA (.cons ?z1_0 .nil) ?zok1 ?zgd1 ?zk1
 case z1_0 => intro a' w' hE hK hg; exact ok_assign rfl
 case zok1 => kernel_rfl
 case zgd1 => kernel_rfl
 intro a1 w1 hA' hE HF
 replace q0 := kn (HF 0) rfl q0
 replace q1 := kn (HF 1) rfl q1
 clear hA HF; have hA := hA'; clear hA'
 replace hB := Base.step hB hE hO; clear hE
 refine li_nil (nx_then (wp_seq (wp_seq ?_)))
 refine' region [_, _] mixed hA (.cons ?z2_0 (.cons ?z2_1 .nil)) ?zok2 ?zgd2 ?zk2
 case z2_0 => intro a' w' hE hK hg; exact ok_move (kn (hK 1 rfl) rfl q1)
 case z2_1 => intro a' w' hE hK hg; exact ok_lss (ksv (j := 0) (hK 5 rfl) rfl rfl rfl) rfl
 case zok2 => kernel_rfl
 case zgd2 => kernel_rfl
 intro a2 w2 hA' hE HF
 replace q0 := kn (HF 0) rfl q0
 replace q1 := kn (HF 1) rfl q1
 have q6 := ksv (HF 6) rfl rfl rfl
 clear hA HF; have hA := hA'; clear hA'
 replace hB := Base.step hB hE hO; clear hE
 refine li_nil (nx_then ?_)
 refine wp_cond_b q6 (fun hc => ?_) (fun hc => ?_)
 ·
  replace h := Comp.run_b_t hc h; clear hc
  refine wp_seq ?_
  refine' region [_] mixed hA (.cons ?z3_0 .nil) ?zok3 ?zgd3 ?zk3
  case z3_0 => intro a' w' hE hK hg; exact ok_assign rfl
  case zok3 => kernel_rfl
  case zgd3 => kernel_rfl
  intro a3 w3 hA' hE HF
  have q4 := ksv (HF 4) rfl rfl rfl
  clear q0
  clear q1
  clear q6
  clear hA HF; have hA := hA'; clear hA'
  replace hB := Base.step hB hE hO; clear hE
  refine li_nil (nx_then (wp_ret (rt_then ?_)))
  have h := Comp.run_pure h; subst h
  exact retPure Try.results37 hA q4 hB.ext rfl
 ·
  replace h := Comp.run_b_f hc h; clear hc
  refine wp_skip (nx_then (wp_seq ?_))
  obtain ⟨x1, hx1, h⟩ := Comp.run_bind h
  obtain ⟨x2, hx2, h⟩ := Comp.run_bind h
  refine' region [_, _, SP.isv (.int .i64 x1), _, _, _, SP.isv (.int .i64 x2), _] mixed hA (.cons ?z4_0 (.cons ?z4_1 (.cons ?z4_2 (.cons ?z4_3 (.cons ?z4_4 (.cons ?z4_5 (.cons ?z4_6 (.cons ?z4_7 .nil)))))))) ?zok4 ?zgd4 ?zk4
  case z4_0 => intro a' w' hE hK hg; exact ok_move (kn (hK 0 rfl) rfl q0)
  case z4_1 => intro a' w' hE hK hg; exact ok_move (kn (hK 1 rfl) rfl q1)
  case z4_2 => intro a' w' hE hK hg; exact ok_isv (ok_rem (ksv (j := 0) (hK 7 rfl) rfl rfl rfl) (ksv (j := 1) (hK 8 rfl) rfl rfl rfl) (run_rem hx1).1) (congrArg _ (run_rem hx1).2)
  case z4_3 => intro a' w' hE hK hg; exact ok_move (kn (hK 1 rfl) rfl q1)
  case z4_4 => intro a' w' hE hK hg; exact ok_add (ksv (j := 2) (hK 9 rfl) rfl rfl rfl) (ksv (j := 3) (hK 10 rfl) rfl rfl rfl)
  case z4_5 => intro a' w' hE hK hg; exact ok_move (kn (hK 1 rfl) rfl q1)
  case z4_6 => intro a' w' hE hK hg; exact ok_isv (ok_rem (ksv (j := 4) (hK 11 rfl) rfl rfl rfl) (ksv (j := 5) (hK 12 rfl) rfl rfl rfl) (run_rem hx2).1) (congrArg _ (run_rem hx2).2)
  case z4_7 => intro a' w' hE hK hg; exact ok_assign (ksv (j := 6) (hK 13 rfl) rfl rfl rfl)
  case zok4 => kernel_rfl
  case zgd4 => kernel_rfl
  intro a4 w4 hA' hE HF
  have q4 := ksv (HF 4) rfl rfl rfl
  clear q0
  clear q1
  clear q6
  clear hA HF; have hA := hA'; clear hA'
  replace hB := Base.step hB hE hO; clear hE
  refine li_nil (nx_then (wp_ret ?_))
  have h := Comp.run_pure h; subst h
  exact retPure Try.results37 hA q4 hB.ext rfl
theorem ok_colletref01_Draw_Next {O : Tags} {w0 : World} (hO : OkO O w0) {b_0 : Nat} {x_0 : colletref01_Draw} (h_0 : BoxA r_colletref01_Draw 108 O w0 b_0 x_0) {x_1 : Int} {n : Nat} {y : (colletref01_Draw × Int)} (h : (colletref01_Draw_Next x_0 x_1).run n = some y) : Calls Try.prog 74 #[.pointer (some ⟨b_0, 0, none⟩), .int .i64 x_1] w0 (BioPost r_colletref01_Draw 108 O w0 b_0 y.1 (SP.isv (.int .i64 y.2))) := by
 unfold colletref01_Draw_Next at h
 refine bio_of_wp Try.func74 rfl 35 Try.ntmps74 (by simp) fun a0 hA hs0 => ?_
 have q0 : a0.get 0 = .pointer (some ⟨b_0, 0, none⟩) := hs0 0 _ rfl
 have q1 : a0.get 1 = .int .i64 x_1 := hs0 1 _ rfl
 clear hs0
 obtain ⟨Oi_, cs_, hB, hb_, hr_, hk_⟩ := bioStart hO h_0
 clear hk_ h_0
 obtain ⟨u1, e_, f2⟩ := openR_colletref01_Draw hr_; subst e_
 refine wp_seq ?_
 refine' region [_] mixed hA (.cons ?z1_0 .nil) ?zok1 ?zgd1 ?zk1
 case z1_0 => intro a' w' hE hK hg; exact ok_assign rfl
 case zok1 => kernel_rfl
 case zgd1 => kernel_rfl
 intro a1 w1 hA' hE HF
 replace q0 := kn (HF 0) rfl q0
 replace q1 := kn (HF 1) rfl q1
 clear hA HF; have hA := hA'; clear hA'
 replace hb_ := hb_.ext hE
 replace f2 := GR.v_ext _ f2 hE
 replace hB := Base.step hB hE hO; clear hE
 refine li_nil (nx_then (wp_seq (wp_seq ?_)))
 refine' region [_, SP.isv (.pointer (some ⟨b_0, 0, none⟩)), SP.isv (.pointer (some ⟨b_0, 1, none⟩)), SP.isv (.int .i64 x_0.At), _, SP.isv (.pointer (some ⟨b_0, 0, none⟩)), SP.isv (.pointer (some ⟨b_0, 0, none⟩)), SP.isv (u1), _, _] mixed hA (.cons ?z2_0 (.cons ?z2_1 (.cons ?z2_2 (.cons ?z2_3 (.cons ?z2_4 (.cons ?z2_5 (.cons ?z2_6 (.cons ?z2_7 (.cons ?z2_8 (.cons ?z2_9 .nil)))))))))) ?zok2 ?zgd2 ?zk2
 case z2_0 => intro a' w' hE hK hg; exact ok_move (kn (hK 0 rfl) rfl q0)
 case z2_1 => intro a' w' hE hK hg; exact ok_nilChk (ksv (j := 0) (hK 5 rfl) rfl rfl rfl)
 case z2_2 => intro a' w' hE hK hg; exact ok_fieldAddr fl108_1 (ksv (j := 1) (hK 6 rfl) rfl rfl rfl)
 case z2_3 => intro a' w' hE hK hg; exact ok_loadOwn ty3 rfl (ksv (j := 2) (hK 7 rfl) rfl rfl rfl) (OwnB.ext hb_ hE).own rfl
 case z2_4 => intro a' w' hE hK hg; exact ok_move (kn (hK 0 rfl) rfl q0)
 case z2_5 => intro a' w' hE hK hg; exact ok_nilChk (ksv (j := 4) (hK 9 rfl) rfl rfl rfl)
 case z2_6 => intro a' w' hE hK hg; exact ok_fieldAddr fl108_0 (ksv (j := 5) (hK 10 rfl) rfl rfl rfl)
 case z2_7 => intro a' w' hE hK hg; exact ok_loadOwn ty58 rfl (ksv (j := 6) (hK 11 rfl) rfl rfl rfl) (OwnB.ext hb_ hE).own rfl
 case z2_8 => intro a' w' hE hK hg; exact okl_len (r := (rInt .i64)) ty58 (ksv (j := 7) (hK 12 rfl) rfl rfl rfl) (rd_of (GR.v_ext _ f2 hE))
 case z2_9 => intro a' w' hE hK hg; exact ok_geq (ksv (j := 3) (hK 8 rfl) rfl rfl rfl) (ksv (j := 8) (hK 13 rfl) rfl rfl rfl)
 case zok2 => kernel_rfl
 case zgd2 => kernel_rfl
 intro a2 w2 hA' hE HF
 replace q0 := kn (HF 0) rfl q0
 replace q1 := kn (HF 1) rfl q1
 have q14 := ksv (HF 14) rfl rfl rfl
 clear hA HF; have hA := hA'; clear hA'
 replace hb_ := hb_.ext hE
 replace f2 := GR.v_ext _ f2 hE
 replace hB := Base.step hB hE hO; clear hE
 refine li_nil (nx_then ?_)
 refine wp_cond_b q14 (fun hc => ?_) (fun hc => ?_)
 ·
  replace h := Comp.run_b_t hc h; clear hc
  refine wp_seq ?_
  refine' region [_] mixed hA (.cons ?z3_0 .nil) ?zok3 ?zgd3 ?zk3
  case z3_0 => intro a' w' hE hK hg; exact ok_assign rfl
  case zok3 => kernel_rfl
  case zgd3 => kernel_rfl
  intro a3 w3 hA' hE HF
  have q4 := ksv (HF 4) rfl rfl rfl
  clear q0
  clear q1
  clear q14
  clear hA HF; have hA := hA'; clear hA'
  replace hb_ := hb_.ext hE
  replace f2 := GR.v_ext _ f2 hE
  replace hB := Base.step hB hE hO; clear hE
  refine li_nil (nx_then (wp_ret (rt_then ?_)))
  have h := Comp.run_pure h; subst h
  exact retG1 Try.results74 hA (.tmp q4) (bioEnd hB hb_ ⟨_, _, rfl, (rel_ofF (r := (rSl (rInt .i64))) f2 rfl rfl), ⟨_, _, rfl, rfl, rfl⟩⟩ rfl)
 ·
  replace h := Comp.run_b_f hc h; clear hc
  refine wp_skip (nx_then (wp_seq ?_))
  refine' regionT [_, SP.isv (.pointer (some ⟨b_0, 0, none⟩)), SP.isv (.pointer (some ⟨b_0, 1, none⟩)), SP.isv (.int .i64 x_0.At), _, SP.isv (.pointer (some ⟨b_0, 0, none⟩)), SP.isv (.pointer (some ⟨b_0, 1, none⟩))] hA (.cons ?z4_0 (.cons ?z4_1 (.cons ?z4_2 (.cons ?z4_3 (.cons ?z4_4 (.cons ?z4_5 (.cons ?z4_6 .nil))))))) ?zok4 ?zgd4 ?zk4
  case z4_0 => intro a' w' hE hK hg; exact ok_move (kn (hK 0 rfl) rfl q0)
  case z4_1 => intro a' w' hE hK hg; exact ok_nilChk (ksv (j := 0) (hK 15 rfl) rfl rfl rfl)
  case z4_2 => intro a' w' hE hK hg; exact ok_fieldAddr fl108_1 (ksv (j := 1) (hK 16 rfl) rfl rfl rfl)
  case z4_3 => intro a' w' hE hK hg; exact ok_loadOwn ty3 rfl (ksv (j := 2) (hK 17 rfl) rfl rfl rfl) (OwnB.ext hb_ hE).own rfl
  case z4_4 => intro a' w' hE hK hg; exact ok_add (ksv (j := 3) (hK 18 rfl) rfl rfl rfl) rfl
  case z4_5 => intro a' w' hE hK hg; exact ok_nilChk (ksv (j := 0) (hK 15 rfl) rfl rfl rfl)
  case z4_6 => intro a' w' hE hK hg; exact ok_fieldAddr fl108_1 (ksv (j := 5) (hK 20 rfl) rfl rfl rfl)
  case zok4 => kernel_rfl
  case zgd4 => kernel_rfl
  intro a4 w4 hA' hE HF
  replace q0 := kn (HF 0) rfl q0
  replace q1 := kn (HF 1) rfl q1
  have q19 := ksv (HF 19) rfl rfl rfl
  have q21 := ksv (HF 21) rfl rfl rfl
  clear q14
  clear hA HF; have hA := hA'; clear hA'
  replace hb_ := hb_.ext hE
  replace f2 := GR.v_ext _ f2 hE
  replace hB := Base.step hB hE hO; clear hE
  refine l_store1 (cs' := #[u1, .int .i64 (IntKind.wrap .i64 (x_0.At + 1))]) hO hB (okB_self hB) ty3 q21 q19 rfl rfl hb_ (by simp) rfl fun w5 f3 hB' hX => ?_
  clear hB hb_; have hB := hB'; clear hB'
  replace f2 := GR.kx _ f2 hX (by decide)
  clear hX
  refine li_nil (nx_then (wp_seq ?_))
  obtain ⟨x4, hx4, h⟩ := Comp.run_bind h
  obtain ⟨x5, hx5, h⟩ := Comp.run_bind h
  refine' region [_, SP.isv (.pointer (some ⟨b_0, 0, none⟩)), SP.isv (.pointer (some ⟨b_0, 0, none⟩)), SP.isv (u1), _, SP.isv (.pointer (some ⟨b_0, 0, none⟩)), SP.isv (.pointer (some ⟨b_0, 1, none⟩)), SP.isv (.int .i64 (IntKind.wrap .i64 (x_0.At + 1))), _, SP.ptr (rInt .i64) Oi_ x4, SP.isv (.int .i64 x4), _, SP.isv (.int .i64 x5), _] mixed hA (.cons ?z5_0 (.cons ?z5_1 (.cons ?z5_2 (.cons ?z5_3 (.cons ?z5_4 (.cons ?z5_5 (.cons ?z5_6 (.cons ?z5_7 (.cons ?z5_8 (.cons ?z5_9 (.cons ?z5_10 (.cons ?z5_11 (.cons ?z5_12 (.cons ?z5_13 .nil)))))))))))))) ?zok5 ?zgd5 ?zk5
  case z5_0 => intro a' w' hE hK hg; exact ok_move (kn (hK 0 rfl) rfl q0)
  case z5_1 => intro a' w' hE hK hg; exact ok_nilChk (ksv (j := 0) (hK 22 rfl) rfl rfl rfl)
  case z5_2 => intro a' w' hE hK hg; exact ok_fieldAddr fl108_0 (ksv (j := 1) (hK 23 rfl) rfl rfl rfl)
  case z5_3 => intro a' w' hE hK hg; exact ok_loadOwn ty58 rfl (ksv (j := 2) (hK 24 rfl) rfl rfl rfl) (OwnB.ext f3 hE).own rfl
  case z5_4 => intro a' w' hE hK hg; exact ok_move (kn (hK 0 rfl) rfl q0)
  case z5_5 => intro a' w' hE hK hg; exact ok_nilChk (ksv (j := 4) (hK 26 rfl) rfl rfl rfl)
  case z5_6 => intro a' w' hE hK hg; exact ok_fieldAddr fl108_1 (ksv (j := 5) (hK 27 rfl) rfl rfl rfl)
  case z5_7 => intro a' w' hE hK hg; exact ok_loadOwn ty3 rfl (ksv (j := 6) (hK 28 rfl) rfl rfl rfl) (OwnB.ext f3 hE).own rfl
  case z5_8 => intro a' w' hE hK hg; exact ok_sub (ksv (j := 7) (hK 29 rfl) rfl rfl rfl) rfl
  case z5_9 => intro a' w' hE hK hg; exact okl_idx (r := (rInt .i64)) (O := Oi_) ty58 ty3 rfl (ksv (j := 3) (hK 25 rfl) rfl rfl rfl) (rd_of (GR.v_ext _ f2 hE)) (ksv (j := 8) (hK 30 rfl) rfl rfl rfl) hx4
  case z5_10 => intro a' w' hE hK hg; exact okl_ldr (rInt .i64) (fun _ => rfl) ty3 rfl rfl rfl (kspS (φ := SP.ptr (rInt .i64) Oi_ x4) (j := 9) (hK 31 rfl) rfl rfl rfl) (fun _ _ _ h => rInt_v.1 h)
  case z5_11 => intro a' w' hE hK hg; exact ok_move (kn (hK 1 rfl) rfl q1)
  case z5_12 => intro a' w' hE hK hg; have c_ := ok_colletref01_Mod (OkO.ext hB.ok hE)  hx5; exact ok_call2 fn37 (ksv (j := 10) (hK 32 rfl) rfl rfl rfl) (ksv (j := 11) (hK 33 rfl) rfl rfl rfl) c_
  case z5_13 => intro a' w' hE hK hg; exact ok_assign (ksv (j := 12) (hK 34 rfl) rfl rfl rfl)
  case zok5 => kernel_rfl
  case zgd5 => kernel_rfl
  intro a6 w6 hA' hE HF
  have q4 := ksv (HF 4) rfl rfl rfl
  clear q0
  clear q1
  clear hA HF; have hA := hA'; clear hA'
  replace f3 := f3.ext hE
  replace f2 := GR.v_ext _ f2 hE
  replace hB := Base.step hB hE hO; clear hE
  refine li_nil (nx_then (wp_ret ?_))
  have h := Comp.run_pure h; subst h
  exact retG1 Try.results74 hA (.tmp q4) (bioEnd hB f3 ⟨_, _, rfl, (rel_ofF (r := (rSl (rInt .i64))) f2 rfl rfl), ⟨_, _, rfl, rfl, rfl⟩⟩ rfl)
theorem ok_colletref02_most4 {O : Tags} {w0 : World} (hO : OkO O w0) {x_0 : Int} {n : Nat} {y : Bytes} (h : (colletref02_most4 x_0).run n = some y) : Pure Try.prog 117 #[.int .i64 x_0] w0 (SP.isv (.string (str y))).holds := by
 unfold colletref02_most4 at h
 refine pure_of_wp Try.func117 rfl 16 Try.ntmps117 (by simp) fun a0 hA hs0 => ?_
 have q0 : a0.get 0 = .int .i64 x_0 := hs0 0 _ rfl
 clear hs0
 have hB : Base (Fr w0) O w0 O w0 := Base.start hO
 refine wp_seq ?_
 refine' region [_] mixed hA (.cons ?z1_0 .nil) ?zok1 ?zgd1 ?zk1
 case z1_0 => intro a' w' hE hK hg; exact ok_assign rfl
 case zok1 => kernel_rfl
 case zgd1 => kernel_rfl
 intro a1 w1 hA' hE HF
 replace q0 := kn (HF 0) rfl q0
 clear hA HF; have hA := hA'; clear hA'
 replace hB := Base.step hB hE hO; clear hE
 refine li_nil (nx_then (wp_seq ?_))
 obtain ⟨x1, hx1, h⟩ := Comp.run_bind h
 refine' region [_, _, _, _, _, _, _, _, _, _, _, SP.vl (rSl (rInt .u8)) O [(IntKind.wrap .u8 (shrF .i64 x_0 24)), (IntKind.wrap .u8 (shrF .i64 x_0 16)), (IntKind.wrap .u8 (shrF .i64 x_0 8)), (IntKind.wrap .u8 x_0)], SP.isv (.string (str x1)), _] mixed hA (.cons ?z2_0 (.cons ?z2_1 (.cons ?z2_2 (.cons ?z2_3 (.cons ?z2_4 (.cons ?z2_5 (.cons ?z2_6 (.cons ?z2_7 (.cons ?z2_8 (.cons ?z2_9 (.cons ?z2_10 (.cons ?z2_11 (.cons ?z2_12 (.cons ?z2_13 .nil)))))))))))))) ?zok2 ?zgd2 ?zk2
 case z2_0 => intro a' w' hE hK hg; exact ok_move (kn (hK 0 rfl) rfl q0)
 case z2_1 => intro a' w' hE hK hg; exact okl_shr (ksv (j := 0) (hK 3 rfl) rfl rfl rfl) rfl (by decide)
 case z2_2 => intro a' w' hE hK hg; exact ok_convI ty3 ty5 (ksv (j := 1) (hK 4 rfl) rfl rfl rfl)
 case z2_3 => intro a' w' hE hK hg; exact ok_move (kn (hK 0 rfl) rfl q0)
 case z2_4 => intro a' w' hE hK hg; exact okl_shr (ksv (j := 3) (hK 6 rfl) rfl rfl rfl) rfl (by decide)
 case z2_5 => intro a' w' hE hK hg; exact ok_convI ty3 ty5 (ksv (j := 4) (hK 7 rfl) rfl rfl rfl)
 case z2_6 => intro a' w' hE hK hg; exact ok_move (kn (hK 0 rfl) rfl q0)
 case z2_7 => intro a' w' hE hK hg; exact okl_shr (ksv (j := 6) (hK 9 rfl) rfl rfl rfl) rfl (by decide)
 case z2_8 => intro a' w' hE hK hg; exact ok_convI ty3 ty5 (ksv (j := 7) (hK 10 rfl) rfl rfl rfl)
 case z2_9 => intro a' w' hE hK hg; exact ok_move (kn (hK 0 rfl) rfl q0)
 case z2_10 => intro a' w' hE hK hg; exact ok_convI ty3 ty5 (ksv (j := 9) (hK 12 rfl) rfl rfl rfl)
 case z2_11 => intro a' w' hE hK hg; exact okl_buildSliceV (r := (rInt .u8)) (fun _ => rfl) rfl (OkO.ext hB.ok hE) ty104 ty5 (parts_cons (ksv (j := 2) (hK 5 rfl) rfl rfl rfl) (parts_cons (ksv (j := 5) (hK 8 rfl) rfl rfl rfl) (parts_cons (ksv (j := 8) (hK 11 rfl) rfl rfl rfl) (parts_cons (ksv (j := 10) (hK 13 rfl) rfl rfl rfl) parts_nil)))) ⟨(by first | exact rInt_v.2 rfl | exact rBool_v.2 rfl | exact rStr_v.2 rfl | exact rC_v.2 rfl | exact ⟨_, rfl, rfl⟩), ⟨(by first | exact rInt_v.2 rfl | exact rBool_v.2 rfl | exact rStr_v.2 rfl | exact rC_v.2 rfl | exact ⟨_, rfl, rfl⟩), ⟨(by first | exact rInt_v.2 rfl | exact rBool_v.2 rfl | exact rStr_v.2 rfl | exact rC_v.2 rfl | exact ⟨_, rfl, rfl⟩), ⟨(by first | exact rInt_v.2 rfl | exact rBool_v.2 rfl | exact rStr_v.2 rfl | exact rC_v.2 rfl | exact ⟨_, rfl, rfl⟩), trivial⟩⟩⟩⟩ rfl (by decide)
 case z2_12 => intro a' w' hE hK hg; exact okl_bytesToStr ty104 ty5 ty9 rfl (rd_of (kspS (φ := SP.vl (rSl (rInt .u8)) O [(IntKind.wrap .u8 (shrF .i64 x_0 24)), (IntKind.wrap .u8 (shrF .i64 x_0 16)), (IntKind.wrap .u8 (shrF .i64 x_0 8)), (IntKind.wrap .u8 x_0)]) (j := 11) (hK 14 rfl) rfl rfl rfl)) hx1
 case z2_13 => intro a' w' hE hK hg; exact ok_assign (ksv (j := 12) (hK 15 rfl) rfl rfl rfl)
 case zok2 => kernel_rfl
 case zgd2 => kernel_rfl
 intro a2 w2 hA' hE HF
 have q2 := ksv (HF 2) rfl rfl rfl
 clear q0
 clear hA HF; have hA := hA'; clear hA'
 replace hB := Base.step hB hE hO; clear hE
 refine li_nil (nx_then (wp_ret ?_))
 have h := Comp.run_pure h; subst h
 exact retPure Try.results117 hA q2 hB.ext rfl
theorem ok_colletref02_Of {O : Tags} {w0 : World} (hO : OkO O w0) {x_0 : Bytes} {n : Nat} {y : Bytes} (h : (colletref02_Of x_0).run n = some y) : Pure Try.prog 71 #[.string (str x_0)] w0 (SP.isv (.string (str y))).holds := by
 unfold colletref02_Of at h
 refine pure_of_wp Try.func71 rfl 35 Try.ntmps71 (by simp) fun a0 hA hs0 => ?_
 have q0 : a0.get 0 = .string (str x_0) := hs0 0 _ rfl
 clear hs0
 have hB : Base (Fr w0) O w0 O w0 := Base.start hO
 refine wp_seq ?_
 refine' region [_] mixed hA (.cons ?z1_0 .nil) ?zok1 ?zgd1 ?zk1
 case z1_0 => intro a' w' hE hK hg; exact ok_assign rfl
 case zok1 => kernel_rfl
 case zgd1 => kernel_rfl
 intro a1 w1 hA' hE HF
 replace q0 := kn (HF 0) rfl q0
 clear hA HF; have hA := hA'; clear hA'
 replace hB := Base.step hB hE hO; clear hE
 refine li_nil (nx_then (wp_seq ?_))
 refine' region [_] mixed hA (.cons ?z2_0 .nil) ?zok2 ?zgd2 ?zk2
 case z2_0 => intro a' w' hE hK hg; exact ok_assign rfl
 case zok2 => kernel_rfl
 case zgd2 => kernel_rfl
 intro a2 w2 hA' hE HF
 replace q0 := kn (HF 0) rfl q0
 have q3 := ksv (HF 3) rfl rfl rfl
 clear hA HF; have hA := hA'; clear hA'
 replace hB := Base.step hB hE hO; clear hE
 refine li_nil (nx_then (wp_seq ?_))
 refine' region [_] mixed hA (.cons ?z3_0 .nil) ?zok3 ?zgd3 ?zk3
 case z3_0 => intro a' w' hE hK hg; exact ok_assign rfl
 case zok3 => kernel_rfl
 case zgd3 => kernel_rfl
 intro a3 w3 hA' hE HF
 replace q0 := kn (HF 0) rfl q0
 replace q3 := kn (HF 3) rfl q3
 have q4 := ksv (HF 4) rfl rfl rfl
 clear hA HF; have hA := hA'; clear hA'
 replace hB := Base.step hB hE hO; clear hE
 refine li_nil (nx_then ?_)
 refine seq_join (fun a w => ∃ (O15 : Tags) (x13 : Int) (x14 : Int), a.fit 35 ∧ Base (Fr w0) O w0 O15 w ∧ a.get 3 = .int .i64 x13 ∧ a.get 4 = .int .i64 x14 ∧ (colletref02_Of_j1 x13 x14).run n = some y) ?_ ?_
 ·
  refine wp_seq ?_
  refine' region [_] mixed hA (.cons ?z4_0 .nil) ?zok4 ?zgd4 ?zk4
  case z4_0 => intro a' w' hE hK hg; exact ok_assign rfl
  case zok4 => kernel_rfl
  case zgd4 => kernel_rfl
  intro a4 w4 hA' hE HF
  replace q0 := kn (HF 0) rfl q0
  replace q3 := kn (HF 3) rfl q3
  replace q4 := kn (HF 4) rfl q4
  have q5 := ksv (HF 5) rfl rfl rfl
  clear hA HF; have hA := hA'; clear hA'
  replace hB := Base.step hB hE hO; clear hE
  refine li_nil (nx_then (wp_block ?_))
  obtain ⟨e2, he2, hk2⟩ := Comp.run_bind h; clear h
  refine loop_m (fun m a w => ∃ (O4 : Tags) (x1 : Int) (x2 : Int) (x3 : Int), a.fit 35 ∧ Base (Fr w0) O w0 O4 w ∧ a.get 0 = .string (str x_0) ∧ a.get 3 = .int .i64 x1 ∧ a.get 4 = .int .i64 x2 ∧ a.get 5 = .int .i64 x3 ∧ Comp.loopN (fun s => colletref02_Of_l2 x_0 s.1 s.2.1 s.2.2) n m (x1, x2, x3) = some e2) (m := n) ?st2 ?_
  case st2 =>
   exact ⟨_, _, _, _, hA, hB, q0, q3, q4, q5, Comp.run_loop he2⟩
  intro m_ a5 w5 hI
  clear hA hB he2 q0 q3 q4 q5
  obtain ⟨O4, x1, x2, x3, hA, hB, q0, q3, q4, q5, hl⟩ := hI
  obtain ⟨m2, hlt2, st2, h, hnext2, hdone2⟩ := Comp.loopN_succ hl; clear hl
  replace h : (colletref02_Of_l2 x_0 x1 x2 x3).run n = some st2 := h
  unfold colletref02_Of_l2 at h
  refine wp_seq (wp_seq ?_)
  refine' region [_, _, _, _] mixed hA (.cons ?z5_0 (.cons ?z5_1 (.cons ?z5_2 (.cons ?z5_3 .nil)))) ?zok5 ?zgd5 ?zk5
  case z5_0 => intro a' w' hE hK hg; exact ok_move (kn (hK 5 rfl) rfl q5)
  case z5_1 => intro a' w' hE hK hg; exact ok_move (kn (hK 0 rfl) rfl q0)
  case z5_2 => intro a' w' hE hK hg; exact okl_lenS ty9 (ksv (j := 1) (hK 7 rfl) rfl rfl rfl)
  case z5_3 => intro a' w' hE hK hg; exact ok_lss (ksv (j := 0) (hK 6 rfl) rfl rfl rfl) (ksv (j := 2) (hK 8 rfl) rfl rfl rfl)
  case zok5 => kernel_rfl
  case zgd5 => kernel_rfl
  intro a6 w6 hA' hE HF
  replace q0 := kn (HF 0) rfl q0
  replace q3 := kn (HF 3) rfl q3
  replace q4 := kn (HF 4) rfl q4
  replace q5 := kn (HF 5) rfl q5
  have q9 := ksv (HF 9) rfl rfl rfl
  clear hA HF; have hA := hA'; clear hA'
  replace hB := Base.step hB hE hO; clear hE
  refine li_nil (nx_then ?_)
  refine wp_cond_b q9 (fun hc => ?_) (fun hc => ?_)
  ·
   replace h := Comp.run_b_t hc h; clear hc
   refine wp_skip (nx_then (wp_seq (wp_block (wp_seq ?_))))
   obtain ⟨x5, hx5, h⟩ := Comp.run_bind h
   refine' region [_, _, _, _, SP.isv (.int .u8 x5), _, _, _, _, _] mixed hA (.cons ?z6_0 (.cons ?z6_1 (.cons ?z6_2 (.cons ?z6_3 (.cons ?z6_4 (.cons ?z6_5 (.cons ?z6_6 (.cons ?z6_7 (.cons ?z6_8 (.cons ?z6_9 .nil)))))))))) ?zok6 ?zgd6 ?zk6
   case z6_0 => intro a' w' hE hK hg; exact ok_move (kn (hK 3 rfl) rfl q3)
   case z6_1 => intro a' w' hE hK hg; exact ok_mul rfl (ksv (j := 0) (hK 12 rfl) rfl rfl rfl)
   case z6_2 => intro a' w' hE hK hg; exact ok_move (kn (hK 0 rfl) rfl q0)
   case z6_3 => intro a' w' hE hK hg; exact ok_move (kn (hK 5 rfl) rfl q5)
   case z6_4 => intro a' w' hE hK hg; exact okl_indexS ty9 (ksv (j := 2) (hK 14 rfl) rfl rfl rfl) (ksv (j := 3) (hK 15 rfl) rfl rfl rfl) hx5
   case z6_5 => intro a' w' hE hK hg; exact ok_convI ty5 ty3 (ksv (j := 4) (hK 16 rfl) rfl rfl rfl)
   case z6_6 => intro a' w' hE hK hg; exact ok_add (ksv (j := 1) (hK 13 rfl) rfl rfl rfl) (ksv (j := 5) (hK 17 rfl) rfl rfl rfl)
   case z6_7 => intro a' w' hE hK hg; exact ok_add (ksv (j := 6) (hK 18 rfl) rfl rfl rfl) rfl
   case z6_8 => intro a' w' hE hK hg; exact ok_rem (ksv (j := 7) (hK 19 rfl) rfl rfl rfl) rfl (by decide)
   case z6_9 => intro a' w' hE hK hg; exact ok_assign (ksv (j := 8) (hK 20 rfl) rfl rfl rfl)
   case zok6 => kernel_rfl
   case zgd6 => kernel_rfl
   intro a7 w7 hA' hE HF
   replace q0 := kn (HF 0) rfl q0
   have q3' := ksv (HF 3) rfl rfl rfl
   replace q3 := q3'; clear q3'
   replace q4 := kn (HF 4) rfl q4
   replace q5 := kn (HF 5) rfl q5
   clear q9
   clear hA HF; have hA := hA'; clear hA'
   replace hB := Base.step hB hE hO; clear hE
   obtain ⟨x6, hx_, h⟩ := Comp.run_bind h; replace hx_ := Comp.run_pure hx_; rw [hx_] at q3; clear hx_
   refine li_nil (nx_then ?_)
   obtain ⟨x7, hx7, h⟩ := Comp.run_bind h
   refine' region [_, _, _, _, SP.isv (.int .u8 x7), _, _, _, _, _] mixed hA (.cons ?z7_0 (.cons ?z7_1 (.cons ?z7_2 (.cons ?z7_3 (.cons ?z7_4 (.cons ?z7_5 (.cons ?z7_6 (.cons ?z7_7 (.cons ?z7_8 (.cons ?z7_9 .nil)))))))))) ?zok7 ?zgd7 ?zk7
   case z7_0 => intro a' w' hE hK hg; exact ok_move (kn (hK 4 rfl) rfl q4)
   case z7_1 => intro a' w' hE hK hg; exact ok_mul rfl (ksv (j := 0) (hK 21 rfl) rfl rfl rfl)
   case z7_2 => intro a' w' hE hK hg; exact ok_move (kn (hK 0 rfl) rfl q0)
   case z7_3 => intro a' w' hE hK hg; exact ok_move (kn (hK 5 rfl) rfl q5)
   case z7_4 => intro a' w' hE hK hg; exact okl_indexS ty9 (ksv (j := 2) (hK 23 rfl) rfl rfl rfl) (ksv (j := 3) (hK 24 rfl) rfl rfl rfl) hx7
   case z7_5 => intro a' w' hE hK hg; exact ok_convI ty5 ty3 (ksv (j := 4) (hK 25 rfl) rfl rfl rfl)
   case z7_6 => intro a' w' hE hK hg; exact ok_add (ksv (j := 1) (hK 22 rfl) rfl rfl rfl) (ksv (j := 5) (hK 26 rfl) rfl rfl rfl)
   case z7_7 => intro a' w' hE hK hg; exact ok_add (ksv (j := 6) (hK 27 rfl) rfl rfl rfl) rfl
   case z7_8 => intro a' w' hE hK hg; exact ok_rem (ksv (j := 7) (hK 28 rfl) rfl rfl rfl) rfl (by decide)
   case z7_9 => intro a' w' hE hK hg; exact ok_assign (ksv (j := 8) (hK 29 rfl) rfl rfl rfl)
   case zok7 => kernel_rfl
   case zgd7 => kernel_rfl
   intro a8 w8 hA' hE HF
   replace q0 := kn (HF 0) rfl q0
   replace q3 := kn (HF 3) rfl q3
   have q4' := ksv (HF 4) rfl rfl rfl
   replace q4 := q4'; clear q4'
   replace q5 := kn (HF 5) rfl q5
   clear hA HF; have hA := hA'; clear hA'
   replace hB := Base.step hB hE hO; clear hE
   obtain ⟨x8, hx_, h⟩ := Comp.run_bind h; replace hx_ := Comp.run_pure hx_; rw [hx_] at q4; clear hx_
   refine li_nil (nx_blk (nx_then ?_))
   refine' region [_, _, _] mixed hA (.cons ?z8_0 (.cons ?z8_1 (.cons ?z8_2 .nil))) ?zok8 ?zgd8 ?zk8
   case z8_0 => intro a' w' hE hK hg; exact ok_move (kn (hK 5 rfl) rfl q5)
   case z8_1 => intro a' w' hE hK hg; exact ok_add (ksv (j := 0) (hK 10 rfl) rfl rfl rfl) rfl
   case z8_2 => intro a' w' hE hK hg; exact ok_assign (ksv (j := 1) (hK 11 rfl) rfl rfl rfl)
   case zok8 => kernel_rfl
   case zgd8 => kernel_rfl
   intro a9 w9 hA' hE HF
   replace q0 := kn (HF 0) rfl q0
   replace q3 := kn (HF 3) rfl q3
   replace q4 := kn (HF 4) rfl q4
   have q5' := ksv (HF 5) rfl rfl rfl
   replace q5 := q5'; clear q5'
   clear hA HF; have hA := hA'; clear hA'
   replace hB := Base.step hB hE hO; clear hE
   refine li_nil (nx_then ?_)
   have h := hnext2 _ (Comp.run_pure h).symm
   refine ⟨m2, hlt2, ?_⟩
   exact ⟨_, _, _, _, hA, hB, q0, q3, q4, q5, h⟩
  ·
   replace h := Comp.run_b_f hc h; clear hc
   refine wp_exit (ex_then (ex_then (ex_same ?_)))
   have hd_ := hdone2 _ (Comp.run_pure h).symm; clear h
   subst hd_; have h := hk2; clear hk2; try dsimp only at h
   refine nx_then ?_
   exact ⟨_, _, _, hA, hB, q3, q4, h⟩
 intro a10 w10 hI
 clear hA hB h q0 q3 q4
 obtain ⟨O15, x13, x14, hA, hB, q3, q4, h⟩ := hI
 unfold colletref02_Of_j1 at h
 refine wp_seq ?_
 obtain ⟨x16, hx16, h⟩ := Comp.run_bind h
 obtain ⟨x17, hx17, h⟩ := Comp.run_bind h
 obtain ⟨x18, hx18, h⟩ := Comp.run_bind h
 refine' region [_, SP.isv (.string (str x16)), _, SP.isv (.string (str x17)), SP.isv (.string (str x18)), _] mixed hA (.cons ?z9_0 (.cons ?z9_1 (.cons ?z9_2 (.cons ?z9_3 (.cons ?z9_4 (.cons ?z9_5 .nil)))))) ?zok9 ?zgd9 ?zk9
 case z9_0 => intro a' w' hE hK hg; exact ok_move (kn (hK 3 rfl) rfl q3)
 case z9_1 => intro a' w' hE hK hg; have c_ := ok_colletref02_most4 (OkO.ext hB.ok hE)  hx16; exact ok_call1 fn117 (ksv (j := 0) (hK 30 rfl) rfl rfl rfl) c_
 case z9_2 => intro a' w' hE hK hg; exact ok_move (kn (hK 4 rfl) rfl q4)
 case z9_3 => intro a' w' hE hK hg; have c_ := ok_colletref02_most4 (OkO.ext hB.ok hE)  hx17; exact ok_call1 fn117 (ksv (j := 2) (hK 32 rfl) rfl rfl rfl) c_
 case z9_4 => intro a' w' hE hK hg; exact okl_addS (ksv (j := 1) (hK 31 rfl) rfl rfl rfl) (ksv (j := 3) (hK 33 rfl) rfl rfl rfl) hx18
 case z9_5 => intro a' w' hE hK hg; exact ok_assign (ksv (j := 4) (hK 34 rfl) rfl rfl rfl)
 case zok9 => kernel_rfl
 case zgd9 => kernel_rfl
 intro a11 w11 hA' hE HF
 have q2 := ksv (HF 2) rfl rfl rfl
 clear q3
 clear q4
 clear hA HF; have hA := hA'; clear hA'
 replace hB := Base.step hB hE hO; clear hE
 refine li_nil (nx_then (wp_ret ?_))
 have h := Comp.run_pure h; subst h
 exact retPure Try.results71 hA q2 hB.ext rfl
theorem ok_colletref37_Root {O : Tags} {w0 : World} (hO : OkO O w0) {x_0 : Int} {n : Nat} {y : Bytes} (h : (colletref37_Root x_0).run n = some y) : Pure Try.prog 29 #[.int .i64 x_0] w0 (SP.isv (.string (str y))).holds := by
 unfold colletref37_Root at h
 refine pure_of_wp Try.func29 rfl 8 Try.ntmps29 (by simp) fun a0 hA hs0 => ?_
 have q0 : a0.get 0 = .int .i64 x_0 := hs0 0 _ rfl
 clear hs0
 have hB : Base (Fr w0) O w0 O w0 := Base.start hO
 refine wp_seq ?_
 refine' region [_] mixed hA (.cons ?z1_0 .nil) ?zok1 ?zgd1 ?zk1
 case z1_0 => intro a' w' hE hK hg; exact ok_assign rfl
 case zok1 => kernel_rfl
 case zgd1 => kernel_rfl
 intro a1 w1 hA' hE HF
 replace q0 := kn (HF 0) rfl q0
 clear hA HF; have hA := hA'; clear hA'
 replace hB := Base.step hB hE hO; clear hE
 refine li_nil (nx_then (wp_seq ?_))
 obtain ⟨x1, hx1, h⟩ := Comp.run_bind h
 obtain ⟨x2, hx2, h⟩ := Comp.run_bind h
 obtain ⟨x3, hx3, h⟩ := Comp.run_bind h
 obtain ⟨x4, hx4, h⟩ := Comp.run_bind h
 refine' region [_, SP.vl r_api_Num O x1, SP.isv (.string (str x2)), SP.isv (.string (str x3)), SP.isv (.string (str x4)), _] mixed hA (.cons ?z2_0 (.cons ?z2_1 (.cons ?z2_2 (.cons ?z2_3 (.cons ?z2_4 (.cons ?z2_5 .nil)))))) ?zok2 ?zgd2 ?zk2
 case z2_0 => intro a' w' hE hK hg; exact ok_move (kn (hK 0 rfl) rfl q0)
 case z2_1 => intro a' w' hE hK hg; have c_ := ok_colletref01_Of (OkO.ext hB.ok hE)  hx1; exact ok_call1 fn65 (ksv (j := 0) (hK 3 rfl) rfl rfl rfl) c_
 case z2_2 => intro a' w' hE hK hg; have c_ := ok_colletref01_Text (OkO.ext hB.ok hE) (kspS (φ := SP.vl r_api_Num O x1) (j := 1) (hK 4 rfl) rfl rfl rfl) hx2; exact ok_call1 fn64 rfl c_
 case z2_3 => intro a' w' hE hK hg; exact okl_addS rfl (ksv (j := 2) (hK 5 rfl) rfl rfl rfl) hx3
 case z2_4 => intro a' w' hE hK hg; have c_ := ok_colletref02_Of (OkO.ext hB.ok hE)  hx4; exact ok_call1 fn71 (ksv (j := 3) (hK 6 rfl) rfl rfl rfl) c_
 case z2_5 => intro a' w' hE hK hg; exact ok_assign (ksv (j := 4) (hK 7 rfl) rfl rfl rfl)
 case zok2 => kernel_rfl
 case zgd2 => kernel_rfl
 intro a2 w2 hA' hE HF
 have q2 := ksv (HF 2) rfl rfl rfl
 clear q0
 clear hA HF; have hA := hA'; clear hA'
 replace hB := Base.step hB hE hO; clear hE
 refine li_nil (nx_then (wp_ret ?_))
 have h := Comp.run_pure h; subst h
 exact retPure Try.results29 hA q2 hB.ext rfl
theorem ok_colletref37_writer {O : Tags} {w0 : World} (hO : OkO O w0) {x_0 : api_Entry} {n : Nat} {y : Int} (h : (colletref37_writer x_0).run n = some y) : Pure Try.prog 75 #[.agg #[.int .i64 x_0.Seq, .int .i64 x_0.Shop, .int .i64 x_0.Kind, .int .i64 x_0.Day, .int .i64 x_0.N, .string (str x_0.Before), .string (str x_0.After), .string (str x_0.Prev), .string (str x_0.Mark)]] w0 (SP.isv (.int .i64 y)).holds := by
 unfold colletref37_writer at h
 refine pure_of_wp Try.func75 rfl 10 Try.ntmps75 (by simp) fun a0 hA hs0 => ?_
 have q0 : a0.get 0 = .agg #[.int .i64 x_0.Seq, .int .i64 x_0.Shop, .int .i64 x_0.Kind, .int .i64 x_0.Day, .int .i64 x_0.N, .string (str x_0.Before), .string (str x_0.After), .string (str x_0.Prev), .string (str x_0.Mark)] := hs0 0 _ rfl
 clear hs0
 have hB : Base (Fr w0) O w0 O w0 := Base.start hO
 refine wp_seq ?_
 refine' region [SP.vl (rBox r_api_Entry) O x_0, _] mixed hA (.cons ?z1_0 (.cons ?z1_1 .nil)) ?zok1 ?zgd1 ?zk1
 case z1_0 => intro a' w' hE hK hg; exact okl_boxV (r := r_api_Entry) fit_api_Entry (OkO.ext hB.ok hE) (kn (hK 0 rfl) rfl q0) (by first | exact rInt_v.2 rfl | exact rBool_v.2 rfl | exact rStr_v.2 rfl | exact rC_v.2 rfl | exact ⟨_, rfl, rfl⟩)
 case z1_1 => intro a' w' hE hK hg; exact ok_assign rfl
 case zok1 => kernel_rfl
 case zgd1 => kernel_rfl
 intro a1 w1 hA' hE HF
 have f2 := ksp (HF 1) rfl rfl rfl
 obtain ⟨u1, q1'⟩ : ∃ u, a1.get 1 = u := ⟨_, rfl⟩
 rw [q1'] at f2
 have q1 := q1'; clear q1'
 clear q0
 clear hA HF; have hA := hA'; clear hA'
 replace hB := Base.step hB hE hO; clear hE
 refine li_nil (nx_then (wp_seq (wp_seq ?_)))
 refine' region [SP.ptr (rInt .i64) O x_0.Kind, SP.isv (.int .i64 x_0.Kind), _] mixed hA (.cons ?z2_0 (.cons ?z2_1 (.cons ?z2_2 .nil))) ?zok2 ?zgd2 ?zk2
 case z2_0 => intro a' w' hE hK hg; exact okl_fldB (S := r_api_Entry) fit_api_Entry rfl (fun _ => rfl) sb_api_Entry_2 fl26_2 (kn (hK 1 rfl) rfl q1) (GR.v_ext _ f2 hE)
 case z2_1 => intro a' w' hE hK hg; exact okl_ldr (rInt .i64) (fun _ => rfl) ty3 rfl rfl rfl (kspS (φ := SP.ptr (rInt .i64) O x_0.Kind) (j := 0) (hK 3 rfl) rfl rfl rfl) (fun _ _ _ h => rInt_v.1 h)
 case z2_2 => intro a' w' hE hK hg; exact ok_eqlI (ksv (j := 1) (hK 4 rfl) rfl rfl rfl) rfl
 case zok2 => kernel_rfl
 case zgd2 => kernel_rfl
 intro a2 w2 hA' hE HF
 replace q1 := kn (HF 1) rfl q1
 have q5 := ksv (HF 5) rfl rfl rfl
 clear hA HF; have hA := hA'; clear hA'
 replace f2 := GR.v_ext _ f2 hE
 replace hB := Base.step hB hE hO; clear hE
 refine li_nil (nx_then ?_)
 refine wp_cond_b q5 (fun hc => ?_) (fun hc => ?_)
 ·
  replace h := Comp.run_b_t hc h; clear hc
  refine wp_seq ?_
  refine' region [SP.ptr (rInt .i64) O x_0.N, SP.isv (.int .i64 x_0.N), _] mixed hA (.cons ?z3_0 (.cons ?z3_1 (.cons ?z3_2 .nil))) ?zok3 ?zgd3 ?zk3
  case z3_0 => intro a' w' hE hK hg; exact okl_fldB (S := r_api_Entry) fit_api_Entry rfl (fun _ => rfl) sb_api_Entry_4 fl26_4 (kn (hK 1 rfl) rfl q1) (GR.v_ext _ f2 hE)
  case z3_1 => intro a' w' hE hK hg; exact okl_ldr (rInt .i64) (fun _ => rfl) ty3 rfl rfl rfl (kspS (φ := SP.ptr (rInt .i64) O x_0.N) (j := 0) (hK 6 rfl) rfl rfl rfl) (fun _ _ _ h => rInt_v.1 h)
  case z3_2 => intro a' w' hE hK hg; exact ok_assign (ksv (j := 1) (hK 7 rfl) rfl rfl rfl)
  case zok3 => kernel_rfl
  case zgd3 => kernel_rfl
  intro a3 w3 hA' hE HF
  have q2 := ksv (HF 2) rfl rfl rfl
  clear q1
  clear q5
  clear hA HF; have hA := hA'; clear hA'
  replace f2 := GR.v_ext _ f2 hE
  replace hB := Base.step hB hE hO; clear hE
  refine li_nil (nx_then (wp_ret (rt_then ?_)))
  have h := Comp.run_pure h; subst h
  exact retPure Try.results75 hA q2 hB.ext rfl
 ·
  replace h := Comp.run_b_f hc h; clear hc
  refine wp_skip (nx_then (wp_seq ?_))
  refine' region [SP.ptr (rInt .i64) O x_0.Shop, SP.isv (.int .i64 x_0.Shop), _] mixed hA (.cons ?z4_0 (.cons ?z4_1 (.cons ?z4_2 .nil))) ?zok4 ?zgd4 ?zk4
  case z4_0 => intro a' w' hE hK hg; exact okl_fldB (S := r_api_Entry) fit_api_Entry rfl (fun _ => rfl) sb_api_Entry_1 fl26_1 (kn (hK 1 rfl) rfl q1) (GR.v_ext _ f2 hE)
  case z4_1 => intro a' w' hE hK hg; exact okl_ldr (rInt .i64) (fun _ => rfl) ty3 rfl rfl rfl (kspS (φ := SP.ptr (rInt .i64) O x_0.Shop) (j := 0) (hK 8 rfl) rfl rfl rfl) (fun _ _ _ h => rInt_v.1 h)
  case z4_2 => intro a' w' hE hK hg; exact ok_assign (ksv (j := 1) (hK 9 rfl) rfl rfl rfl)
  case zok4 => kernel_rfl
  case zgd4 => kernel_rfl
  intro a4 w4 hA' hE HF
  have q2 := ksv (HF 2) rfl rfl rfl
  clear q1
  clear q5
  clear hA HF; have hA := hA'; clear hA'
  replace f2 := GR.v_ext _ f2 hE
  replace hB := Base.step hB hE hO; clear hE
  refine li_nil (nx_then (wp_ret ?_))
  have h := Comp.run_pure h; subst h
  exact retPure Try.results75 hA q2 hB.ext rfl
theorem ok_colletref04_code {O : Tags} {w0 : World} (hO : OkO O w0) {x_0 : Int} {n : Nat} {y : Int} (h : (colletref04_code x_0).run n = some y) : Pure Try.prog 127 #[.int .i64 x_0] w0 (SP.isv (.int .u64 y)).holds := by
 unfold colletref04_code at h
 refine pure_of_wp Try.func127 rfl 14 Try.ntmps127 (by simp) fun a0 hA hs0 => ?_
 have q0 : a0.get 0 = .int .i64 x_0 := hs0 0 _ rfl
 clear hs0
 have hB : Base (Fr w0) O w0 O w0 := Base.start hO
 refine wp_seq ?_
 refine' region [_] mixed hA (.cons ?z1_0 .nil) ?zok1 ?zgd1 ?zk1
 case z1_0 => intro a' w' hE hK hg; exact ok_assign rfl
 case zok1 => kernel_rfl
 case zgd1 => kernel_rfl
 intro a1 w1 hA' hE HF
 replace q0 := kn (HF 0) rfl q0
 clear hA HF; have hA := hA'; clear hA'
 replace hB := Base.step hB hE hO; clear hE
 refine li_nil (nx_then (wp_seq (wp_seq ?_)))
 refine' region [_, _] mixed hA (.cons ?z2_0 (.cons ?z2_1 .nil)) ?zok2 ?zgd2 ?zk2
 case z2_0 => intro a' w' hE hK hg; exact ok_move (kn (hK 0 rfl) rfl q0)
 case z2_1 => intro a' w' hE hK hg; exact ok_geq (ksv (j := 0) (hK 3 rfl) rfl rfl rfl) rfl
 case zok2 => kernel_rfl
 case zgd2 => kernel_rfl
 intro a2 w2 hA' hE HF
 replace q0 := kn (HF 0) rfl q0
 have q4 := ksv (HF 4) rfl rfl rfl
 clear hA HF; have hA := hA'; clear hA'
 replace hB := Base.step hB hE hO; clear hE
 refine li_nil (nx_then ?_)
 refine wp_cond_b q4 (fun hc => ?_) (fun hc => ?_)
 ·
  replace h := Comp.run_b_t hc h; clear hc
  refine wp_seq ?_
  refine' region [_, _, _, _] mixed hA (.cons ?z3_0 (.cons ?z3_1 (.cons ?z3_2 (.cons ?z3_3 .nil)))) ?zok3 ?zgd3 ?zk3
  case z3_0 => intro a' w' hE hK hg; exact ok_move (kn (hK 0 rfl) rfl q0)
  case z3_1 => intro a' w' hE hK hg; exact ok_convI ty3 ty122 (ksv (j := 0) (hK 5 rfl) rfl rfl rfl)
  case z3_2 => intro a' w' hE hK hg; exact ok_mul rfl (ksv (j := 1) (hK 6 rfl) rfl rfl rfl)
  case z3_3 => intro a' w' hE hK hg; exact ok_assign (ksv (j := 2) (hK 7 rfl) rfl rfl rfl)
  case zok3 => kernel_rfl
  case zgd3 => kernel_rfl
  intro a3 w3 hA' hE HF
  have q2 := ksv (HF 2) rfl rfl rfl
  clear q0
  clear q4
  clear hA HF; have hA := hA'; clear hA'
  replace hB := Base.step hB hE hO; clear hE
  obtain ⟨x1, hx_, h⟩ := Comp.run_bind h; replace hx_ := Comp.run_pure hx_; rw [hx_] at q2; clear hx_
  refine li_nil (nx_then (wp_ret (rt_then ?_)))
  have h := Comp.run_pure h; subst h
  exact retPure Try.results127 hA q2 hB.ext rfl
 ·
  replace h := Comp.run_b_f hc h; clear hc
  refine wp_skip (nx_then (wp_seq ?_))
  refine' region [_, _, _, _, _, _, _] mixed hA (.cons ?z4_0 (.cons ?z4_1 (.cons ?z4_2 (.cons ?z4_3 (.cons ?z4_4 (.cons ?z4_5 (.cons ?z4_6 .nil))))))) ?zok4 ?zgd4 ?zk4
  case z4_0 => intro a' w' hE hK hg; exact ok_move (kn (hK 0 rfl) rfl q0)
  case z4_1 => intro a' w' hE hK hg; exact ok_add (ksv (j := 0) (hK 8 rfl) rfl rfl rfl) rfl
  case z4_2 => intro a' w' hE hK hg; exact ok_neg (ksv (j := 1) (hK 9 rfl) rfl rfl rfl)
  case z4_3 => intro a' w' hE hK hg; exact ok_convI ty3 ty122 (ksv (j := 2) (hK 10 rfl) rfl rfl rfl)
  case z4_4 => intro a' w' hE hK hg; exact ok_mul rfl (ksv (j := 3) (hK 11 rfl) rfl rfl rfl)
  case z4_5 => intro a' w' hE hK hg; exact ok_add (ksv (j := 4) (hK 12 rfl) rfl rfl rfl) rfl
  case z4_6 => intro a' w' hE hK hg; exact ok_assign (ksv (j := 5) (hK 13 rfl) rfl rfl rfl)
  case zok4 => kernel_rfl
  case zgd4 => kernel_rfl
  intro a4 w4 hA' hE HF
  have q2 := ksv (HF 2) rfl rfl rfl
  clear q0
  clear q4
  clear hA HF; have hA := hA'; clear hA'
  replace hB := Base.step hB hE hO; clear hE
  obtain ⟨x2, hx_, h⟩ := Comp.run_bind h; replace hx_ := Comp.run_pure hx_; rw [hx_] at q2; clear hx_
  refine li_nil (nx_then (wp_ret ?_))
  have h := Comp.run_pure h; subst h
  exact retPure Try.results127 hA q2 hB.ext rfl
theorem ok_colletref04_Int {O : Tags} {w0 : World} (hO : OkO O w0) {x_0 : Int} {n : Nat} {y : Bytes} (h : (colletref04_Int x_0).run n = some y) : Pure Try.prog 96 #[.int .i64 x_0] w0 (SP.isv (.string (str y))).holds := by
 unfold colletref04_Int at h
 refine pure_of_wp Try.func96 rfl 25 Try.ntmps96 (by simp) fun a0 hA hs0 => ?_
 have q0 : a0.get 0 = .int .i64 x_0 := hs0 0 _ rfl
 clear hs0
 have hB : Base (Fr w0) O w0 O w0 := Base.start hO
 refine wp_seq ?_
 refine' region [_] mixed hA (.cons ?z1_0 .nil) ?zok1 ?zgd1 ?zk1
 case z1_0 => intro a' w' hE hK hg; exact ok_assign rfl
 case zok1 => kernel_rfl
 case zgd1 => kernel_rfl
 intro a1 w1 hA' hE HF
 replace q0 := kn (HF 0) rfl q0
 clear hA HF; have hA := hA'; clear hA'
 replace hB := Base.step hB hE hO; clear hE
 refine li_nil (nx_then (wp_seq ?_))
 refine' region [_] mixed hA (.cons ?z2_0 .nil) ?zok2 ?zgd2 ?zk2
 case z2_0 => intro a' w' hE hK hg; exact ok_assign rfl
 case zok2 => kernel_rfl
 case zgd2 => kernel_rfl
 intro a2 w2 hA' hE HF
 replace q0 := kn (HF 0) rfl q0
 have q3 := ksv (HF 3) rfl rfl rfl
 clear hA HF; have hA := hA'; clear hA'
 replace hB := Base.step hB hE hO; clear hE
 refine li_nil (nx_then (wp_seq ?_))
 obtain ⟨x1, hx1, h⟩ := Comp.run_bind h
 refine' region [_, SP.isv (.int .u64 x1), _] mixed hA (.cons ?z3_0 (.cons ?z3_1 (.cons ?z3_2 .nil))) ?zok3 ?zgd3 ?zk3
 case z3_0 => intro a' w' hE hK hg; exact ok_move (kn (hK 0 rfl) rfl q0)
 case z3_1 => intro a' w' hE hK hg; have c_ := ok_colletref04_code (OkO.ext hB.ok hE)  hx1; exact ok_call1 fn127 (ksv (j := 0) (hK 5 rfl) rfl rfl rfl) c_
 case z3_2 => intro a' w' hE hK hg; exact ok_assign (ksv (j := 1) (hK 6 rfl) rfl rfl rfl)
 case zok3 => kernel_rfl
 case zgd3 => kernel_rfl
 intro a3 w3 hA' hE HF
 replace q3 := kn (HF 3) rfl q3
 have q4 := ksv (HF 4) rfl rfl rfl
 clear q0
 clear hA HF; have hA := hA'; clear hA'
 replace hB := Base.step hB hE hO; clear hE
 refine li_nil (nx_then ?_)
 refine seq_join (fun a w => ∃ (O13 : Tags) (x11 : Bytes) (x12 : Int), a.fit 25 ∧ Base (Fr w0) O w0 O13 w ∧ a.get 3 = .string (str x11) ∧ a.get 4 = .int .u64 x12 ∧ (colletref04_Int_j1 x11 x12).run n = some y) ?_ ?_
 ·
  refine wp_block ?_
  obtain ⟨e2, he2, hk2⟩ := Comp.run_bind h; clear h
  refine loop_m (fun m a w => ∃ (O4 : Tags) (x2 : Bytes) (x3 : Int), a.fit 25 ∧ Base (Fr w0) O w0 O4 w ∧ a.get 3 = .string (str x2) ∧ a.get 4 = .int .u64 x3 ∧ Comp.loopN (fun s => colletref04_Int_l2 s.1 s.2) n m (x2, x3) = some e2) (m := n) ?st2 ?_
  case st2 =>
   exact ⟨_, _, _, hA, hB, q3, q4, Comp.run_loop he2⟩
  intro m_ a4 w4 hI
  clear hA hB he2 q3 q4
  obtain ⟨O4, x2, x3, hA, hB, q3, q4, hl⟩ := hI
  obtain ⟨m2, hlt2, st2, h, hnext2, hdone2⟩ := Comp.loopN_succ hl; clear hl
  replace h : (colletref04_Int_l2 x2 x3).run n = some st2 := h
  unfold colletref04_Int_l2 at h
  refine wp_seq (wp_seq ?_)
  refine' region [_, _] mixed hA (.cons ?z4_0 (.cons ?z4_1 .nil)) ?zok4 ?zgd4 ?zk4
  case z4_0 => intro a' w' hE hK hg; exact ok_move (kn (hK 4 rfl) rfl q4)
  case z4_1 => intro a' w' hE hK hg; exact ok_geq (ksv (j := 0) (hK 7 rfl) rfl rfl rfl) rfl
  case zok4 => kernel_rfl
  case zgd4 => kernel_rfl
  intro a5 w5 hA' hE HF
  replace q3 := kn (HF 3) rfl q3
  replace q4 := kn (HF 4) rfl q4
  have q8 := ksv (HF 8) rfl rfl rfl
  clear hA HF; have hA := hA'; clear hA'
  replace hB := Base.step hB hE hO; clear hE
  refine li_nil (nx_then ?_)
  refine wp_cond_b q8 (fun hc => ?_) (fun hc => ?_)
  ·
   replace h := Comp.run_b_t hc h; clear hc
   refine wp_skip (nx_then (wp_block (wp_seq ?_)))
   obtain ⟨x5, hx5, h⟩ := Comp.run_bind h
   obtain ⟨x6, hx6, h⟩ := Comp.run_bind h
   refine' region [_, _, _, _, _, SP.vl (rSl (rInt .u8)) O4 [(IntKind.wrap .u8 (IntKind.wrap .u64 ((Int.tmod x3 128) + 128)))], SP.isv (.string (str x5)), SP.isv (.string (str x6)), _] mixed hA (.cons ?z5_0 (.cons ?z5_1 (.cons ?z5_2 (.cons ?z5_3 (.cons ?z5_4 (.cons ?z5_5 (.cons ?z5_6 (.cons ?z5_7 (.cons ?z5_8 .nil))))))))) ?zok5 ?zgd5 ?zk5
   case z5_0 => intro a' w' hE hK hg; exact ok_move (kn (hK 3 rfl) rfl q3)
   case z5_1 => intro a' w' hE hK hg; exact ok_move (kn (hK 4 rfl) rfl q4)
   case z5_2 => intro a' w' hE hK hg; exact ok_rem (ksv (j := 1) (hK 10 rfl) rfl rfl rfl) rfl (by decide)
   case z5_3 => intro a' w' hE hK hg; exact ok_add (ksv (j := 2) (hK 11 rfl) rfl rfl rfl) rfl
   case z5_4 => intro a' w' hE hK hg; exact ok_convI ty122 ty5 (ksv (j := 3) (hK 12 rfl) rfl rfl rfl)
   case z5_5 => intro a' w' hE hK hg; exact okl_buildSliceV (r := (rInt .u8)) (fun _ => rfl) rfl (OkO.ext hB.ok hE) ty104 ty5 (parts_cons (ksv (j := 4) (hK 13 rfl) rfl rfl rfl) parts_nil) ⟨(by first | exact rInt_v.2 rfl | exact rBool_v.2 rfl | exact rStr_v.2 rfl | exact rC_v.2 rfl | exact ⟨_, rfl, rfl⟩), trivial⟩ rfl (by decide)
   case z5_6 => intro a' w' hE hK hg; exact okl_bytesToStr ty104 ty5 ty9 rfl (rd_of (kspS (φ := SP.vl (rSl (rInt .u8)) O4 [(IntKind.wrap .u8 (IntKind.wrap .u64 ((Int.tmod x3 128) + 128)))]) (j := 5) (hK 14 rfl) rfl rfl rfl)) hx5
   case z5_7 => intro a' w' hE hK hg; exact okl_addS (ksv (j := 0) (hK 9 rfl) rfl rfl rfl) (ksv (j := 6) (hK 15 rfl) rfl rfl rfl) hx6
   case z5_8 => intro a' w' hE hK hg; exact ok_assign (ksv (j := 7) (hK 16 rfl) rfl rfl rfl)
   case zok5 => kernel_rfl
   case zgd5 => kernel_rfl
   intro a6 w6 hA' hE HF
   have q3' := ksv (HF 3) rfl rfl rfl
   replace q3 := q3'; clear q3'
   replace q4 := kn (HF 4) rfl q4
   clear q8
   clear hA HF; have hA := hA'; clear hA'
   replace hB := Base.step hB hE hO; clear hE
   refine li_nil (nx_then ?_)
   refine' region [_, _, _] mixed hA (.cons ?z6_0 (.cons ?z6_1 (.cons ?z6_2 .nil))) ?zok6 ?zgd6 ?zk6
   case z6_0 => intro a' w' hE hK hg; exact ok_move (kn (hK 4 rfl) rfl q4)
   case z6_1 => intro a' w' hE hK hg; exact ok_quo (ksv (j := 0) (hK 17 rfl) rfl rfl rfl) rfl (by decide)
   case z6_2 => intro a' w' hE hK hg; exact ok_assign (ksv (j := 1) (hK 18 rfl) rfl rfl rfl)
   case zok6 => kernel_rfl
   case zgd6 => kernel_rfl
   intro a7 w7 hA' hE HF
   replace q3 := kn (HF 3) rfl q3
   have q4' := ksv (HF 4) rfl rfl rfl
   replace q4 := q4'; clear q4'
   clear hA HF; have hA := hA'; clear hA'
   replace hB := Base.step hB hE hO; clear hE
   refine li_nil (nx_blk (nx_then ?_))
   have h := hnext2 _ (Comp.run_pure h).symm
   refine ⟨m2, hlt2, ?_⟩
   exact ⟨_, _, _, hA, hB, q3, q4, h⟩
  ·
   replace h := Comp.run_b_f hc h; clear hc
   refine wp_exit (ex_then (ex_then (ex_same ?_)))
   have hd_ := hdone2 _ (Comp.run_pure h).symm; clear h
   subst hd_; have h := hk2; clear hk2; try dsimp only at h
   refine nx_then ?_
   exact ⟨_, _, _, hA, hB, q3, q4, h⟩
 intro a8 w8 hI
 clear hA hB h q3 q4
 obtain ⟨O13, x11, x12, hA, hB, q3, q4, h⟩ := hI
 unfold colletref04_Int_j1 at h
 refine wp_seq ?_
 obtain ⟨x14, hx14, h⟩ := Comp.run_bind h
 obtain ⟨x15, hx15, h⟩ := Comp.run_bind h
 refine' region [_, _, _, SP.vl (rSl (rInt .u8)) O13 [(IntKind.wrap .u8 x12)], SP.isv (.string (str x14)), SP.isv (.string (str x15)), _] mixed hA (.cons ?z7_0 (.cons ?z7_1 (.cons ?z7_2 (.cons ?z7_3 (.cons ?z7_4 (.cons ?z7_5 (.cons ?z7_6 .nil))))))) ?zok7 ?zgd7 ?zk7
 case z7_0 => intro a' w' hE hK hg; exact ok_move (kn (hK 3 rfl) rfl q3)
 case z7_1 => intro a' w' hE hK hg; exact ok_move (kn (hK 4 rfl) rfl q4)
 case z7_2 => intro a' w' hE hK hg; exact ok_convI ty122 ty5 (ksv (j := 1) (hK 20 rfl) rfl rfl rfl)
 case z7_3 => intro a' w' hE hK hg; exact okl_buildSliceV (r := (rInt .u8)) (fun _ => rfl) rfl (OkO.ext hB.ok hE) ty104 ty5 (parts_cons (ksv (j := 2) (hK 21 rfl) rfl rfl rfl) parts_nil) ⟨(by first | exact rInt_v.2 rfl | exact rBool_v.2 rfl | exact rStr_v.2 rfl | exact rC_v.2 rfl | exact ⟨_, rfl, rfl⟩), trivial⟩ rfl (by decide)
 case z7_4 => intro a' w' hE hK hg; exact okl_bytesToStr ty104 ty5 ty9 rfl (rd_of (kspS (φ := SP.vl (rSl (rInt .u8)) O13 [(IntKind.wrap .u8 x12)]) (j := 3) (hK 22 rfl) rfl rfl rfl)) hx14
 case z7_5 => intro a' w' hE hK hg; exact okl_addS (ksv (j := 0) (hK 19 rfl) rfl rfl rfl) (ksv (j := 4) (hK 23 rfl) rfl rfl rfl) hx15
 case z7_6 => intro a' w' hE hK hg; exact ok_assign (ksv (j := 5) (hK 24 rfl) rfl rfl rfl)
 case zok7 => kernel_rfl
 case zgd7 => kernel_rfl
 intro a9 w9 hA' hE HF
 have q2 := ksv (HF 2) rfl rfl rfl
 clear q3
 clear q4
 clear hA HF; have hA := hA'; clear hA'
 replace hB := Base.step hB hE hO; clear hE
 refine li_nil (nx_then (wp_ret ?_))
 have h := Comp.run_pure h; subst h
 exact retPure Try.results96 hA q2 hB.ext rfl
theorem ok_colletref04_Ints {O : Tags} {w0 : World} (hO : OkO O w0) {v_0 : Value} {x_0 : List Int} (h_0 : (rSl (rInt .i64)).v O w0 v_0 x_0) {n : Nat} {y : Bytes} (h : (colletref04_Ints x_0).run n = some y) : Pure Try.prog 58 #[v_0] w0 (SP.isv (.string (str y))).holds := by
 unfold colletref04_Ints at h
 refine pure_of_wp Try.func58 rfl 22 Try.ntmps58 (by simp) fun a0 hA hs0 => ?_
 have q0 : a0.get 0 = v_0 := hs0 0 _ rfl
 clear hs0
 have hB : Base (Fr w0) O w0 O w0 := Base.start hO
 refine wp_seq ?_
 refine' region [_] mixed hA (.cons ?z1_0 .nil) ?zok1 ?zgd1 ?zk1
 case z1_0 => intro a' w' hE hK hg; exact ok_assign rfl
 case zok1 => kernel_rfl
 case zgd1 => kernel_rfl
 intro a1 w1 hA' hE HF
 replace q0 := kn (HF 0) rfl q0
 clear hA HF; have hA := hA'; clear hA'
 replace h_0 := GR.v_ext _ h_0 hE
 replace hB := Base.step hB hE hO; clear hE
 refine li_nil (nx_then (wp_seq ?_))
 obtain ⟨x1, hx1, h⟩ := Comp.run_bind h
 refine' region [_, _, SP.isv (.string (str x1)), _] mixed hA (.cons ?z2_0 (.cons ?z2_1 (.cons ?z2_2 (.cons ?z2_3 .nil)))) ?zok2 ?zgd2 ?zk2
 case z2_0 => intro a' w' hE hK hg; exact ok_move (kn (hK 0 rfl) rfl q0)
 case z2_1 => intro a' w' hE hK hg; exact okl_len (r := (rInt .i64)) ty58 (ksv (j := 0) (hK 5 rfl) rfl rfl rfl) (rd_of (GR.v_ext _ h_0 hE))
 case z2_2 => intro a' w' hE hK hg; have c_ := ok_colletref04_Int (OkO.ext hB.ok hE)  hx1; exact ok_call1 fn96 (ksv (j := 1) (hK 6 rfl) rfl rfl rfl) c_
 case z2_3 => intro a' w' hE hK hg; exact ok_assign (ksv (j := 2) (hK 7 rfl) rfl rfl rfl)
 case zok2 => kernel_rfl
 case zgd2 => kernel_rfl
 intro a2 w2 hA' hE HF
 replace q0 := kn (HF 0) rfl q0
 have q3 := ksv (HF 3) rfl rfl rfl
 clear hA HF; have hA := hA'; clear hA'
 replace h_0 := GR.v_ext _ h_0 hE
 replace hB := Base.step hB hE hO; clear hE
 refine li_nil (nx_then ?_)
 refine seq_join (fun a w => ∃ (O11 : Tags) (x10 : Bytes), a.fit 22 ∧ Base (Fr w0) O w0 O11 w ∧ a.get 3 = .string (str x10) ∧ (colletref04_Ints_j1 x10).run n = some y) ?_ ?_
 ·
  refine wp_seq ?_
  refine' region [_] mixed hA (.cons ?z3_0 .nil) ?zok3 ?zgd3 ?zk3
  case z3_0 => intro a' w' hE hK hg; exact ok_assign rfl
  case zok3 => kernel_rfl
  case zgd3 => kernel_rfl
  intro a3 w3 hA' hE HF
  replace q0 := kn (HF 0) rfl q0
  replace q3 := kn (HF 3) rfl q3
  have q4 := ksv (HF 4) rfl rfl rfl
  clear hA HF; have hA := hA'; clear hA'
  replace h_0 := GR.v_ext _ h_0 hE
  replace hB := Base.step hB hE hO; clear hE
  refine li_nil (nx_then (wp_block ?_))
  obtain ⟨e2, he2, hk2⟩ := Comp.run_bind h; clear h
  refine loop_m (fun m a w => ∃ (O4 : Tags) (x2 : Bytes) (x3 : Int), a.fit 22 ∧ Base (Fr w0) O w0 O4 w ∧ a.get 0 = v_0 ∧ (rSl (rInt .i64)).v O4 w v_0 x_0 ∧ a.get 3 = .string (str x2) ∧ a.get 4 = .int .i64 x3 ∧ Comp.loopN (fun s => colletref04_Ints_l2 x_0 s.1 s.2) n m (x2, x3) = some e2) (m := n) ?st2 ?_
  case st2 =>
   exact ⟨_, _, _, hA, hB, q0, h_0, q3, q4, Comp.run_loop he2⟩
  intro m_ a4 w4 hI
  clear hA hB he2 q0 q3 q4 h_0
  obtain ⟨O4, x2, x3, hA, hB, q0, h_0, q3, q4, hl⟩ := hI
  obtain ⟨m2, hlt2, st2, h, hnext2, hdone2⟩ := Comp.loopN_succ hl; clear hl
  replace h : (colletref04_Ints_l2 x_0 x2 x3).run n = some st2 := h
  unfold colletref04_Ints_l2 at h
  refine wp_seq (wp_seq ?_)
  refine' region [_, _, _, _] mixed hA (.cons ?z4_0 (.cons ?z4_1 (.cons ?z4_2 (.cons ?z4_3 .nil)))) ?zok4 ?zgd4 ?zk4
  case z4_0 => intro a' w' hE hK hg; exact ok_move (kn (hK 4 rfl) rfl q4)
  case z4_1 => intro a' w' hE hK hg; exact ok_move (kn (hK 0 rfl) rfl q0)
  case z4_2 => intro a' w' hE hK hg; exact okl_len (r := (rInt .i64)) ty58 (ksv (j := 1) (hK 9 rfl) rfl rfl rfl) (rd_of (GR.v_ext _ h_0 hE))
  case z4_3 => intro a' w' hE hK hg; exact ok_lss (ksv (j := 0) (hK 8 rfl) rfl rfl rfl) (ksv (j := 2) (hK 10 rfl) rfl rfl rfl)
  case zok4 => kernel_rfl
  case zgd4 => kernel_rfl
  intro a5 w5 hA' hE HF
  replace q0 := kn (HF 0) rfl q0
  replace q3 := kn (HF 3) rfl q3
  replace q4 := kn (HF 4) rfl q4
  have q11 := ksv (HF 11) rfl rfl rfl
  clear hA HF; have hA := hA'; clear hA'
  replace h_0 := GR.v_ext _ h_0 hE
  replace hB := Base.step hB hE hO; clear hE
  refine li_nil (nx_then ?_)
  refine wp_cond_b q11 (fun hc => ?_) (fun hc => ?_)
  ·
   replace h := Comp.run_b_t hc h; clear hc
   refine wp_skip (nx_then (wp_seq (wp_block ?_)))
   obtain ⟨x5, hx5, h⟩ := Comp.run_bind h
   obtain ⟨x6, hx6, h⟩ := Comp.run_bind h
   obtain ⟨x7, hx7, h⟩ := Comp.run_bind h
   refine' region [_, _, _, SP.ptr (rInt .i64) O4 x5, SP.isv (.int .i64 x5), SP.isv (.string (str x6)), SP.isv (.string (str x7)), _] mixed hA (.cons ?z5_0 (.cons ?z5_1 (.cons ?z5_2 (.cons ?z5_3 (.cons ?z5_4 (.cons ?z5_5 (.cons ?z5_6 (.cons ?z5_7 .nil)))))))) ?zok5 ?zgd5 ?zk5
   case z5_0 => intro a' w' hE hK hg; exact ok_move (kn (hK 3 rfl) rfl q3)
   case z5_1 => intro a' w' hE hK hg; exact ok_move (kn (hK 0 rfl) rfl q0)
   case z5_2 => intro a' w' hE hK hg; exact ok_move (kn (hK 4 rfl) rfl q4)
   case z5_3 => intro a' w' hE hK hg; exact okl_idx (r := (rInt .i64)) (O := O4) ty58 ty3 rfl (ksv (j := 1) (hK 15 rfl) rfl rfl rfl) (rd_of (GR.v_ext _ h_0 hE)) (ksv (j := 2) (hK 16 rfl) rfl rfl rfl) hx5
   case z5_4 => intro a' w' hE hK hg; exact okl_ldr (rInt .i64) (fun _ => rfl) ty3 rfl rfl rfl (kspS (φ := SP.ptr (rInt .i64) O4 x5) (j := 3) (hK 17 rfl) rfl rfl rfl) (fun _ _ _ h => rInt_v.1 h)
   case z5_5 => intro a' w' hE hK hg; have c_ := ok_colletref04_Int (OkO.ext hB.ok hE)  hx6; exact ok_call1 fn96 (ksv (j := 4) (hK 18 rfl) rfl rfl rfl) c_
   case z5_6 => intro a' w' hE hK hg; exact okl_addS (ksv (j := 0) (hK 14 rfl) rfl rfl rfl) (ksv (j := 5) (hK 19 rfl) rfl rfl rfl) hx7
   case z5_7 => intro a' w' hE hK hg; exact ok_assign (ksv (j := 6) (hK 20 rfl) rfl rfl rfl)
   case zok5 => kernel_rfl
   case zgd5 => kernel_rfl
   intro a6 w6 hA' hE HF
   replace q0 := kn (HF 0) rfl q0
   have q3' := ksv (HF 3) rfl rfl rfl
   replace q3 := q3'; clear q3'
   replace q4 := kn (HF 4) rfl q4
   clear q11
   clear hA HF; have hA := hA'; clear hA'
   replace h_0 := GR.v_ext _ h_0 hE
   replace hB := Base.step hB hE hO; clear hE
   refine li_nil (nx_blk (nx_then ?_))
   refine' region [_, _, _] mixed hA (.cons ?z6_0 (.cons ?z6_1 (.cons ?z6_2 .nil))) ?zok6 ?zgd6 ?zk6
   case z6_0 => intro a' w' hE hK hg; exact ok_move (kn (hK 4 rfl) rfl q4)
   case z6_1 => intro a' w' hE hK hg; exact ok_add (ksv (j := 0) (hK 12 rfl) rfl rfl rfl) rfl
   case z6_2 => intro a' w' hE hK hg; exact ok_assign (ksv (j := 1) (hK 13 rfl) rfl rfl rfl)
   case zok6 => kernel_rfl
   case zgd6 => kernel_rfl
   intro a7 w7 hA' hE HF
   replace q0 := kn (HF 0) rfl q0
   replace q3 := kn (HF 3) rfl q3
   have q4' := ksv (HF 4) rfl rfl rfl
   replace q4 := q4'; clear q4'
   clear hA HF; have hA := hA'; clear hA'
   replace h_0 := GR.v_ext _ h_0 hE
   replace hB := Base.step hB hE hO; clear hE
   refine li_nil (nx_then ?_)
   have h := hnext2 _ (Comp.run_pure h).symm
   refine ⟨m2, hlt2, ?_⟩
   exact ⟨_, _, _, hA, hB, q0, h_0, q3, q4, h⟩
  ·
   replace h := Comp.run_b_f hc h; clear hc
   refine wp_exit (ex_then (ex_then (ex_same ?_)))
   have hd_ := hdone2 _ (Comp.run_pure h).symm; clear h
   subst hd_; have h := hk2; clear hk2; try dsimp only at h
   refine nx_then ?_
   exact ⟨_, _, hA, hB, q3, h⟩
 intro a8 w8 hI
 clear hA hB h q0 q3 h_0
 obtain ⟨O11, x10, hA, hB, q3, h⟩ := hI
 unfold colletref04_Ints_j1 at h
 refine wp_seq ?_
 refine' region [_, _] mixed hA (.cons ?z7_0 (.cons ?z7_1 .nil)) ?zok7 ?zgd7 ?zk7
 case z7_0 => intro a' w' hE hK hg; exact ok_move (kn (hK 3 rfl) rfl q3)
 case z7_1 => intro a' w' hE hK hg; exact ok_assign (ksv (j := 0) (hK 21 rfl) rfl rfl rfl)
 case zok7 => kernel_rfl
 case zgd7 => kernel_rfl
 intro a9 w9 hA' hE HF
 have q2 := ksv (HF 2) rfl rfl rfl
 clear q3
 clear hA HF; have hA := hA'; clear hA'
 replace hB := Base.step hB hE hO; clear hE
 refine li_nil (nx_then (wp_ret ?_))
 have h := Comp.run_pure h; subst h
 exact retPure Try.results58 hA q2 hB.ext rfl
theorem ok_colletref04_Text {O : Tags} {w0 : World} (hO : OkO O w0) {x_0 : Bytes} {n : Nat} {y : Bytes} (h : (colletref04_Text x_0).run n = some y) : Pure Try.prog 59 #[.string (str x_0)] w0 (SP.isv (.string (str y))).holds := by
 unfold colletref04_Text at h
 refine pure_of_wp Try.func59 rfl 8 Try.ntmps59 (by simp) fun a0 hA hs0 => ?_
 have q0 : a0.get 0 = .string (str x_0) := hs0 0 _ rfl
 clear hs0
 have hB : Base (Fr w0) O w0 O w0 := Base.start hO
 refine wp_seq ?_
 refine' region [_] mixed hA (.cons ?z1_0 .nil) ?zok1 ?zgd1 ?zk1
 case z1_0 => intro a' w' hE hK hg; exact ok_assign rfl
 case zok1 => kernel_rfl
 case zgd1 => kernel_rfl
 intro a1 w1 hA' hE HF
 replace q0 := kn (HF 0) rfl q0
 clear hA HF; have hA := hA'; clear hA'
 replace hB := Base.step hB hE hO; clear hE
 refine li_nil (nx_then (wp_seq ?_))
 obtain ⟨x1, hx1, h⟩ := Comp.run_bind h
 obtain ⟨x2, hx2, h⟩ := Comp.run_bind h
 refine' region [_, _, SP.isv (.string (str x1)), _, SP.isv (.string (str x2)), _] mixed hA (.cons ?z2_0 (.cons ?z2_1 (.cons ?z2_2 (.cons ?z2_3 (.cons ?z2_4 (.cons ?z2_5 .nil)))))) ?zok2 ?zgd2 ?zk2
 case z2_0 => intro a' w' hE hK hg; exact ok_move (kn (hK 0 rfl) rfl q0)
 case z2_1 => intro a' w' hE hK hg; exact okl_lenS ty9 (ksv (j := 0) (hK 3 rfl) rfl rfl rfl)
 case z2_2 => intro a' w' hE hK hg; have c_ := ok_colletref04_Int (OkO.ext hB.ok hE)  hx1; exact ok_call1 fn96 (ksv (j := 1) (hK 4 rfl) rfl rfl rfl) c_
 case z2_3 => intro a' w' hE hK hg; exact ok_move (kn (hK 0 rfl) rfl q0)
 case z2_4 => intro a' w' hE hK hg; exact okl_addS (ksv (j := 2) (hK 5 rfl) rfl rfl rfl) (ksv (j := 3) (hK 6 rfl) rfl rfl rfl) hx2
 case z2_5 => intro a' w' hE hK hg; exact ok_assign (ksv (j := 4) (hK 7 rfl) rfl rfl rfl)
 case zok2 => kernel_rfl
 case zgd2 => kernel_rfl
 intro a2 w2 hA' hE HF
 have q2 := ksv (HF 2) rfl rfl rfl
 clear q0
 clear hA HF; have hA := hA'; clear hA'
 replace hB := Base.step hB hE hO; clear hE
 refine li_nil (nx_then (wp_ret ?_))
 have h := Comp.run_pure h; subst h
 exact retPure Try.results59 hA q2 hB.ext rfl
theorem ok_colletref37_Bytes {O : Tags} {w0 : World} (hO : OkO O w0) {x_0 : api_Entry} {n : Nat} {y : Bytes} (h : (colletref37_Bytes x_0).run n = some y) : Pure Try.prog 18 #[.agg #[.int .i64 x_0.Seq, .int .i64 x_0.Shop, .int .i64 x_0.Kind, .int .i64 x_0.Day, .int .i64 x_0.N, .string (str x_0.Before), .string (str x_0.After), .string (str x_0.Prev), .string (str x_0.Mark)]] w0 (SP.isv (.string (str y))).holds := by
 unfold colletref37_Bytes at h
 refine pure_of_wp Try.func18 rfl 27 Try.ntmps18 (by simp) fun a0 hA hs0 => ?_
 have q0 : a0.get 0 = .agg #[.int .i64 x_0.Seq, .int .i64 x_0.Shop, .int .i64 x_0.Kind, .int .i64 x_0.Day, .int .i64 x_0.N, .string (str x_0.Before), .string (str x_0.After), .string (str x_0.Prev), .string (str x_0.Mark)] := hs0 0 _ rfl
 clear hs0
 have hB : Base (Fr w0) O w0 O w0 := Base.start hO
 refine wp_seq ?_
 refine' region [SP.vl (rBox r_api_Entry) O x_0, _] mixed hA (.cons ?z1_0 (.cons ?z1_1 .nil)) ?zok1 ?zgd1 ?zk1
 case z1_0 => intro a' w' hE hK hg; exact okl_boxV (r := r_api_Entry) fit_api_Entry (OkO.ext hB.ok hE) (kn (hK 0 rfl) rfl q0) (by first | exact rInt_v.2 rfl | exact rBool_v.2 rfl | exact rStr_v.2 rfl | exact rC_v.2 rfl | exact ⟨_, rfl, rfl⟩)
 case z1_1 => intro a' w' hE hK hg; exact ok_assign rfl
 case zok1 => kernel_rfl
 case zgd1 => kernel_rfl
 intro a1 w1 hA' hE HF
 have f2 := ksp (HF 1) rfl rfl rfl
 obtain ⟨u1, q1'⟩ : ∃ u, a1.get 1 = u := ⟨_, rfl⟩
 rw [q1'] at f2
 have q1 := q1'; clear q1'
 clear q0
 clear hA HF; have hA := hA'; clear hA'
 replace hB := Base.step hB hE hO; clear hE
 refine li_nil (nx_then (wp_seq ?_))
 obtain ⟨x3, hx3, h⟩ := Comp.run_bind h
 obtain ⟨x4, hx4, h⟩ := Comp.run_bind h
 obtain ⟨x5, hx5, h⟩ := Comp.run_bind h
 obtain ⟨x6, hx6, h⟩ := Comp.run_bind h
 obtain ⟨x7, hx7, h⟩ := Comp.run_bind h
 obtain ⟨x8, hx8, h⟩ := Comp.run_bind h
 obtain ⟨x9, hx9, h⟩ := Comp.run_bind h
 refine' region [SP.ptr (rInt .i64) O x_0.Seq, SP.isv (.int .i64 x_0.Seq), SP.ptr (rInt .i64) O x_0.Shop, SP.isv (.int .i64 x_0.Shop), SP.ptr (rInt .i64) O x_0.Kind, SP.isv (.int .i64 x_0.Kind), SP.ptr (rInt .i64) O x_0.Day, SP.isv (.int .i64 x_0.Day), SP.ptr (rInt .i64) O x_0.N, SP.isv (.int .i64 x_0.N), SP.vl (rSl (rInt .i64)) O [x_0.Seq, x_0.Shop, x_0.Kind, x_0.Day, x_0.N], SP.isv (.string (str x3)), SP.ptr rStr O x_0.Before, SP.isv (.string (str x_0.Before)), SP.isv (.string (str x4)), SP.isv (.string (str x5)), SP.ptr rStr O x_0.After, SP.isv (.string (str x_0.After)), SP.isv (.string (str x6)), SP.isv (.string (str x7)), SP.ptr rStr O x_0.Prev, SP.isv (.string (str x_0.Prev)), SP.isv (.string (str x8)), SP.isv (.string (str x9)), _] mixed hA (.cons ?z2_0 (.cons ?z2_1 (.cons ?z2_2 (.cons ?z2_3 (.cons ?z2_4 (.cons ?z2_5 (.cons ?z2_6 (.cons ?z2_7 (.cons ?z2_8 (.cons ?z2_9 (.cons ?z2_10 (.cons ?z2_11 (.cons ?z2_12 (.cons ?z2_13 (.cons ?z2_14 (.cons ?z2_15 (.cons ?z2_16 (.cons ?z2_17 (.cons ?z2_18 (.cons ?z2_19 (.cons ?z2_20 (.cons ?z2_21 (.cons ?z2_22 (.cons ?z2_23 (.cons ?z2_24 .nil))))))))))))))))))))))))) ?zok2 ?zgd2 ?zk2
 case z2_0 => intro a' w' hE hK hg; exact okl_fldB (S := r_api_Entry) fit_api_Entry rfl (fun _ => rfl) sb_api_Entry_0 fl26_0 (kn (hK 1 rfl) rfl q1) (GR.v_ext _ f2 hE)
 case z2_1 => intro a' w' hE hK hg; exact okl_ldr (rInt .i64) (fun _ => rfl) ty3 rfl rfl rfl (kspS (φ := SP.ptr (rInt .i64) O x_0.Seq) (j := 0) (hK 3 rfl) rfl rfl rfl) (fun _ _ _ h => rInt_v.1 h)
 case z2_2 => intro a' w' hE hK hg; exact okl_fldB (S := r_api_Entry) fit_api_Entry rfl (fun _ => rfl) sb_api_Entry_1 fl26_1 (kn (hK 1 rfl) rfl q1) (GR.v_ext _ f2 hE)
 case z2_3 => intro a' w' hE hK hg; exact okl_ldr (rInt .i64) (fun _ => rfl) ty3 rfl rfl rfl (kspS (φ := SP.ptr (rInt .i64) O x_0.Shop) (j := 2) (hK 5 rfl) rfl rfl rfl) (fun _ _ _ h => rInt_v.1 h)
 case z2_4 => intro a' w' hE hK hg; exact okl_fldB (S := r_api_Entry) fit_api_Entry rfl (fun _ => rfl) sb_api_Entry_2 fl26_2 (kn (hK 1 rfl) rfl q1) (GR.v_ext _ f2 hE)
 case z2_5 => intro a' w' hE hK hg; exact okl_ldr (rInt .i64) (fun _ => rfl) ty3 rfl rfl rfl (kspS (φ := SP.ptr (rInt .i64) O x_0.Kind) (j := 4) (hK 7 rfl) rfl rfl rfl) (fun _ _ _ h => rInt_v.1 h)
 case z2_6 => intro a' w' hE hK hg; exact okl_fldB (S := r_api_Entry) fit_api_Entry rfl (fun _ => rfl) sb_api_Entry_3 fl26_3 (kn (hK 1 rfl) rfl q1) (GR.v_ext _ f2 hE)
 case z2_7 => intro a' w' hE hK hg; exact okl_ldr (rInt .i64) (fun _ => rfl) ty3 rfl rfl rfl (kspS (φ := SP.ptr (rInt .i64) O x_0.Day) (j := 6) (hK 9 rfl) rfl rfl rfl) (fun _ _ _ h => rInt_v.1 h)
 case z2_8 => intro a' w' hE hK hg; exact okl_fldB (S := r_api_Entry) fit_api_Entry rfl (fun _ => rfl) sb_api_Entry_4 fl26_4 (kn (hK 1 rfl) rfl q1) (GR.v_ext _ f2 hE)
 case z2_9 => intro a' w' hE hK hg; exact okl_ldr (rInt .i64) (fun _ => rfl) ty3 rfl rfl rfl (kspS (φ := SP.ptr (rInt .i64) O x_0.N) (j := 8) (hK 11 rfl) rfl rfl rfl) (fun _ _ _ h => rInt_v.1 h)
 case z2_10 => intro a' w' hE hK hg; exact okl_buildSliceV (r := (rInt .i64)) (fun _ => rfl) rfl (OkO.ext hB.ok hE) ty58 ty3 (parts_cons (ksv (j := 1) (hK 4 rfl) rfl rfl rfl) (parts_cons (ksv (j := 3) (hK 6 rfl) rfl rfl rfl) (parts_cons (ksv (j := 5) (hK 8 rfl) rfl rfl rfl) (parts_cons (ksv (j := 7) (hK 10 rfl) rfl rfl rfl) (parts_cons (ksv (j := 9) (hK 12 rfl) rfl rfl rfl) parts_nil))))) ⟨(by first | exact rInt_v.2 rfl | exact rBool_v.2 rfl | exact rStr_v.2 rfl | exact rC_v.2 rfl | exact ⟨_, rfl, rfl⟩), ⟨(by first | exact rInt_v.2 rfl | exact rBool_v.2 rfl | exact rStr_v.2 rfl | exact rC_v.2 rfl | exact ⟨_, rfl, rfl⟩), ⟨(by first | exact rInt_v.2 rfl | exact rBool_v.2 rfl | exact rStr_v.2 rfl | exact rC_v.2 rfl | exact ⟨_, rfl, rfl⟩), ⟨(by first | exact rInt_v.2 rfl | exact rBool_v.2 rfl | exact rStr_v.2 rfl | exact rC_v.2 rfl | exact ⟨_, rfl, rfl⟩), ⟨(by first | exact rInt_v.2 rfl | exact rBool_v.2 rfl | exact rStr_v.2 rfl | exact rC_v.2 rfl | exact ⟨_, rfl, rfl⟩), trivial⟩⟩⟩⟩⟩ rfl (by decide)
 case z2_11 => intro a' w' hE hK hg; have c_ := ok_colletref04_Ints (OkO.ext hB.ok hE) (kspS (φ := SP.vl (rSl (rInt .i64)) O [x_0.Seq, x_0.Shop, x_0.Kind, x_0.Day, x_0.N]) (j := 10) (hK 13 rfl) rfl rfl rfl) hx3; exact ok_call1 fn58 rfl c_
 case z2_12 => intro a' w' hE hK hg; exact okl_fldB (S := r_api_Entry) fit_api_Entry rfl (fun _ => rfl) sb_api_Entry_5 fl26_5 (kn (hK 1 rfl) rfl q1) (GR.v_ext _ f2 hE)
 case z2_13 => intro a' w' hE hK hg; exact okl_ldr rStr (fun _ => rfl) ty9 rfl rfl rfl (kspS (φ := SP.ptr rStr O x_0.Before) (j := 12) (hK 15 rfl) rfl rfl rfl) (fun _ _ _ h => rStr_v.1 h)
 case z2_14 => intro a' w' hE hK hg; have c_ := ok_colletref04_Text (OkO.ext hB.ok hE)  hx4; exact ok_call1 fn59 (ksv (j := 13) (hK 16 rfl) rfl rfl rfl) c_
 case z2_15 => intro a' w' hE hK hg; exact okl_addS (ksv (j := 11) (hK 14 rfl) rfl rfl rfl) (ksv (j := 14) (hK 17 rfl) rfl rfl rfl) hx5
 case z2_16 => intro a' w' hE hK hg; exact okl_fldB (S := r_api_Entry) fit_api_Entry rfl (fun _ => rfl) sb_api_Entry_6 fl26_6 (kn (hK 1 rfl) rfl q1) (GR.v_ext _ f2 hE)
 case z2_17 => intro a' w' hE hK hg; exact okl_ldr rStr (fun _ => rfl) ty9 rfl rfl rfl (kspS (φ := SP.ptr rStr O x_0.After) (j := 16) (hK 19 rfl) rfl rfl rfl) (fun _ _ _ h => rStr_v.1 h)
 case z2_18 => intro a' w' hE hK hg; have c_ := ok_colletref04_Text (OkO.ext hB.ok hE)  hx6; exact ok_call1 fn59 (ksv (j := 17) (hK 20 rfl) rfl rfl rfl) c_
 case z2_19 => intro a' w' hE hK hg; exact okl_addS (ksv (j := 15) (hK 18 rfl) rfl rfl rfl) (ksv (j := 18) (hK 21 rfl) rfl rfl rfl) hx7
 case z2_20 => intro a' w' hE hK hg; exact okl_fldB (S := r_api_Entry) fit_api_Entry rfl (fun _ => rfl) sb_api_Entry_7 fl26_7 (kn (hK 1 rfl) rfl q1) (GR.v_ext _ f2 hE)
 case z2_21 => intro a' w' hE hK hg; exact okl_ldr rStr (fun _ => rfl) ty9 rfl rfl rfl (kspS (φ := SP.ptr rStr O x_0.Prev) (j := 20) (hK 23 rfl) rfl rfl rfl) (fun _ _ _ h => rStr_v.1 h)
 case z2_22 => intro a' w' hE hK hg; have c_ := ok_colletref04_Text (OkO.ext hB.ok hE)  hx8; exact ok_call1 fn59 (ksv (j := 21) (hK 24 rfl) rfl rfl rfl) c_
 case z2_23 => intro a' w' hE hK hg; exact okl_addS (ksv (j := 19) (hK 22 rfl) rfl rfl rfl) (ksv (j := 22) (hK 25 rfl) rfl rfl rfl) hx9
 case z2_24 => intro a' w' hE hK hg; exact ok_assign (ksv (j := 23) (hK 26 rfl) rfl rfl rfl)
 case zok2 => kernel_rfl
 case zgd2 => kernel_rfl
 intro a2 w2 hA' hE HF
 have q2 := ksv (HF 2) rfl rfl rfl
 clear q1
 clear hA HF; have hA := hA'; clear hA'
 replace f2 := GR.v_ext _ f2 hE
 replace hB := Base.step hB hE hO; clear hE
 refine li_nil (nx_then (wp_ret ?_))
 have h := Comp.run_pure h; subst h
 exact retPure Try.results18 hA q2 hB.ext rfl
theorem ok_colletref02_least4 {O : Tags} {w0 : World} (hO : OkO O w0) {x_0 : Int} {n : Nat} {y : Bytes} (h : (colletref02_least4 x_0).run n = some y) : Pure Try.prog 72 #[.int .i64 x_0] w0 (SP.isv (.string (str y))).holds := by
 unfold colletref02_least4 at h
 refine pure_of_wp Try.func72 rfl 16 Try.ntmps72 (by simp) fun a0 hA hs0 => ?_
 have q0 : a0.get 0 = .int .i64 x_0 := hs0 0 _ rfl
 clear hs0
 have hB : Base (Fr w0) O w0 O w0 := Base.start hO
 refine wp_seq ?_
 refine' region [_] mixed hA (.cons ?z1_0 .nil) ?zok1 ?zgd1 ?zk1
 case z1_0 => intro a' w' hE hK hg; exact ok_assign rfl
 case zok1 => kernel_rfl
 case zgd1 => kernel_rfl
 intro a1 w1 hA' hE HF
 replace q0 := kn (HF 0) rfl q0
 clear hA HF; have hA := hA'; clear hA'
 replace hB := Base.step hB hE hO; clear hE
 refine li_nil (nx_then (wp_seq ?_))
 obtain ⟨x1, hx1, h⟩ := Comp.run_bind h
 refine' region [_, _, _, _, _, _, _, _, _, _, _, SP.vl (rSl (rInt .u8)) O [(IntKind.wrap .u8 x_0), (IntKind.wrap .u8 (shrF .i64 x_0 8)), (IntKind.wrap .u8 (shrF .i64 x_0 16)), (IntKind.wrap .u8 (shrF .i64 x_0 24))], SP.isv (.string (str x1)), _] mixed hA (.cons ?z2_0 (.cons ?z2_1 (.cons ?z2_2 (.cons ?z2_3 (.cons ?z2_4 (.cons ?z2_5 (.cons ?z2_6 (.cons ?z2_7 (.cons ?z2_8 (.cons ?z2_9 (.cons ?z2_10 (.cons ?z2_11 (.cons ?z2_12 (.cons ?z2_13 .nil)))))))))))))) ?zok2 ?zgd2 ?zk2
 case z2_0 => intro a' w' hE hK hg; exact ok_move (kn (hK 0 rfl) rfl q0)
 case z2_1 => intro a' w' hE hK hg; exact ok_convI ty3 ty5 (ksv (j := 0) (hK 3 rfl) rfl rfl rfl)
 case z2_2 => intro a' w' hE hK hg; exact ok_move (kn (hK 0 rfl) rfl q0)
 case z2_3 => intro a' w' hE hK hg; exact okl_shr (ksv (j := 2) (hK 5 rfl) rfl rfl rfl) rfl (by decide)
 case z2_4 => intro a' w' hE hK hg; exact ok_convI ty3 ty5 (ksv (j := 3) (hK 6 rfl) rfl rfl rfl)
 case z2_5 => intro a' w' hE hK hg; exact ok_move (kn (hK 0 rfl) rfl q0)
 case z2_6 => intro a' w' hE hK hg; exact okl_shr (ksv (j := 5) (hK 8 rfl) rfl rfl rfl) rfl (by decide)
 case z2_7 => intro a' w' hE hK hg; exact ok_convI ty3 ty5 (ksv (j := 6) (hK 9 rfl) rfl rfl rfl)
 case z2_8 => intro a' w' hE hK hg; exact ok_move (kn (hK 0 rfl) rfl q0)
 case z2_9 => intro a' w' hE hK hg; exact okl_shr (ksv (j := 8) (hK 11 rfl) rfl rfl rfl) rfl (by decide)
 case z2_10 => intro a' w' hE hK hg; exact ok_convI ty3 ty5 (ksv (j := 9) (hK 12 rfl) rfl rfl rfl)
 case z2_11 => intro a' w' hE hK hg; exact okl_buildSliceV (r := (rInt .u8)) (fun _ => rfl) rfl (OkO.ext hB.ok hE) ty104 ty5 (parts_cons (ksv (j := 1) (hK 4 rfl) rfl rfl rfl) (parts_cons (ksv (j := 4) (hK 7 rfl) rfl rfl rfl) (parts_cons (ksv (j := 7) (hK 10 rfl) rfl rfl rfl) (parts_cons (ksv (j := 10) (hK 13 rfl) rfl rfl rfl) parts_nil)))) ⟨(by first | exact rInt_v.2 rfl | exact rBool_v.2 rfl | exact rStr_v.2 rfl | exact rC_v.2 rfl | exact ⟨_, rfl, rfl⟩), ⟨(by first | exact rInt_v.2 rfl | exact rBool_v.2 rfl | exact rStr_v.2 rfl | exact rC_v.2 rfl | exact ⟨_, rfl, rfl⟩), ⟨(by first | exact rInt_v.2 rfl | exact rBool_v.2 rfl | exact rStr_v.2 rfl | exact rC_v.2 rfl | exact ⟨_, rfl, rfl⟩), ⟨(by first | exact rInt_v.2 rfl | exact rBool_v.2 rfl | exact rStr_v.2 rfl | exact rC_v.2 rfl | exact ⟨_, rfl, rfl⟩), trivial⟩⟩⟩⟩ rfl (by decide)
 case z2_12 => intro a' w' hE hK hg; exact okl_bytesToStr ty104 ty5 ty9 rfl (rd_of (kspS (φ := SP.vl (rSl (rInt .u8)) O [(IntKind.wrap .u8 x_0), (IntKind.wrap .u8 (shrF .i64 x_0 8)), (IntKind.wrap .u8 (shrF .i64 x_0 16)), (IntKind.wrap .u8 (shrF .i64 x_0 24))]) (j := 11) (hK 14 rfl) rfl rfl rfl)) hx1
 case z2_13 => intro a' w' hE hK hg; exact ok_assign (ksv (j := 12) (hK 15 rfl) rfl rfl rfl)
 case zok2 => kernel_rfl
 case zgd2 => kernel_rfl
 intro a2 w2 hA' hE HF
 have q2 := ksv (HF 2) rfl rfl rfl
 clear q0
 clear hA HF; have hA := hA'; clear hA'
 replace hB := Base.step hB hE hO; clear hE
 refine li_nil (nx_then (wp_ret ?_))
 have h := Comp.run_pure h; subst h
 exact retPure Try.results72 hA q2 hB.ext rfl
theorem ok_colletref02_Chain {O : Tags} {w0 : World} (hO : OkO O w0) {x_0 : Bytes} {x_1 : Bytes} {n : Nat} {y : Bytes} (h : (colletref02_Chain x_0 x_1).run n = some y) : Pure Try.prog 32 #[.string (str x_0), .string (str x_1)] w0 (SP.isv (.string (str y))).holds := by
 unfold colletref02_Chain at h
 refine pure_of_wp Try.func32 rfl 14 Try.ntmps32 (by simp) fun a0 hA hs0 => ?_
 have q0 : a0.get 0 = .string (str x_0) := hs0 0 _ rfl
 have q1 : a0.get 1 = .string (str x_1) := hs0 1 _ rfl
 clear hs0
 have hB : Base (Fr w0) O w0 O w0 := Base.start hO
 refine wp_seq ?_
 refine' region [_] mixed hA (.cons ?z1_0 .nil) ?zok1 ?zgd1 ?zk1
 case z1_0 => intro a' w' hE hK hg; exact ok_assign rfl
 case zok1 => kernel_rfl
 case zgd1 => kernel_rfl
 intro a1 w1 hA' hE HF
 replace q0 := kn (HF 0) rfl q0
 replace q1 := kn (HF 1) rfl q1
 clear hA HF; have hA := hA'; clear hA'
 replace hB := Base.step hB hE hO; clear hE
 refine li_nil (nx_then (wp_seq ?_))
 obtain ⟨x1, hx1, h⟩ := Comp.run_bind h
 obtain ⟨x2, hx2, h⟩ := Comp.run_bind h
 obtain ⟨x3, hx3, h⟩ := Comp.run_bind h
 obtain ⟨x4, hx4, h⟩ := Comp.run_bind h
 obtain ⟨x5, hx5, h⟩ := Comp.run_bind h
 refine' region [_, _, SP.isv (.string (str x1)), SP.isv (.string (str x2)), _, SP.isv (.string (str x3)), _, SP.isv (.string (str x4)), SP.isv (.string (str x5)), _] mixed hA (.cons ?z2_0 (.cons ?z2_1 (.cons ?z2_2 (.cons ?z2_3 (.cons ?z2_4 (.cons ?z2_5 (.cons ?z2_6 (.cons ?z2_7 (.cons ?z2_8 (.cons ?z2_9 .nil)))))))))) ?zok2 ?zgd2 ?zk2
 case z2_0 => intro a' w' hE hK hg; exact ok_move (kn (hK 0 rfl) rfl q0)
 case z2_1 => intro a' w' hE hK hg; exact okl_lenS ty9 (ksv (j := 0) (hK 5 rfl) rfl rfl rfl)
 case z2_2 => intro a' w' hE hK hg; have c_ := ok_colletref02_least4 (OkO.ext hB.ok hE)  hx1; exact ok_call1 fn72 (ksv (j := 1) (hK 6 rfl) rfl rfl rfl) c_
 case z2_3 => intro a' w' hE hK hg; exact okl_addS rfl (ksv (j := 2) (hK 7 rfl) rfl rfl rfl) hx2
 case z2_4 => intro a' w' hE hK hg; exact ok_move (kn (hK 0 rfl) rfl q0)
 case z2_5 => intro a' w' hE hK hg; exact okl_addS (ksv (j := 3) (hK 8 rfl) rfl rfl rfl) (ksv (j := 4) (hK 9 rfl) rfl rfl rfl) hx3
 case z2_6 => intro a' w' hE hK hg; exact ok_move (kn (hK 1 rfl) rfl q1)
 case z2_7 => intro a' w' hE hK hg; exact okl_addS (ksv (j := 5) (hK 10 rfl) rfl rfl rfl) (ksv (j := 6) (hK 11 rfl) rfl rfl rfl) hx4
 case z2_8 => intro a' w' hE hK hg; have c_ := ok_colletref02_Of (OkO.ext hB.ok hE)  hx5; exact ok_call1 fn71 (ksv (j := 7) (hK 12 rfl) rfl rfl rfl) c_
 case z2_9 => intro a' w' hE hK hg; exact ok_assign (ksv (j := 8) (hK 13 rfl) rfl rfl rfl)
 case zok2 => kernel_rfl
 case zgd2 => kernel_rfl
 intro a2 w2 hA' hE HF
 have q4 := ksv (HF 4) rfl rfl rfl
 clear q0
 clear q1
 clear hA HF; have hA := hA'; clear hA'
 replace hB := Base.step hB hE hO; clear hE
 refine li_nil (nx_then (wp_ret ?_))
 have h := Comp.run_pure h; subst h
 exact retPure Try.results32 hA q4 hB.ext rfl
theorem ok_colletref37_link {O : Tags} {w0 : World} (hO : OkO O w0) {x_0 : api_Entry} {n : Nat} {y : Bytes} (h : (colletref37_link x_0).run n = some y) : Pure Try.prog 63 #[.agg #[.int .i64 x_0.Seq, .int .i64 x_0.Shop, .int .i64 x_0.Kind, .int .i64 x_0.Day, .int .i64 x_0.N, .string (str x_0.Before), .string (str x_0.After), .string (str x_0.Prev), .string (str x_0.Mark)]] w0 (SP.isv (.string (str y))).holds := by
 unfold colletref37_link at h
 refine pure_of_wp Try.func63 rfl 8 Try.ntmps63 (by simp) fun a0 hA hs0 => ?_
 have q0 : a0.get 0 = .agg #[.int .i64 x_0.Seq, .int .i64 x_0.Shop, .int .i64 x_0.Kind, .int .i64 x_0.Day, .int .i64 x_0.N, .string (str x_0.Before), .string (str x_0.After), .string (str x_0.Prev), .string (str x_0.Mark)] := hs0 0 _ rfl
 clear hs0
 have hB : Base (Fr w0) O w0 O w0 := Base.start hO
 refine wp_seq ?_
 refine' region [SP.vl (rBox r_api_Entry) O x_0, _] mixed hA (.cons ?z1_0 (.cons ?z1_1 .nil)) ?zok1 ?zgd1 ?zk1
 case z1_0 => intro a' w' hE hK hg; exact okl_boxV (r := r_api_Entry) fit_api_Entry (OkO.ext hB.ok hE) (kn (hK 0 rfl) rfl q0) (by first | exact rInt_v.2 rfl | exact rBool_v.2 rfl | exact rStr_v.2 rfl | exact rC_v.2 rfl | exact ⟨_, rfl, rfl⟩)
 case z1_1 => intro a' w' hE hK hg; exact ok_assign rfl
 case zok1 => kernel_rfl
 case zgd1 => kernel_rfl
 intro a1 w1 hA' hE HF
 have f2 := ksp (HF 1) rfl rfl rfl
 obtain ⟨u1, q1'⟩ : ∃ u, a1.get 1 = u := ⟨_, rfl⟩
 rw [q1'] at f2
 have q1 := q1'; clear q1'
 clear q0
 clear hA HF; have hA := hA'; clear hA'
 replace hB := Base.step hB hE hO; clear hE
 refine li_nil (nx_then (wp_seq ?_))
 obtain ⟨x3, hx3, h⟩ := Comp.run_bind h
 obtain ⟨x4, hx4, h⟩ := Comp.run_bind h
 refine' region [SP.isv (.agg #[.int .i64 x_0.Seq, .int .i64 x_0.Shop, .int .i64 x_0.Kind, .int .i64 x_0.Day, .int .i64 x_0.N, .string (str x_0.Before), .string (str x_0.After), .string (str x_0.Prev), .string (str x_0.Mark)]), SP.isv (.string (str x3)), SP.ptr rStr O x_0.Mark, SP.isv (.string (str x_0.Mark)), SP.isv (.string (str x4)), _] mixed hA (.cons ?z2_0 (.cons ?z2_1 (.cons ?z2_2 (.cons ?z2_3 (.cons ?z2_4 (.cons ?z2_5 .nil)))))) ?zok2 ?zgd2 ?zk2
 case z2_0 => intro a' w' hE hK hg; exact okl_ldr r_api_Entry fit_api_Entry ty26 rfl rfl (kn (hK 1 rfl) rfl q1) (ptr_of_box fit_api_Entry (GR.v_ext _ f2 hE)) (fun _ _ _ h => rC_v.1 h)
 case z2_1 => intro a' w' hE hK hg; have c_ := ok_colletref37_Bytes (OkO.ext hB.ok hE)  hx3; exact ok_call1 fn18 (ksv (j := 0) (hK 3 rfl) rfl rfl rfl) c_
 case z2_2 => intro a' w' hE hK hg; exact okl_fldB (S := r_api_Entry) fit_api_Entry rfl (fun _ => rfl) sb_api_Entry_8 fl26_8 (kn (hK 1 rfl) rfl q1) (GR.v_ext _ f2 hE)
 case z2_3 => intro a' w' hE hK hg; exact okl_ldr rStr (fun _ => rfl) ty9 rfl rfl rfl (kspS (φ := SP.ptr rStr O x_0.Mark) (j := 2) (hK 5 rfl) rfl rfl rfl) (fun _ _ _ h => rStr_v.1 h)
 case z2_4 => intro a' w' hE hK hg; have c_ := ok_colletref02_Chain (OkO.ext hB.ok hE)  hx4; exact ok_call2 fn32 (ksv (j := 1) (hK 4 rfl) rfl rfl rfl) (ksv (j := 3) (hK 6 rfl) rfl rfl rfl) c_
 case z2_5 => intro a' w' hE hK hg; exact ok_assign (ksv (j := 4) (hK 7 rfl) rfl rfl rfl)
 case zok2 => kernel_rfl
 case zgd2 => kernel_rfl
 intro a2 w2 hA' hE HF
 have q2 := ksv (HF 2) rfl rfl rfl
 clear q1
 clear hA HF; have hA := hA'; clear hA'
 replace f2 := GR.v_ext _ f2 hE
 replace hB := Base.step hB hE hO; clear hE
 refine li_nil (nx_then (wp_ret ?_))
 have h := Comp.run_pure h; subst h
 exact retPure Try.results63 hA q2 hB.ext rfl
theorem ok_colletref37_Next {O : Tags} {w0 : World} (hO : OkO O w0) {v_0 : Value} {x_0 : List api_Entry} (h_0 : (rSl r_api_Entry).v O w0 v_0 x_0) {x_1 : api_Entry} {n : Nat} {y : api_Entry} (h : (colletref37_Next x_0 x_1).run n = some y) : Pure Try.prog 22 #[v_0, .agg #[.int .i64 x_1.Seq, .int .i64 x_1.Shop, .int .i64 x_1.Kind, .int .i64 x_1.Day, .int .i64 x_1.N, .string (str x_1.Before), .string (str x_1.After), .string (str x_1.Prev), .string (str x_1.Mark)]] w0 (SP.isv (.agg #[.int .i64 y.Seq, .int .i64 y.Shop, .int .i64 y.Kind, .int .i64 y.Day, .int .i64 y.N, .string (str y.Before), .string (str y.After), .string (str y.Prev), .string (str y.Mark)])).holds := by
 unfold colletref37_Next at h
 refine pure_of_wp Try.func22 rfl 27 Try.ntmps22 (by simp) fun a0 hA hs0 => ?_
 have q0 : a0.get 0 = v_0 := hs0 0 _ rfl
 have q1 : a0.get 1 = .agg #[.int .i64 x_1.Seq, .int .i64 x_1.Shop, .int .i64 x_1.Kind, .int .i64 x_1.Day, .int .i64 x_1.N, .string (str x_1.Before), .string (str x_1.After), .string (str x_1.Prev), .string (str x_1.Mark)] := hs0 1 _ rfl
 clear hs0
 have hB : Base (Fr w0) O w0 O w0 := Base.start hO
 refine wp_seq ?_
 refine' regionT [SP.box w0.heap.size #[.int .i64 x_1.Seq, .int .i64 x_1.Shop, .int .i64 x_1.Kind, .int .i64 x_1.Day, .int .i64 x_1.N, .string (str x_1.Before), .string (str x_1.After), .string (str x_1.Prev), .string (str x_1.Mark)] 26] hA (.cons ?z1_0 .nil) ?zok1 ?zgd1 ?zk1
 case z1_0 => intro a' w' hE hK hg; exact ok_box (v := .agg #[.int .i64 x_1.Seq, .int .i64 x_1.Shop, .int .i64 x_1.Kind, .int .i64 x_1.Day, .int .i64 x_1.N, .string (str x_1.Before), .string (str x_1.After), .string (str x_1.Prev), .string (str x_1.Mark)]) hE.size (kn (hK 1 rfl) rfl q1)
 case zok1 => kernel_rfl
 case zgd1 => kernel_rfl
 intro a1 w1 hA' hE HF
 replace q0 := kn (HF 0) rfl q0
 have f2 := ksp (HF 3) rfl rfl rfl
 obtain ⟨u1, q3'⟩ : ∃ u, a1.get 3 = u := ⟨_, rfl⟩
 rw [q3'] at f2
 have q3 := q3'; clear q3'
 clear q1
 clear hA HF; have hA := hA'; clear hA'
 obtain ⟨O3, b4, hB', hX, e_, f5⟩ := boxNew hO hB hE f2 1 (by decide)
 subst e_
 clear hB f2; have hB := hB'; clear hB'
 replace h_0 := GR.kx _ h_0 hX (by decide)
 clear hX hE
 refine l_ok (φ := SP.box w1.heap.size #[.int .i64 ((api_Entry.mk 0 0 0 0 0 [] [] [] []).Seq), .int .i64 ((api_Entry.mk 0 0 0 0 0 [] [] [] []).Shop), .int .i64 ((api_Entry.mk 0 0 0 0 0 [] [] [] []).Kind), .int .i64 ((api_Entry.mk 0 0 0 0 0 [] [] [] []).Day), .int .i64 ((api_Entry.mk 0 0 0 0 0 [] [] [] []).N), .string (str ((api_Entry.mk 0 0 0 0 0 [] [] [] []).Before)), .string (str ((api_Entry.mk 0 0 0 0 0 [] [] [] []).After)), .string (str ((api_Entry.mk 0 0 0 0 0 [] [] [] []).Prev)), .string (str ((api_Entry.mk 0 0 0 0 0 [] [] [] []).Mark))] 26) hO hB (by exact ok_alloc (Nat.le_refl _) ty26) rfl fun u6 w2 hE hB' f7 => ?_
 clear hB'; obtain ⟨O8, b10, hB', hX, e_, f9⟩ := boxNew hO hB hE f7 2 (by decide)
 subst e_; clear hB f7; have hB := hB'; clear hB'
 replace h_0 := GR.kx _ h_0 hX (by decide)
 replace f5 := f5.kx hX (by decide)
 clear hX hE
 refine put_cont hA (by decide) fun a3 hA' q_ hfr => ?_
 clear hA; have hA := hA'; clear hA'
 replace q0 := (hfr 0 rfl).trans q0
 replace q3 := (hfr 3 rfl).trans q3
 have q4 := q_; clear q_ hfr
 refine li_nil (nx_then (wp_seq ?_))
 refine' regionT [_, _, SP.isv (.pointer (some ⟨b4, 0, none⟩))] hA (.cons ?z2_0 (.cons ?z2_1 (.cons ?z2_2 .nil))) ?zok2 ?zgd2 ?zk2
 case z2_0 => intro a' w' hE hK hg; exact ok_move (kn (hK 0 rfl) rfl q0)
 case z2_1 => intro a' w' hE hK hg; exact okl_len (r := r_api_Entry) ty29 (ksv (j := 0) (hK 6 rfl) rfl rfl rfl) (rd_of (GR.v_ext _ h_0 hE))
 case z2_2 => intro a' w' hE hK hg; exact ok_fieldAddr fl26_0 (kn (hK 3 rfl) rfl q3)
 case zok2 => kernel_rfl
 case zgd2 => kernel_rfl
 intro a4 w4 hA' hE HF
 replace q0 := kn (HF 0) rfl q0
 replace q3 := kn (HF 3) rfl q3
 replace q4 := kn (HF 4) rfl q4
 have q7 := ksv (HF 7) rfl rfl rfl
 have q8 := ksv (HF 8) rfl rfl rfl
 clear hA HF; have hA := hA'; clear hA'
 replace h_0 := GR.v_ext _ h_0 hE
 replace f5 := f5.ext hE
 replace f9 := f9.ext hE
 replace hB := Base.step hB hE hO; clear hE
 refine l_store1 (cs' := #[.int .i64 (x_0.length : Int), .int .i64 x_1.Shop, .int .i64 x_1.Kind, .int .i64 x_1.Day, .int .i64 x_1.N, .string (str x_1.Before), .string (str x_1.After), .string (str x_1.Prev), .string (str x_1.Mark)]) hO hB (okB_fr hB) ty3 q8 q7 rfl rfl f5 (by simp) rfl fun w5 f11 hB' hX => ?_
 clear hB f5; have hB := hB'; clear hB'
 replace h_0 := GR.kx _ h_0 hX (by decide)
 replace f9 := f9.kx hX (by decide)
 clear hX
 refine li_nil (nx_then (wp_seq ?_))
 refine' regionT [SP.isv (.pointer (some ⟨b4, 8, none⟩))] hA (.cons ?z3_0 .nil) ?zok3 ?zgd3 ?zk3
 case z3_0 => intro a' w' hE hK hg; exact ok_fieldAddr fl26_8 (kn (hK 3 rfl) rfl q3)
 case zok3 => kernel_rfl
 case zgd3 => kernel_rfl
 intro a6 w6 hA' hE HF
 replace q0 := kn (HF 0) rfl q0
 replace q3 := kn (HF 3) rfl q3
 replace q4 := kn (HF 4) rfl q4
 have q9 := ksv (HF 9) rfl rfl rfl
 clear hA HF; have hA := hA'; clear hA'
 replace h_0 := GR.v_ext _ h_0 hE
 replace f11 := f11.ext hE
 replace f9 := f9.ext hE
 replace hB := Base.step hB hE hO; clear hE
 refine l_store1 (cs' := #[.int .i64 (x_0.length : Int), .int .i64 x_1.Shop, .int .i64 x_1.Kind, .int .i64 x_1.Day, .int .i64 x_1.N, .string (str x_1.Before), .string (str x_1.After), .string (str x_1.Prev), .string (str ([] : Bytes))]) hO hB (okB_fr hB) ty9 q9 rfl rfl rfl f11 (by simp) rfl fun w7 f12 hB' hX => ?_
 clear hB f11; have hB := hB'; clear hB'
 replace h_0 := GR.kx _ h_0 hX (by decide)
 replace f9 := f9.kx hX (by decide)
 clear hX
 refine li_nil (nx_then (wp_seq ?_))
 refine' regionT [SP.isv (.pointer (some ⟨b4, 7, none⟩))] hA (.cons ?z4_0 .nil) ?zok4 ?zgd4 ?zk4
 case z4_0 => intro a' w' hE hK hg; exact ok_fieldAddr fl26_7 (kn (hK 3 rfl) rfl q3)
 case zok4 => kernel_rfl
 case zgd4 => kernel_rfl
 intro a8 w8 hA' hE HF
 replace q0 := kn (HF 0) rfl q0
 replace q3 := kn (HF 3) rfl q3
 replace q4 := kn (HF 4) rfl q4
 have q10 := ksv (HF 10) rfl rfl rfl
 clear hA HF; have hA := hA'; clear hA'
 replace h_0 := GR.v_ext _ h_0 hE
 replace f12 := f12.ext hE
 replace f9 := f9.ext hE
 replace hB := Base.step hB hE hO; clear hE
 refine l_store1 (cs' := #[.int .i64 (x_0.length : Int), .int .i64 x_1.Shop, .int .i64 x_1.Kind, .int .i64 x_1.Day, .int .i64 x_1.N, .string (str x_1.Before), .string (str x_1.After), .string (str ([] : Bytes)), .string (str ([] : Bytes))]) hO hB (okB_fr hB) ty9 q10 rfl rfl rfl f12 (by simp) rfl fun w9 f13 hB' hX => ?_
 clear hB f12; have hB := hB'; clear hB'
 replace h_0 := GR.kx _ h_0 hX (by decide)
 replace f9 := f9.kx hX (by decide)
 clear hX
 refine li_nil (nx_then ?_)
 refine seq_join (fun a w => ∃ (O33 : Tags) (x24 : Int) (x25 : Int) (x26 : Int) (x27 : Int) (x28 : Int) (x29 : Bytes) (x30 : Bytes) (x31 : Bytes) (x32 : Bytes), a.fit 27 ∧ Base (Fr w0) O w0 O33 w ∧ a.get 3 = .pointer (some ⟨b4, 0, none⟩) ∧ a.get 4 = .pointer (some ⟨b10, 0, none⟩) ∧ OwnB 2 (Fr w0) O33 w b10 #[.int .i64 ((api_Entry.mk 0 0 0 0 0 [] [] [] []).Seq), .int .i64 ((api_Entry.mk 0 0 0 0 0 [] [] [] []).Shop), .int .i64 ((api_Entry.mk 0 0 0 0 0 [] [] [] []).Kind), .int .i64 ((api_Entry.mk 0 0 0 0 0 [] [] [] []).Day), .int .i64 ((api_Entry.mk 0 0 0 0 0 [] [] [] []).N), .string (str ((api_Entry.mk 0 0 0 0 0 [] [] [] []).Before)), .string (str ((api_Entry.mk 0 0 0 0 0 [] [] [] []).After)), .string (str ((api_Entry.mk 0 0 0 0 0 [] [] [] []).Prev)), .string (str ((api_Entry.mk 0 0 0 0 0 [] [] [] []).Mark))] 26 ∧ OwnB 1 (Fr w0) O33 w b4 #[.int .i64 x24, .int .i64 x25, .int .i64 x26, .int .i64 x27, .int .i64 x28, .string (str x29), .string (str x30), .string (str x31), .string (str x32)] 26 ∧ (colletref37_Next_j1 x24 x25 x26 x27 x28 x29 x30 x31 x32).run n = some y) ?_ ?_
 ·
  refine wp_seq ?_
  refine' region [_, _, _] mixed hA (.cons ?z5_0 (.cons ?z5_1 (.cons ?z5_2 .nil))) ?zok5 ?zgd5 ?zk5
  case z5_0 => intro a' w' hE hK hg; exact ok_move (kn (hK 0 rfl) rfl q0)
  case z5_1 => intro a' w' hE hK hg; exact okl_len (r := r_api_Entry) ty29 (ksv (j := 0) (hK 11 rfl) rfl rfl rfl) (rd_of (GR.v_ext _ h_0 hE))
  case z5_2 => intro a' w' hE hK hg; exact ok_gtr (ksv (j := 1) (hK 12 rfl) rfl rfl rfl) rfl
  case zok5 => kernel_rfl
  case zgd5 => kernel_rfl
  intro a10 w10 hA' hE HF
  replace q0 := kn (HF 0) rfl q0
  replace q3 := kn (HF 3) rfl q3
  replace q4 := kn (HF 4) rfl q4
  have q13 := ksv (HF 13) rfl rfl rfl
  clear hA HF; have hA := hA'; clear hA'
  replace h_0 := GR.v_ext _ h_0 hE
  replace f13 := f13.ext hE
  replace f9 := f9.ext hE
  replace hB := Base.step hB hE hO; clear hE
  refine li_nil (nx_then ?_)
  refine wp_cond_b q13 (fun hc => ?_) (fun hc => ?_)
  ·
   replace h := Comp.run_b_t hc h; clear hc
   refine wp_seq ?_
   obtain ⟨x14, hx14, h⟩ := Comp.run_bind h
   refine' regionT [_, _, _, _, SP.ptr r_api_Entry O8 x14, SP.isv (.agg #[.int .i64 x14.Seq, .int .i64 x14.Shop, .int .i64 x14.Kind, .int .i64 x14.Day, .int .i64 x14.N, .string (str x14.Before), .string (str x14.After), .string (str x14.Prev), .string (str x14.Mark)])] hA (.cons ?z6_0 (.cons ?z6_1 (.cons ?z6_2 (.cons ?z6_3 (.cons ?z6_4 (.cons ?z6_5 .nil)))))) ?zok6 ?zgd6 ?zk6
   case z6_0 => intro a' w' hE hK hg; exact ok_move (kn (hK 0 rfl) rfl q0)
   case z6_1 => intro a' w' hE hK hg; exact ok_move (kn (hK 0 rfl) rfl q0)
   case z6_2 => intro a' w' hE hK hg; exact okl_len (r := r_api_Entry) ty29 (ksv (j := 1) (hK 15 rfl) rfl rfl rfl) (rd_of (GR.v_ext _ h_0 hE))
   case z6_3 => intro a' w' hE hK hg; exact ok_sub (ksv (j := 2) (hK 16 rfl) rfl rfl rfl) rfl
   case z6_4 => intro a' w' hE hK hg; exact okl_idx (r := r_api_Entry) (O := O8) ty29 ty26 rfl (ksv (j := 0) (hK 14 rfl) rfl rfl rfl) (rd_of (GR.v_ext _ h_0 hE)) (ksv (j := 3) (hK 17 rfl) rfl rfl rfl) hx14
   case z6_5 => intro a' w' hE hK hg; exact okl_ldr r_api_Entry fit_api_Entry ty26 rfl rfl rfl (kspS (φ := SP.ptr r_api_Entry O8 x14) (j := 4) (hK 18 rfl) rfl rfl rfl) (fun _ _ _ h => rC_v.1 h)
   case zok6 => kernel_rfl
   case zgd6 => kernel_rfl
   intro a11 w11 hA' hE HF
   replace q3 := kn (HF 3) rfl q3
   replace q4 := kn (HF 4) rfl q4
   have q19 := ksv (HF 19) rfl rfl rfl
   clear q0
   clear q13
   clear hA HF; have hA := hA'; clear hA'
   replace h_0 := GR.v_ext _ h_0 hE
   replace f13 := f13.ext hE
   replace f9 := f9.ext hE
   replace hB := Base.step hB hE hO; clear hE
   refine l_ok (φ := SP.box w11.heap.size #[.int .i64 ((api_Entry.mk 0 0 0 0 0 [] [] [] []).Seq), .int .i64 ((api_Entry.mk 0 0 0 0 0 [] [] [] []).Shop), .int .i64 ((api_Entry.mk 0 0 0 0 0 [] [] [] []).Kind), .int .i64 ((api_Entry.mk 0 0 0 0 0 [] [] [] []).Day), .int .i64 ((api_Entry.mk 0 0 0 0 0 [] [] [] []).N), .string (str ((api_Entry.mk 0 0 0 0 0 [] [] [] []).Before)), .string (str ((api_Entry.mk 0 0 0 0 0 [] [] [] []).After)), .string (str ((api_Entry.mk 0 0 0 0 0 [] [] [] []).Prev)), .string (str ((api_Entry.mk 0 0 0 0 0 [] [] [] []).Mark))] 26) hO hB (by exact ok_alloc (Nat.le_refl _) ty26) rfl fun u15 w12 hE hB' f16 => ?_
   clear hB'; obtain ⟨O17, b19, hB', hX, e_, f18⟩ := boxNew hO hB hE f16 3 (by decide)
   subst e_; clear hB f16; have hB := hB'; clear hB'
   replace f13 := f13.kx hX (by decide)
   replace f9 := f9.kx hX (by decide)
   clear hX hE
   refine put_cont hA (by decide) fun a13 hA' q_ hfr => ?_
   clear hA; have hA := hA'; clear hA'
   replace q3 := (hfr 3 rfl).trans q3
   replace q4 := (hfr 4 rfl).trans q4
   replace q19 := (hfr 19 rfl).trans q19
   have q5 := q_; clear q_ hfr
   refine l_storeSub (vs := [.int .i64 x14.Seq, .int .i64 x14.Shop, .int .i64 x14.Kind, .int .i64 x14.Day, .int .i64 x14.N, .string (str x14.Before), .string (str x14.After), .string (str x14.Prev), .string (str x14.Mark)]) (cs' := #[.int .i64 x14.Seq, .int .i64 x14.Shop, .int .i64 x14.Kind, .int .i64 x14.Day, .int .i64 x14.N, .string (str x14.Before), .string (str x14.After), .string (str x14.Prev), .string (str x14.Mark)]) hO hB (okB_fr hB) ty26 q5 q19 rfl (by simp [Value.oneCell']) f18 (by simp) rfl fun w14 f20 hB' hX => ?_
   clear hB f18; have hB := hB'; clear hB'
   replace f13 := f13.kx hX (by decide)
   replace f9 := f9.kx hX (by decide)
   clear hX
   refine li_nil (nx_then (wp_seq ?_))
   obtain ⟨x21, hx21, h⟩ := Comp.run_bind h
   refine' regionT [SP.isv (.agg #[.int .i64 x14.Seq, .int .i64 x14.Shop, .int .i64 x14.Kind, .int .i64 x14.Day, .int .i64 x14.N, .string (str x14.Before), .string (str x14.After), .string (str x14.Prev), .string (str x14.Mark)]), SP.isv (.string (str x21)), SP.isv (.pointer (some ⟨b4, 7, none⟩))] hA (.cons ?z7_0 (.cons ?z7_1 (.cons ?z7_2 .nil))) ?zok7 ?zgd7 ?zk7
   case z7_0 => intro a' w' hE hK hg; exact ok_loadOwnAgg ty26 rfl (kn (hK 5 rfl) rfl q5) (OwnB.ext f20 hE).own rfl
   case z7_1 => intro a' w' hE hK hg; have c_ := ok_colletref37_link (OkO.ext hB.ok hE)  hx21; exact ok_call1 fn63 (ksv (j := 0) (hK 20 rfl) rfl rfl rfl) c_
   case z7_2 => intro a' w' hE hK hg; exact ok_fieldAddr fl26_7 (kn (hK 3 rfl) rfl q3)
   case zok7 => kernel_rfl
   case zgd7 => kernel_rfl
   intro a15 w15 hA' hE HF
   replace q3 := kn (HF 3) rfl q3
   replace q4 := kn (HF 4) rfl q4
   replace q5 := kn (HF 5) rfl q5
   have q21 := ksv (HF 21) rfl rfl rfl
   have q22 := ksv (HF 22) rfl rfl rfl
   clear hA HF; have hA := hA'; clear hA'
   replace f13 := f13.ext hE
   replace f9 := f9.ext hE
   replace f20 := f20.ext hE
   replace hB := Base.step hB hE hO; clear hE
   refine l_store1 (cs' := #[.int .i64 (x_0.length : Int), .int .i64 x_1.Shop, .int .i64 x_1.Kind, .int .i64 x_1.Day, .int .i64 x_1.N, .string (str x_1.Before), .string (str x_1.After), .string (str x21), .string (str ([] : Bytes))]) hO hB (okB_fr hB) ty9 q22 q21 rfl rfl f13 (by simp) rfl fun w16 f22 hB' hX => ?_
   clear hB f13; have hB := hB'; clear hB'
   replace f9 := f9.kx hX (by decide)
   replace f20 := f20.kx hX (by decide)
   clear hX
   refine li_nil (nx_then ?_)
   refine' regionT [SP.isv (.pointer (some ⟨b19, 6, none⟩)), SP.isv (.string (str x14.After)), SP.isv (.pointer (some ⟨b4, 5, none⟩))] hA (.cons ?z8_0 (.cons ?z8_1 (.cons ?z8_2 .nil))) ?zok8 ?zgd8 ?zk8
   case z8_0 => intro a' w' hE hK hg; exact ok_fieldAddr fl26_6 (kn (hK 5 rfl) rfl q5)
   case z8_1 => intro a' w' hE hK hg; exact ok_loadOwn ty9 rfl (ksv (j := 0) (hK 23 rfl) rfl rfl rfl) (OwnB.ext f20 hE).own rfl
   case z8_2 => intro a' w' hE hK hg; exact ok_fieldAddr fl26_5 (kn (hK 3 rfl) rfl q3)
   case zok8 => kernel_rfl
   case zgd8 => kernel_rfl
   intro a17 w17 hA' hE HF
   replace q3 := kn (HF 3) rfl q3
   replace q4 := kn (HF 4) rfl q4
   have q24 := ksv (HF 24) rfl rfl rfl
   have q25 := ksv (HF 25) rfl rfl rfl
   clear q5
   clear hA HF; have hA := hA'; clear hA'
   replace f22 := f22.ext hE
   replace f9 := f9.ext hE
   replace f20 := f20.ext hE
   replace hB := Base.step hB hE hO; clear hE
   refine l_store1 (cs' := #[.int .i64 (x_0.length : Int), .int .i64 x_1.Shop, .int .i64 x_1.Kind, .int .i64 x_1.Day, .int .i64 x_1.N, .string (str x14.After), .string (str x_1.After), .string (str x21), .string (str ([] : Bytes))]) hO hB (okB_fr hB) ty9 q25 q24 rfl rfl f22 (by simp) rfl fun w18 f23 hB' hX => ?_
   clear hB f22; have hB := hB'; clear hB'
   replace f9 := f9.kx hX (by decide)
   clear hX
   refine li_nil (nx_then ?_)
   exact ⟨_, _, _, _, _, _, _, _, _, _, hA, hB, q3, q4, f9, f23, h⟩
  ·
   replace h := Comp.run_b_f hc h; clear hc
   refine wp_skip (nx_then ?_)
   exact ⟨_, _, _, _, _, _, _, _, _, _, hA, hB, q3, q4, f9, f13, h⟩
 intro a19 w19 hI
 clear hA hB h q0 q3 q4 f13 f9 h_0
 obtain ⟨O33, x24, x25, x26, x27, x28, x29, x30, x31, x32, hA, hB, q3, q4, f9, f23, h⟩ := hI
 unfold colletref37_Next_j1 at h
 refine wp_seq ?_
 refine' regionT [SP.isv (.agg #[.int .i64 x24, .int .i64 x25, .int .i64 x26, .int .i64 x27, .int .i64 x28, .string (str x29), .string (str x30), .string (str x31), .string (str x32)])] hA (.cons ?z9_0 .nil) ?zok9 ?zgd9 ?zk9
 case z9_0 => intro a' w' hE hK hg; exact ok_loadOwnAgg ty26 rfl (kn (hK 3 rfl) rfl q3) (OwnB.ext f23 hE).own rfl
 case zok9 => kernel_rfl
 case zgd9 => kernel_rfl
 intro a20 w20 hA' hE HF
 replace q4 := kn (HF 4) rfl q4
 have q26 := ksv (HF 26) rfl rfl rfl
 clear q3
 clear hA HF; have hA := hA'; clear hA'
 replace f23 := f23.ext hE
 replace f9 := f9.ext hE
 replace hB := Base.step hB hE hO; clear hE
 refine l_storeSub (vs := [.int .i64 x24, .int .i64 x25, .int .i64 x26, .int .i64 x27, .int .i64 x28, .string (str x29), .string (str x30), .string (str x31), .string (str x32)]) (cs' := #[.int .i64 x24, .int .i64 x25, .int .i64 x26, .int .i64 x27, .int .i64 x28, .string (str x29), .string (str x30), .string (str x31), .string (str x32)]) hO hB (okB_fr hB) ty26 q4 q26 rfl (by simp [Value.oneCell']) f9 (by simp) rfl fun w21 f34 hB' hX => ?_
 clear hB f9; have hB := hB'; clear hB'
 clear hX
 refine li_nil (nx_then (wp_ret ?_))
 have h := Comp.run_pure h; subst h
 exact retG1 Try.results22 hA (.agg q4 ty26 rfl rfl f34.own) ⟨_, rfl, hB.ext, rfl⟩
theorem ok_colletref02_Mark {O : Tags} {w0 : World} (hO : OkO O w0) {x_0 : Bytes} {x_1 : Bytes} {n : Nat} {y : Bytes} (h : (colletref02_Mark x_0 x_1).run n = some y) : Pure Try.prog 61 #[.string (str x_0), .string (str x_1)] w0 (SP.isv (.string (str y))).holds := by
 unfold colletref02_Mark at h
 refine pure_of_wp Try.func61 rfl 20 Try.ntmps61 (by simp) fun a0 hA hs0 => ?_
 have q0 : a0.get 0 = .string (str x_0) := hs0 0 _ rfl
 have q1 : a0.get 1 = .string (str x_1) := hs0 1 _ rfl
 clear hs0
 have hB : Base (Fr w0) O w0 O w0 := Base.start hO
 refine wp_seq ?_
 refine' region [_] mixed hA (.cons ?z1_0 .nil) ?zok1 ?zgd1 ?zk1
 case z1_0 => intro a' w' hE hK hg; exact ok_assign rfl
 case zok1 => kernel_rfl
 case zgd1 => kernel_rfl
 intro a1 w1 hA' hE HF
 replace q0 := kn (HF 0) rfl q0
 replace q1 := kn (HF 1) rfl q1
 clear hA HF; have hA := hA'; clear hA'
 replace hB := Base.step hB hE hO; clear hE
 refine li_nil (nx_then (wp_seq ?_))
 obtain ⟨x1, hx1, h⟩ := Comp.run_bind h
 obtain ⟨x2, hx2, h⟩ := Comp.run_bind h
 obtain ⟨x3, hx3, h⟩ := Comp.run_bind h
 obtain ⟨x4, hx4, h⟩ := Comp.run_bind h
 obtain ⟨x5, hx5, h⟩ := Comp.run_bind h
 obtain ⟨x6, hx6, h⟩ := Comp.run_bind h
 obtain ⟨x7, hx7, h⟩ := Comp.run_bind h
 obtain ⟨x8, hx8, h⟩ := Comp.run_bind h
 refine' region [_, _, SP.isv (.string (str x1)), SP.isv (.string (str x2)), _, SP.isv (.string (str x3)), _, _, SP.isv (.string (str x4)), SP.isv (.string (str x5)), _, SP.isv (.string (str x6)), _, SP.isv (.string (str x7)), SP.isv (.string (str x8)), _] mixed hA (.cons ?z2_0 (.cons ?z2_1 (.cons ?z2_2 (.cons ?z2_3 (.cons ?z2_4 (.cons ?z2_5 (.cons ?z2_6 (.cons ?z2_7 (.cons ?z2_8 (.cons ?z2_9 (.cons ?z2_10 (.cons ?z2_11 (.cons ?z2_12 (.cons ?z2_13 (.cons ?z2_14 (.cons ?z2_15 .nil)))))))))))))))) ?zok2 ?zgd2 ?zk2
 case z2_0 => intro a' w' hE hK hg; exact ok_move (kn (hK 0 rfl) rfl q0)
 case z2_1 => intro a' w' hE hK hg; exact okl_lenS ty9 (ksv (j := 0) (hK 5 rfl) rfl rfl rfl)
 case z2_2 => intro a' w' hE hK hg; have c_ := ok_colletref02_least4 (OkO.ext hB.ok hE)  hx1; exact ok_call1 fn72 (ksv (j := 1) (hK 6 rfl) rfl rfl rfl) c_
 case z2_3 => intro a' w' hE hK hg; exact okl_addS rfl (ksv (j := 2) (hK 7 rfl) rfl rfl rfl) hx2
 case z2_4 => intro a' w' hE hK hg; exact ok_move (kn (hK 0 rfl) rfl q0)
 case z2_5 => intro a' w' hE hK hg; exact okl_addS (ksv (j := 3) (hK 8 rfl) rfl rfl rfl) (ksv (j := 4) (hK 9 rfl) rfl rfl rfl) hx3
 case z2_6 => intro a' w' hE hK hg; exact ok_move (kn (hK 1 rfl) rfl q1)
 case z2_7 => intro a' w' hE hK hg; exact okl_lenS ty9 (ksv (j := 6) (hK 11 rfl) rfl rfl rfl)
 case z2_8 => intro a' w' hE hK hg; have c_ := ok_colletref02_least4 (OkO.ext hB.ok hE)  hx4; exact ok_call1 fn72 (ksv (j := 7) (hK 12 rfl) rfl rfl rfl) c_
 case z2_9 => intro a' w' hE hK hg; exact okl_addS (ksv (j := 5) (hK 10 rfl) rfl rfl rfl) (ksv (j := 8) (hK 13 rfl) rfl rfl rfl) hx5
 case z2_10 => intro a' w' hE hK hg; exact ok_move (kn (hK 1 rfl) rfl q1)
 case z2_11 => intro a' w' hE hK hg; exact okl_addS (ksv (j := 9) (hK 14 rfl) rfl rfl rfl) (ksv (j := 10) (hK 15 rfl) rfl rfl rfl) hx6
 case z2_12 => intro a' w' hE hK hg; exact ok_move (kn (hK 0 rfl) rfl q0)
 case z2_13 => intro a' w' hE hK hg; exact okl_addS (ksv (j := 11) (hK 16 rfl) rfl rfl rfl) (ksv (j := 12) (hK 17 rfl) rfl rfl rfl) hx7
 case z2_14 => intro a' w' hE hK hg; have c_ := ok_colletref02_Of (OkO.ext hB.ok hE)  hx8; exact ok_call1 fn71 (ksv (j := 13) (hK 18 rfl) rfl rfl rfl) c_
 case z2_15 => intro a' w' hE hK hg; exact ok_assign (ksv (j := 14) (hK 19 rfl) rfl rfl rfl)
 case zok2 => kernel_rfl
 case zgd2 => kernel_rfl
 intro a2 w2 hA' hE HF
 have q4 := ksv (HF 4) rfl rfl rfl
 clear q0
 clear q1
 clear hA HF; have hA := hA'; clear hA'
 replace hB := Base.step hB hE hO; clear hE
 refine li_nil (nx_then (wp_ret ?_))
 have h := Comp.run_pure h; subst h
 exact retPure Try.results61 hA q4 hB.ext rfl
theorem ok_colletref37_Sign {O : Tags} {w0 : World} (hO : OkO O w0) {x_0 : Bytes} {x_1 : api_Entry} {n : Nat} {y : api_Entry} (h : (colletref37_Sign x_0 x_1).run n = some y) : Pure Try.prog 20 #[.string (str x_0), .agg #[.int .i64 x_1.Seq, .int .i64 x_1.Shop, .int .i64 x_1.Kind, .int .i64 x_1.Day, .int .i64 x_1.N, .string (str x_1.Before), .string (str x_1.After), .string (str x_1.Prev), .string (str x_1.Mark)]] w0 (SP.isv (.agg #[.int .i64 y.Seq, .int .i64 y.Shop, .int .i64 y.Kind, .int .i64 y.Day, .int .i64 y.N, .string (str y.Before), .string (str y.After), .string (str y.Prev), .string (str y.Mark)])).holds := by
 unfold colletref37_Sign at h
 refine pure_of_wp Try.func20 rfl 11 Try.ntmps20 (by simp) fun a0 hA hs0 => ?_
 have q0 : a0.get 0 = .string (str x_0) := hs0 0 _ rfl
 have q1 : a0.get 1 = .agg #[.int .i64 x_1.Seq, .int .i64 x_1.Shop, .int .i64 x_1.Kind, .int .i64 x_1.Day, .int .i64 x_1.N, .string (str x_1.Before), .string (str x_1.After), .string (str x_1.Prev), .string (str x_1.Mark)] := hs0 1 _ rfl
 clear hs0
 have hB : Base (Fr w0) O w0 O w0 := Base.start hO
 refine wp_seq ?_
 refine' regionT [SP.box w0.heap.size #[.int .i64 x_1.Seq, .int .i64 x_1.Shop, .int .i64 x_1.Kind, .int .i64 x_1.Day, .int .i64 x_1.N, .string (str x_1.Before), .string (str x_1.After), .string (str x_1.Prev), .string (str x_1.Mark)] 26] hA (.cons ?z1_0 .nil) ?zok1 ?zgd1 ?zk1
 case z1_0 => intro a' w' hE hK hg; exact ok_box (v := .agg #[.int .i64 x_1.Seq, .int .i64 x_1.Shop, .int .i64 x_1.Kind, .int .i64 x_1.Day, .int .i64 x_1.N, .string (str x_1.Before), .string (str x_1.After), .string (str x_1.Prev), .string (str x_1.Mark)]) hE.size (kn (hK 1 rfl) rfl q1)
 case zok1 => kernel_rfl
 case zgd1 => kernel_rfl
 intro a1 w1 hA' hE HF
 replace q0 := kn (HF 0) rfl q0
 have f2 := ksp (HF 3) rfl rfl rfl
 obtain ⟨u1, q3'⟩ : ∃ u, a1.get 3 = u := ⟨_, rfl⟩
 rw [q3'] at f2
 have q3 := q3'; clear q3'
 clear q1
 clear hA HF; have hA := hA'; clear hA'
 obtain ⟨O3, b4, hB', hX, e_, f5⟩ := boxNew hO hB hE f2 1 (by decide)
 subst e_
 clear hB f2; have hB := hB'; clear hB'
 clear hX hE
 refine l_ok (φ := SP.box w1.heap.size #[.int .i64 ((api_Entry.mk 0 0 0 0 0 [] [] [] []).Seq), .int .i64 ((api_Entry.mk 0 0 0 0 0 [] [] [] []).Shop), .int .i64 ((api_Entry.mk 0 0 0 0 0 [] [] [] []).Kind), .int .i64 ((api_Entry.mk 0 0 0 0 0 [] [] [] []).Day), .int .i64 ((api_Entry.mk 0 0 0 0 0 [] [] [] []).N), .string (str ((api_Entry.mk 0 0 0 0 0 [] [] [] []).Before)), .string (str ((api_Entry.mk 0 0 0 0 0 [] [] [] []).After)), .string (str ((api_Entry.mk 0 0 0 0 0 [] [] [] []).Prev)), .string (str ((api_Entry.mk 0 0 0 0 0 [] [] [] []).Mark))] 26) hO hB (by exact ok_alloc (Nat.le_refl _) ty26) rfl fun u6 w2 hE hB' f7 => ?_
 clear hB'; obtain ⟨O8, b10, hB', hX, e_, f9⟩ := boxNew hO hB hE f7 2 (by decide)
 subst e_; clear hB f7; have hB := hB'; clear hB'
 replace f5 := f5.kx hX (by decide)
 clear hX hE
 refine put_cont hA (by decide) fun a3 hA' q_ hfr => ?_
 clear hA; have hA := hA'; clear hA'
 replace q0 := (hfr 0 rfl).trans q0
 replace q3 := (hfr 3 rfl).trans q3
 have q4 := q_; clear q_ hfr
 refine li_nil (nx_then (wp_seq ?_))
 obtain ⟨x11, hx11, h⟩ := Comp.run_bind h
 obtain ⟨x12, hx12, h⟩ := Comp.run_bind h
 refine' regionT [_, SP.isv (.agg #[.int .i64 x_1.Seq, .int .i64 x_1.Shop, .int .i64 x_1.Kind, .int .i64 x_1.Day, .int .i64 x_1.N, .string (str x_1.Before), .string (str x_1.After), .string (str x_1.Prev), .string (str x_1.Mark)]), SP.isv (.string (str x11)), SP.isv (.string (str x12)), SP.isv (.pointer (some ⟨b4, 8, none⟩))] hA (.cons ?z2_0 (.cons ?z2_1 (.cons ?z2_2 (.cons ?z2_3 (.cons ?z2_4 .nil))))) ?zok2 ?zgd2 ?zk2
 case z2_0 => intro a' w' hE hK hg; exact ok_move (kn (hK 0 rfl) rfl q0)
 case z2_1 => intro a' w' hE hK hg; exact ok_loadOwnAgg ty26 rfl (kn (hK 3 rfl) rfl q3) (OwnB.ext f5 hE).own rfl
 case z2_2 => intro a' w' hE hK hg; have c_ := ok_colletref37_Bytes (OkO.ext hB.ok hE)  hx11; exact ok_call1 fn18 (ksv (j := 1) (hK 6 rfl) rfl rfl rfl) c_
 case z2_3 => intro a' w' hE hK hg; have c_ := ok_colletref02_Mark (OkO.ext hB.ok hE)  hx12; exact ok_call2 fn61 (ksv (j := 0) (hK 5 rfl) rfl rfl rfl) (ksv (j := 2) (hK 7 rfl) rfl rfl rfl) c_
 case z2_4 => intro a' w' hE hK hg; exact ok_fieldAddr fl26_8 (kn (hK 3 rfl) rfl q3)
 case zok2 => kernel_rfl
 case zgd2 => kernel_rfl
 intro a4 w4 hA' hE HF
 replace q3 := kn (HF 3) rfl q3
 replace q4 := kn (HF 4) rfl q4
 have q8 := ksv (HF 8) rfl rfl rfl
 have q9 := ksv (HF 9) rfl rfl rfl
 clear q0
 clear hA HF; have hA := hA'; clear hA'
 replace f5 := f5.ext hE
 replace f9 := f9.ext hE
 replace hB := Base.step hB hE hO; clear hE
 refine l_store1 (cs' := #[.int .i64 x_1.Seq, .int .i64 x_1.Shop, .int .i64 x_1.Kind, .int .i64 x_1.Day, .int .i64 x_1.N, .string (str x_1.Before), .string (str x_1.After), .string (str x_1.Prev), .string (str x12)]) hO hB (okB_fr hB) ty9 q9 q8 rfl rfl f5 (by simp) rfl fun w5 f13 hB' hX => ?_
 clear hB f5; have hB := hB'; clear hB'
 replace f9 := f9.kx hX (by decide)
 clear hX
 refine li_nil (nx_then (wp_seq ?_))
 refine' regionT [SP.isv (.agg #[.int .i64 x_1.Seq, .int .i64 x_1.Shop, .int .i64 x_1.Kind, .int .i64 x_1.Day, .int .i64 x_1.N, .string (str x_1.Before), .string (str x_1.After), .string (str x_1.Prev), .string (str x12)])] hA (.cons ?z3_0 .nil) ?zok3 ?zgd3 ?zk3
 case z3_0 => intro a' w' hE hK hg; exact ok_loadOwnAgg ty26 rfl (kn (hK 3 rfl) rfl q3) (OwnB.ext f13 hE).own rfl
 case zok3 => kernel_rfl
 case zgd3 => kernel_rfl
 intro a6 w6 hA' hE HF
 replace q4 := kn (HF 4) rfl q4
 have q10 := ksv (HF 10) rfl rfl rfl
 clear q3
 clear hA HF; have hA := hA'; clear hA'
 replace f13 := f13.ext hE
 replace f9 := f9.ext hE
 replace hB := Base.step hB hE hO; clear hE
 refine l_storeSub (vs := [.int .i64 x_1.Seq, .int .i64 x_1.Shop, .int .i64 x_1.Kind, .int .i64 x_1.Day, .int .i64 x_1.N, .string (str x_1.Before), .string (str x_1.After), .string (str x_1.Prev), .string (str x12)]) (cs' := #[.int .i64 x_1.Seq, .int .i64 x_1.Shop, .int .i64 x_1.Kind, .int .i64 x_1.Day, .int .i64 x_1.N, .string (str x_1.Before), .string (str x_1.After), .string (str x_1.Prev), .string (str x12)]) hO hB (okB_fr hB) ty26 q4 q10 rfl (by simp [Value.oneCell']) f9 (by simp) rfl fun w7 f14 hB' hX => ?_
 clear hB f9; have hB := hB'; clear hB'
 clear hX
 refine li_nil (nx_then (wp_ret ?_))
 have h := Comp.run_pure h; subst h
 exact retG1 Try.results20 hA (.agg q4 ty26 rfl rfl f14.own) ⟨_, rfl, hB.ext, rfl⟩
set_option maxHeartbeats 4000000 in
theorem ok_colletref37_Step {O : Tags} {w0 : World} (hO : OkO O w0) {v_0 : Value} {x_0 : List Bytes} (h_0 : (rSl rStr).v O w0 v_0 x_0) {v_1 : Value} {x_1 : List api_Entry} (h_1 : (rSl r_api_Entry).v O w0 v_1 x_1) {v_2 : Value} {x_2 : List Int} (h_2 : (rSl (rInt .i64)).v O w0 v_2 x_2) {n : Nat} {y : api_Entry} (h : (colletref37_Step x_0 x_1 x_2).run n = some y) : Pure Try.prog 36 #[v_0, v_1, v_2] w0 (SP.isv (.agg #[.int .i64 y.Seq, .int .i64 y.Shop, .int .i64 y.Kind, .int .i64 y.Day, .int .i64 y.N, .string (str y.Before), .string (str y.After), .string (str y.Prev), .string (str y.Mark)])).holds := by
 unfold colletref37_Step at h
 refine pure_of_wp Try.func36 rfl 74 Try.ntmps36 (by simp) fun a0 hA hs0 => ?_
 have q0 : a0.get 0 = v_0 := hs0 0 _ rfl
 have q1 : a0.get 1 = v_1 := hs0 1 _ rfl
 have q2 : a0.get 2 = v_2 := hs0 2 _ rfl
 clear hs0
 have hB : Base (Fr w0) O w0 O w0 := Base.start hO
 refine wp_seq ?_
 refine' region [SP.box w0.heap.size #[.int .i64 ((api_Entry.mk 0 0 0 0 0 [] [] [] []).Seq), .int .i64 ((api_Entry.mk 0 0 0 0 0 [] [] [] []).Shop), .int .i64 ((api_Entry.mk 0 0 0 0 0 [] [] [] []).Kind), .int .i64 ((api_Entry.mk 0 0 0 0 0 [] [] [] []).Day), .int .i64 ((api_Entry.mk 0 0 0 0 0 [] [] [] []).N), .string (str ((api_Entry.mk 0 0 0 0 0 [] [] [] []).Before)), .string (str ((api_Entry.mk 0 0 0 0 0 [] [] [] []).After)), .string (str ((api_Entry.mk 0 0 0 0 0 [] [] [] []).Prev)), .string (str ((api_Entry.mk 0 0 0 0 0 [] [] [] []).Mark))] 26] mixed hA (.cons ?z1_0 .nil) ?zok1 ?zgd1 ?zk1
 case z1_0 => intro a' w' hE hK hg; exact ok_alloc hE.size ty26
 case zok1 => kernel_rfl
 case zgd1 => kernel_rfl
 intro a1 w1 hA' hE HF
 replace q0 := kn (HF 0) rfl q0
 replace q1 := kn (HF 1) rfl q1
 replace q2 := kn (HF 2) rfl q2
 have f2 := ksp (HF 6) rfl rfl rfl
 obtain ⟨u1, q6'⟩ : ∃ u, a1.get 6 = u := ⟨_, rfl⟩
 rw [q6'] at f2
 have q6 := q6'; clear q6'
 clear hA HF; have hA := hA'; clear hA'
 obtain ⟨O3, b4, hB', hX, e_, f5⟩ := boxNew hO hB hE f2 1 (by decide)
 subst e_
 clear hB f2; have hB := hB'; clear hB'
 replace h_0 := GR.kx _ h_0 hX (by decide)
 replace h_1 := GR.kx _ h_1 hX (by decide)
 replace h_2 := GR.kx _ h_2 hX (by decide)
 clear hX hE
 refine li_nil (nx_then (wp_seq ?_))
 refine' regionT [_, SP.isv (.agg #[v_2, .int .i64 0])] hA (.cons ?z2_0 (.cons ?z2_1 .nil)) ?zok2 ?zgd2 ?zk2
 case z2_0 => intro a' w' hE hK hg; exact ok_move (kn (hK 2 rfl) rfl q2)
 case z2_1 => intro a' w' hE hK hg; exact okl_build plc108 ty108 (pk_cons (v := v_2) (ksv (j := 0) (hK 10 rfl) rfl rfl rfl) pk_nil) rfl (.cons rfl (sl_cells (GR.v_ext _ h_2 hE) rfl rfl) rfl (Nat.le_of_ble_eq_true rfl) .nil) rfl
 case zok2 => kernel_rfl
 case zgd2 => kernel_rfl
 intro a2 w2 hA' hE HF
 replace q0 := kn (HF 0) rfl q0
 replace q1 := kn (HF 1) rfl q1
 replace q6 := kn (HF 6) rfl q6
 have q11 := ksv (HF 11) rfl rfl rfl
 clear q2
 clear hA HF; have hA := hA'; clear hA'
 replace h_0 := GR.v_ext _ h_0 hE
 replace h_1 := GR.v_ext _ h_1 hE
 replace h_2 := GR.v_ext _ h_2 hE
 replace f5 := f5.ext hE
 replace hB := Base.step hB hE hO; clear hE
 refine l_ok (φ := SP.box w2.heap.size #[v_2, .int .i64 0] 108) hO hB (by exact ok_box (v := .agg #[v_2, .int .i64 0]) (Nat.le_refl _) q11) rfl fun u6 w3 hE hB' f7 => ?_
 clear hB'; obtain ⟨O8, b10, hB', hX, e_, f9⟩ := boxNew hO hB hE f7 2 (by decide)
 subst e_; clear hB f7; have hB := hB'; clear hB'
 replace h_0 := GR.kx _ h_0 hX (by decide)
 replace h_1 := GR.kx _ h_1 hX (by decide)
 replace h_2 := GR.kx _ h_2 hX (by decide)
 replace f5 := f5.kx hX (by decide)
 clear hX hE
 refine put_cont hA (by decide) fun a4 hA' q_ hfr => ?_
 clear hA; have hA := hA'; clear hA'
 replace q0 := (hfr 0 rfl).trans q0
 replace q1 := (hfr 1 rfl).trans q1
 replace q6 := (hfr 6 rfl).trans q6
 replace q11 := (hfr 11 rfl).trans q11
 have q12 := q_; clear q_ hfr
 refine l_ok (φ := SP.isv (.pointer (some ⟨b10, 0, none⟩))) hO hB (by exact ok_assign q12) rfl fun u_ w5 hE hB' hv_ => ?_
 replace hv_ := Eq.symm hv_; subst hv_; clear hB; have hB := hB'; clear hB'
 replace h_0 := GR.v_ext _ h_0 hE
 replace h_1 := GR.v_ext _ h_1 hE
 replace f5 := f5.ext hE
 replace f9 := f9.ext hE
 replace h_2 := GR.v_ext _ h_2 hE
 clear hE
 refine put_cont hA (by decide) fun a6 hA' q_ hfr => ?_
 clear hA; have hA := hA'; clear hA'
 replace q0 := (hfr 0 rfl).trans q0
 replace q1 := (hfr 1 rfl).trans q1
 replace q6 := (hfr 6 rfl).trans q6
 replace q12 := (hfr 12 rfl).trans q12
 have q7 := q_; clear q_ hfr
 refine li_nil (nx_then (wp_seq ?_))
 refine' regionT [_, _, _] hA (.cons ?z3_0 (.cons ?z3_1 (.cons ?z3_2 .nil))) ?zok3 ?zgd3 ?zk3
 case z3_0 => intro a' w' hE hK hg; exact ok_move (kn (hK 7 rfl) rfl q7)
 case z3_1 => intro a' w' hE hK hg; exact ok_move (kn (hK 0 rfl) rfl q0)
 case z3_2 => intro a' w' hE hK hg; exact okl_len (r := rStr) ty28 (ksv (j := 1) (hK 14 rfl) rfl rfl rfl) (rd_of (GR.v_ext _ h_0 hE))
 case zok3 => kernel_rfl
 case zgd3 => kernel_rfl
 intro a7 w7 hA' hE HF
 replace q0 := kn (HF 0) rfl q0
 replace q1 := kn (HF 1) rfl q1
 replace q6 := kn (HF 6) rfl q6
 replace q7 := kn (HF 7) rfl q7
 have q13 := ksv (HF 13) rfl rfl rfl
 have q15 := ksv (HF 15) rfl rfl rfl
 clear hA HF; have hA := hA'; clear hA'
 replace h_0 := GR.v_ext _ h_0 hE
 replace h_1 := GR.v_ext _ h_1 hE
 replace f5 := f5.ext hE
 replace f9 := f9.ext hE
 replace h_2 := GR.v_ext _ h_2 hE
 replace hB := Base.step hB hE hO; clear hE
 obtain ⟨x11, hx11, h⟩ := Comp.run_bind h
 refine l_pio (r := r_colletref01_Draw) (x := (colletref01_Draw.mk x_2 0)) hO hB (okB_fr hB) fn74 (map2 q13 q15) (ok_colletref01_Draw_Next hB.ok (BoxO.arg (show BoxO 2 (Fr w0) O8 w7 b10 108 r_colletref01_Draw (colletref01_Draw.mk x_2 0) from ⟨_, f9, ⟨_, _, rfl, (rel_ofF (r := (rSl (rInt .i64))) h_2 rfl rfl), ⟨_, _, rfl, rfl, rfl⟩⟩⟩) (by decide)) hx11) ⟨_, f9, ⟨_, _, rfl, (rel_ofF (r := (rSl (rInt .i64))) h_2 rfl rfl), ⟨_, _, rfl, rfl, rfl⟩⟩⟩ fun u12 w8 f14 hB' hX f13 => ?_
 clear hB f9; have hB := hB'; clear hB'
 replace h_0 := GR.kx _ h_0 hX (by decide)
 replace h_1 := GR.kx _ h_1 hX (by decide)
 replace f5 := f5.kx hX (by decide)
 replace h_2 := GR.kx _ h_2 hX (by decide)
 clear hX
 have hz_ := f14; clear f14; obtain ⟨cs_, f15, hr_⟩ := hz_
 obtain ⟨u16, e_, f17⟩ := openR_colletref01_Draw hr_; subst e_
 replace f13 : _ = _ := f13; subst f13
 refine put_cont hA (by decide) fun a9 hA' q_ hfr => ?_
 clear hA; have hA := hA'; clear hA'
 replace q0 := (hfr 0 rfl).trans q0
 replace q1 := (hfr 1 rfl).trans q1
 replace q6 := (hfr 6 rfl).trans q6
 replace q7 := (hfr 7 rfl).trans q7
 replace q13 := (hfr 13 rfl).trans q13
 replace q15 := (hfr 15 rfl).trans q15
 have q16 := q_; clear q_ hfr
 refine l_ok (φ := SP.isv (.pointer (some ⟨b10, 0, none⟩))) hO hB (by exact ok_move q7) rfl fun u_ w10 hE hB' hv_ => ?_
 replace hv_ := Eq.symm hv_; subst hv_; clear hB; have hB := hB'; clear hB'
 replace h_0 := GR.v_ext _ h_0 hE
 replace h_1 := GR.v_ext _ h_1 hE
 replace f5 := f5.ext hE
 replace f15 := f15.ext hE
 replace f17 := GR.v_ext _ f17 hE
 clear hE
 refine put_cont hA (by decide) fun a11 hA' q_ hfr => ?_
 clear hA; have hA := hA'; clear hA'
 replace q0 := (hfr 0 rfl).trans q0
 replace q1 := (hfr 1 rfl).trans q1
 replace q6 := (hfr 6 rfl).trans q6
 replace q7 := (hfr 7 rfl).trans q7
 replace q16 := (hfr 16 rfl).trans q16
 have q17 := q_; clear q_ hfr
 obtain ⟨x18, hx18, h⟩ := Comp.run_bind h
 refine l_pio (r := r_colletref01_Draw) (x := x11.1) hO hB (okB_fr hB) fn74 (map2 q17 rfl) (ok_colletref01_Draw_Next hB.ok (BoxO.arg (show BoxO 2 (Fr w0) O8 w10 b10 108 r_colletref01_Draw x11.1 from ⟨_, f15, ⟨_, _, rfl, (rel_ofF (r := (rSl (rInt .i64))) f17 rfl rfl), ⟨_, _, rfl, rfl, rfl⟩⟩⟩) (by decide)) hx18) ⟨_, f15, ⟨_, _, rfl, (rel_ofF (r := (rSl (rInt .i64))) f17 rfl rfl), ⟨_, _, rfl, rfl, rfl⟩⟩⟩ fun u19 w12 f21 hB' hX f20 => ?_
 clear hB f15; have hB := hB'; clear hB'
 replace h_0 := GR.kx _ h_0 hX (by decide)
 replace h_1 := GR.kx _ h_1 hX (by decide)
 replace f5 := f5.kx hX (by decide)
 replace f17 := GR.kx _ f17 hX (by decide)
 clear hX
 have hz_ := f21; clear f21; obtain ⟨cs_, f22, hr_⟩ := hz_
 obtain ⟨u23, e_, f24⟩ := openR_colletref01_Draw hr_; subst e_
 replace f20 : _ = _ := f20; subst f20
 refine put_cont hA (by decide) fun a13 hA' q_ hfr => ?_
 clear hA; have hA := hA'; clear hA'
 replace q0 := (hfr 0 rfl).trans q0
 replace q1 := (hfr 1 rfl).trans q1
 replace q6 := (hfr 6 rfl).trans q6
 replace q7 := (hfr 7 rfl).trans q7
 replace q16 := (hfr 16 rfl).trans q16
 replace q17 := (hfr 17 rfl).trans q17
 have q18 := q_; clear q_ hfr
 refine l_ok (φ := SP.isv (.pointer (some ⟨b10, 0, none⟩))) hO hB (by exact ok_move q7) rfl fun u_ w14 hE hB' hv_ => ?_
 replace hv_ := Eq.symm hv_; subst hv_; clear hB; have hB := hB'; clear hB'
 replace h_0 := GR.v_ext _ h_0 hE
 replace h_1 := GR.v_ext _ h_1 hE
 replace f5 := f5.ext hE
 replace f22 := f22.ext hE
 replace f24 := GR.v_ext _ f24 hE
 clear hE
 refine put_cont hA (by decide) fun a15 hA' q_ hfr => ?_
 clear hA; have hA := hA'; clear hA'
 replace q0 := (hfr 0 rfl).trans q0
 replace q1 := (hfr 1 rfl).trans q1
 replace q6 := (hfr 6 rfl).trans q6
 replace q7 := (hfr 7 rfl).trans q7
 replace q16 := (hfr 16 rfl).trans q16
 replace q18 := (hfr 18 rfl).trans q18
 have q19 := q_; clear q_ hfr
 obtain ⟨x25, hx25, h⟩ := Comp.run_bind h
 refine l_pio (r := r_colletref01_Draw) (x := x18.1) hO hB (okB_fr hB) fn74 (map2 q19 rfl) (ok_colletref01_Draw_Next hB.ok (BoxO.arg (show BoxO 2 (Fr w0) O8 w14 b10 108 r_colletref01_Draw x18.1 from ⟨_, f22, ⟨_, _, rfl, (rel_ofF (r := (rSl (rInt .i64))) f24 rfl rfl), ⟨_, _, rfl, rfl, rfl⟩⟩⟩) (by decide)) hx25) ⟨_, f22, ⟨_, _, rfl, (rel_ofF (r := (rSl (rInt .i64))) f24 rfl rfl), ⟨_, _, rfl, rfl, rfl⟩⟩⟩ fun u26 w16 f28 hB' hX f27 => ?_
 clear hB f22; have hB := hB'; clear hB'
 replace h_0 := GR.kx _ h_0 hX (by decide)
 replace h_1 := GR.kx _ h_1 hX (by decide)
 replace f5 := f5.kx hX (by decide)
 replace f24 := GR.kx _ f24 hX (by decide)
 clear hX
 have hz_ := f28; clear f28; obtain ⟨cs_, f29, hr_⟩ := hz_
 obtain ⟨u30, e_, f31⟩ := openR_colletref01_Draw hr_; subst e_
 replace f27 : _ = _ := f27; subst f27
 refine put_cont hA (by decide) fun a17 hA' q_ hfr => ?_
 clear hA; have hA := hA'; clear hA'
 replace q0 := (hfr 0 rfl).trans q0
 replace q1 := (hfr 1 rfl).trans q1
 replace q6 := (hfr 6 rfl).trans q6
 replace q7 := (hfr 7 rfl).trans q7
 replace q16 := (hfr 16 rfl).trans q16
 replace q18 := (hfr 18 rfl).trans q18
 replace q19 := (hfr 19 rfl).trans q19
 have q20 := q_; clear q_ hfr
 obtain ⟨x32, hx32, h⟩ := Comp.run_bind h
 refine l_ok (φ := SP.isv (.string (str x32))) hO hB (by have c_ := ok_colletref37_Root hB.ok  hx32; exact ok_call1 fn29 q20 c_) rfl fun u_ w18 hE hB' hv_ => ?_
 replace hv_ := Eq.symm hv_; subst hv_; clear hB; have hB := hB'; clear hB'
 replace h_0 := GR.v_ext _ h_0 hE
 replace h_1 := GR.v_ext _ h_1 hE
 replace f5 := f5.ext hE
 replace f29 := f29.ext hE
 replace f31 := GR.v_ext _ f31 hE
 clear hE
 refine put_cont hA (by decide) fun a19 hA' q_ hfr => ?_
 clear hA; have hA := hA'; clear hA'
 replace q0 := (hfr 0 rfl).trans q0
 replace q1 := (hfr 1 rfl).trans q1
 replace q6 := (hfr 6 rfl).trans q6
 replace q7 := (hfr 7 rfl).trans q7
 replace q16 := (hfr 16 rfl).trans q16
 replace q18 := (hfr 18 rfl).trans q18
 replace q20 := (hfr 20 rfl).trans q20
 have q21 := q_; clear q_ hfr
 refine l_ok (φ := SP.isv (.agg #[.int .i64 ((api_Entry.mk 0 x11.2 1 x18.2 0 [] x32 [] []).Seq), .int .i64 ((api_Entry.mk 0 x11.2 1 x18.2 0 [] x32 [] []).Shop), .int .i64 ((api_Entry.mk 0 x11.2 1 x18.2 0 [] x32 [] []).Kind), .int .i64 ((api_Entry.mk 0 x11.2 1 x18.2 0 [] x32 [] []).Day), .int .i64 ((api_Entry.mk 0 x11.2 1 x18.2 0 [] x32 [] []).N), .string (str ((api_Entry.mk 0 x11.2 1 x18.2 0 [] x32 [] []).Before)), .string (str ((api_Entry.mk 0 x11.2 1 x18.2 0 [] x32 [] []).After)), .string (str ((api_Entry.mk 0 x11.2 1 x18.2 0 [] x32 [] []).Prev)), .string (str ((api_Entry.mk 0 x11.2 1 x18.2 0 [] x32 [] []).Mark))])) hO hB (by refine okl_build (vals := [(2, .int .i64 1), (1, .int .i64 x11.2), (3, .int .i64 x18.2), (6, .string (str x32))]) (out := [.int .i64 ((api_Entry.mk 0 x11.2 1 x18.2 0 [] x32 [] []).Seq), .int .i64 ((api_Entry.mk 0 x11.2 1 x18.2 0 [] x32 [] []).Shop), .int .i64 ((api_Entry.mk 0 x11.2 1 x18.2 0 [] x32 [] []).Kind), .int .i64 ((api_Entry.mk 0 x11.2 1 x18.2 0 [] x32 [] []).Day), .int .i64 ((api_Entry.mk 0 x11.2 1 x18.2 0 [] x32 [] []).N), .string (str ((api_Entry.mk 0 x11.2 1 x18.2 0 [] x32 [] []).Before)), .string (str ((api_Entry.mk 0 x11.2 1 x18.2 0 [] x32 [] []).After)), .string (str ((api_Entry.mk 0 x11.2 1 x18.2 0 [] x32 [] []).Prev)), .string (str ((api_Entry.mk 0 x11.2 1 x18.2 0 [] x32 [] []).Mark))]) plc26 ty26 ?_ rfl ?_ rfl; exact (pk_cons (v := .int .i64 1) rfl (pk_cons (v := .int .i64 x11.2) q16 (pk_cons (v := .int .i64 x18.2) q18 (pk_cons (v := .string (str x32)) q21 pk_nil)))); exact (.cons rfl rfl rfl (Nat.le_of_ble_eq_true rfl) (.cons rfl rfl rfl (Nat.le_of_ble_eq_true rfl) (.cons rfl rfl rfl (Nat.le_of_ble_eq_true rfl) (.cons rfl rfl rfl (Nat.le_of_ble_eq_true rfl) .nil))))) rfl fun u_ w20 hE hB' hv_ => ?_
 replace hv_ := Eq.symm hv_; subst hv_; clear hB; have hB := hB'; clear hB'
 replace h_0 := GR.v_ext _ h_0 hE
 replace h_1 := GR.v_ext _ h_1 hE
 replace f5 := f5.ext hE
 replace f29 := f29.ext hE
 replace f31 := GR.v_ext _ f31 hE
 clear hE
 refine put_cont hA (by decide) fun a21 hA' q_ hfr => ?_
 clear hA; have hA := hA'; clear hA'
 replace q0 := (hfr 0 rfl).trans q0
 replace q1 := (hfr 1 rfl).trans q1
 replace q6 := (hfr 6 rfl).trans q6
 replace q7 := (hfr 7 rfl).trans q7
 replace q16 := (hfr 16 rfl).trans q16
 replace q18 := (hfr 18 rfl).trans q18
 replace q21 := (hfr 21 rfl).trans q21
 have q22 := q_; clear q_ hfr
 refine l_ok (φ := SP.box w20.heap.size #[.int .i64 ((api_Entry.mk 0 0 0 0 0 [] [] [] []).Seq), .int .i64 ((api_Entry.mk 0 0 0 0 0 [] [] [] []).Shop), .int .i64 ((api_Entry.mk 0 0 0 0 0 [] [] [] []).Kind), .int .i64 ((api_Entry.mk 0 0 0 0 0 [] [] [] []).Day), .int .i64 ((api_Entry.mk 0 0 0 0 0 [] [] [] []).N), .string (str ((api_Entry.mk 0 0 0 0 0 [] [] [] []).Before)), .string (str ((api_Entry.mk 0 0 0 0 0 [] [] [] []).After)), .string (str ((api_Entry.mk 0 0 0 0 0 [] [] [] []).Prev)), .string (str ((api_Entry.mk 0 0 0 0 0 [] [] [] []).Mark))] 26) hO hB (by exact ok_alloc (Nat.le_refl _) ty26) rfl fun u33 w22 hE hB' f34 => ?_
 clear hB'; obtain ⟨O35, b37, hB', hX, e_, f36⟩ := boxNew hO hB hE f34 3 (by decide)
 subst e_; clear hB f34; have hB := hB'; clear hB'
 replace h_0 := GR.kx _ h_0 hX (by decide)
 replace h_1 := GR.kx _ h_1 hX (by decide)
 replace f5 := f5.kx hX (by decide)
 replace f29 := f29.kx hX (by decide)
 replace f31 := GR.kx _ f31 hX (by decide)
 clear hX hE
 refine put_cont hA (by decide) fun a23 hA' q_ hfr => ?_
 clear hA; have hA := hA'; clear hA'
 replace q0 := (hfr 0 rfl).trans q0
 replace q1 := (hfr 1 rfl).trans q1
 replace q6 := (hfr 6 rfl).trans q6
 replace q7 := (hfr 7 rfl).trans q7
 replace q22 := (hfr 22 rfl).trans q22
 have q8 := q_; clear q_ hfr
 refine l_storeSub (vs := [.int .i64 ((api_Entry.mk 0 x11.2 1 x18.2 0 [] x32 [] []).Seq), .int .i64 ((api_Entry.mk 0 x11.2 1 x18.2 0 [] x32 [] []).Shop), .int .i64 ((api_Entry.mk 0 x11.2 1 x18.2 0 [] x32 [] []).Kind), .int .i64 ((api_Entry.mk 0 x11.2 1 x18.2 0 [] x32 [] []).Day), .int .i64 ((api_Entry.mk 0 x11.2 1 x18.2 0 [] x32 [] []).N), .string (str ((api_Entry.mk 0 x11.2 1 x18.2 0 [] x32 [] []).Before)), .string (str ((api_Entry.mk 0 x11.2 1 x18.2 0 [] x32 [] []).After)), .string (str ((api_Entry.mk 0 x11.2 1 x18.2 0 [] x32 [] []).Prev)), .string (str ((api_Entry.mk 0 x11.2 1 x18.2 0 [] x32 [] []).Mark))]) (cs' := #[.int .i64 ((api_Entry.mk 0 x11.2 1 x18.2 0 [] x32 [] []).Seq), .int .i64 ((api_Entry.mk 0 x11.2 1 x18.2 0 [] x32 [] []).Shop), .int .i64 ((api_Entry.mk 0 x11.2 1 x18.2 0 [] x32 [] []).Kind), .int .i64 ((api_Entry.mk 0 x11.2 1 x18.2 0 [] x32 [] []).Day), .int .i64 ((api_Entry.mk 0 x11.2 1 x18.2 0 [] x32 [] []).N), .string (str ((api_Entry.mk 0 x11.2 1 x18.2 0 [] x32 [] []).Before)), .string (str ((api_Entry.mk 0 x11.2 1 x18.2 0 [] x32 [] []).After)), .string (str ((api_Entry.mk 0 x11.2 1 x18.2 0 [] x32 [] []).Prev)), .string (str ((api_Entry.mk 0 x11.2 1 x18.2 0 [] x32 [] []).Mark))]) hO hB (okB_fr hB) ty26 q8 q22 rfl (by simp [Value.oneCell']) f36 (by simp) rfl fun w24 f38 hB' hX => ?_
 clear hB f36; have hB := hB'; clear hB'
 replace h_0 := GR.kx _ h_0 hX (by decide)
 replace h_1 := GR.kx _ h_1 hX (by decide)
 replace f5 := f5.kx hX (by decide)
 replace f29 := f29.kx hX (by decide)
 replace f31 := GR.kx _ f31 hX (by decide)
 clear hX
 refine li_nil (nx_then ?_)
 refine seq_join (fun a w => ∃ (O102 : Tags) (x93 : Int) (x94 : Int) (x95 : Int) (x96 : Int) (x97 : Int) (x98 : Bytes) (x99 : Bytes) (x100 : Bytes) (x101 : Bytes), a.fit 74 ∧ Base (Fr w0) O w0 O102 w ∧ a.get 0 = v_0 ∧ (rSl rStr).v O102 w v_0 x_0 ∧ a.get 1 = v_1 ∧ (rSl r_api_Entry).v O102 w v_1 x_1 ∧ a.get 6 = .pointer (some ⟨b4, 0, none⟩) ∧ a.get 8 = .pointer (some ⟨b37, 0, none⟩) ∧ OwnB 3 (Fr w0) O102 w b37 #[.int .i64 x93, .int .i64 x94, .int .i64 x95, .int .i64 x96, .int .i64 x97, .string (str x98), .string (str x99), .string (str x100), .string (str x101)] 26 ∧ OwnB 1 (Fr w0) O102 w b4 #[.int .i64 ((api_Entry.mk 0 0 0 0 0 [] [] [] []).Seq), .int .i64 ((api_Entry.mk 0 0 0 0 0 [] [] [] []).Shop), .int .i64 ((api_Entry.mk 0 0 0 0 0 [] [] [] []).Kind), .int .i64 ((api_Entry.mk 0 0 0 0 0 [] [] [] []).Day), .int .i64 ((api_Entry.mk 0 0 0 0 0 [] [] [] []).N), .string (str ((api_Entry.mk 0 0 0 0 0 [] [] [] []).Before)), .string (str ((api_Entry.mk 0 0 0 0 0 [] [] [] []).After)), .string (str ((api_Entry.mk 0 0 0 0 0 [] [] [] []).Prev)), .string (str ((api_Entry.mk 0 0 0 0 0 [] [] [] []).Mark))] 26 ∧ (colletref37_Step_j1 x_0 x_1 x93 x94 x95 x96 x97 x98 x99 x100 x101).run n = some y) ?_ ?_
 ·
  refine wp_seq ?_
  refine' region [_, _, _] mixed hA (.cons ?z4_0 (.cons ?z4_1 (.cons ?z4_2 .nil))) ?zok4 ?zgd4 ?zk4
  case z4_0 => intro a' w' hE hK hg; exact ok_move (kn (hK 1 rfl) rfl q1)
  case z4_1 => intro a' w' hE hK hg; exact okl_len (r := r_api_Entry) ty29 (ksv (j := 0) (hK 23 rfl) rfl rfl rfl) (rd_of (GR.v_ext _ h_1 hE))
  case z4_2 => intro a' w' hE hK hg; exact ok_gtr (ksv (j := 1) (hK 24 rfl) rfl rfl rfl) rfl
  case zok4 => kernel_rfl
  case zgd4 => kernel_rfl
  intro a25 w25 hA' hE HF
  replace q0 := kn (HF 0) rfl q0
  replace q1 := kn (HF 1) rfl q1
  replace q6 := kn (HF 6) rfl q6
  replace q7 := kn (HF 7) rfl q7
  replace q8 := kn (HF 8) rfl q8
  have q25 := ksv (HF 25) rfl rfl rfl
  clear hA HF; have hA := hA'; clear hA'
  replace h_0 := GR.v_ext _ h_0 hE
  replace h_1 := GR.v_ext _ h_1 hE
  replace f5 := f5.ext hE
  replace f29 := f29.ext hE
  replace f31 := GR.v_ext _ f31 hE
  replace f38 := f38.ext hE
  replace hB := Base.step hB hE hO; clear hE
  refine li_nil (nx_then ?_)
  refine wp_cond_b q25 (fun hc => ?_) (fun hc => ?_)
  ·
   replace h := Comp.run_b_t hc h; clear hc
   refine wp_seq ?_
   obtain ⟨x39, hx39, h⟩ := Comp.run_bind h
   refine' regionT [_, _, _, _, SP.ptr r_api_Entry O35 x39, SP.isv (.agg #[.int .i64 x39.Seq, .int .i64 x39.Shop, .int .i64 x39.Kind, .int .i64 x39.Day, .int .i64 x39.N, .string (str x39.Before), .string (str x39.After), .string (str x39.Prev), .string (str x39.Mark)])] hA (.cons ?z5_0 (.cons ?z5_1 (.cons ?z5_2 (.cons ?z5_3 (.cons ?z5_4 (.cons ?z5_5 .nil)))))) ?zok5 ?zgd5 ?zk5
   case z5_0 => intro a' w' hE hK hg; exact ok_move (kn (hK 1 rfl) rfl q1)
   case z5_1 => intro a' w' hE hK hg; exact ok_move (kn (hK 1 rfl) rfl q1)
   case z5_2 => intro a' w' hE hK hg; exact okl_len (r := r_api_Entry) ty29 (ksv (j := 1) (hK 27 rfl) rfl rfl rfl) (rd_of (GR.v_ext _ h_1 hE))
   case z5_3 => intro a' w' hE hK hg; exact ok_sub (ksv (j := 2) (hK 28 rfl) rfl rfl rfl) rfl
   case z5_4 => intro a' w' hE hK hg; exact okl_idx (r := r_api_Entry) (O := O35) ty29 ty26 rfl (ksv (j := 0) (hK 26 rfl) rfl rfl rfl) (rd_of (GR.v_ext _ h_1 hE)) (ksv (j := 3) (hK 29 rfl) rfl rfl rfl) hx39
   case z5_5 => intro a' w' hE hK hg; exact okl_ldr r_api_Entry fit_api_Entry ty26 rfl rfl rfl (kspS (φ := SP.ptr r_api_Entry O35 x39) (j := 4) (hK 30 rfl) rfl rfl rfl) (fun _ _ _ h => rC_v.1 h)
   case zok5 => kernel_rfl
   case zgd5 => kernel_rfl
   intro a26 w26 hA' hE HF
   replace q0 := kn (HF 0) rfl q0
   replace q1 := kn (HF 1) rfl q1
   replace q6 := kn (HF 6) rfl q6
   replace q7 := kn (HF 7) rfl q7
   replace q8 := kn (HF 8) rfl q8
   have q31 := ksv (HF 31) rfl rfl rfl
   clear q25
   clear hA HF; have hA := hA'; clear hA'
   replace h_0 := GR.v_ext _ h_0 hE
   replace h_1 := GR.v_ext _ h_1 hE
   replace f5 := f5.ext hE
   replace f29 := f29.ext hE
   replace f31 := GR.v_ext _ f31 hE
   replace f38 := f38.ext hE
   replace hB := Base.step hB hE hO; clear hE
   refine l_ok (φ := SP.box w26.heap.size #[.int .i64 ((api_Entry.mk 0 0 0 0 0 [] [] [] []).Seq), .int .i64 ((api_Entry.mk 0 0 0 0 0 [] [] [] []).Shop), .int .i64 ((api_Entry.mk 0 0 0 0 0 [] [] [] []).Kind), .int .i64 ((api_Entry.mk 0 0 0 0 0 [] [] [] []).Day), .int .i64 ((api_Entry.mk 0 0 0 0 0 [] [] [] []).N), .string (str ((api_Entry.mk 0 0 0 0 0 [] [] [] []).Before)), .string (str ((api_Entry.mk 0 0 0 0 0 [] [] [] []).After)), .string (str ((api_Entry.mk 0 0 0 0 0 [] [] [] []).Prev)), .string (str ((api_Entry.mk 0 0 0 0 0 [] [] [] []).Mark))] 26) hO hB (by exact ok_alloc (Nat.le_refl _) ty26) rfl fun u40 w27 hE hB' f41 => ?_
   clear hB'; obtain ⟨O42, b44, hB', hX, e_, f43⟩ := boxNew hO hB hE f41 4 (by decide)
   subst e_; clear hB f41; have hB := hB'; clear hB'
   replace h_0 := GR.kx _ h_0 hX (by decide)
   replace h_1 := GR.kx _ h_1 hX (by decide)
   replace f5 := f5.kx hX (by decide)
   replace f29 := f29.kx hX (by decide)
   replace f31 := GR.kx _ f31 hX (by decide)
   replace f38 := f38.kx hX (by decide)
   clear hX hE
   refine put_cont hA (by decide) fun a28 hA' q_ hfr => ?_
   clear hA; have hA := hA'; clear hA'
   replace q0 := (hfr 0 rfl).trans q0
   replace q1 := (hfr 1 rfl).trans q1
   replace q6 := (hfr 6 rfl).trans q6
   replace q7 := (hfr 7 rfl).trans q7
   replace q8 := (hfr 8 rfl).trans q8
   replace q31 := (hfr 31 rfl).trans q31
   have q9 := q_; clear q_ hfr
   refine l_storeSub (vs := [.int .i64 x39.Seq, .int .i64 x39.Shop, .int .i64 x39.Kind, .int .i64 x39.Day, .int .i64 x39.N, .string (str x39.Before), .string (str x39.After), .string (str x39.Prev), .string (str x39.Mark)]) (cs' := #[.int .i64 x39.Seq, .int .i64 x39.Shop, .int .i64 x39.Kind, .int .i64 x39.Day, .int .i64 x39.N, .string (str x39.Before), .string (str x39.After), .string (str x39.Prev), .string (str x39.Mark)]) hO hB (okB_fr hB) ty26 q9 q31 rfl (by simp [Value.oneCell']) f43 (by simp) rfl fun w29 f45 hB' hX => ?_
   clear hB f43; have hB := hB'; clear hB'
   replace h_0 := GR.kx _ h_0 hX (by decide)
   replace h_1 := GR.kx _ h_1 hX (by decide)
   replace f5 := f5.kx hX (by decide)
   replace f29 := f29.kx hX (by decide)
   replace f31 := GR.kx _ f31 hX (by decide)
   replace f38 := f38.kx hX (by decide)
   clear hX
   refine li_nil (nx_then (wp_seq ?_))
   refine' regionT [SP.vl (rSl (rInt .i64)) O42 [2, 2, 3, 4], _] hA (.cons ?z6_0 (.cons ?z6_1 .nil)) ?zok6 ?zgd6 ?zk6
   case z6_0 => intro a' w' hE hK hg; exact okl_buildSliceV (r := (rInt .i64)) (fun _ => rfl) rfl (OkO.ext hB.ok hE) ty58 ty3 (parts_cons rfl (parts_cons rfl (parts_cons rfl (parts_cons rfl parts_nil)))) ⟨(by first | exact rInt_v.2 rfl | exact rBool_v.2 rfl | exact rStr_v.2 rfl | exact rC_v.2 rfl | exact ⟨_, rfl, rfl⟩), ⟨(by first | exact rInt_v.2 rfl | exact rBool_v.2 rfl | exact rStr_v.2 rfl | exact rC_v.2 rfl | exact ⟨_, rfl, rfl⟩), ⟨(by first | exact rInt_v.2 rfl | exact rBool_v.2 rfl | exact rStr_v.2 rfl | exact rC_v.2 rfl | exact ⟨_, rfl, rfl⟩), ⟨(by first | exact rInt_v.2 rfl | exact rBool_v.2 rfl | exact rStr_v.2 rfl | exact rC_v.2 rfl | exact ⟨_, rfl, rfl⟩), trivial⟩⟩⟩⟩ rfl (by decide)
   case z6_1 => intro a' w' hE hK hg; exact ok_move (kn (hK 7 rfl) rfl q7)
   case zok6 => kernel_rfl
   case zgd6 => kernel_rfl
   intro a30 w30 hA' hE HF
   replace q0 := kn (HF 0) rfl q0
   replace q1 := kn (HF 1) rfl q1
   replace q6 := kn (HF 6) rfl q6
   replace q7 := kn (HF 7) rfl q7
   replace q8 := kn (HF 8) rfl q8
   replace q9 := kn (HF 9) rfl q9
   have f47 := ksp (HF 32) rfl rfl rfl
   obtain ⟨u46, q32'⟩ : ∃ u, a30.get 32 = u := ⟨_, rfl⟩
   rw [q32'] at f47
   have q32 := q32'; clear q32'
   have q33 := ksv (HF 33) rfl rfl rfl
   clear hA HF; have hA := hA'; clear hA'
   replace h_0 := GR.v_ext _ h_0 hE
   replace h_1 := GR.v_ext _ h_1 hE
   replace f5 := f5.ext hE
   replace f29 := f29.ext hE
   replace f31 := GR.v_ext _ f31 hE
   replace f38 := f38.ext hE
   replace f45 := f45.ext hE
   replace hB := Base.step hB hE hO; clear hE
   obtain ⟨x48, hx48, h⟩ := Comp.run_bind h
   refine l_pio (r := r_colletref01_Draw) (x := x25.1) hO hB (okB_fr hB) fn74 (map2 q33 rfl) (ok_colletref01_Draw_Next hB.ok (BoxO.arg (show BoxO 2 (Fr w0) O42 w30 b10 108 r_colletref01_Draw x25.1 from ⟨_, f29, ⟨_, _, rfl, (rel_ofF (r := (rSl (rInt .i64))) f31 rfl rfl), ⟨_, _, rfl, rfl, rfl⟩⟩⟩) (by decide)) hx48) ⟨_, f29, ⟨_, _, rfl, (rel_ofF (r := (rSl (rInt .i64))) f31 rfl rfl), ⟨_, _, rfl, rfl, rfl⟩⟩⟩ fun u49 w31 f51 hB' hX f50 => ?_
   clear hB f29; have hB := hB'; clear hB'
   replace h_0 := GR.kx _ h_0 hX (by decide)
   replace h_1 := GR.kx _ h_1 hX (by decide)
   replace f47 := GR.kx _ f47 hX (by decide)
   replace f5 := f5.kx hX (by decide)
   replace f31 := GR.kx _ f31 hX (by decide)
   replace f38 := f38.kx hX (by decide)
   replace f45 := f45.kx hX (by decide)
   clear hX
   have hz_ := f51; clear f51; obtain ⟨cs_, f52, hr_⟩ := hz_
   obtain ⟨u53, e_, f54⟩ := openR_colletref01_Draw hr_; subst e_
   replace f50 : _ = _ := f50; subst f50
   refine put_cont hA (by decide) fun a32 hA' q_ hfr => ?_
   clear hA; have hA := hA'; clear hA'
   replace q0 := (hfr 0 rfl).trans q0
   replace q1 := (hfr 1 rfl).trans q1
   replace q6 := (hfr 6 rfl).trans q6
   replace q7 := (hfr 7 rfl).trans q7
   replace q8 := (hfr 8 rfl).trans q8
   replace q9 := (hfr 9 rfl).trans q9
   replace q32 := (hfr 32 rfl).trans q32
   replace q33 := (hfr 33 rfl).trans q33
   have q34 := q_; clear q_ hfr
   obtain ⟨x55, hx55, h⟩ := Comp.run_bind h
   refine l_ok (φ := SP.ptr (rInt .i64) O42 x55) hO hB (by exact okl_idx (r := (rInt .i64)) (O := O42) ty58 ty3 rfl q32 (rd_of f47) q34 hx55) rfl fun u56 w33 hE hB' f57 => ?_
   clear hB; have hB := hB'; clear hB'
   replace h_0 := GR.v_ext _ h_0 hE
   replace h_1 := GR.v_ext _ h_1 hE
   replace f47 := GR.v_ext _ f47 hE
   replace f5 := f5.ext hE
   replace f52 := f52.ext hE
   replace f54 := GR.v_ext _ f54 hE
   replace f38 := f38.ext hE
   replace f45 := f45.ext hE
   clear hE
   refine put_cont hA (by decide) fun a34 hA' q_ hfr => ?_
   clear hA; have hA := hA'; clear hA'
   replace q0 := (hfr 0 rfl).trans q0
   replace q1 := (hfr 1 rfl).trans q1
   replace q6 := (hfr 6 rfl).trans q6
   replace q7 := (hfr 7 rfl).trans q7
   replace q8 := (hfr 8 rfl).trans q8
   replace q9 := (hfr 9 rfl).trans q9
   replace q32 := (hfr 32 rfl).trans q32
   replace q34 := (hfr 34 rfl).trans q34
   have q35 := q_; clear q_ hfr
   refine l_ok (φ := SP.isv (.int .i64 x55)) hO hB (by exact okl_ldrv (rInt .i64) (fun _ => rfl) ty3 rfl rfl q35 f57 (fun _ _ _ h => rInt_v.1 h)) rfl fun u_ w35 hE hB' hv_ => ?_
   replace hv_ := Eq.symm hv_; subst hv_; clear hB; have hB := hB'; clear hB'
   replace h_0 := GR.v_ext _ h_0 hE
   replace h_1 := GR.v_ext _ h_1 hE
   replace f5 := f5.ext hE
   replace f52 := f52.ext hE
   replace f54 := GR.v_ext _ f54 hE
   replace f38 := f38.ext hE
   replace f45 := f45.ext hE
   clear hE
   refine put_cont hA (by decide) fun a36 hA' q_ hfr => ?_
   clear hA; have hA := hA'; clear hA'
   replace q0 := (hfr 0 rfl).trans q0
   replace q1 := (hfr 1 rfl).trans q1
   replace q6 := (hfr 6 rfl).trans q6
   replace q7 := (hfr 7 rfl).trans q7
   replace q8 := (hfr 8 rfl).trans q8
   replace q9 := (hfr 9 rfl).trans q9
   replace q35 := (hfr 35 rfl).trans q35
   have q36 := q_; clear q_ hfr
   refine l_ok (φ := SP.isv (.pointer (some ⟨b37, 2, none⟩))) hO hB (by exact ok_fieldAddr fl26_2 q8) rfl fun u_ w37 hE hB' hv_ => ?_
   replace hv_ := Eq.symm hv_; subst hv_; clear hB; have hB := hB'; clear hB'
   replace h_0 := GR.v_ext _ h_0 hE
   replace h_1 := GR.v_ext _ h_1 hE
   replace f5 := f5.ext hE
   replace f52 := f52.ext hE
   replace f54 := GR.v_ext _ f54 hE
   replace f38 := f38.ext hE
   replace f45 := f45.ext hE
   clear hE
   refine put_cont hA (by decide) fun a38 hA' q_ hfr => ?_
   clear hA; have hA := hA'; clear hA'
   replace q0 := (hfr 0 rfl).trans q0
   replace q1 := (hfr 1 rfl).trans q1
   replace q6 := (hfr 6 rfl).trans q6
   replace q7 := (hfr 7 rfl).trans q7
   replace q8 := (hfr 8 rfl).trans q8
   replace q9 := (hfr 9 rfl).trans q9
   replace q36 := (hfr 36 rfl).trans q36
   have q37 := q_; clear q_ hfr
   refine l_store1 (cs' := #[.int .i64 ((api_Entry.mk 0 x11.2 1 x18.2 0 [] x32 [] []).Seq), .int .i64 ((api_Entry.mk 0 x11.2 1 x18.2 0 [] x32 [] []).Shop), .int .i64 x55, .int .i64 ((api_Entry.mk 0 x11.2 1 x18.2 0 [] x32 [] []).Day), .int .i64 ((api_Entry.mk 0 x11.2 1 x18.2 0 [] x32 [] []).N), .string (str ((api_Entry.mk 0 x11.2 1 x18.2 0 [] x32 [] []).Before)), .string (str ((api_Entry.mk 0 x11.2 1 x18.2 0 [] x32 [] []).After)), .string (str ((api_Entry.mk 0 x11.2 1 x18.2 0 [] x32 [] []).Prev)), .string (str ((api_Entry.mk 0 x11.2 1 x18.2 0 [] x32 [] []).Mark))]) hO hB (okB_fr hB) ty3 q37 q36 rfl rfl f38 (by simp) rfl fun w39 f58 hB' hX => ?_
   clear hB f38; have hB := hB'; clear hB'
   replace h_0 := GR.kx _ h_0 hX (by decide)
   replace h_1 := GR.kx _ h_1 hX (by decide)
   replace f5 := f5.kx hX (by decide)
   replace f52 := f52.kx hX (by decide)
   replace f54 := GR.kx _ f54 hX (by decide)
   replace f45 := f45.kx hX (by decide)
   clear hX
   refine li_nil (nx_then (wp_seq ?_))
   obtain ⟨x59, hx59, h⟩ := Comp.run_bind h
   refine' regionT [SP.isv (.agg #[.int .i64 x39.Seq, .int .i64 x39.Shop, .int .i64 x39.Kind, .int .i64 x39.Day, .int .i64 x39.N, .string (str x39.Before), .string (str x39.After), .string (str x39.Prev), .string (str x39.Mark)]), SP.isv (.int .i64 x59), SP.isv (.pointer (some ⟨b37, 1, none⟩))] hA (.cons ?z7_0 (.cons ?z7_1 (.cons ?z7_2 .nil))) ?zok7 ?zgd7 ?zk7
   case z7_0 => intro a' w' hE hK hg; exact ok_loadOwnAgg ty26 rfl (kn (hK 9 rfl) rfl q9) (OwnB.ext f45 hE).own rfl
   case z7_1 => intro a' w' hE hK hg; have c_ := ok_colletref37_writer (OkO.ext hB.ok hE)  hx59; exact ok_call1 fn75 (ksv (j := 0) (hK 38 rfl) rfl rfl rfl) c_
   case z7_2 => intro a' w' hE hK hg; exact ok_fieldAddr fl26_1 (kn (hK 8 rfl) rfl q8)
   case zok7 => kernel_rfl
   case zgd7 => kernel_rfl
   intro a40 w40 hA' hE HF
   replace q0 := kn (HF 0) rfl q0
   replace q1 := kn (HF 1) rfl q1
   replace q6 := kn (HF 6) rfl q6
   replace q7 := kn (HF 7) rfl q7
   replace q8 := kn (HF 8) rfl q8
   replace q9 := kn (HF 9) rfl q9
   have q39 := ksv (HF 39) rfl rfl rfl
   have q40 := ksv (HF 40) rfl rfl rfl
   clear hA HF; have hA := hA'; clear hA'
   replace h_0 := GR.v_ext _ h_0 hE
   replace h_1 := GR.v_ext _ h_1 hE
   replace f5 := f5.ext hE
   replace f52 := f52.ext hE
   replace f54 := GR.v_ext _ f54 hE
   replace f58 := f58.ext hE
   replace f45 := f45.ext hE
   replace hB := Base.step hB hE hO; clear hE
   refine l_store1 (cs' := #[.int .i64 ((api_Entry.mk 0 x11.2 1 x18.2 0 [] x32 [] []).Seq), .int .i64 x59, .int .i64 x55, .int .i64 ((api_Entry.mk 0 x11.2 1 x18.2 0 [] x32 [] []).Day), .int .i64 ((api_Entry.mk 0 x11.2 1 x18.2 0 [] x32 [] []).N), .string (str ((api_Entry.mk 0 x11.2 1 x18.2 0 [] x32 [] []).Before)), .string (str ((api_Entry.mk 0 x11.2 1 x18.2 0 [] x32 [] []).After)), .string (str ((api_Entry.mk 0 x11.2 1 x18.2 0 [] x32 [] []).Prev)), .string (str ((api_Entry.mk 0 x11.2 1 x18.2 0 [] x32 [] []).Mark))]) hO hB (okB_fr hB) ty3 q40 q39 rfl rfl f58 (by simp) rfl fun w41 f60 hB' hX => ?_
   clear hB f58; have hB := hB'; clear hB'
   replace h_0 := GR.kx _ h_0 hX (by decide)
   replace h_1 := GR.kx _ h_1 hX (by decide)
   replace f5 := f5.kx hX (by decide)
   replace f52 := f52.kx hX (by decide)
   replace f54 := GR.kx _ f54 hX (by decide)
   replace f45 := f45.kx hX (by decide)
   clear hX
   refine li_nil (nx_then (wp_seq ?_))
   refine' regionT [SP.isv (.pointer (some ⟨b44, 3, none⟩)), SP.isv (.int .i64 x39.Day), SP.isv (.pointer (some ⟨b37, 3, none⟩)), SP.isv (.int .i64 ((api_Entry.mk 0 x11.2 1 x18.2 0 [] x32 [] []).Day)), _, _, SP.isv (.pointer (some ⟨b37, 3, none⟩))] hA (.cons ?z8_0 (.cons ?z8_1 (.cons ?z8_2 (.cons ?z8_3 (.cons ?z8_4 (.cons ?z8_5 (.cons ?z8_6 .nil))))))) ?zok8 ?zgd8 ?zk8
   case z8_0 => intro a' w' hE hK hg; exact ok_fieldAddr fl26_3 (kn (hK 9 rfl) rfl q9)
   case z8_1 => intro a' w' hE hK hg; exact ok_loadOwn ty3 rfl (ksv (j := 0) (hK 41 rfl) rfl rfl rfl) (OwnB.ext f45 hE).own rfl
   case z8_2 => intro a' w' hE hK hg; exact ok_fieldAddr fl26_3 (kn (hK 8 rfl) rfl q8)
   case z8_3 => intro a' w' hE hK hg; exact ok_loadOwn ty3 rfl (ksv (j := 2) (hK 43 rfl) rfl rfl rfl) (OwnB.ext f60 hE).own rfl
   case z8_4 => intro a' w' hE hK hg; exact ok_quo (ksv (j := 3) (hK 44 rfl) rfl rfl rfl) rfl (by decide)
   case z8_5 => intro a' w' hE hK hg; exact ok_add (ksv (j := 1) (hK 42 rfl) rfl rfl rfl) (ksv (j := 4) (hK 45 rfl) rfl rfl rfl)
   case z8_6 => intro a' w' hE hK hg; exact ok_fieldAddr fl26_3 (kn (hK 8 rfl) rfl q8)
   case zok8 => kernel_rfl
   case zgd8 => kernel_rfl
   intro a42 w42 hA' hE HF
   replace q0 := kn (HF 0) rfl q0
   replace q1 := kn (HF 1) rfl q1
   replace q6 := kn (HF 6) rfl q6
   replace q7 := kn (HF 7) rfl q7
   replace q8 := kn (HF 8) rfl q8
   replace q9 := kn (HF 9) rfl q9
   have q46 := ksv (HF 46) rfl rfl rfl
   have q47 := ksv (HF 47) rfl rfl rfl
   clear hA HF; have hA := hA'; clear hA'
   replace h_0 := GR.v_ext _ h_0 hE
   replace h_1 := GR.v_ext _ h_1 hE
   replace f5 := f5.ext hE
   replace f52 := f52.ext hE
   replace f54 := GR.v_ext _ f54 hE
   replace f60 := f60.ext hE
   replace f45 := f45.ext hE
   replace hB := Base.step hB hE hO; clear hE
   refine l_store1 (cs' := #[.int .i64 ((api_Entry.mk 0 x11.2 1 x18.2 0 [] x32 [] []).Seq), .int .i64 x59, .int .i64 x55, .int .i64 (IntKind.wrap .i64 (x39.Day + (IntKind.wrap .i64 (Int.tdiv ((api_Entry.mk 0 x11.2 1 x18.2 0 [] x32 [] []).Day) 3)))), .int .i64 ((api_Entry.mk 0 x11.2 1 x18.2 0 [] x32 [] []).N), .string (str ((api_Entry.mk 0 x11.2 1 x18.2 0 [] x32 [] []).Before)), .string (str ((api_Entry.mk 0 x11.2 1 x18.2 0 [] x32 [] []).After)), .string (str ((api_Entry.mk 0 x11.2 1 x18.2 0 [] x32 [] []).Prev)), .string (str ((api_Entry.mk 0 x11.2 1 x18.2 0 [] x32 [] []).Mark))]) hO hB (okB_fr hB) ty3 q47 q46 rfl rfl f60 (by simp) rfl fun w43 f61 hB' hX => ?_
   clear hB f60; have hB := hB'; clear hB'
   replace h_0 := GR.kx _ h_0 hX (by decide)
   replace h_1 := GR.kx _ h_1 hX (by decide)
   replace f5 := f5.kx hX (by decide)
   replace f52 := f52.kx hX (by decide)
   replace f54 := GR.kx _ f54 hX (by decide)
   replace f45 := f45.kx hX (by decide)
   clear hX
   refine li_nil (nx_then ?_)
   refine seq_join (fun a w => ∃ (O84 : Tags) (x70 : List Int) (x73 : Int) (x74 : Int) (x75 : Int) (x76 : Int) (x77 : Int) (x78 : Int) (x79 : Bytes) (x80 : Bytes) (x81 : Bytes) (x82 : Bytes) (u71 : Value), a.fit 74 ∧ Base (Fr w0) O w0 O84 w ∧ a.get 0 = v_0 ∧ (rSl rStr).v O84 w v_0 x_0 ∧ a.get 1 = v_1 ∧ (rSl r_api_Entry).v O84 w v_1 x_1 ∧ a.get 6 = .pointer (some ⟨b4, 0, none⟩) ∧ a.get 7 = .pointer (some ⟨b10, 0, none⟩) ∧ a.get 8 = .pointer (some ⟨b37, 0, none⟩) ∧ OwnB 2 (Fr w0) O84 w b10 #[u71, .int .i64 x73] 108 ∧ (rSl (rInt .i64)).v O84 w u71 x70 ∧ OwnB 3 (Fr w0) O84 w b37 #[.int .i64 x74, .int .i64 x75, .int .i64 x76, .int .i64 x77, .int .i64 x78, .string (str x79), .string (str x80), .string (str x81), .string (str x82)] 26 ∧ OwnB 1 (Fr w0) O84 w b4 #[.int .i64 ((api_Entry.mk 0 0 0 0 0 [] [] [] []).Seq), .int .i64 ((api_Entry.mk 0 0 0 0 0 [] [] [] []).Shop), .int .i64 ((api_Entry.mk 0 0 0 0 0 [] [] [] []).Kind), .int .i64 ((api_Entry.mk 0 0 0 0 0 [] [] [] []).Day), .int .i64 ((api_Entry.mk 0 0 0 0 0 [] [] [] []).N), .string (str ((api_Entry.mk 0 0 0 0 0 [] [] [] []).Before)), .string (str ((api_Entry.mk 0 0 0 0 0 [] [] [] []).After)), .string (str ((api_Entry.mk 0 0 0 0 0 [] [] [] []).Prev)), .string (str ((api_Entry.mk 0 0 0 0 0 [] [] [] []).Mark))] 26 ∧ (colletref37_Step_j2 x_0 x_1 x70 x73 x74 x75 x76 x77 x78 x79 x80 x81 x82).run n = some y) ?_ ?_
   ·
    refine wp_seq ?_
    refine' region [SP.isv (.pointer (some ⟨b37, 2, none⟩)), SP.isv (.int .i64 x55), _] mixed hA (.cons ?z9_0 (.cons ?z9_1 (.cons ?z9_2 .nil))) ?zok9 ?zgd9 ?zk9
    case z9_0 => intro a' w' hE hK hg; exact ok_fieldAddr fl26_2 (kn (hK 8 rfl) rfl q8)
    case z9_1 => intro a' w' hE hK hg; exact ok_loadOwn ty3 rfl (ksv (j := 0) (hK 48 rfl) rfl rfl rfl) (OwnB.ext f61 hE).own rfl
    case z9_2 => intro a' w' hE hK hg; exact ok_eqlI (ksv (j := 1) (hK 49 rfl) rfl rfl rfl) rfl
    case zok9 => kernel_rfl
    case zgd9 => kernel_rfl
    intro a44 w44 hA' hE HF
    replace q0 := kn (HF 0) rfl q0
    replace q1 := kn (HF 1) rfl q1
    replace q6 := kn (HF 6) rfl q6
    replace q7 := kn (HF 7) rfl q7
    replace q8 := kn (HF 8) rfl q8
    replace q9 := kn (HF 9) rfl q9
    have q50 := ksv (HF 50) rfl rfl rfl
    clear hA HF; have hA := hA'; clear hA'
    replace h_0 := GR.v_ext _ h_0 hE
    replace h_1 := GR.v_ext _ h_1 hE
    replace f5 := f5.ext hE
    replace f52 := f52.ext hE
    replace f54 := GR.v_ext _ f54 hE
    replace f61 := f61.ext hE
    replace f45 := f45.ext hE
    replace hB := Base.step hB hE hO; clear hE
    refine li_nil (nx_then ?_)
    refine wp_cond_b q50 (fun hc => ?_) (fun hc => ?_)
    ·
     replace h := Comp.run_b_t hc h; clear hc
     refine' regionT [_] hA (.cons ?z10_0 .nil) ?zok10 ?zgd10 ?zk10
     case z10_0 => intro a' w' hE hK hg; exact ok_move (kn (hK 7 rfl) rfl q7)
     case zok10 => kernel_rfl
     case zgd10 => kernel_rfl
     intro a45 w45 hA' hE HF
     replace q0 := kn (HF 0) rfl q0
     replace q1 := kn (HF 1) rfl q1
     replace q6 := kn (HF 6) rfl q6
     replace q7 := kn (HF 7) rfl q7
     replace q8 := kn (HF 8) rfl q8
     have q51 := ksv (HF 51) rfl rfl rfl
     clear q9
     clear q50
     clear hA HF; have hA := hA'; clear hA'
     replace h_0 := GR.v_ext _ h_0 hE
     replace h_1 := GR.v_ext _ h_1 hE
     replace f5 := f5.ext hE
     replace f52 := f52.ext hE
     replace f54 := GR.v_ext _ f54 hE
     replace f61 := f61.ext hE
     replace f45 := f45.ext hE
     replace hB := Base.step hB hE hO; clear hE
     obtain ⟨x62, hx62, h⟩ := Comp.run_bind h
     refine l_pio (r := r_colletref01_Draw) (x := x48.1) hO hB (okB_fr hB) fn74 (map2 q51 rfl) (ok_colletref01_Draw_Next hB.ok (BoxO.arg (show BoxO 2 (Fr w0) O42 w45 b10 108 r_colletref01_Draw x48.1 from ⟨_, f52, ⟨_, _, rfl, (rel_ofF (r := (rSl (rInt .i64))) f54 rfl rfl), ⟨_, _, rfl, rfl, rfl⟩⟩⟩) (by decide)) hx62) ⟨_, f52, ⟨_, _, rfl, (rel_ofF (r := (rSl (rInt .i64))) f54 rfl rfl), ⟨_, _, rfl, rfl, rfl⟩⟩⟩ fun u63 w46 f65 hB' hX f64 => ?_
     clear hB f52; have hB := hB'; clear hB'
     replace h_0 := GR.kx _ h_0 hX (by decide)
     replace h_1 := GR.kx _ h_1 hX (by decide)
     replace f5 := f5.kx hX (by decide)
     replace f54 := GR.kx _ f54 hX (by decide)
     replace f61 := f61.kx hX (by decide)
     clear hX
     have hz_ := f65; clear f65; obtain ⟨cs_, f66, hr_⟩ := hz_
     obtain ⟨u67, e_, f68⟩ := openR_colletref01_Draw hr_; subst e_
     replace f64 : _ = _ := f64; subst f64
     refine put_cont hA (by decide) fun a47 hA' q_ hfr => ?_
     clear hA; have hA := hA'; clear hA'
     replace q0 := (hfr 0 rfl).trans q0
     replace q1 := (hfr 1 rfl).trans q1
     replace q6 := (hfr 6 rfl).trans q6
     replace q7 := (hfr 7 rfl).trans q7
     replace q8 := (hfr 8 rfl).trans q8
     replace q51 := (hfr 51 rfl).trans q51
     have q52 := q_; clear q_ hfr
     refine l_ok (φ := SP.isv (.pointer (some ⟨b37, 4, none⟩))) hO hB (by exact ok_fieldAddr fl26_4 q8) rfl fun u_ w48 hE hB' hv_ => ?_
     replace hv_ := Eq.symm hv_; subst hv_; clear hB; have hB := hB'; clear hB'
     replace h_0 := GR.v_ext _ h_0 hE
     replace h_1 := GR.v_ext _ h_1 hE
     replace f5 := f5.ext hE
     replace f66 := f66.ext hE
     replace f68 := GR.v_ext _ f68 hE
     replace f61 := f61.ext hE
     clear hE
     refine put_cont hA (by decide) fun a49 hA' q_ hfr => ?_
     clear hA; have hA := hA'; clear hA'
     replace q0 := (hfr 0 rfl).trans q0
     replace q1 := (hfr 1 rfl).trans q1
     replace q6 := (hfr 6 rfl).trans q6
     replace q7 := (hfr 7 rfl).trans q7
     replace q8 := (hfr 8 rfl).trans q8
     replace q52 := (hfr 52 rfl).trans q52
     have q53 := q_; clear q_ hfr
     refine l_store1 (cs' := #[.int .i64 ((api_Entry.mk 0 x11.2 1 x18.2 0 [] x32 [] []).Seq), .int .i64 x59, .int .i64 x55, .int .i64 (IntKind.wrap .i64 (x39.Day + (IntKind.wrap .i64 (Int.tdiv ((api_Entry.mk 0 x11.2 1 x18.2 0 [] x32 [] []).Day) 3)))), .int .i64 x62.2, .string (str ((api_Entry.mk 0 x11.2 1 x18.2 0 [] x32 [] []).Before)), .string (str ((api_Entry.mk 0 x11.2 1 x18.2 0 [] x32 [] []).After)), .string (str ((api_Entry.mk 0 x11.2 1 x18.2 0 [] x32 [] []).Prev)), .string (str ((api_Entry.mk 0 x11.2 1 x18.2 0 [] x32 [] []).Mark))]) hO hB (okB_fr hB) ty3 q53 q52 rfl rfl f61 (by simp) rfl fun w50 f69 hB' hX => ?_
     clear hB f61; have hB := hB'; clear hB'
     replace h_0 := GR.kx _ h_0 hX (by decide)
     replace h_1 := GR.kx _ h_1 hX (by decide)
     replace f5 := f5.kx hX (by decide)
     replace f66 := f66.kx hX (by decide)
     replace f68 := GR.kx _ f68 hX (by decide)
     clear hX
     refine li_nil (nx_then ?_)
     exact ⟨_, _, _, _, _, _, _, _, _, _, _, _, _, hA, hB, q0, h_0, q1, h_1, q6, q7, q8, f66, f68, f69, f5, h⟩
    ·
     replace h := Comp.run_b_f hc h; clear hc
     refine' regionT [SP.isv (.pointer (some ⟨b44, 6, none⟩)), SP.isv (.string (str x39.After)), SP.isv (.pointer (some ⟨b37, 6, none⟩))] hA (.cons ?z11_0 (.cons ?z11_1 (.cons ?z11_2 .nil))) ?zok11 ?zgd11 ?zk11
     case z11_0 => intro a' w' hE hK hg; exact ok_fieldAddr fl26_6 (kn (hK 9 rfl) rfl q9)
     case z11_1 => intro a' w' hE hK hg; exact ok_loadOwn ty9 rfl (ksv (j := 0) (hK 54 rfl) rfl rfl rfl) (OwnB.ext f45 hE).own rfl
     case z11_2 => intro a' w' hE hK hg; exact ok_fieldAddr fl26_6 (kn (hK 8 rfl) rfl q8)
     case zok11 => kernel_rfl
     case zgd11 => kernel_rfl
     intro a51 w51 hA' hE HF
     replace q0 := kn (HF 0) rfl q0
     replace q1 := kn (HF 1) rfl q1
     replace q6 := kn (HF 6) rfl q6
     replace q7 := kn (HF 7) rfl q7
     replace q8 := kn (HF 8) rfl q8
     have q55 := ksv (HF 55) rfl rfl rfl
     have q56 := ksv (HF 56) rfl rfl rfl
     clear q9
     clear q50
     clear hA HF; have hA := hA'; clear hA'
     replace h_0 := GR.v_ext _ h_0 hE
     replace h_1 := GR.v_ext _ h_1 hE
     replace f5 := f5.ext hE
     replace f52 := f52.ext hE
     replace f54 := GR.v_ext _ f54 hE
     replace f61 := f61.ext hE
     replace f45 := f45.ext hE
     replace hB := Base.step hB hE hO; clear hE
     refine l_store1 (cs' := #[.int .i64 ((api_Entry.mk 0 x11.2 1 x18.2 0 [] x32 [] []).Seq), .int .i64 x59, .int .i64 x55, .int .i64 (IntKind.wrap .i64 (x39.Day + (IntKind.wrap .i64 (Int.tdiv ((api_Entry.mk 0 x11.2 1 x18.2 0 [] x32 [] []).Day) 3)))), .int .i64 ((api_Entry.mk 0 x11.2 1 x18.2 0 [] x32 [] []).N), .string (str ((api_Entry.mk 0 x11.2 1 x18.2 0 [] x32 [] []).Before)), .string (str x39.After), .string (str ((api_Entry.mk 0 x11.2 1 x18.2 0 [] x32 [] []).Prev)), .string (str ((api_Entry.mk 0 x11.2 1 x18.2 0 [] x32 [] []).Mark))]) hO hB (okB_fr hB) ty9 q56 q55 rfl rfl f61 (by simp) rfl fun w52 f83 hB' hX => ?_
     clear hB f61; have hB := hB'; clear hB'
     replace h_0 := GR.kx _ h_0 hX (by decide)
     replace h_1 := GR.kx _ h_1 hX (by decide)
     replace f5 := f5.kx hX (by decide)
     replace f52 := f52.kx hX (by decide)
     replace f54 := GR.kx _ f54 hX (by decide)
     clear hX
     refine li_nil (nx_then ?_)
     exact ⟨_, _, _, _, _, _, _, _, _, _, _, _, _, hA, hB, q0, h_0, q1, h_1, q6, q7, q8, f52, f54, f83, f5, h⟩
   intro a53 w53 hI
   clear hA hB h q0 q1 q6 q7 q8 q9 f45 f5 f52 f54 f61 h_0 h_1
   obtain ⟨O84, x70, x73, x74, x75, x76, x77, x78, x79, x80, x81, x82, u71, hA, hB, q0, h_0, q1, h_1, q6, q7, q8, f66, f72, f69, f5, h⟩ := hI
   unfold colletref37_Step_j2 at h
   refine wp_seq ?_
   refine' region [SP.isv (.pointer (some ⟨b37, 2, none⟩)), SP.isv (.int .i64 x76), _] mixed hA (.cons ?z12_0 (.cons ?z12_1 (.cons ?z12_2 .nil))) ?zok12 ?zgd12 ?zk12
   case z12_0 => intro a' w' hE hK hg; exact ok_fieldAddr fl26_2 (kn (hK 8 rfl) rfl q8)
   case z12_1 => intro a' w' hE hK hg; exact ok_loadOwn ty3 rfl (ksv (j := 0) (hK 57 rfl) rfl rfl rfl) (OwnB.ext f69 hE).own rfl
   case z12_2 => intro a' w' hE hK hg; exact ok_eqlI (ksv (j := 1) (hK 58 rfl) rfl rfl rfl) rfl
   case zok12 => kernel_rfl
   case zgd12 => kernel_rfl
   intro a54 w54 hA' hE HF
   replace q0 := kn (HF 0) rfl q0
   replace q1 := kn (HF 1) rfl q1
   replace q6 := kn (HF 6) rfl q6
   replace q7 := kn (HF 7) rfl q7
   replace q8 := kn (HF 8) rfl q8
   have q59 := ksv (HF 59) rfl rfl rfl
   clear hA HF; have hA := hA'; clear hA'
   replace h_0 := GR.v_ext _ h_0 hE
   replace h_1 := GR.v_ext _ h_1 hE
   replace f5 := f5.ext hE
   replace f66 := f66.ext hE
   replace f72 := GR.v_ext _ f72 hE
   replace f69 := f69.ext hE
   replace hB := Base.step hB hE hO; clear hE
   refine li_nil (nx_then ?_)
   refine wp_cond_b q59 (fun hc => ?_) (fun hc => ?_)
   ·
    replace h := Comp.run_b_t hc h; clear hc
    refine' regionT [_, _, _] hA (.cons ?z13_0 (.cons ?z13_1 (.cons ?z13_2 .nil))) ?zok13 ?zgd13 ?zk13
    case z13_0 => intro a' w' hE hK hg; exact ok_move (kn (hK 7 rfl) rfl q7)
    case z13_1 => intro a' w' hE hK hg; exact ok_move (kn (hK 0 rfl) rfl q0)
    case z13_2 => intro a' w' hE hK hg; exact okl_len (r := rStr) ty28 (ksv (j := 1) (hK 61 rfl) rfl rfl rfl) (rd_of (GR.v_ext _ h_0 hE))
    case zok13 => kernel_rfl
    case zgd13 => kernel_rfl
    intro a55 w55 hA' hE HF
    replace q0 := kn (HF 0) rfl q0
    replace q1 := kn (HF 1) rfl q1
    replace q6 := kn (HF 6) rfl q6
    replace q8 := kn (HF 8) rfl q8
    have q60 := ksv (HF 60) rfl rfl rfl
    have q62 := ksv (HF 62) rfl rfl rfl
    clear q7
    clear q59
    clear hA HF; have hA := hA'; clear hA'
    replace h_0 := GR.v_ext _ h_0 hE
    replace h_1 := GR.v_ext _ h_1 hE
    replace f5 := f5.ext hE
    replace f66 := f66.ext hE
    replace f72 := GR.v_ext _ f72 hE
    replace f69 := f69.ext hE
    replace hB := Base.step hB hE hO; clear hE
    obtain ⟨x85, hx85, h⟩ := Comp.run_bind h
    refine l_pio (r := r_colletref01_Draw) (x := (colletref01_Draw.mk x70 x73)) hO hB (okB_fr hB) fn74 (map2 q60 q62) (ok_colletref01_Draw_Next hB.ok (BoxO.arg (show BoxO 2 (Fr w0) O84 w55 b10 108 r_colletref01_Draw (colletref01_Draw.mk x70 x73) from ⟨_, f66, ⟨_, _, rfl, (rel_ofF (r := (rSl (rInt .i64))) f72 rfl rfl), ⟨_, _, rfl, rfl, rfl⟩⟩⟩) (by decide)) hx85) ⟨_, f66, ⟨_, _, rfl, (rel_ofF (r := (rSl (rInt .i64))) f72 rfl rfl), ⟨_, _, rfl, rfl, rfl⟩⟩⟩ fun u86 w56 f88 hB' hX f87 => ?_
    clear hB f66; have hB := hB'; clear hB'
    replace h_0 := GR.kx _ h_0 hX (by decide)
    replace h_1 := GR.kx _ h_1 hX (by decide)
    replace f5 := f5.kx hX (by decide)
    replace f72 := GR.kx _ f72 hX (by decide)
    replace f69 := f69.kx hX (by decide)
    clear hX
    have hz_ := f88; clear f88; obtain ⟨cs_, f89, hr_⟩ := hz_
    obtain ⟨u90, e_, f91⟩ := openR_colletref01_Draw hr_; subst e_
    replace f87 : _ = _ := f87; subst f87
    refine put_cont hA (by decide) fun a57 hA' q_ hfr => ?_
    clear hA; have hA := hA'; clear hA'
    replace q0 := (hfr 0 rfl).trans q0
    replace q1 := (hfr 1 rfl).trans q1
    replace q6 := (hfr 6 rfl).trans q6
    replace q8 := (hfr 8 rfl).trans q8
    replace q60 := (hfr 60 rfl).trans q60
    replace q62 := (hfr 62 rfl).trans q62
    have q63 := q_; clear q_ hfr
    refine l_ok (φ := SP.isv (.pointer (some ⟨b37, 4, none⟩))) hO hB (by exact ok_fieldAddr fl26_4 q8) rfl fun u_ w58 hE hB' hv_ => ?_
    replace hv_ := Eq.symm hv_; subst hv_; clear hB; have hB := hB'; clear hB'
    replace h_0 := GR.v_ext _ h_0 hE
    replace h_1 := GR.v_ext _ h_1 hE
    replace f5 := f5.ext hE
    replace f69 := f69.ext hE
    clear hE
    refine put_cont hA (by decide) fun a59 hA' q_ hfr => ?_
    clear hA; have hA := hA'; clear hA'
    replace q0 := (hfr 0 rfl).trans q0
    replace q1 := (hfr 1 rfl).trans q1
    replace q6 := (hfr 6 rfl).trans q6
    replace q8 := (hfr 8 rfl).trans q8
    replace q63 := (hfr 63 rfl).trans q63
    have q64 := q_; clear q_ hfr
    refine l_store1 (cs' := #[.int .i64 x74, .int .i64 x75, .int .i64 x76, .int .i64 x77, .int .i64 x85.2, .string (str x79), .string (str x80), .string (str x81), .string (str x82)]) hO hB (okB_fr hB) ty3 q64 q63 rfl rfl f69 (by simp) rfl fun w60 f92 hB' hX => ?_
    clear hB f69; have hB := hB'; clear hB'
    replace h_0 := GR.kx _ h_0 hX (by decide)
    replace h_1 := GR.kx _ h_1 hX (by decide)
    replace f5 := f5.kx hX (by decide)
    clear hX
    refine li_nil (nx_then ?_)
    exact ⟨_, _, _, _, _, _, _, _, _, _, hA, hB, q0, h_0, q1, h_1, q6, q8, f92, f5, h⟩
   ·
    replace h := Comp.run_b_f hc h; clear hc
    refine wp_skip (nx_then ?_)
    exact ⟨_, _, _, _, _, _, _, _, _, _, hA, hB, q0, h_0, q1, h_1, q6, q8, f69, f5, h⟩
  ·
   replace h := Comp.run_b_f hc h; clear hc
   refine wp_skip (nx_then ?_)
   exact ⟨_, _, _, _, _, _, _, _, _, _, hA, hB, q0, h_0, q1, h_1, q6, q8, f38, f5, h⟩
 intro a61 w61 hI
 clear hA hB h q0 q1 q6 q7 q8 f29 f31 f38 f5 h_0 h_1
 obtain ⟨O102, x93, x94, x95, x96, x97, x98, x99, x100, x101, hA, hB, q0, h_0, q1, h_1, q6, q8, f92, f5, h⟩ := hI
 unfold colletref37_Step_j1 at h
 refine wp_seq ?_
 obtain ⟨x103, hx103, h⟩ := Comp.run_bind h
 obtain ⟨x104, hx104, h⟩ := Comp.run_bind h
 obtain ⟨x105, hx105, h⟩ := Comp.run_bind h
 refine' region [_, SP.isv (.pointer (some ⟨b37, 1, none⟩)), SP.isv (.int .i64 x94), SP.ptr rStr O102 x103, SP.isv (.string (str x103)), _, SP.isv (.agg #[.int .i64 x93, .int .i64 x94, .int .i64 x95, .int .i64 x96, .int .i64 x97, .string (str x98), .string (str x99), .string (str x100), .string (str x101)]), SP.isv (.agg #[.int .i64 x104.Seq, .int .i64 x104.Shop, .int .i64 x104.Kind, .int .i64 x104.Day, .int .i64 x104.N, .string (str x104.Before), .string (str x104.After), .string (str x104.Prev), .string (str x104.Mark)]), SP.isv (.agg #[.int .i64 x105.Seq, .int .i64 x105.Shop, .int .i64 x105.Kind, .int .i64 x105.Day, .int .i64 x105.N, .string (str x105.Before), .string (str x105.After), .string (str x105.Prev), .string (str x105.Mark)])] mixed hA (.cons ?z14_0 (.cons ?z14_1 (.cons ?z14_2 (.cons ?z14_3 (.cons ?z14_4 (.cons ?z14_5 (.cons ?z14_6 (.cons ?z14_7 (.cons ?z14_8 .nil))))))))) ?zok14 ?zgd14 ?zk14
 case z14_0 => intro a' w' hE hK hg; exact ok_move (kn (hK 0 rfl) rfl q0)
 case z14_1 => intro a' w' hE hK hg; exact ok_fieldAddr fl26_1 (kn (hK 8 rfl) rfl q8)
 case z14_2 => intro a' w' hE hK hg; exact ok_loadOwn ty3 rfl (ksv (j := 1) (hK 66 rfl) rfl rfl rfl) (OwnB.ext f92 hE).own rfl
 case z14_3 => intro a' w' hE hK hg; exact okl_idx (r := rStr) (O := O102) ty28 ty9 rfl (ksv (j := 0) (hK 65 rfl) rfl rfl rfl) (rd_of (GR.v_ext _ h_0 hE)) (ksv (j := 2) (hK 67 rfl) rfl rfl rfl) hx103
 case z14_4 => intro a' w' hE hK hg; exact okl_ldr rStr (fun _ => rfl) ty9 rfl rfl rfl (kspS (φ := SP.ptr rStr O102 x103) (j := 3) (hK 68 rfl) rfl rfl rfl) (fun _ _ _ h => rStr_v.1 h)
 case z14_5 => intro a' w' hE hK hg; exact ok_move (kn (hK 1 rfl) rfl q1)
 case z14_6 => intro a' w' hE hK hg; exact ok_loadOwnAgg ty26 rfl (kn (hK 8 rfl) rfl q8) (OwnB.ext f92 hE).own rfl
 case z14_7 => intro a' w' hE hK hg; have c_ := ok_colletref37_Next (OkO.ext hB.ok hE) (GR.v_ext _ h_1 hE) hx104; exact ok_call2 fn22 (ksv (j := 5) (hK 70 rfl) rfl rfl rfl) (ksv (j := 6) (hK 71 rfl) rfl rfl rfl) c_
 case z14_8 => intro a' w' hE hK hg; have c_ := ok_colletref37_Sign (OkO.ext hB.ok hE)  hx105; exact ok_call2 fn20 (ksv (j := 4) (hK 69 rfl) rfl rfl rfl) (ksv (j := 7) (hK 72 rfl) rfl rfl rfl) c_
 case zok14 => kernel_rfl
 case zgd14 => kernel_rfl
 intro a62 w62 hA' hE HF
 replace q6 := kn (HF 6) rfl q6
 have q73 := ksv (HF 73) rfl rfl rfl
 clear q0
 clear q1
 clear q8
 clear hA HF; have hA := hA'; clear hA'
 replace h_0 := GR.v_ext _ h_0 hE
 replace h_1 := GR.v_ext _ h_1 hE
 replace f5 := f5.ext hE
 replace f92 := f92.ext hE
 replace hB := Base.step hB hE hO; clear hE
 refine l_storeSub (vs := [.int .i64 x105.Seq, .int .i64 x105.Shop, .int .i64 x105.Kind, .int .i64 x105.Day, .int .i64 x105.N, .string (str x105.Before), .string (str x105.After), .string (str x105.Prev), .string (str x105.Mark)]) (cs' := #[.int .i64 x105.Seq, .int .i64 x105.Shop, .int .i64 x105.Kind, .int .i64 x105.Day, .int .i64 x105.N, .string (str x105.Before), .string (str x105.After), .string (str x105.Prev), .string (str x105.Mark)]) hO hB (okB_fr hB) ty26 q6 q73 rfl (by simp [Value.oneCell']) f5 (by simp) rfl fun w63 f106 hB' hX => ?_
 clear hB f5; have hB := hB'; clear hB'
 clear hX
 refine li_nil (nx_then (wp_ret ?_))
 have h := Comp.run_pure h; subst h
 exact retG1 Try.results36 hA (.agg q6 ty26 rfl rfl f106.own) ⟨_, rfl, hB.ext, rfl⟩
end Go.Proofs.Ytkbipbfncbopnaa
end
