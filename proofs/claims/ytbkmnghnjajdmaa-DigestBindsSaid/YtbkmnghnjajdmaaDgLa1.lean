/- The lifting of the program's functions, further part (printed by wip/lift). No statement of the program stands here. -/
import Derived.Test.YtbkmnghnjajdmaaDgLa
namespace Go.Proofs.Ytbkmnghnjajdmaa.Lf
open Go Go.RowKit Go.Eng Go.Lift Go.F
set_option linter.unusedVariables false
set_option linter.unusedSimpArgs false
set_option maxRecDepth 100000
theorem ok_colletlaw02_DigestBinds {O : Tags} {w0 : World} (hO : OkO O w0) {v_0 : Value} {x_0 : List Bytes} (h_0 : (rSl rStr).v O w0 v_0 x_0) {x_1 : Int} {x_2 : colletlaw02_Change} {n : Nat} {y : Bool} (h : (colletlaw02_DigestBinds x_0 x_1 x_2).run n = some y) : Pure Try.prog 8 #[v_0, .int .u8 x_1, .agg #[.int .u8 x_2.At, .int .u8 x_2.Byte, .string (str x_2.Tail)]] w0 (SP.isv (.bool y)).holds := by
  unfold colletlaw02_DigestBinds at h
  refine pure_of_wp Try.func8 rfl 181 Try.ntmps8 (by simp) fun a0 hA hs0 => ?_
  have q0 := hs0 0 _ rfl
  have q1 := hs0 1 _ rfl
  have q2 := hs0 2 _ rfl
  clear hs0
  have hB : Base (Fr w0) O w0 O w0 := Base.start hO
  refine wp_seq ?_
  refine' region [SP.vl (rBox r_colletlaw02_Change) O x_2, _] mixed hA (.cons ?z1_0 (.cons ?z1_1 .nil)) ?zok1 ?zgd1 ?zk1
  case z1_0 => intro a' w' hE hK hg; exact okl_boxV (r := r_colletlaw02_Change) fit_colletlaw02_Change (OkO.ext hB.ok hE) (kn (hK 2 rfl) rfl q2) (by first | exact rInt_v.2 rfl | exact rBool_v.2 rfl | exact rStr_v.2 rfl | exact rC_v.2 rfl | exact ⟨_, rfl, rfl⟩)
  case z1_1 => intro a' w' hE hK hg; exact ok_assign rfl
  case zok1 => kernel_rfl
  case zgd1 => kernel_rfl
  intro a1 w1 hA' hE HF
  replace q0 := kn (HF 0) rfl q0
  replace q1 := kn (HF 1) rfl q1
  have f2 := ksp (HF 5) rfl rfl rfl
  obtain ⟨u1, q5'⟩ : ∃ u, a1.get 5 = u := ⟨_, rfl⟩
  rw [q5'] at f2
  have q5 := q5'; clear q5'
  clear q2
  clear hA HF; have hA := hA'; clear hA'
  replace h_0 := GR.v_ext _ h_0 hE
  replace hB := Base.step hB hE hO; clear hE
  refine (li_nil ?_)
  refine (nx_then ?_)
  refine wp_seq ?_
  obtain ⟨x3, hx3, h⟩ := Comp.run_bind h
  refine' region [SP.isv (.bool x3), _] mixed hA (.cons ?z2_0 (.cons ?z2_1 .nil)) ?zok2 ?zgd2 ?zk2
  case z2_0 => intro a' w' hE hK hg; have c_ := ok_colletlaw02_sanity (OkO.ext hB.ok hE)  hx3; exact ok_call0 fn9  c_
  case z2_1 => intro a' w' hE hK hg; exact ok_assign (ksv (j := 0) (hK 18 rfl) rfl rfl rfl)
  case zok2 => kernel_rfl
  case zgd2 => kernel_rfl
  intro a2 w2 hA' hE HF
  replace q0 := kn (HF 0) rfl q0
  replace q1 := kn (HF 1) rfl q1
  replace q5 := kn (HF 5) rfl q5
  have q7 := ksv (HF 7) rfl rfl rfl
  clear hA HF; have hA := hA'; clear hA'
  replace h_0 := GR.v_ext _ h_0 hE
  replace f2 := GR.v_ext _ f2 hE
  replace hB := Base.step hB hE hO; clear hE
  refine (li_nil ?_)
  refine (nx_then ?_)
  refine wp_seq ?_
  obtain ⟨x4, hx4, h⟩ := Comp.run_bind h
  refine' region [_, SP.vl (rSl rStr) O x4, SP.vl (rSl rStr) O x4] mixed hA (.cons ?z3_0 (.cons ?z3_1 (.cons ?z3_2 .nil))) ?zok3 ?zgd3 ?zk3
  case z3_0 => intro a' w' hE hK hg; exact ok_move (kn (hK 0 rfl) rfl q0)
  case z3_1 => intro a' w' hE hK hg; have c_ := ok_colletlaw02_list (OkO.ext hB.ok hE) (GR.v_ext _ h_0 hE) hx4; exact ok_weak (ok_call1 fn20 (ksv (j := 0) (hK 19 rfl) rfl rfl rfl) c_) (fun _ _ _ h => (OwnR.val h (fun g hg => (OkO.ext hB.ok hE) g (OwnR.ge h g hg).1)))
  case z3_2 => intro a' w' hE hK hg; exact ok_assign_pr (φ := SP.vl (rSl rStr) O x4) (kspS (φ := SP.vl (rSl rStr) O x4) (j := 1) (hK 20 rfl) rfl rfl rfl)
  case zok3 => kernel_rfl
  case zgd3 => kernel_rfl
  intro a3 w3 hA' hE HF
  have f6 := ksp (HF 0) rfl rfl rfl
  obtain ⟨u5, q0'⟩ : ∃ u, a3.get 0 = u := ⟨_, rfl⟩
  rw [q0'] at f6
  replace q0 := q0'; clear q0'
  replace q1 := kn (HF 1) rfl q1
  replace q5 := kn (HF 5) rfl q5
  replace q7 := kn (HF 7) rfl q7
  clear hA HF; have hA := hA'; clear hA'
  replace h_0 := GR.v_ext _ h_0 hE
  replace f2 := GR.v_ext _ f2 hE
  replace hB := Base.step hB hE hO; clear hE
  refine (li_nil ?_)
  refine (nx_then ?_)
  refine wp_seq ?_
  obtain ⟨x7, hx7, h⟩ := Comp.run_bind h
  refine' region [_, _, _, _, SP.vl (rSl rStr) O x7, SP.vl (rSl rStr) O x7] mixed hA (.cons ?z4_0 (.cons ?z4_1 (.cons ?z4_2 (.cons ?z4_3 (.cons ?z4_4 (.cons ?z4_5 .nil)))))) ?zok4 ?zgd4 ?zk4
  case z4_0 => intro a' w' hE hK hg; exact ok_move (kn (hK 0 rfl) rfl q0)
  case z4_1 => intro a' w' hE hK hg; exact ok_move (kn (hK 0 rfl) rfl q0)
  case z4_2 => intro a' w' hE hK hg; exact okl_len (r := rStr) ty29 (ksv (j := 1) (hK 22 rfl) rfl rfl rfl) (rd_of (GR.v_ext _ f6 hE))
  case z4_3 => intro a' w' hE hK hg; exact ok_min (ksv (j := 2) (hK 23 rfl) rfl rfl rfl) rfl
  case z4_4 => intro a' w' hE hK hg; exact okl_slice_h (r := rStr) ty29 ty9 rfl (ksv (j := 0) (hK 21 rfl) rfl rfl rfl) (GR.v_ext _ f6 hE) (ksv (j := 3) (hK 24 rfl) rfl rfl rfl) hx7
  case z4_5 => intro a' w' hE hK hg; exact ok_assign_pr (φ := SP.vl (rSl rStr) O x7) (kspS (φ := SP.vl (rSl rStr) O x7) (j := 4) (hK 25 rfl) rfl rfl rfl)
  case zok4 => kernel_rfl
  case zgd4 => kernel_rfl
  intro a4 w4 hA' hE HF
  have f9 := ksp (HF 0) rfl rfl rfl
  obtain ⟨u8, q0'⟩ : ∃ u, a4.get 0 = u := ⟨_, rfl⟩
  rw [q0'] at f9
  replace q0 := q0'; clear q0'
  replace q1 := kn (HF 1) rfl q1
  replace q5 := kn (HF 5) rfl q5
  replace q7 := kn (HF 7) rfl q7
  clear hA HF; have hA := hA'; clear hA'
  replace f6 := GR.v_ext _ f6 hE
  replace f2 := GR.v_ext _ f2 hE
  replace hB := Base.step hB hE hO; clear hE
  refine (li_nil ?_)
  refine (nx_then ?_)
  refine wp_seq ?_
  refine wp_seq ?_
  refine' region [_, _, _] mixed hA (.cons ?z5_0 (.cons ?z5_1 (.cons ?z5_2 .nil))) ?zok5 ?zgd5 ?zk5
  case z5_0 => intro a' w' hE hK hg; exact ok_move (kn (hK 0 rfl) rfl q0)
  case z5_1 => intro a' w' hE hK hg; exact okl_len (r := rStr) ty29 (ksv (j := 0) (hK 26 rfl) rfl rfl rfl) (rd_of (GR.v_ext _ f9 hE))
  case z5_2 => intro a' w' hE hK hg; exact ok_eqlI (ksv (j := 1) (hK 27 rfl) rfl rfl rfl) rfl
  case zok5 => kernel_rfl
  case zgd5 => kernel_rfl
  intro a5 w5 hA' hE HF
  replace q0 := kn (HF 0) rfl q0
  replace q1 := kn (HF 1) rfl q1
  replace q5 := kn (HF 5) rfl q5
  replace q7 := kn (HF 7) rfl q7
  have q28 := ksv (HF 28) rfl rfl rfl
  clear hA HF; have hA := hA'; clear hA'
  replace f9 := GR.v_ext _ f9 hE
  replace f2 := GR.v_ext _ f2 hE
  replace hB := Base.step hB hE hO; clear hE
  refine (li_nil ?_)
  refine (nx_then ?_)
  refine wp_cond_b q28 (fun hc => ?_) (fun hc => ?_)
  ·
    replace h := Comp.run_b_t hc h; clear hc
    refine wp_seq ?_
    refine' region [_, _] mixed hA (.cons ?z6_0 (.cons ?z6_1 .nil)) ?zok6 ?zgd6 ?zk6
    case z6_0 => intro a' w' hE hK hg; exact ok_move (kn (hK 7 rfl) rfl q7)
    case z6_1 => intro a' w' hE hK hg; exact ok_assign (ksv (j := 0) (hK 29 rfl) rfl rfl rfl)
    case zok6 => kernel_rfl
    case zgd6 => kernel_rfl
    intro a6 w6 hA' hE HF
    have q6 := ksv (HF 6) rfl rfl rfl
    clear q0
    clear q1
    clear q5
    clear q7
    clear q28
    clear hA HF; have hA := hA'; clear hA'
    replace f9 := GR.v_ext _ f9 hE
    replace f2 := GR.v_ext _ f2 hE
    replace hB := Base.step hB hE hO; clear hE
    refine (li_nil ?_)
    refine (nx_then ?_)
    refine (wp_ret (rt_then ?_))
    have h := Comp.run_pure h; subst h
    exact retPure Try.results8 hA q6 hB.ext rfl
  ·
    replace h := Comp.run_b_f hc h; clear hc
    refine wp_skip ?_
    refine (nx_then ?_)
    refine wp_seq ?_
    obtain ⟨x10, hx10, h⟩ := Comp.run_bind h
    refine' region [_, _, _, _, SP.isv (.int .i64 x10), _] mixed hA (.cons ?z7_0 (.cons ?z7_1 (.cons ?z7_2 (.cons ?z7_3 (.cons ?z7_4 (.cons ?z7_5 .nil)))))) ?zok7 ?zgd7 ?zk7
    case z7_0 => intro a' w' hE hK hg; exact ok_move (kn (hK 1 rfl) rfl q1)
    case z7_1 => intro a' w' hE hK hg; exact ok_convI ty5 ty3 (ksv (j := 0) (hK 30 rfl) rfl rfl rfl)
    case z7_2 => intro a' w' hE hK hg; exact ok_move (kn (hK 0 rfl) rfl q0)
    case z7_3 => intro a' w' hE hK hg; exact okl_len (r := rStr) ty29 (ksv (j := 2) (hK 32 rfl) rfl rfl rfl) (rd_of (GR.v_ext _ f9 hE))
    case z7_4 => intro a' w' hE hK hg; exact ok_isv (ok_rem (ksv (j := 1) (hK 31 rfl) rfl rfl rfl) (ksv (j := 3) (hK 33 rfl) rfl rfl rfl) (run_rem hx10).1) (congrArg _ (run_rem hx10).2)
    case z7_5 => intro a' w' hE hK hg; exact ok_assign (ksv (j := 4) (hK 34 rfl) rfl rfl rfl)
    case zok7 => kernel_rfl
    case zgd7 => kernel_rfl
    intro a7 w7 hA' hE HF
    replace q0 := kn (HF 0) rfl q0
    replace q5 := kn (HF 5) rfl q5
    replace q7 := kn (HF 7) rfl q7
    have q8 := ksv (HF 8) rfl rfl rfl
    clear q1
    clear q28
    clear hA HF; have hA := hA'; clear hA'
    replace f9 := GR.v_ext _ f9 hE
    replace f2 := GR.v_ext _ f2 hE
    replace hB := Base.step hB hE hO; clear hE
    refine (li_nil ?_)
    refine (nx_then ?_)
    refine wp_seq ?_
    refine' regionT [] hA .nil ?zok8 ?zgd8 ?zk8
    case zok8 => kernel_rfl
    case zgd8 => kernel_rfl
    intro a8 w8 hA' hE HF
    replace q0 := kn (HF 0) rfl q0
    replace q5 := kn (HF 5) rfl q5
    replace q7 := kn (HF 7) rfl q7
    replace q8 := kn (HF 8) rfl q8
    clear hA HF; have hA := hA'; clear hA'
    replace f9 := GR.v_ext _ f9 hE
    replace f2 := GR.v_ext _ f2 hE
    replace hB := Base.step hB hE hO; clear hE
    refine l_ok (φ := SP.ownr rStr 9 w8.heap.size O []) hO hB (by exact okl_buildSlice (r := rStr) (fun _ => rfl) rfl hB.ok ty29 ty9 (Nat.le_refl _) parts_nil trivial rfl (by decide)) rfl fun u11 w9 hE hB' f12 => ?_
    clear hB'; obtain ⟨O13, hB', hX, f14⟩ := ownNew hO hB hE f12 rfl 1 (by decide)
    clear hB f12; have hB := hB'; clear hB'
    replace f9 := GR.kx _ f9 hX (by decide)
    replace f2 := GR.kx _ f2 hX (by decide)
    clear hX hE
    refine put_cont hA (by decide) fun a10 hA' q_ hfr => ?_
    clear hA; have hA := hA'; clear hA'
    replace q0 := (hfr 0 rfl).trans q0
    replace q5 := (hfr 5 rfl).trans q5
    replace q7 := (hfr 7 rfl).trans q7
    replace q8 := (hfr 8 rfl).trans q8
    have q35 := q_; clear q_ hfr
    refine l_ok (φ := SP.isv (u8)) hO hB (by exact ok_move q0) rfl fun u_ w11 hE hB' hv_ => ?_
    replace hv_ := Eq.symm hv_; subst hv_; clear hB; have hB := hB'; clear hB'
    replace f9 := GR.v_ext _ f9 hE
    replace f2 := GR.v_ext _ f2 hE
    replace f14 := f14.ext hE
    clear hE
    refine put_cont hA (by decide) fun a12 hA' q_ hfr => ?_
    clear hA; have hA := hA'; clear hA'
    replace q0 := (hfr 0 rfl).trans q0
    replace q5 := (hfr 5 rfl).trans q5
    replace q7 := (hfr 7 rfl).trans q7
    replace q8 := (hfr 8 rfl).trans q8
    replace q35 := (hfr 35 rfl).trans q35
    have q36 := q_; clear q_ hfr
    obtain ⟨x15, hx15, h⟩ := Comp.run_bind h
    refine l_append (r := rStr) (fun _ => rfl) rfl ty29 ty9 rfl (by decide) hO hB (okB_fr hB) q35 f14 q36 (rd_of f9) hx15 (by decide) fun u16 w13 O17 f18 hB' hX => ?_
    clear hB; have hB := hB'; clear hB'
    clear f14
    replace f9 := GR.kx _ f9 hX (by decide)
    replace f2 := GR.kx _ f2 hX (by decide)
    clear hX
    refine put_cont hA (by decide) fun a14 hA' q_ hfr => ?_
    clear hA; have hA := hA'; clear hA'
    replace q0 := (hfr 0 rfl).trans q0
    replace q5 := (hfr 5 rfl).trans q5
    replace q7 := (hfr 7 rfl).trans q7
    replace q8 := (hfr 8 rfl).trans q8
    replace q35 := (hfr 35 rfl).trans q35
    replace q36 := (hfr 36 rfl).trans q36
    have q37 := q_; clear q_ hfr
    refine l_ok (φ := SP.isv (u16)) hO hB (by exact ok_assign q37) rfl fun u_ w15 hE hB' hv_ => ?_
    replace hv_ := Eq.symm hv_; subst hv_; clear hB; have hB := hB'; clear hB'
    replace f9 := GR.v_ext _ f9 hE
    replace f2 := GR.v_ext _ f2 hE
    replace f18 := f18.ext hE
    clear hE
    refine put_cont hA (by decide) fun a16 hA' q_ hfr => ?_
    clear hA; have hA := hA'; clear hA'
    replace q0 := (hfr 0 rfl).trans q0
    replace q5 := (hfr 5 rfl).trans q5
    replace q7 := (hfr 7 rfl).trans q7
    replace q8 := (hfr 8 rfl).trans q8
    replace q37 := (hfr 37 rfl).trans q37
    have q9 := q_; clear q_ hfr
    refine (li_nil ?_)
    refine (nx_then ?_)
    refine wp_seq ?_
    obtain ⟨x19, hx19, h⟩ := Comp.run_bind h
    obtain ⟨x20, hx20, h⟩ := Comp.run_bind h
    obtain ⟨x21, hx21, h⟩ := Comp.run_bind h
    refine' region [_, _, SP.isv (.agg #[.int .u8 x_2.At, .int .u8 x_2.Byte, .string (str x_2.Tail)]), _, _, SP.ptr rStr O17 x19, SP.isv (.string (str x19)), SP.isv (.string (str x20)), SP.elt (u16) (Int.toNat x10 * 1)] mixed hA (.cons ?z9_0 (.cons ?z9_1 (.cons ?z9_2 (.cons ?z9_3 (.cons ?z9_4 (.cons ?z9_5 (.cons ?z9_6 (.cons ?z9_7 (.cons ?z9_8 .nil))))))))) ?zok9 ?zgd9 ?zk9
    case z9_0 => intro a' w' hE hK hg; exact ok_move (kn (hK 9 rfl) rfl q9)
    case z9_1 => intro a' w' hE hK hg; exact ok_move (kn (hK 8 rfl) rfl q8)
    case z9_2 => intro a' w' hE hK hg; exact okl_ldr r_colletlaw02_Change fit_colletlaw02_Change ty23 rfl rfl (kn (hK 5 rfl) rfl q5) (ptr_of_box fit_colletlaw02_Change (GR.v_ext _ f2 hE)) (fun _ _ _ h => rC_v.1 h)
    case z9_3 => intro a' w' hE hK hg; exact ok_move (kn (hK 0 rfl) rfl q0)
    case z9_4 => intro a' w' hE hK hg; exact ok_move (kn (hK 8 rfl) rfl q8)
    case z9_5 => intro a' w' hE hK hg; exact okl_idx (r := rStr) (O := O17) ty29 ty9 rfl (ksv (j := 3) (hK 41 rfl) rfl rfl rfl) (rd_of (GR.v_ext _ f9 hE)) (ksv (j := 4) (hK 42 rfl) rfl rfl rfl) hx19
    case z9_6 => intro a' w' hE hK hg; exact okl_ldr rStr (fun _ => rfl) ty9 rfl rfl rfl (kspS (φ := SP.ptr rStr O17 x19) (j := 5) (hK 43 rfl) rfl rfl rfl) (fun _ _ _ h => rStr_v.1 h)
    case z9_7 => intro a' w' hE hK hg; have c_ := m_chg lChange (OkO.ext hB.ok hE)  hx20; exact ok_call2 fn11 (ksv (j := 2) (hK 40 rfl) rfl rfl rfl) (ksv (j := 6) (hK 44 rfl) rfl rfl rfl) c_
    case z9_8 => intro a' w' hE hK hg; exact okl_idxOwn rfl ty29 ty9 (ksv (j := 0) (hK 38 rfl) rfl rfl rfl) (OwnL.ext f18 hE) (ksv (j := 1) (hK 39 rfl) rfl rfl rfl) (idx_lt hx21)
    case zok9 => kernel_rfl
    case zgd9 => kernel_rfl
    intro a17 w17 hA' hE HF
    replace q0 := kn (HF 0) rfl q0
    replace q7 := kn (HF 7) rfl q7
    replace q8 := kn (HF 8) rfl q8
    replace q9 := kn (HF 9) rfl q9
    have q45 := ksv (HF 45) rfl rfl rfl
    have f23 := ksp (HF 46) rfl rfl rfl
    obtain ⟨u22, q46'⟩ : ∃ u, a17.get 46 = u := ⟨_, rfl⟩
    rw [q46'] at f23
    have q46 := q46'; clear q46'
    clear q5
    clear hA HF; have hA := hA'; clear hA'
    replace f9 := GR.v_ext _ f9 hE
    replace f2 := GR.v_ext _ f2 hE
    replace f18 := f18.ext hE
    replace hB := Base.step hB hE hO; clear hE
    obtain ⟨x25, hx25, h⟩ := Comp.run_bind h
    refine l_storeElt (r := rStr) (fun _ => rfl) rfl hO hB (okB_fr hB) ty9 q46 f23 f18 q45 (by first | exact rInt_v.2 rfl | exact rBool_v.2 rfl | exact rStr_v.2 rfl | exact rC_v.2 rfl | exact ⟨_, rfl, rfl⟩) hx25 (by decide) fun w18 f24 hB' hX => ?_
    clear hB; have hB := hB'; clear hB'
    replace f9 := GR.kx _ f9 hX (by decide)
    clear hX f18
    refine (li_nil ?_)
    refine (nx_then ?_)
    refine wp_seq ?_
    refine' region [_] mixed hA (.cons ?z10_0 .nil) ?zok10 ?zgd10 ?zk10
    case z10_0 => intro a' w' hE hK hg; exact ok_assign rfl
    case zok10 => kernel_rfl
    case zgd10 => kernel_rfl
    intro a19 w19 hA' hE HF
    replace q0 := kn (HF 0) rfl q0
    replace q7 := kn (HF 7) rfl q7
    replace q8 := kn (HF 8) rfl q8
    replace q9 := kn (HF 9) rfl q9
    have q10 := ksv (HF 10) rfl rfl rfl
    clear hA HF; have hA := hA'; clear hA'
    replace f9 := GR.v_ext _ f9 hE
    replace f24 := f24.ext hE
    replace hB := Base.step hB hE hO; clear hE
    refine (li_nil ?_)
    refine (nx_then ?_)
    refine seq_join (fun a w => ∃ (O44 : Tags) (x41 : List Bytes) (u42 : Value), a.fit 181 ∧ Base (Fr w0) O w0 O44 w ∧ a.get 0 = u8 ∧ (rSl rStr).v O44 w u8 x7 ∧ a.get 7 = .bool x3 ∧ a.get 8 = .int .i64 x10 ∧ a.get 9 = u16 ∧ OwnL 1 rStr 9 (Fr w0) O44 w u16 x25 ∧ a.get 10 = u42 ∧ OwnL 2 rStr 9 (Fr w0) O44 w u42 x41 ∧ (colletlaw02_DigestBinds_j1 x7 x10 x25 x3 x41).run n = some y) ?_ ?_
    ·
      refine wp_seq ?_
      refine' region [_, _, _] mixed hA (.cons ?z11_0 (.cons ?z11_1 (.cons ?z11_2 .nil))) ?zok11 ?zgd11 ?zk11
      case z11_0 => intro a' w' hE hK hg; exact ok_move (kn (hK 0 rfl) rfl q0)
      case z11_1 => intro a' w' hE hK hg; exact okl_len (r := rStr) ty29 (ksv (j := 0) (hK 47 rfl) rfl rfl rfl) (rd_of (GR.v_ext _ f9 hE))
      case z11_2 => intro a' w' hE hK hg; exact ok_move rfl
      case zok11 => kernel_rfl
      case zgd11 => kernel_rfl
      intro a20 w20 hA' hE HF
      replace q0 := kn (HF 0) rfl q0
      replace q7 := kn (HF 7) rfl q7
      replace q8 := kn (HF 8) rfl q8
      replace q9 := kn (HF 9) rfl q9
      replace q10 := kn (HF 10) rfl q10
      have q48 := ksv (HF 48) rfl rfl rfl
      have q49 := ksv (HF 49) rfl rfl rfl
      clear hA HF; have hA := hA'; clear hA'
      replace f9 := GR.v_ext _ f9 hE
      replace f24 := f24.ext hE
      replace hB := Base.step hB hE hO; clear hE
      refine (li_nil ?_)
      refine (nx_then ?_)
      refine wp_block ?_
      obtain ⟨e2, he2, hk2⟩ := Comp.run_bind h; clear h
      refine loop_m (fun m a w => ∃ (O30 : Tags) (x26 : List Bytes) (x29 : Int) (u27 : Value), a.fit 181 ∧ Base (Fr w0) O w0 O30 w ∧ a.get 0 = u8 ∧ (rSl rStr).v O30 w u8 x7 ∧ a.get 7 = .bool x3 ∧ a.get 8 = .int .i64 x10 ∧ a.get 9 = u16 ∧ OwnL 1 rStr 9 (Fr w0) O30 w u16 x25 ∧ a.get 10 = u27 ∧ OwnL 2 rStr 9 (Fr w0) O30 w u27 x26 ∧ a.get 48 = .int .i64 (x7.length : Int) ∧ a.get 49 = .int .i64 x29 ∧ Comp.loopN (fun s => colletlaw02_DigestBinds_l2 x7 s.1 s.2) n m (x26, x29) = some e2) (m := n) ?st2 ?_
      case st2 =>
        exact ⟨_, _, _, _, hA, hB, q0, f9, q7, q8, q9, f24, q10, (OwnL.nil _ _ _ _ _ _), q48, q49, Comp.run_loop he2⟩
      intro m_ a21 w21 hI
      clear hA hB he2 q0 q7 q8 q9 q10 q48 q49 f24 f9
      obtain ⟨O30, x26, x29, u27, hA, hB, q0, f9, q7, q8, q9, f24, q10, f28, q48, q49, hl⟩ := hI
      obtain ⟨m2, hlt2, st2, h, hnext2, hdone2⟩ := Comp.loopN_succ hl; clear hl
      replace h : (colletlaw02_DigestBinds_l2 x7 x26 x29).run n = some st2 := h
      unfold colletlaw02_DigestBinds_l2 at h
      refine wp_seq ?_
      refine' region [_] mixed hA (.cons ?z12_0 .nil) ?zok12 ?zgd12 ?zk12
      case z12_0 => intro a' w' hE hK hg; exact ok_lss (kn (hK 49 rfl) rfl q49) (kn (hK 48 rfl) rfl q48)
      case zok12 => kernel_rfl
      case zgd12 => kernel_rfl
      intro a22 w22 hA' hE HF
      replace q0 := kn (HF 0) rfl q0
      replace q7 := kn (HF 7) rfl q7
      replace q8 := kn (HF 8) rfl q8
      replace q9 := kn (HF 9) rfl q9
      replace q10 := kn (HF 10) rfl q10
      replace q48 := kn (HF 48) rfl q48
      replace q49 := kn (HF 49) rfl q49
      have q50 := ksv (HF 50) rfl rfl rfl
      clear hA HF; have hA := hA'; clear hA'
      replace f9 := GR.v_ext _ f9 hE
      replace f24 := f24.ext hE
      replace f28 := f28.ext hE
      replace hB := Base.step hB hE hO; clear hE
      refine (li_nil ?_)
      refine (nx_then ?_)
      refine wp_seq ?_
      refine wp_cond_b q50 (fun hc => ?_) (fun hc => ?_)
      ·
        replace h := Comp.run_b_t hc h; clear hc
        refine wp_skip ?_
        refine (nx_then ?_)
        refine wp_seq ?_
        refine wp_block ?_
        refine wp_seq ?_
        refine' region [_, _] mixed hA (.cons ?z13_0 (.cons ?z13_1 .nil)) ?zok13 ?zgd13 ?zk13
        case z13_0 => intro a' w' hE hK hg; exact ok_move (kn (hK 49 rfl) rfl q49)
        case z13_1 => intro a' w' hE hK hg; exact ok_assign (ksv (j := 0) (hK 51 rfl) rfl rfl rfl)
        case zok13 => kernel_rfl
        case zgd13 => kernel_rfl
        intro a23 w23 hA' hE HF
        replace q0 := kn (HF 0) rfl q0
        replace q7 := kn (HF 7) rfl q7
        replace q8 := kn (HF 8) rfl q8
        replace q9 := kn (HF 9) rfl q9
        replace q10 := kn (HF 10) rfl q10
        have q11 := ksv (HF 11) rfl rfl rfl
        replace q48 := kn (HF 48) rfl q48
        replace q49 := kn (HF 49) rfl q49
        clear q50
        clear hA HF; have hA := hA'; clear hA'
        replace f9 := GR.v_ext _ f9 hE
        replace f24 := f24.ext hE
        replace f28 := f28.ext hE
        replace hB := Base.step hB hE hO; clear hE
        refine (li_nil ?_)
        refine (nx_then ?_)
        obtain ⟨x31, hx31, h⟩ := Comp.run_bind h
        obtain ⟨x32, hx32, h⟩ := Comp.run_bind h
        refine' regionT [_, _, _, SP.ptr rStr O30 x31, SP.isv (.string (str x31)), SP.isv (.string (str x32)), SP.vl (rSl rStr) O30 [x32]] hA (.cons ?z14_0 (.cons ?z14_1 (.cons ?z14_2 (.cons ?z14_3 (.cons ?z14_4 (.cons ?z14_5 (.cons ?z14_6 .nil))))))) ?zok14 ?zgd14 ?zk14
        case z14_0 => intro a' w' hE hK hg; exact ok_move (kn (hK 10 rfl) rfl q10)
        case z14_1 => intro a' w' hE hK hg; exact ok_move (kn (hK 0 rfl) rfl q0)
        case z14_2 => intro a' w' hE hK hg; exact ok_move (kn (hK 11 rfl) rfl q11)
        case z14_3 => intro a' w' hE hK hg; exact okl_idx (r := rStr) (O := O30) ty29 ty9 rfl (ksv (j := 1) (hK 53 rfl) rfl rfl rfl) (rd_of (GR.v_ext _ f9 hE)) (ksv (j := 2) (hK 54 rfl) rfl rfl rfl) hx31
        case z14_4 => intro a' w' hE hK hg; exact okl_ldr rStr (fun _ => rfl) ty9 rfl rfl rfl (kspS (φ := SP.ptr rStr O30 x31) (j := 3) (hK 55 rfl) rfl rfl rfl) (fun _ _ _ h => rStr_v.1 h)
        case z14_5 => intro a' w' hE hK hg; have c_ := ok_digest_Leaf (OkO.ext hB.ok hE)  hx32; exact ok_call1 fn23 (ksv (j := 4) (hK 56 rfl) rfl rfl rfl) c_
        case z14_6 => intro a' w' hE hK hg; exact okl_buildSliceV (r := rStr) (fun _ => rfl) rfl (OkO.ext hB.ok hE) ty29 ty9 (parts_cons (ksv (j := 5) (hK 57 rfl) rfl rfl rfl) parts_nil) ⟨(by first | exact rInt_v.2 rfl | exact rBool_v.2 rfl | exact rStr_v.2 rfl | exact rC_v.2 rfl | exact ⟨_, rfl, rfl⟩), trivial⟩ rfl (by decide)
        case zok14 => kernel_rfl
        case zgd14 => kernel_rfl
        intro a24 w24 hA' hE HF
        replace q0 := kn (HF 0) rfl q0
        replace q7 := kn (HF 7) rfl q7
        replace q8 := kn (HF 8) rfl q8
        replace q9 := kn (HF 9) rfl q9
        replace q10 := kn (HF 10) rfl q10
        replace q48 := kn (HF 48) rfl q48
        replace q49 := kn (HF 49) rfl q49
        have q52 := ksv (HF 52) rfl rfl rfl
        have f34 := ksp (HF 58) rfl rfl rfl
        obtain ⟨u33, q58'⟩ : ∃ u, a24.get 58 = u := ⟨_, rfl⟩
        rw [q58'] at f34
        have q58 := q58'; clear q58'
        clear q11
        clear hA HF; have hA := hA'; clear hA'
        replace f9 := GR.v_ext _ f9 hE
        replace f24 := f24.ext hE
        replace f28 := f28.ext hE
        replace hB := Base.step hB hE hO; clear hE
        obtain ⟨x35, hx35, h⟩ := Comp.run_bind h
        refine l_append (r := rStr) (fun _ => rfl) rfl ty29 ty9 rfl (by decide) hO hB (okB_fr hB) q52 f28 q58 (rd_of f34) hx35 (by decide) fun u36 w25 O37 f38 hB' hX => ?_
        clear hB; have hB := hB'; clear hB'
        clear f28
        replace f9 := GR.kx _ f9 hX (by decide)
        replace f24 := f24.kx hX (by decide) (by decide)
        replace f34 := GR.kx _ f34 hX (by decide)
        clear hX
        refine put_cont hA (by decide) fun a26 hA' q_ hfr => ?_
        clear hA; have hA := hA'; clear hA'
        replace q0 := (hfr 0 rfl).trans q0
        replace q7 := (hfr 7 rfl).trans q7
        replace q8 := (hfr 8 rfl).trans q8
        replace q9 := (hfr 9 rfl).trans q9
        replace q10 := (hfr 10 rfl).trans q10
        replace q48 := (hfr 48 rfl).trans q48
        replace q49 := (hfr 49 rfl).trans q49
        replace q52 := (hfr 52 rfl).trans q52
        replace q58 := (hfr 58 rfl).trans q58
        have q59 := q_; clear q_ hfr
        refine l_ok (φ := SP.isv (u36)) hO hB (by exact ok_assign q59) rfl fun u_ w27 hE hB' hv_ => ?_
        replace hv_ := Eq.symm hv_; subst hv_; clear hB; have hB := hB'; clear hB'
        replace f9 := GR.v_ext _ f9 hE
        replace f24 := f24.ext hE
        replace f38 := f38.ext hE
        clear hE
        refine put_cont hA (by decide) fun a28 hA' q_ hfr => ?_
        clear hA; have hA := hA'; clear hA'
        replace q0 := (hfr 0 rfl).trans q0
        replace q7 := (hfr 7 rfl).trans q7
        replace q8 := (hfr 8 rfl).trans q8
        replace q9 := (hfr 9 rfl).trans q9
        replace q48 := (hfr 48 rfl).trans q48
        replace q49 := (hfr 49 rfl).trans q49
        replace q59 := (hfr 59 rfl).trans q59
        clear q10
        have q10 := q_; clear q_ hfr
        refine (li_nil ?_)
        refine (nx_blk (nx_then ?_))
        refine' region [_, _] mixed hA (.cons ?z15_0 (.cons ?z15_1 .nil)) ?zok15 ?zgd15 ?zk15
        case z15_0 => intro a' w' hE hK hg; exact ok_add (kn (hK 49 rfl) rfl q49) rfl
        case z15_1 => intro a' w' hE hK hg; exact ok_move (ksv (j := 0) (hK 60 rfl) rfl rfl rfl)
        case zok15 => kernel_rfl
        case zgd15 => kernel_rfl
        intro a29 w29 hA' hE HF
        replace q0 := kn (HF 0) rfl q0
        replace q7 := kn (HF 7) rfl q7
        replace q8 := kn (HF 8) rfl q8
        replace q9 := kn (HF 9) rfl q9
        replace q10 := kn (HF 10) rfl q10
        replace q48 := kn (HF 48) rfl q48
        have q49' := ksv (HF 49) rfl rfl rfl
        replace q49 := q49'; clear q49'
        clear hA HF; have hA := hA'; clear hA'
        replace f9 := GR.v_ext _ f9 hE
        replace f24 := f24.ext hE
        replace f38 := f38.ext hE
        replace hB := Base.step hB hE hO; clear hE
        refine (li_nil ?_)
        refine (nx_then ?_)
        have h := hnext2 _ (Comp.run_pure h).symm
        refine ⟨m2, hlt2, ?_⟩
        exact ⟨_, _, _, _, hA, hB, q0, f9, q7, q8, q9, f24, q10, f38, q48, q49, h⟩
      ·
        replace h := Comp.run_b_f hc h; clear hc
        refine wp_exit ?_
        refine (ex_then (ex_then (ex_same ?_)))
        have hd_ := hdone2 _ (Comp.run_pure h).symm; clear h
        subst hd_; have h := hk2; clear hk2; try dsimp only at h
        refine (nx_then ?_)
        exact ⟨_, _, _, hA, hB, q0, f9, q7, q8, q9, f24, q10, f28, h⟩
    intro a30 w30 hI
    clear hA hB h q0 q7 q8 q9 q10 f24 f9
    obtain ⟨O44, x41, u42, hA, hB, q0, f9, q7, q8, q9, f24, q10, f43, h⟩ := hI
    unfold colletlaw02_DigestBinds_j1 at h
    refine seq_join (fun a w => ∃ (O64 : Tags) (x59 : List Bytes) (u60 : Value), a.fit 181 ∧ Base (Fr w0) O w0 O64 w ∧ a.get 0 = u8 ∧ (rSl rStr).v O64 w u8 x7 ∧ a.get 7 = .bool x3 ∧ a.get 8 = .int .i64 x10 ∧ a.get 9 = u16 ∧ OwnL 1 rStr 9 (Fr w0) O64 w u16 x25 ∧ a.get 10 = u60 ∧ (rSl rStr).v O64 w u60 x59 ∧ (colletlaw02_DigestBinds_j3 x7 x10 x25 x3 x59).run n = some y) ?_ ?_
    ·
      refine wp_block ?_
      obtain ⟨e4, he4, hk4⟩ := Comp.run_bind h; clear h
      refine loop_m (fun m a w => ∃ (O48 : Tags) (x45 : List Bytes) (u46 : Value), a.fit 181 ∧ Base (Fr w0) O w0 O48 w ∧ a.get 0 = u8 ∧ (rSl rStr).v O48 w u8 x7 ∧ a.get 7 = .bool x3 ∧ a.get 8 = .int .i64 x10 ∧ a.get 9 = u16 ∧ OwnL 1 rStr 9 (Fr w0) O48 w u16 x25 ∧ a.get 10 = u46 ∧ OwnL 2 rStr 9 (Fr w0) O48 w u46 x45 ∧ Comp.loopN (fun s => colletlaw02_DigestBinds_l4 s) n m x45 = some e4) (m := n) ?st4 ?_
      case st4 =>
        exact ⟨_, _, _, hA, hB, q0, f9, q7, q8, q9, f24, q10, f43, Comp.run_loop he4⟩
      intro m_ a31 w31 hI
      clear hA hB he4 q0 q7 q8 q9 q10 f24 f43 f9
      obtain ⟨O48, x45, u46, hA, hB, q0, f9, q7, q8, q9, f24, q10, f47, hl⟩ := hI
      obtain ⟨m4, hlt4, st4, h, hnext4, hdone4⟩ := Comp.loopN_succ hl; clear hl
      replace h : (colletlaw02_DigestBinds_l4 x45).run n = some st4 := h
      unfold colletlaw02_DigestBinds_l4 at h
      refine wp_seq ?_
      refine wp_seq ?_
      refine' region [_, _, _, _, _, _, _] mixed hA (.cons ?z16_0 (.cons ?z16_1 (.cons ?z16_2 (.cons ?z16_3 (.cons ?z16_4 (.cons ?z16_5 (.cons ?z16_6 .nil))))))) ?zok16 ?zgd16 ?zk16
      case z16_0 => intro a' w' hE hK hg; exact ok_move (kn (hK 10 rfl) rfl q10)
      case z16_1 => intro a' w' hE hK hg; exact okl_len (r := rStr) ty29 (ksv (j := 0) (hK 61 rfl) rfl rfl rfl) (OwnL.rd (OwnL.ext f47 hE))
      case z16_2 => intro a' w' hE hK hg; exact ok_move (kn (hK 10 rfl) rfl q10)
      case z16_3 => intro a' w' hE hK hg; exact okl_len (r := rStr) ty29 (ksv (j := 2) (hK 63 rfl) rfl rfl rfl) (OwnL.rd (OwnL.ext f47 hE))
      case z16_4 => intro a' w' hE hK hg; exact ok_sub (ksv (j := 3) (hK 64 rfl) rfl rfl rfl) rfl
      case z16_5 => intro a' w' hE hK hg; exact okb_and (ksv (j := 1) (hK 62 rfl) rfl rfl rfl) (ksv (j := 4) (hK 65 rfl) rfl rfl rfl)
      case z16_6 => intro a' w' hE hK hg; exact ok_neqI (ksv (j := 5) (hK 66 rfl) rfl rfl rfl) rfl
      case zok16 => kernel_rfl
      case zgd16 => kernel_rfl
      intro a32 w32 hA' hE HF
      replace q0 := kn (HF 0) rfl q0
      replace q7 := kn (HF 7) rfl q7
      replace q8 := kn (HF 8) rfl q8
      replace q9 := kn (HF 9) rfl q9
      replace q10 := kn (HF 10) rfl q10
      have q67 := ksv (HF 67) rfl rfl rfl
      clear hA HF; have hA := hA'; clear hA'
      replace f9 := GR.v_ext _ f9 hE
      replace f24 := f24.ext hE
      replace f47 := f47.ext hE
      replace hB := Base.step hB hE hO; clear hE
      obtain ⟨x49, hx_, h⟩ := Comp.run_bind h; replace hx_ := Comp.run_pure hx_; rw [hx_] at q67; clear hx_
      refine (li_nil ?_)
      refine (nx_then ?_)
      refine wp_cond_b q67 (fun hc => ?_) (fun hc => ?_)
      ·
        replace h := Comp.run_b_t hc h; clear hc
        refine wp_skip ?_
        refine (nx_then ?_)
        refine wp_block ?_
        obtain ⟨x50, hx50, h⟩ := Comp.run_bind h
        refine' regionT [_, SP.isv (.string (str x50)), SP.vl (rSl rStr) O48 [x50]] hA (.cons ?z17_0 (.cons ?z17_1 (.cons ?z17_2 .nil))) ?zok17 ?zgd17 ?zk17
        case z17_0 => intro a' w' hE hK hg; exact ok_move (kn (hK 10 rfl) rfl q10)
        case z17_1 => intro a' w' hE hK hg; have c_ := ok_digest_Missing (OkO.ext hB.ok hE)  hx50; exact ok_call0 fn27  c_
        case z17_2 => intro a' w' hE hK hg; exact okl_buildSliceV (r := rStr) (fun _ => rfl) rfl (OkO.ext hB.ok hE) ty29 ty9 (parts_cons (ksv (j := 1) (hK 69 rfl) rfl rfl rfl) parts_nil) ⟨(by first | exact rInt_v.2 rfl | exact rBool_v.2 rfl | exact rStr_v.2 rfl | exact rC_v.2 rfl | exact ⟨_, rfl, rfl⟩), trivial⟩ rfl (by decide)
        case zok17 => kernel_rfl
        case zgd17 => kernel_rfl
        intro a33 w33 hA' hE HF
        replace q0 := kn (HF 0) rfl q0
        replace q7 := kn (HF 7) rfl q7
        replace q8 := kn (HF 8) rfl q8
        replace q9 := kn (HF 9) rfl q9
        replace q10 := kn (HF 10) rfl q10
        have q68 := ksv (HF 68) rfl rfl rfl
        have f52 := ksp (HF 70) rfl rfl rfl
        obtain ⟨u51, q70'⟩ : ∃ u, a33.get 70 = u := ⟨_, rfl⟩
        rw [q70'] at f52
        have q70 := q70'; clear q70'
        clear q67
        clear hA HF; have hA := hA'; clear hA'
        replace f9 := GR.v_ext _ f9 hE
        replace f24 := f24.ext hE
        replace f47 := f47.ext hE
        replace hB := Base.step hB hE hO; clear hE
        obtain ⟨x53, hx53, h⟩ := Comp.run_bind h
        refine l_append (r := rStr) (fun _ => rfl) rfl ty29 ty9 rfl (by decide) hO hB (okB_fr hB) q68 f47 q70 (rd_of f52) hx53 (by decide) fun u54 w34 O55 f56 hB' hX => ?_
        clear hB; have hB := hB'; clear hB'
        clear f47
        replace f9 := GR.kx _ f9 hX (by decide)
        replace f24 := f24.kx hX (by decide) (by decide)
        replace f52 := GR.kx _ f52 hX (by decide)
        clear hX
        refine put_cont hA (by decide) fun a35 hA' q_ hfr => ?_
        clear hA; have hA := hA'; clear hA'
        replace q0 := (hfr 0 rfl).trans q0
        replace q7 := (hfr 7 rfl).trans q7
        replace q8 := (hfr 8 rfl).trans q8
        replace q9 := (hfr 9 rfl).trans q9
        replace q10 := (hfr 10 rfl).trans q10
        replace q68 := (hfr 68 rfl).trans q68
        replace q70 := (hfr 70 rfl).trans q70
        have q71 := q_; clear q_ hfr
        refine l_ok (φ := SP.isv (u54)) hO hB (by exact ok_assign q71) rfl fun u_ w36 hE hB' hv_ => ?_
        replace hv_ := Eq.symm hv_; subst hv_; clear hB; have hB := hB'; clear hB'
        replace f9 := GR.v_ext _ f9 hE
        replace f24 := f24.ext hE
        replace f56 := f56.ext hE
        clear hE
        refine put_cont hA (by decide) fun a37 hA' q_ hfr => ?_
        clear hA; have hA := hA'; clear hA'
        replace q0 := (hfr 0 rfl).trans q0
        replace q7 := (hfr 7 rfl).trans q7
        replace q8 := (hfr 8 rfl).trans q8
        replace q9 := (hfr 9 rfl).trans q9
        replace q71 := (hfr 71 rfl).trans q71
        clear q10
        have q10 := q_; clear q_ hfr
        refine (li_nil ?_)
        refine (nx_blk (nx_then ?_))
        have h := hnext4 _ (Comp.run_pure h).symm
        refine ⟨m4, hlt4, ?_⟩
        exact ⟨_, _, _, hA, hB, q0, f9, q7, q8, q9, f24, q10, f56, h⟩
      ·
        replace h := Comp.run_b_f hc h; clear hc
        refine wp_exit ?_
        refine (ex_then (ex_then (ex_same ?_)))
        have hd_ := hdone4 _ (Comp.run_pure h).symm; clear h
        subst hd_; have h := hk4; clear hk4; try dsimp only at h
        refine (nx_then ?_)
        obtain ⟨O62, hB', hX, f63⟩ := freezeL hO hB f47 (by decide)
        clear f47 hB; have hB := hB'; clear hB'
        replace f9 := GR.kx _ f9 hX (by decide)
        replace f24 := f24.kx hX (by decide) (by decide)
        clear hX
        exact ⟨_, _, _, hA, hB, q0, f9, q7, q8, q9, f24, q10, f63, h⟩
    intro a38 w38 hI
    clear hA hB h q0 q7 q8 q9 q10 f24 f43 f9
    obtain ⟨O64, x59, u60, hA, hB, q0, f9, q7, q8, q9, f24, q10, f61, h⟩ := hI
    unfold colletlaw02_DigestBinds_j3 at h
    refine wp_seq ?_
    obtain ⟨x65, hx65, h⟩ := Comp.run_bind h
    obtain ⟨x66, hx66, h⟩ := Comp.run_bind h
    obtain ⟨x67, hx67, h⟩ := Comp.run_bind h
    obtain ⟨x68, hx68, h⟩ := Comp.run_bind h
    refine' region [_, _, SP.ptr rStr O64 x65, SP.isv (.string (str x65)), SP.isv (.string (str x66)), _, _, SP.ptr rStr O64 x67, SP.isv (.string (str x67)), SP.isv (.string (str x68)), _, _] mixed hA (.cons ?z18_0 (.cons ?z18_1 (.cons ?z18_2 (.cons ?z18_3 (.cons ?z18_4 (.cons ?z18_5 (.cons ?z18_6 (.cons ?z18_7 (.cons ?z18_8 (.cons ?z18_9 (.cons ?z18_10 (.cons ?z18_11 .nil)))))))))))) ?zok18 ?zgd18 ?zk18
    case z18_0 => intro a' w' hE hK hg; exact ok_move (kn (hK 0 rfl) rfl q0)
    case z18_1 => intro a' w' hE hK hg; exact ok_move (kn (hK 8 rfl) rfl q8)
    case z18_2 => intro a' w' hE hK hg; exact okl_idx (r := rStr) (O := O64) ty29 ty9 rfl (ksv (j := 0) (hK 72 rfl) rfl rfl rfl) (rd_of (GR.v_ext _ f9 hE)) (ksv (j := 1) (hK 73 rfl) rfl rfl rfl) hx65
    case z18_3 => intro a' w' hE hK hg; exact okl_ldr rStr (fun _ => rfl) ty9 rfl rfl rfl (kspS (φ := SP.ptr rStr O64 x65) (j := 2) (hK 74 rfl) rfl rfl rfl) (fun _ _ _ h => rStr_v.1 h)
    case z18_4 => intro a' w' hE hK hg; have c_ := ok_digest_Leaf (OkO.ext hB.ok hE)  hx66; exact ok_call1 fn23 (ksv (j := 3) (hK 75 rfl) rfl rfl rfl) c_
    case z18_5 => intro a' w' hE hK hg; exact ok_move (kn (hK 9 rfl) rfl q9)
    case z18_6 => intro a' w' hE hK hg; exact ok_move (kn (hK 8 rfl) rfl q8)
    case z18_7 => intro a' w' hE hK hg; exact okl_idx (r := rStr) (O := O64) ty29 ty9 rfl (ksv (j := 5) (hK 77 rfl) rfl rfl rfl) (OwnL.rd (OwnL.ext f24 hE)) (ksv (j := 6) (hK 78 rfl) rfl rfl rfl) hx67
    case z18_8 => intro a' w' hE hK hg; exact okl_ldr rStr (fun _ => rfl) ty9 rfl rfl rfl (kspS (φ := SP.ptr rStr O64 x67) (j := 7) (hK 79 rfl) rfl rfl rfl) (fun _ _ _ h => rStr_v.1 h)
    case z18_9 => intro a' w' hE hK hg; have c_ := ok_digest_Leaf (OkO.ext hB.ok hE)  hx68; exact ok_call1 fn23 (ksv (j := 8) (hK 80 rfl) rfl rfl rfl) c_
    case z18_10 => intro a' w' hE hK hg; exact ok_assign (ksv (j := 4) (hK 76 rfl) rfl rfl rfl)
    case z18_11 => intro a' w' hE hK hg; exact ok_assign (ksv (j := 9) (hK 81 rfl) rfl rfl rfl)
    case zok18 => kernel_rfl
    case zgd18 => kernel_rfl
    intro a39 w39 hA' hE HF
    replace q0 := kn (HF 0) rfl q0
    replace q7 := kn (HF 7) rfl q7
    replace q8 := kn (HF 8) rfl q8
    replace q9 := kn (HF 9) rfl q9
    replace q10 := kn (HF 10) rfl q10
    have q12 := ksv (HF 12) rfl rfl rfl
    have q13 := ksv (HF 13) rfl rfl rfl
    clear hA HF; have hA := hA'; clear hA'
    replace f9 := GR.v_ext _ f9 hE
    replace f24 := f24.ext hE
    replace f61 := GR.v_ext _ f61 hE
    replace hB := Base.step hB hE hO; clear hE
    refine (li_nil ?_)
    refine (nx_then ?_)
    refine wp_seq ?_
    refine' region [_, _, _, _] mixed hA (.cons ?z19_0 (.cons ?z19_1 (.cons ?z19_2 (.cons ?z19_3 .nil)))) ?zok19 ?zgd19 ?zk19
    case z19_0 => intro a' w' hE hK hg; exact ok_move (kn (hK 12 rfl) rfl q12)
    case z19_1 => intro a' w' hE hK hg; exact ok_move (kn (hK 13 rfl) rfl q13)
    case z19_2 => intro a' w' hE hK hg; exact okl_eqlS (ksv (j := 0) (hK 82 rfl) rfl rfl rfl) (ksv (j := 1) (hK 83 rfl) rfl rfl rfl)
    case z19_3 => intro a' w' hE hK hg; exact ok_assign (ksv (j := 2) (hK 84 rfl) rfl rfl rfl)
    case zok19 => kernel_rfl
    case zgd19 => kernel_rfl
    intro a40 w40 hA' hE HF
    replace q0 := kn (HF 0) rfl q0
    replace q7 := kn (HF 7) rfl q7
    replace q8 := kn (HF 8) rfl q8
    replace q9 := kn (HF 9) rfl q9
    replace q10 := kn (HF 10) rfl q10
    replace q12 := kn (HF 12) rfl q12
    replace q13 := kn (HF 13) rfl q13
    have q14 := ksv (HF 14) rfl rfl rfl
    clear hA HF; have hA := hA'; clear hA'
    replace f9 := GR.v_ext _ f9 hE
    replace f24 := f24.ext hE
    replace f61 := GR.v_ext _ f61 hE
    replace hB := Base.step hB hE hO; clear hE
    refine (li_nil ?_)
    refine (nx_then ?_)
    refine seq_join (fun a w => ∃ (O121 : Tags) (x118 : Bytes) (x119 : Bytes) (x120 : Bool), a.fit 181 ∧ Base (Fr w0) O w0 O121 w ∧ a.get 0 = u8 ∧ (rSl rStr).v O121 w u8 x7 ∧ a.get 7 = .bool x3 ∧ a.get 8 = .int .i64 x10 ∧ a.get 9 = u16 ∧ OwnL 1 rStr 9 (Fr w0) O121 w u16 x25 ∧ a.get 12 = .string (str x118) ∧ a.get 13 = .string (str x119) ∧ a.get 14 = .bool x120 ∧ (colletlaw02_DigestBinds_j5 x7 x25 x3 x10 x118 x119 x120).run n = some y) ?_ ?_
    ·
      refine wp_seq ?_
      refine' region [_, _] mixed hA (.cons ?z20_0 (.cons ?z20_1 .nil)) ?zok20 ?zgd20 ?zk20
      case z20_0 => intro a' w' hE hK hg; exact ok_move (kn (hK 8 rfl) rfl q8)
      case z20_1 => intro a' w' hE hK hg; exact ok_assign (ksv (j := 0) (hK 85 rfl) rfl rfl rfl)
      case zok20 => kernel_rfl
      case zgd20 => kernel_rfl
      intro a41 w41 hA' hE HF
      replace q0 := kn (HF 0) rfl q0
      replace q7 := kn (HF 7) rfl q7
      replace q8 := kn (HF 8) rfl q8
      replace q9 := kn (HF 9) rfl q9
      replace q10 := kn (HF 10) rfl q10
      replace q12 := kn (HF 12) rfl q12
      replace q13 := kn (HF 13) rfl q13
      replace q14 := kn (HF 14) rfl q14
      have q15 := ksv (HF 15) rfl rfl rfl
      clear hA HF; have hA := hA'; clear hA'
      replace f9 := GR.v_ext _ f9 hE
      replace f24 := f24.ext hE
      replace f61 := GR.v_ext _ f61 hE
      replace hB := Base.step hB hE hO; clear hE
      refine (li_nil ?_)
      refine (nx_then ?_)
      refine wp_block ?_
      obtain ⟨e6, he6, hk6⟩ := Comp.run_bind h; clear h
      refine loop_m (fun m a w => ∃ (O76 : Tags) (x69 : List Bytes) (x72 : Bytes) (x73 : Bytes) (x74 : Bool) (x75 : Int) (u70 : Value), a.fit 181 ∧ Base (Fr w0) O w0 O76 w ∧ a.get 0 = u8 ∧ (rSl rStr).v O76 w u8 x7 ∧ a.get 7 = .bool x3 ∧ a.get 8 = .int .i64 x10 ∧ a.get 9 = u16 ∧ OwnL 1 rStr 9 (Fr w0) O76 w u16 x25 ∧ a.get 10 = u70 ∧ (rSl rStr).v O76 w u70 x69 ∧ a.get 12 = .string (str x72) ∧ a.get 13 = .string (str x73) ∧ a.get 14 = .bool x74 ∧ a.get 15 = .int .i64 x75 ∧ Comp.loopN (fun s => colletlaw02_DigestBinds_l6 s.1 s.2.1 s.2.2.1 s.2.2.2.1 s.2.2.2.2) n m (x69, x72, x73, x74, x75) = some e6) (m := n) ?st6 ?_
      case st6 =>
        exact ⟨_, _, _, _, _, _, _, hA, hB, q0, f9, q7, q8, q9, f24, q10, f61, q12, q13, q14, q15, Comp.run_loop he6⟩
      intro m_ a42 w42 hI
      clear hA hB he6 q0 q7 q8 q9 q10 q12 q13 q14 q15 f24 f61 f9
      obtain ⟨O76, x69, x72, x73, x74, x75, u70, hA, hB, q0, f9, q7, q8, q9, f24, q10, f71, q12, q13, q14, q15, hl⟩ := hI
      obtain ⟨m6, hlt6, st6, h, hnext6, hdone6⟩ := Comp.loopN_succ hl; clear hl
      replace h : (colletlaw02_DigestBinds_l6 x69 x72 x73 x74 x75).run n = some st6 := h
      unfold colletlaw02_DigestBinds_l6 at h
      refine wp_seq ?_
      refine wp_seq ?_
      refine' region [_, _, _] mixed hA (.cons ?z21_0 (.cons ?z21_1 (.cons ?z21_2 .nil))) ?zok21 ?zgd21 ?zk21
      case z21_0 => intro a' w' hE hK hg; exact ok_move (kn (hK 10 rfl) rfl q10)
      case z21_1 => intro a' w' hE hK hg; exact okl_len (r := rStr) ty29 (ksv (j := 0) (hK 86 rfl) rfl rfl rfl) (rd_of (GR.v_ext _ f71 hE))
      case z21_2 => intro a' w' hE hK hg; exact ok_gtr (ksv (j := 1) (hK 87 rfl) rfl rfl rfl) rfl
      case zok21 => kernel_rfl
      case zgd21 => kernel_rfl
      intro a43 w43 hA' hE HF
      replace q0 := kn (HF 0) rfl q0
      replace q7 := kn (HF 7) rfl q7
      replace q8 := kn (HF 8) rfl q8
      replace q9 := kn (HF 9) rfl q9
      replace q10 := kn (HF 10) rfl q10
      replace q12 := kn (HF 12) rfl q12
      replace q13 := kn (HF 13) rfl q13
      replace q14 := kn (HF 14) rfl q14
      replace q15 := kn (HF 15) rfl q15
      have q88 := ksv (HF 88) rfl rfl rfl
      clear hA HF; have hA := hA'; clear hA'
      replace f9 := GR.v_ext _ f9 hE
      replace f24 := f24.ext hE
      replace f71 := GR.v_ext _ f71 hE
      replace hB := Base.step hB hE hO; clear hE
      refine (li_nil ?_)
      refine (nx_then ?_)
      refine wp_cond_b q88 (fun hc => ?_) (fun hc => ?_)
      ·
        replace h := Comp.run_b_t hc h; clear hc
        refine wp_skip ?_
        refine (nx_then ?_)
        refine wp_seq ?_
        refine wp_block ?_
        refine wp_seq ?_
        refine' region [_] mixed hA (.cons ?z22_0 .nil) ?zok22 ?zgd22 ?zk22
        case z22_0 => intro a' w' hE hK hg; exact ok_assign rfl
        case zok22 => kernel_rfl
        case zgd22 => kernel_rfl
        intro a44 w44 hA' hE HF
        replace q0 := kn (HF 0) rfl q0
        replace q7 := kn (HF 7) rfl q7
        replace q8 := kn (HF 8) rfl q8
        replace q9 := kn (HF 9) rfl q9
        replace q10 := kn (HF 10) rfl q10
        replace q12 := kn (HF 12) rfl q12
        replace q13 := kn (HF 13) rfl q13
        replace q14 := kn (HF 14) rfl q14
        replace q15 := kn (HF 15) rfl q15
        have q16 := ksv (HF 16) rfl rfl rfl
        clear q88
        clear hA HF; have hA := hA'; clear hA'
        replace f9 := GR.v_ext _ f9 hE
        replace f24 := f24.ext hE
        replace f71 := GR.v_ext _ f71 hE
        replace hB := Base.step hB hE hO; clear hE
        refine (li_nil ?_)
        refine (nx_then ?_)
        refine seq_join (fun a w => ∃ (O99 : Tags) (x94 : List Bytes) (u95 : Value), a.fit 181 ∧ Base (Fr w0) O w0 O99 w ∧ a.get 0 = u8 ∧ (rSl rStr).v O99 w u8 x7 ∧ a.get 7 = .bool x3 ∧ a.get 8 = .int .i64 x10 ∧ a.get 9 = u16 ∧ OwnL 1 rStr 9 (Fr w0) O99 w u16 x25 ∧ a.get 10 = u70 ∧ (rSl rStr).v O99 w u70 x69 ∧ a.get 12 = .string (str x72) ∧ a.get 13 = .string (str x73) ∧ a.get 14 = .bool x74 ∧ a.get 15 = .int .i64 x75 ∧ a.get 16 = u95 ∧ (rSl rStr).v O99 w u95 x94 ∧ (colletlaw02_DigestBinds_j7 x75 x69 x72 x73 x74 x94).run n = some st6) ?_ ?_
        ·
          refine wp_seq ?_
          refine' region [_] mixed hA (.cons ?z23_0 .nil) ?zok23 ?zgd23 ?zk23
          case z23_0 => intro a' w' hE hK hg; exact ok_assign rfl
          case zok23 => kernel_rfl
          case zgd23 => kernel_rfl
          intro a45 w45 hA' hE HF
          replace q0 := kn (HF 0) rfl q0
          replace q7 := kn (HF 7) rfl q7
          replace q8 := kn (HF 8) rfl q8
          replace q9 := kn (HF 9) rfl q9
          replace q10 := kn (HF 10) rfl q10
          replace q12 := kn (HF 12) rfl q12
          replace q13 := kn (HF 13) rfl q13
          replace q14 := kn (HF 14) rfl q14
          replace q15 := kn (HF 15) rfl q15
          replace q16 := kn (HF 16) rfl q16
          have q17 := ksv (HF 17) rfl rfl rfl
          clear hA HF; have hA := hA'; clear hA'
          replace f9 := GR.v_ext _ f9 hE
          replace f24 := f24.ext hE
          replace f71 := GR.v_ext _ f71 hE
          replace hB := Base.step hB hE hO; clear hE
          refine (li_nil ?_)
          refine (nx_then ?_)
          refine wp_block ?_
          obtain ⟨e8, he8, hk8⟩ := Comp.run_bind h; clear h
          refine loop_m (fun m a w => ∃ (O81 : Tags) (x77 : List Bytes) (x80 : Int) (u78 : Value), a.fit 181 ∧ Base (Fr w0) O w0 O81 w ∧ a.get 0 = u8 ∧ (rSl rStr).v O81 w u8 x7 ∧ a.get 7 = .bool x3 ∧ a.get 8 = .int .i64 x10 ∧ a.get 9 = u16 ∧ OwnL 1 rStr 9 (Fr w0) O81 w u16 x25 ∧ a.get 10 = u70 ∧ (rSl rStr).v O81 w u70 x69 ∧ a.get 12 = .string (str x72) ∧ a.get 13 = .string (str x73) ∧ a.get 14 = .bool x74 ∧ a.get 15 = .int .i64 x75 ∧ a.get 16 = u78 ∧ OwnL 3 rStr 9 (Fr w0) O81 w u78 x77 ∧ a.get 17 = .int .i64 x80 ∧ Comp.loopN (fun s => colletlaw02_DigestBinds_l8 x69 s.1 s.2) n m (x77, x80) = some e8) (m := n) ?st8 ?_
          case st8 =>
            exact ⟨_, _, _, _, hA, hB, q0, f9, q7, q8, q9, f24, q10, f71, q12, q13, q14, q15, q16, (OwnL.nil _ _ _ _ _ _), q17, Comp.run_loop he8⟩
          intro m_ a46 w46 hI
          clear hA hB he8 q0 q7 q8 q9 q10 q12 q13 q14 q15 q16 q17 f24 f71 f9
          obtain ⟨O81, x77, x80, u78, hA, hB, q0, f9, q7, q8, q9, f24, q10, f71, q12, q13, q14, q15, q16, f79, q17, hl⟩ := hI
          obtain ⟨m8, hlt8, st8, h, hnext8, hdone8⟩ := Comp.loopN_succ hl; clear hl
          replace h : (colletlaw02_DigestBinds_l8 x69 x77 x80).run n = some st8 := h
          unfold colletlaw02_DigestBinds_l8 at h
          refine wp_seq ?_
          refine wp_seq ?_
          refine' region [_, _, _, _, _] mixed hA (.cons ?z24_0 (.cons ?z24_1 (.cons ?z24_2 (.cons ?z24_3 (.cons ?z24_4 .nil))))) ?zok24 ?zgd24 ?zk24
          case z24_0 => intro a' w' hE hK hg; exact ok_move (kn (hK 17 rfl) rfl q17)
          case z24_1 => intro a' w' hE hK hg; exact ok_add (ksv (j := 0) (hK 91 rfl) rfl rfl rfl) rfl
          case z24_2 => intro a' w' hE hK hg; exact ok_move (kn (hK 10 rfl) rfl q10)
          case z24_3 => intro a' w' hE hK hg; exact okl_len (r := rStr) ty29 (ksv (j := 2) (hK 93 rfl) rfl rfl rfl) (rd_of (GR.v_ext _ f71 hE))
          case z24_4 => intro a' w' hE hK hg; exact ok_lss (ksv (j := 1) (hK 92 rfl) rfl rfl rfl) (ksv (j := 3) (hK 94 rfl) rfl rfl rfl)
          case zok24 => kernel_rfl
          case zgd24 => kernel_rfl
          intro a47 w47 hA' hE HF
          replace q0 := kn (HF 0) rfl q0
          replace q7 := kn (HF 7) rfl q7
          replace q8 := kn (HF 8) rfl q8
          replace q9 := kn (HF 9) rfl q9
          replace q10 := kn (HF 10) rfl q10
          replace q12 := kn (HF 12) rfl q12
          replace q13 := kn (HF 13) rfl q13
          replace q14 := kn (HF 14) rfl q14
          replace q15 := kn (HF 15) rfl q15
          replace q16 := kn (HF 16) rfl q16
          replace q17 := kn (HF 17) rfl q17
          have q95 := ksv (HF 95) rfl rfl rfl
          clear hA HF; have hA := hA'; clear hA'
          replace f9 := GR.v_ext _ f9 hE
          replace f24 := f24.ext hE
          replace f71 := GR.v_ext _ f71 hE
          replace f79 := f79.ext hE
          replace hB := Base.step hB hE hO; clear hE
          obtain ⟨x82, hx_, h⟩ := Comp.run_bind h; replace hx_ := Comp.run_pure hx_; rw [hx_] at q95; clear hx_
          refine (li_nil ?_)
          refine (nx_then ?_)
          refine wp_cond_b q95 (fun hc => ?_) (fun hc => ?_)
          ·
            replace h := Comp.run_b_t hc h; clear hc
            refine wp_skip ?_
            refine (nx_then ?_)
            refine wp_seq ?_
            refine wp_block ?_
            obtain ⟨x83, hx83, h⟩ := Comp.run_bind h
            obtain ⟨x84, hx84, h⟩ := Comp.run_bind h
            obtain ⟨x85, hx85, h⟩ := Comp.run_bind h
            refine' region [_, _, _, SP.ptr rStr O81 x83, SP.isv (.string (str x83)), _, _, _, SP.ptr rStr O81 x84, SP.isv (.string (str x84)), SP.isv (.string (str x85)), SP.vl (rSl rStr) O81 [x85]] mixed hA (.cons ?z25_0 (.cons ?z25_1 (.cons ?z25_2 (.cons ?z25_3 (.cons ?z25_4 (.cons ?z25_5 (.cons ?z25_6 (.cons ?z25_7 (.cons ?z25_8 (.cons ?z25_9 (.cons ?z25_10 (.cons ?z25_11 .nil)))))))))))) ?zok25 ?zgd25 ?zk25
            case z25_0 => intro a' w' hE hK hg; exact ok_move (kn (hK 16 rfl) rfl q16)
            case z25_1 => intro a' w' hE hK hg; exact ok_move (kn (hK 10 rfl) rfl q10)
            case z25_2 => intro a' w' hE hK hg; exact ok_move (kn (hK 17 rfl) rfl q17)
            case z25_3 => intro a' w' hE hK hg; exact okl_idx (r := rStr) (O := O81) ty29 ty9 rfl (ksv (j := 1) (hK 99 rfl) rfl rfl rfl) (rd_of (GR.v_ext _ f71 hE)) (ksv (j := 2) (hK 100 rfl) rfl rfl rfl) hx83
            case z25_4 => intro a' w' hE hK hg; exact okl_ldr rStr (fun _ => rfl) ty9 rfl rfl rfl (kspS (φ := SP.ptr rStr O81 x83) (j := 3) (hK 101 rfl) rfl rfl rfl) (fun _ _ _ h => rStr_v.1 h)
            case z25_5 => intro a' w' hE hK hg; exact ok_move (kn (hK 10 rfl) rfl q10)
            case z25_6 => intro a' w' hE hK hg; exact ok_move (kn (hK 17 rfl) rfl q17)
            case z25_7 => intro a' w' hE hK hg; exact ok_add (ksv (j := 6) (hK 104 rfl) rfl rfl rfl) rfl
            case z25_8 => intro a' w' hE hK hg; exact okl_idx (r := rStr) (O := O81) ty29 ty9 rfl (ksv (j := 5) (hK 103 rfl) rfl rfl rfl) (rd_of (GR.v_ext _ f71 hE)) (ksv (j := 7) (hK 105 rfl) rfl rfl rfl) hx84
            case z25_9 => intro a' w' hE hK hg; exact okl_ldr rStr (fun _ => rfl) ty9 rfl rfl rfl (kspS (φ := SP.ptr rStr O81 x84) (j := 8) (hK 106 rfl) rfl rfl rfl) (fun _ _ _ h => rStr_v.1 h)
            case z25_10 => intro a' w' hE hK hg; have c_ := ok_digest_Inner (OkO.ext hB.ok hE)  hx85; exact ok_call2 fn25 (ksv (j := 4) (hK 102 rfl) rfl rfl rfl) (ksv (j := 9) (hK 107 rfl) rfl rfl rfl) c_
            case z25_11 => intro a' w' hE hK hg; exact okl_buildSliceV (r := rStr) (fun _ => rfl) rfl (OkO.ext hB.ok hE) ty29 ty9 (parts_cons (ksv (j := 10) (hK 108 rfl) rfl rfl rfl) parts_nil) ⟨(by first | exact rInt_v.2 rfl | exact rBool_v.2 rfl | exact rStr_v.2 rfl | exact rC_v.2 rfl | exact ⟨_, rfl, rfl⟩), trivial⟩ rfl (by decide)
            case zok25 => kernel_rfl
            case zgd25 => kernel_rfl
            intro a48 w48 hA' hE HF
            replace q0 := kn (HF 0) rfl q0
            replace q7 := kn (HF 7) rfl q7
            replace q8 := kn (HF 8) rfl q8
            replace q9 := kn (HF 9) rfl q9
            replace q10 := kn (HF 10) rfl q10
            replace q12 := kn (HF 12) rfl q12
            replace q13 := kn (HF 13) rfl q13
            replace q14 := kn (HF 14) rfl q14
            replace q15 := kn (HF 15) rfl q15
            replace q16 := kn (HF 16) rfl q16
            replace q17 := kn (HF 17) rfl q17
            have q98 := ksv (HF 98) rfl rfl rfl
            have f87 := ksp (HF 109) rfl rfl rfl
            obtain ⟨u86, q109'⟩ : ∃ u, a48.get 109 = u := ⟨_, rfl⟩
            rw [q109'] at f87
            have q109 := q109'; clear q109'
            clear q95
            clear hA HF; have hA := hA'; clear hA'
            replace f9 := GR.v_ext _ f9 hE
            replace f24 := f24.ext hE
            replace f71 := GR.v_ext _ f71 hE
            replace f79 := f79.ext hE
            replace hB := Base.step hB hE hO; clear hE
            obtain ⟨x88, hx88, h⟩ := Comp.run_bind h
            refine l_append (r := rStr) (fun _ => rfl) rfl ty29 ty9 rfl (by decide) hO hB (okB_fr hB) q98 f79 q109 (rd_of f87) hx88 (by decide) fun u89 w49 O90 f91 hB' hX => ?_
            clear hB; have hB := hB'; clear hB'
            clear f79
            replace f9 := GR.kx _ f9 hX (by decide)
            replace f24 := f24.kx hX (by decide) (by decide)
            replace f71 := GR.kx _ f71 hX (by decide)
            replace f87 := GR.kx _ f87 hX (by decide)
            clear hX
            refine put_cont hA (by decide) fun a50 hA' q_ hfr => ?_
            clear hA; have hA := hA'; clear hA'
            replace q0 := (hfr 0 rfl).trans q0
            replace q7 := (hfr 7 rfl).trans q7
            replace q8 := (hfr 8 rfl).trans q8
            replace q9 := (hfr 9 rfl).trans q9
            replace q10 := (hfr 10 rfl).trans q10
            replace q12 := (hfr 12 rfl).trans q12
            replace q13 := (hfr 13 rfl).trans q13
            replace q14 := (hfr 14 rfl).trans q14
            replace q15 := (hfr 15 rfl).trans q15
            replace q16 := (hfr 16 rfl).trans q16
            replace q17 := (hfr 17 rfl).trans q17
            replace q98 := (hfr 98 rfl).trans q98
            replace q109 := (hfr 109 rfl).trans q109
            have q110 := q_; clear q_ hfr
            refine l_ok (φ := SP.isv (u89)) hO hB (by exact ok_assign q110) rfl fun u_ w51 hE hB' hv_ => ?_
            replace hv_ := Eq.symm hv_; subst hv_; clear hB; have hB := hB'; clear hB'
            replace f9 := GR.v_ext _ f9 hE
            replace f24 := f24.ext hE
            replace f71 := GR.v_ext _ f71 hE
            replace f91 := f91.ext hE
            clear hE
            refine put_cont hA (by decide) fun a52 hA' q_ hfr => ?_
            clear hA; have hA := hA'; clear hA'
            replace q0 := (hfr 0 rfl).trans q0
            replace q7 := (hfr 7 rfl).trans q7
            replace q8 := (hfr 8 rfl).trans q8
            replace q9 := (hfr 9 rfl).trans q9
            replace q10 := (hfr 10 rfl).trans q10
            replace q12 := (hfr 12 rfl).trans q12
            replace q13 := (hfr 13 rfl).trans q13
            replace q14 := (hfr 14 rfl).trans q14
            replace q15 := (hfr 15 rfl).trans q15
            replace q17 := (hfr 17 rfl).trans q17
            replace q110 := (hfr 110 rfl).trans q110
            clear q16
            have q16 := q_; clear q_ hfr
            refine (li_nil ?_)
            refine (nx_blk (nx_then ?_))
            refine' region [_, _, _] mixed hA (.cons ?z26_0 (.cons ?z26_1 (.cons ?z26_2 .nil))) ?zok26 ?zgd26 ?zk26
            case z26_0 => intro a' w' hE hK hg; exact ok_move (kn (hK 17 rfl) rfl q17)
            case z26_1 => intro a' w' hE hK hg; exact ok_add (ksv (j := 0) (hK 96 rfl) rfl rfl rfl) rfl
            case z26_2 => intro a' w' hE hK hg; exact ok_assign (ksv (j := 1) (hK 97 rfl) rfl rfl rfl)
            case zok26 => kernel_rfl
            case zgd26 => kernel_rfl
            intro a53 w53 hA' hE HF
            replace q0 := kn (HF 0) rfl q0
            replace q7 := kn (HF 7) rfl q7
            replace q8 := kn (HF 8) rfl q8
            replace q9 := kn (HF 9) rfl q9
            replace q10 := kn (HF 10) rfl q10
            replace q12 := kn (HF 12) rfl q12
            replace q13 := kn (HF 13) rfl q13
            replace q14 := kn (HF 14) rfl q14
            replace q15 := kn (HF 15) rfl q15
            replace q16 := kn (HF 16) rfl q16
            have q17' := ksv (HF 17) rfl rfl rfl
            replace q17 := q17'; clear q17'
            clear hA HF; have hA := hA'; clear hA'
            replace f9 := GR.v_ext _ f9 hE
            replace f24 := f24.ext hE
            replace f71 := GR.v_ext _ f71 hE
            replace f91 := f91.ext hE
            replace hB := Base.step hB hE hO; clear hE
            refine (li_nil ?_)
            refine (nx_then ?_)
            have h := hnext8 _ (Comp.run_pure h).symm
            refine ⟨m8, hlt8, ?_⟩
            exact ⟨_, _, _, _, hA, hB, q0, f9, q7, q8, q9, f24, q10, f71, q12, q13, q14, q15, q16, f91, q17, h⟩
          ·
            replace h := Comp.run_b_f hc h; clear hc
            refine wp_exit ?_
            refine (ex_then (ex_then (ex_same ?_)))
            have hd_ := hdone8 _ (Comp.run_pure h).symm; clear h
            subst hd_; have h := hk8; clear hk8; try dsimp only at h
            refine (nx_then ?_)
            obtain ⟨O97, hB', hX, f98⟩ := freezeL hO hB f79 (by decide)
            clear f79 hB; have hB := hB'; clear hB'
            replace f9 := GR.kx _ f9 hX (by decide)
            replace f24 := f24.kx hX (by decide) (by decide)
            replace f71 := GR.kx _ f71 hX (by decide)
            clear hX
            exact ⟨_, _, _, hA, hB, q0, f9, q7, q8, q9, f24, q10, f71, q12, q13, q14, q15, q16, f98, h⟩
        intro a54 w54 hI
        clear hA hB h q0 q7 q8 q9 q10 q12 q13 q14 q15 q16 f24 f71 f9
        obtain ⟨O99, x94, u95, hA, hB, q0, f9, q7, q8, q9, f24, q10, f71, q12, q13, q14, q15, q16, f96, h⟩ := hI
        unfold colletlaw02_DigestBinds_j7 at h
        refine seq_join (fun a w => ∃ (O110 : Tags) (x104 : Bytes) (x105 : Bytes), a.fit 181 ∧ Base (Fr w0) O w0 O110 w ∧ a.get 0 = u8 ∧ (rSl rStr).v O110 w u8 x7 ∧ a.get 7 = .bool x3 ∧ a.get 8 = .int .i64 x10 ∧ a.get 9 = u16 ∧ OwnL 1 rStr 9 (Fr w0) O110 w u16 x25 ∧ a.get 12 = .string (str x104) ∧ a.get 13 = .string (str x105) ∧ a.get 14 = .bool x74 ∧ a.get 15 = .int .i64 x75 ∧ a.get 16 = u95 ∧ (rSl rStr).v O110 w u95 x94 ∧ (colletlaw02_DigestBinds_j9 x74 x94 x75 x104 x105).run n = some st6) ?_ ?_
        ·
          refine wp_seq ?_
          refine' region [_, _, _] mixed hA (.cons ?z27_0 (.cons ?z27_1 (.cons ?z27_2 .nil))) ?zok27 ?zgd27 ?zk27
          case z27_0 => intro a' w' hE hK hg; exact ok_move (kn (hK 15 rfl) rfl q15)
          case z27_1 => intro a' w' hE hK hg; exact ok_rem (ksv (j := 0) (hK 111 rfl) rfl rfl rfl) rfl (by decide)
          case z27_2 => intro a' w' hE hK hg; exact ok_eqlI (ksv (j := 1) (hK 112 rfl) rfl rfl rfl) rfl
          case zok27 => kernel_rfl
          case zgd27 => kernel_rfl
          intro a55 w55 hA' hE HF
          replace q0 := kn (HF 0) rfl q0
          replace q7 := kn (HF 7) rfl q7
          replace q8 := kn (HF 8) rfl q8
          replace q9 := kn (HF 9) rfl q9
          replace q10 := kn (HF 10) rfl q10
          replace q12 := kn (HF 12) rfl q12
          replace q13 := kn (HF 13) rfl q13
          replace q14 := kn (HF 14) rfl q14
          replace q15 := kn (HF 15) rfl q15
          replace q16 := kn (HF 16) rfl q16
          have q113 := ksv (HF 113) rfl rfl rfl
          clear hA HF; have hA := hA'; clear hA'
          replace f9 := GR.v_ext _ f9 hE
          replace f24 := f24.ext hE
          replace f71 := GR.v_ext _ f71 hE
          replace f96 := GR.v_ext _ f96 hE
          replace hB := Base.step hB hE hO; clear hE
          refine (li_nil ?_)
          refine (nx_then ?_)
          refine wp_cond_b q113 (fun hc => ?_) (fun hc => ?_)
          ·
            replace h := Comp.run_b_t hc h; clear hc
            obtain ⟨x100, hx100, h⟩ := Comp.run_bind h
            obtain ⟨x101, hx101, h⟩ := Comp.run_bind h
            obtain ⟨x102, hx102, h⟩ := Comp.run_bind h
            obtain ⟨x103, hx103, h⟩ := Comp.run_bind h
            refine' region [_, _, _, _, SP.ptr rStr O99 x100, SP.isv (.string (str x100)), SP.isv (.string (str x101)), _, _, _, _, SP.ptr rStr O99 x102, SP.isv (.string (str x102)), SP.isv (.string (str x103)), _, _] mixed hA (.cons ?z28_0 (.cons ?z28_1 (.cons ?z28_2 (.cons ?z28_3 (.cons ?z28_4 (.cons ?z28_5 (.cons ?z28_6 (.cons ?z28_7 (.cons ?z28_8 (.cons ?z28_9 (.cons ?z28_10 (.cons ?z28_11 (.cons ?z28_12 (.cons ?z28_13 (.cons ?z28_14 (.cons ?z28_15 .nil)))))))))))))))) ?zok28 ?zgd28 ?zk28
            case z28_0 => intro a' w' hE hK hg; exact ok_move (kn (hK 12 rfl) rfl q12)
            case z28_1 => intro a' w' hE hK hg; exact ok_move (kn (hK 10 rfl) rfl q10)
            case z28_2 => intro a' w' hE hK hg; exact ok_move (kn (hK 15 rfl) rfl q15)
            case z28_3 => intro a' w' hE hK hg; exact ok_add (ksv (j := 2) (hK 116 rfl) rfl rfl rfl) rfl
            case z28_4 => intro a' w' hE hK hg; exact okl_idx (r := rStr) (O := O99) ty29 ty9 rfl (ksv (j := 1) (hK 115 rfl) rfl rfl rfl) (rd_of (GR.v_ext _ f71 hE)) (ksv (j := 3) (hK 117 rfl) rfl rfl rfl) hx100
            case z28_5 => intro a' w' hE hK hg; exact okl_ldr rStr (fun _ => rfl) ty9 rfl rfl rfl (kspS (φ := SP.ptr rStr O99 x100) (j := 4) (hK 118 rfl) rfl rfl rfl) (fun _ _ _ h => rStr_v.1 h)
            case z28_6 => intro a' w' hE hK hg; have c_ := ok_digest_Inner (OkO.ext hB.ok hE)  hx101; exact ok_call2 fn25 (ksv (j := 0) (hK 114 rfl) rfl rfl rfl) (ksv (j := 5) (hK 119 rfl) rfl rfl rfl) c_
            case z28_7 => intro a' w' hE hK hg; exact ok_move (kn (hK 13 rfl) rfl q13)
            case z28_8 => intro a' w' hE hK hg; exact ok_move (kn (hK 10 rfl) rfl q10)
            case z28_9 => intro a' w' hE hK hg; exact ok_move (kn (hK 15 rfl) rfl q15)
            case z28_10 => intro a' w' hE hK hg; exact ok_add (ksv (j := 9) (hK 123 rfl) rfl rfl rfl) rfl
            case z28_11 => intro a' w' hE hK hg; exact okl_idx (r := rStr) (O := O99) ty29 ty9 rfl (ksv (j := 8) (hK 122 rfl) rfl rfl rfl) (rd_of (GR.v_ext _ f71 hE)) (ksv (j := 10) (hK 124 rfl) rfl rfl rfl) hx102
            case z28_12 => intro a' w' hE hK hg; exact okl_ldr rStr (fun _ => rfl) ty9 rfl rfl rfl (kspS (φ := SP.ptr rStr O99 x102) (j := 11) (hK 125 rfl) rfl rfl rfl) (fun _ _ _ h => rStr_v.1 h)
            case z28_13 => intro a' w' hE hK hg; have c_ := ok_digest_Inner (OkO.ext hB.ok hE)  hx103; exact ok_call2 fn25 (ksv (j := 7) (hK 121 rfl) rfl rfl rfl) (ksv (j := 12) (hK 126 rfl) rfl rfl rfl) c_
            case z28_14 => intro a' w' hE hK hg; exact ok_assign (ksv (j := 6) (hK 120 rfl) rfl rfl rfl)
            case z28_15 => intro a' w' hE hK hg; exact ok_assign (ksv (j := 13) (hK 127 rfl) rfl rfl rfl)
            case zok28 => kernel_rfl
            case zgd28 => kernel_rfl
            intro a56 w56 hA' hE HF
            replace q0 := kn (HF 0) rfl q0
            replace q7 := kn (HF 7) rfl q7
            replace q8 := kn (HF 8) rfl q8
            replace q9 := kn (HF 9) rfl q9
            have q12' := ksv (HF 12) rfl rfl rfl
            replace q12 := q12'; clear q12'
            have q13' := ksv (HF 13) rfl rfl rfl
            replace q13 := q13'; clear q13'
            replace q14 := kn (HF 14) rfl q14
            replace q15 := kn (HF 15) rfl q15
            replace q16 := kn (HF 16) rfl q16
            clear q10
            clear q113
            clear hA HF; have hA := hA'; clear hA'
            replace f9 := GR.v_ext _ f9 hE
            replace f24 := f24.ext hE
            replace f71 := GR.v_ext _ f71 hE
            replace f96 := GR.v_ext _ f96 hE
            replace hB := Base.step hB hE hO; clear hE
            refine (li_nil ?_)
            refine (nx_then ?_)
            exact ⟨_, _, _, hA, hB, q0, f9, q7, q8, q9, f24, q12, q13, q14, q15, q16, f96, h⟩
          ·
            replace h := Comp.run_b_f hc h; clear hc
            obtain ⟨x106, hx106, h⟩ := Comp.run_bind h
            obtain ⟨x107, hx107, h⟩ := Comp.run_bind h
            obtain ⟨x108, hx108, h⟩ := Comp.run_bind h
            obtain ⟨x109, hx109, h⟩ := Comp.run_bind h
            refine' region [_, _, _, SP.ptr rStr O99 x106, SP.isv (.string (str x106)), _, SP.isv (.string (str x107)), _, _, _, SP.ptr rStr O99 x108, SP.isv (.string (str x108)), _, SP.isv (.string (str x109)), _, _] mixed hA (.cons ?z29_0 (.cons ?z29_1 (.cons ?z29_2 (.cons ?z29_3 (.cons ?z29_4 (.cons ?z29_5 (.cons ?z29_6 (.cons ?z29_7 (.cons ?z29_8 (.cons ?z29_9 (.cons ?z29_10 (.cons ?z29_11 (.cons ?z29_12 (.cons ?z29_13 (.cons ?z29_14 (.cons ?z29_15 .nil)))))))))))))))) ?zok29 ?zgd29 ?zk29
            case z29_0 => intro a' w' hE hK hg; exact ok_move (kn (hK 10 rfl) rfl q10)
            case z29_1 => intro a' w' hE hK hg; exact ok_move (kn (hK 15 rfl) rfl q15)
            case z29_2 => intro a' w' hE hK hg; exact ok_sub (ksv (j := 1) (hK 129 rfl) rfl rfl rfl) rfl
            case z29_3 => intro a' w' hE hK hg; exact okl_idx (r := rStr) (O := O99) ty29 ty9 rfl (ksv (j := 0) (hK 128 rfl) rfl rfl rfl) (rd_of (GR.v_ext _ f71 hE)) (ksv (j := 2) (hK 130 rfl) rfl rfl rfl) hx106
            case z29_4 => intro a' w' hE hK hg; exact okl_ldr rStr (fun _ => rfl) ty9 rfl rfl rfl (kspS (φ := SP.ptr rStr O99 x106) (j := 3) (hK 131 rfl) rfl rfl rfl) (fun _ _ _ h => rStr_v.1 h)
            case z29_5 => intro a' w' hE hK hg; exact ok_move (kn (hK 12 rfl) rfl q12)
            case z29_6 => intro a' w' hE hK hg; have c_ := ok_digest_Inner (OkO.ext hB.ok hE)  hx107; exact ok_call2 fn25 (ksv (j := 4) (hK 132 rfl) rfl rfl rfl) (ksv (j := 5) (hK 133 rfl) rfl rfl rfl) c_
            case z29_7 => intro a' w' hE hK hg; exact ok_move (kn (hK 10 rfl) rfl q10)
            case z29_8 => intro a' w' hE hK hg; exact ok_move (kn (hK 15 rfl) rfl q15)
            case z29_9 => intro a' w' hE hK hg; exact ok_sub (ksv (j := 8) (hK 136 rfl) rfl rfl rfl) rfl
            case z29_10 => intro a' w' hE hK hg; exact okl_idx (r := rStr) (O := O99) ty29 ty9 rfl (ksv (j := 7) (hK 135 rfl) rfl rfl rfl) (rd_of (GR.v_ext _ f71 hE)) (ksv (j := 9) (hK 137 rfl) rfl rfl rfl) hx108
            case z29_11 => intro a' w' hE hK hg; exact okl_ldr rStr (fun _ => rfl) ty9 rfl rfl rfl (kspS (φ := SP.ptr rStr O99 x108) (j := 10) (hK 138 rfl) rfl rfl rfl) (fun _ _ _ h => rStr_v.1 h)
            case z29_12 => intro a' w' hE hK hg; exact ok_move (kn (hK 13 rfl) rfl q13)
            case z29_13 => intro a' w' hE hK hg; have c_ := ok_digest_Inner (OkO.ext hB.ok hE)  hx109; exact ok_call2 fn25 (ksv (j := 11) (hK 139 rfl) rfl rfl rfl) (ksv (j := 12) (hK 140 rfl) rfl rfl rfl) c_
            case z29_14 => intro a' w' hE hK hg; exact ok_assign (ksv (j := 6) (hK 134 rfl) rfl rfl rfl)
            case z29_15 => intro a' w' hE hK hg; exact ok_assign (ksv (j := 13) (hK 141 rfl) rfl rfl rfl)
            case zok29 => kernel_rfl
            case zgd29 => kernel_rfl
            intro a57 w57 hA' hE HF
            replace q0 := kn (HF 0) rfl q0
            replace q7 := kn (HF 7) rfl q7
            replace q8 := kn (HF 8) rfl q8
            replace q9 := kn (HF 9) rfl q9
            have q12' := ksv (HF 12) rfl rfl rfl
            replace q12 := q12'; clear q12'
            have q13' := ksv (HF 13) rfl rfl rfl
            replace q13 := q13'; clear q13'
            replace q14 := kn (HF 14) rfl q14
            replace q15 := kn (HF 15) rfl q15
            replace q16 := kn (HF 16) rfl q16
            clear q10
            clear q113
            clear hA HF; have hA := hA'; clear hA'
            replace f9 := GR.v_ext _ f9 hE
            replace f24 := f24.ext hE
            replace f71 := GR.v_ext _ f71 hE
            replace f96 := GR.v_ext _ f96 hE
            replace hB := Base.step hB hE hO; clear hE
            refine (li_nil ?_)
            refine (nx_then ?_)
            exact ⟨_, _, _, hA, hB, q0, f9, q7, q8, q9, f24, q12, q13, q14, q15, q16, f96, h⟩
        intro a58 w58 hI
        clear hA hB h q0 q7 q8 q9 q10 q12 q13 q14 q15 q16 f24 f71 f9 f96
        obtain ⟨O110, x104, x105, hA, hB, q0, f9, q7, q8, q9, f24, q12, q13, q14, q15, q16, f96, h⟩ := hI
        unfold colletlaw02_DigestBinds_j9 at h
        refine wp_seq ?_
        refine' region [_, _, _, _, _, _, _] mixed hA (.cons ?z30_0 (.cons ?z30_1 (.cons ?z30_2 (.cons ?z30_3 (.cons ?z30_4 (.cons ?z30_5 (.cons ?z30_6 .nil))))))) ?zok30 ?zgd30 ?zk30
        case z30_0 => intro a' w' hE hK hg; exact ok_move (kn (hK 14 rfl) rfl q14)
        case z30_1 => intro a' w' hE hK hg; exact ok_move (ksv (j := 0) (hK 142 rfl) rfl rfl rfl)
        case z30_2 => intro a' w' hE hK hg; exact ok_move (kn (hK 12 rfl) rfl q12)
        case z30_3 => intro a' w' hE hK hg; exact ok_move (kn (hK 13 rfl) rfl q13)
        case z30_4 => intro a' w' hE hK hg; exact okl_eqlS (ksv (j := 2) (hK 144 rfl) rfl rfl hg) (ksv (j := 3) (hK 145 rfl) rfl rfl hg)
        case z30_5 => intro a' w' hE hK hg; exact ok_pick (ksv (j := 1) (hK 143 rfl) rfl rfl rfl) (fun _ => rfl) (fun hb => ksv (j := 4) (hK 146 rfl) rfl rfl (act_g1 rfl rfl hb))
        case z30_6 => intro a' w' hE hK hg; exact ok_assign (ksv (j := 5) (hK 147 rfl) rfl rfl rfl)
        case zok30 => kernel_rfl
        case zgd30 => kernel_rfl
        intro a59 w59 hA' hE HF
        replace q0 := kn (HF 0) rfl q0
        replace q7 := kn (HF 7) rfl q7
        replace q8 := kn (HF 8) rfl q8
        replace q9 := kn (HF 9) rfl q9
        replace q12 := kn (HF 12) rfl q12
        replace q13 := kn (HF 13) rfl q13
        have q14' := ksv (HF 14) rfl rfl rfl
        replace q14 := q14'; clear q14'
        replace q15 := kn (HF 15) rfl q15
        replace q16 := kn (HF 16) rfl q16
        clear hA HF; have hA := hA'; clear hA'
        replace f9 := GR.v_ext _ f9 hE
        replace f24 := f24.ext hE
        replace f96 := GR.v_ext _ f96 hE
        replace hB := Base.step hB hE hO; clear hE
        obtain ⟨x111, hx_, h⟩ := Comp.run_bind h; replace hx_ := Comp.run_pure hx_; rw [hx_] at q14; clear hx_
        refine (li_nil ?_)
        refine (nx_then ?_)
        refine' region [_, _] mixed hA (.cons ?z31_0 (.cons ?z31_1 .nil)) ?zok31 ?zgd31 ?zk31
        case z31_0 => intro a' w' hE hK hg; exact ok_move (kn (hK 16 rfl) rfl q16)
        case z31_1 => intro a' w' hE hK hg; exact ok_assign (ksv (j := 0) (hK 148 rfl) rfl rfl rfl)
        case zok31 => kernel_rfl
        case zgd31 => kernel_rfl
        intro a60 w60 hA' hE HF
        replace q0 := kn (HF 0) rfl q0
        replace q7 := kn (HF 7) rfl q7
        replace q8 := kn (HF 8) rfl q8
        replace q9 := kn (HF 9) rfl q9
        have q10 := ksv (HF 10) rfl rfl rfl
        replace q12 := kn (HF 12) rfl q12
        replace q13 := kn (HF 13) rfl q13
        replace q14 := kn (HF 14) rfl q14
        replace q15 := kn (HF 15) rfl q15
        clear q16
        clear hA HF; have hA := hA'; clear hA'
        replace f9 := GR.v_ext _ f9 hE
        replace f24 := f24.ext hE
        replace f96 := GR.v_ext _ f96 hE
        replace hB := Base.step hB hE hO; clear hE
        refine (li_nil ?_)
        refine (nx_blk (nx_then ?_))
        refine' region [_, _, _] mixed hA (.cons ?z32_0 (.cons ?z32_1 (.cons ?z32_2 .nil))) ?zok32 ?zgd32 ?zk32
        case z32_0 => intro a' w' hE hK hg; exact ok_move (kn (hK 15 rfl) rfl q15)
        case z32_1 => intro a' w' hE hK hg; exact ok_quo (ksv (j := 0) (hK 89 rfl) rfl rfl rfl) rfl (by decide)
        case z32_2 => intro a' w' hE hK hg; exact ok_assign (ksv (j := 1) (hK 90 rfl) rfl rfl rfl)
        case zok32 => kernel_rfl
        case zgd32 => kernel_rfl
        intro a61 w61 hA' hE HF
        replace q0 := kn (HF 0) rfl q0
        replace q7 := kn (HF 7) rfl q7
        replace q8 := kn (HF 8) rfl q8
        replace q9 := kn (HF 9) rfl q9
        replace q10 := kn (HF 10) rfl q10
        replace q12 := kn (HF 12) rfl q12
        replace q13 := kn (HF 13) rfl q13
        replace q14 := kn (HF 14) rfl q14
        have q15' := ksv (HF 15) rfl rfl rfl
        replace q15 := q15'; clear q15'
        clear hA HF; have hA := hA'; clear hA'
        replace f9 := GR.v_ext _ f9 hE
        replace f24 := f24.ext hE
        replace f96 := GR.v_ext _ f96 hE
        replace hB := Base.step hB hE hO; clear hE
        refine (li_nil ?_)
        refine (nx_then ?_)
        have h := hnext6 _ (Comp.run_pure h).symm
        refine ⟨m6, hlt6, ?_⟩
        exact ⟨_, _, _, _, _, _, _, hA, hB, q0, f9, q7, q8, q9, f24, q10, f96, q12, q13, q14, q15, h⟩
      ·
        replace h := Comp.run_b_f hc h; clear hc
        refine wp_exit ?_
        refine (ex_then (ex_then (ex_same ?_)))
        have hd_ := hdone6 _ (Comp.run_pure h).symm; clear h
        subst hd_; have h := hk6; clear hk6; try dsimp only at h
        refine (nx_then ?_)
        exact ⟨_, _, _, _, hA, hB, q0, f9, q7, q8, q9, f24, q12, q13, q14, h⟩
    intro a62 w62 hI
    clear hA hB h q0 q7 q8 q9 q10 q12 q13 q14 f24 f61 f9
    obtain ⟨O121, x118, x119, x120, hA, hB, q0, f9, q7, q8, q9, f24, q12, q13, q14, h⟩ := hI
    unfold colletlaw02_DigestBinds_j5 at h
    refine wp_seq ?_
    refine wp_seq ?_
    obtain ⟨x122, hx122, h⟩ := Comp.run_bind h
    obtain ⟨x123, hx123, h⟩ := Comp.run_bind h
    refine' region [_, SP.isv (.string (str x122)), _, _, _, _, SP.isv (.string (str x123)), _, _, _] mixed hA (.cons ?z33_0 (.cons ?z33_1 (.cons ?z33_2 (.cons ?z33_3 (.cons ?z33_4 (.cons ?z33_5 (.cons ?z33_6 (.cons ?z33_7 (.cons ?z33_8 (.cons ?z33_9 .nil)))))))))) ?zok33 ?zgd33 ?zk33
    case z33_0 => intro a' w' hE hK hg; exact ok_move (kn (hK 0 rfl) rfl q0)
    case z33_1 => intro a' w' hE hK hg; have c_ := m_root dRoot (OkO.ext hB.ok hE) (GR.v_ext _ f9 hE) hx122; exact ok_call1 fn21 (ksv (j := 0) (hK 149 rfl) rfl rfl rfl) c_
    case z33_2 => intro a' w' hE hK hg; exact ok_move (kn (hK 12 rfl) rfl q12)
    case z33_3 => intro a' w' hE hK hg; exact okl_neqS (ksv (j := 1) (hK 150 rfl) rfl rfl rfl) (ksv (j := 2) (hK 151 rfl) rfl rfl rfl)
    case z33_4 => intro a' w' hE hK hg; exact ok_move (ksv (j := 3) (hK 152 rfl) rfl rfl rfl)
    case z33_5 => intro a' w' hE hK hg; exact ok_move (kn (hK 9 rfl) rfl q9)
    case z33_6 => intro a' w' hE hK hg; have c_ := m_root dRoot (okO_zero _) (OwnL.lend (OwnL.ext f24 hE)) (run_gdb hx123 hg); exact ok_call1 fn21 (ksv (j := 5) (hK 154 rfl) rfl rfl hg) c_
    case z33_7 => intro a' w' hE hK hg; exact ok_move (kn (hK 13 rfl) rfl q13)
    case z33_8 => intro a' w' hE hK hg; exact okl_neqS (ksv (j := 6) (hK 155 rfl) rfl rfl hg) (ksv (j := 7) (hK 156 rfl) rfl rfl hg)
    case z33_9 => intro a' w' hE hK hg; exact ok_pick (ksv (j := 4) (hK 153 rfl) rfl rfl rfl) (fun _ => rfl) (fun hb => ksv (j := 8) (hK 157 rfl) rfl rfl (act_g1 rfl rfl hb))
    case zok33 => kernel_rfl
    case zgd33 => kernel_rfl
    intro a63 w63 hA' hE HF
    replace q0 := kn (HF 0) rfl q0
    replace q7 := kn (HF 7) rfl q7
    replace q8 := kn (HF 8) rfl q8
    replace q9 := kn (HF 9) rfl q9
    replace q14 := kn (HF 14) rfl q14
    have q158 := ksv (HF 158) rfl rfl rfl
    clear q12
    clear q13
    clear hA HF; have hA := hA'; clear hA'
    replace f9 := GR.v_ext _ f9 hE
    replace f24 := f24.ext hE
    replace hB := Base.step hB hE hO; clear hE
    obtain ⟨x124, hx_, h⟩ := Comp.run_bind h; replace hx_ := Comp.run_pure hx_; rw [hx_] at q158; clear hx_
    refine (li_nil ?_)
    refine (nx_then ?_)
    refine wp_cond_b q158 (fun hc => ?_) (fun hc => ?_)
    ·
      replace h := Comp.run_b_t hc h; clear hc
      refine wp_seq ?_
      refine' region [_] mixed hA (.cons ?z34_0 .nil) ?zok34 ?zgd34 ?zk34
      case z34_0 => intro a' w' hE hK hg; exact ok_assign rfl
      case zok34 => kernel_rfl
      case zgd34 => kernel_rfl
      intro a64 w64 hA' hE HF
      have q6 := ksv (HF 6) rfl rfl rfl
      clear q0
      clear q7
      clear q8
      clear q9
      clear q14
      clear q158
      clear hA HF; have hA := hA'; clear hA'
      replace f9 := GR.v_ext _ f9 hE
      replace f24 := f24.ext hE
      replace hB := Base.step hB hE hO; clear hE
      refine (li_nil ?_)
      refine (nx_then ?_)
      refine (wp_ret (rt_then ?_))
      have h := Comp.run_pure h; subst h
      exact retPure Try.results8 hA q6 hB.ext rfl
    ·
      replace h := Comp.run_b_f hc h; clear hc
      refine wp_skip ?_
      refine (nx_then ?_)
      refine wp_seq ?_
      obtain ⟨x125, hx125, h⟩ := Comp.run_bind h
      obtain ⟨x126, hx126, h⟩ := Comp.run_bind h
      obtain ⟨x127, hx127, h⟩ := Comp.run_bind h
      obtain ⟨x128, hx128, h⟩ := Comp.run_bind h
      refine' region [_, _, _, _, _, _, SP.ptr rStr O121 x125, SP.isv (.string (str x125)), _, _, SP.ptr rStr O121 x126, SP.isv (.string (str x126)), _, _, _, SP.isv (.string (str x127)), _, SP.isv (.string (str x128)), _, _, _, _, _] mixed hA (.cons ?z35_0 (.cons ?z35_1 (.cons ?z35_2 (.cons ?z35_3 (.cons ?z35_4 (.cons ?z35_5 (.cons ?z35_6 (.cons ?z35_7 (.cons ?z35_8 (.cons ?z35_9 (.cons ?z35_10 (.cons ?z35_11 (.cons ?z35_12 (.cons ?z35_13 (.cons ?z35_14 (.cons ?z35_15 (.cons ?z35_16 (.cons ?z35_17 (.cons ?z35_18 (.cons ?z35_19 (.cons ?z35_20 (.cons ?z35_21 (.cons ?z35_22 .nil))))))))))))))))))))))) ?zok35 ?zgd35 ?zk35
      case z35_0 => intro a' w' hE hK hg; exact ok_move (kn (hK 7 rfl) rfl q7)
      case z35_1 => intro a' w' hE hK hg; exact ok_move (ksv (j := 0) (hK 159 rfl) rfl rfl rfl)
      case z35_2 => intro a' w' hE hK hg; exact ok_move (kn (hK 14 rfl) rfl q14)
      case z35_3 => intro a' w' hE hK hg; exact ok_move (ksv (j := 2) (hK 161 rfl) rfl rfl hg)
      case z35_4 => intro a' w' hE hK hg; exact ok_move (kn (hK 9 rfl) rfl q9)
      case z35_5 => intro a' w' hE hK hg; exact ok_move (kn (hK 8 rfl) rfl q8)
      case z35_6 => intro a' w' hE hK hg; exact okl_idx (r := rStr) (O := O121) ty29 ty9 rfl (ksv (j := 4) (hK 163 rfl) rfl rfl hg) (OwnL.rd (OwnL.ext f24 hE)) (ksv (j := 5) (hK 164 rfl) rfl rfl hg) (run_gdb hx125 hg)
      case z35_7 => intro a' w' hE hK hg; exact okl_ldr rStr (fun _ => rfl) ty9 rfl rfl rfl (kspS (φ := SP.ptr rStr O121 x125) (j := 6) (hK 165 rfl) rfl rfl hg) (fun _ _ _ h => rStr_v.1 h)
      case z35_8 => intro a' w' hE hK hg; exact ok_move (kn (hK 0 rfl) rfl q0)
      case z35_9 => intro a' w' hE hK hg; exact ok_move (kn (hK 8 rfl) rfl q8)
      case z35_10 => intro a' w' hE hK hg; exact okl_idx (r := rStr) (O := O121) ty29 ty9 rfl (ksv (j := 8) (hK 167 rfl) rfl rfl hg) (rd_of (GR.v_ext _ f9 hE)) (ksv (j := 9) (hK 168 rfl) rfl rfl hg) (run_gdb hx126 hg)
      case z35_11 => intro a' w' hE hK hg; exact okl_ldr rStr (fun _ => rfl) ty9 rfl rfl rfl (kspS (φ := SP.ptr rStr O121 x126) (j := 10) (hK 169 rfl) rfl rfl hg) (fun _ _ _ h => rStr_v.1 h)
      case z35_12 => intro a' w' hE hK hg; exact okl_neqS (ksv (j := 7) (hK 166 rfl) rfl rfl hg) (ksv (j := 11) (hK 170 rfl) rfl rfl hg)
      case z35_13 => intro a' w' hE hK hg; exact ok_move (ksv (j := 12) (hK 171 rfl) rfl rfl hg)
      case z35_14 => intro a' w' hE hK hg; exact ok_move (kn (hK 0 rfl) rfl q0)
      case z35_15 => intro a' w' hE hK hg; have c_ := m_root dRoot (OkO.ext hB.ok hE) (GR.v_ext _ f9 hE) (run_gdb hx127 hg); exact ok_call1 fn21 (ksv (j := 14) (hK 173 rfl) rfl rfl hg) c_
      case z35_16 => intro a' w' hE hK hg; exact ok_move (kn (hK 9 rfl) rfl q9)
      case z35_17 => intro a' w' hE hK hg; have c_ := m_root dRoot (okO_zero _) (OwnL.lend (OwnL.ext f24 hE)) (run_gdb hx128 hg); exact ok_call1 fn21 (ksv (j := 16) (hK 175 rfl) rfl rfl hg) c_
      case z35_18 => intro a' w' hE hK hg; exact okl_neqS (ksv (j := 15) (hK 174 rfl) rfl rfl hg) (ksv (j := 17) (hK 176 rfl) rfl rfl hg)
      case z35_19 => intro a' w' hE hK hg; exact ok_pick (ksv (j := 13) (hK 172 rfl) rfl rfl hg) (fun hb => ksv (j := 18) (hK 177 rfl) rfl rfl (act_g1 rfl hg hb)) (fun _ => rfl)
      case z35_20 => intro a' w' hE hK hg; exact ok_pick (ksv (j := 3) (hK 162 rfl) rfl rfl hg) (fun _ => rfl) (fun hb => ksv (j := 19) (hK 178 rfl) rfl rfl (act_g1 rfl hg hb))
      case z35_21 => intro a' w' hE hK hg; exact ok_pick (ksv (j := 1) (hK 160 rfl) rfl rfl rfl) (fun hb => ksv (j := 20) (hK 179 rfl) rfl rfl (act_g1 rfl rfl hb)) (fun _ => rfl)
      case z35_22 => intro a' w' hE hK hg; exact ok_assign (ksv (j := 21) (hK 180 rfl) rfl rfl rfl)
      case zok35 => kernel_rfl
      case zgd35 => kernel_rfl
      intro a65 w65 hA' hE HF
      have q6 := ksv (HF 6) rfl rfl rfl
      clear q0
      clear q7
      clear q8
      clear q9
      clear q14
      clear q158
      clear hA HF; have hA := hA'; clear hA'
      replace f9 := GR.v_ext _ f9 hE
      replace f24 := f24.ext hE
      replace hB := Base.step hB hE hO; clear hE
      obtain ⟨x129, hx_, h⟩ := Comp.run_bind h; replace hx_ := Comp.run_pure hx_; rw [hx_] at q6; clear hx_
      refine (li_nil ?_)
      refine (nx_then ?_)
      refine (wp_ret ?_)
      have h := Comp.run_pure h; subst h
      exact retPure Try.results8 hA q6 hB.ext rfl

end Go.Proofs.Ytbkmnghnjajdmaa.Lf
