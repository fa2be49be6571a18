/- The lifting of the program's functions, further part (printed by wip/lift). No statement of the program stands here. -/
import Derived.Test.YtkbipbfncbopnaaCoLa2
namespace Go.Proofs.Ytkbipbfncbopnaa
open Go Go.RowKit Go.Eng Go.Lift Go.F
set_option linter.unusedVariables false
set_option linter.unusedSimpArgs false
set_option maxRecDepth 100000
theorem ok_colletlaw32_CoreLeasts {O : Tags} {w0 : World} (hO : OkO O w0) {v_0 : Value} {x_0 : List Int} (h_0 : (rSl (rInt .i64)).v O w0 v_0 x_0) {n : Nat} {y : Bool} (h : (colletlaw32_CoreLeasts x_0).run n = some y) : Pure Try.prog 13 #[v_0] w0 (SP.isv (.bool y)).holds := by
  unfold colletlaw32_CoreLeasts at h
  refine pure_of_wp Try.func13 rfl 92 Try.ntmps13 (by simp) fun a0 hA hs0 => ?_
  have q0 := hs0 0 _ rfl
  clear hs0
  have hB : Base (Fr w0) O w0 O w0 := Base.start hO
  refine wp_seq ?_
  refine' region [_] mixed hA (.cons ?z1_0 .nil) ?zok1 ?zgd1 ?zk1
  case z1_0 => intro a' w' hE hK hg; exact ok_assign rfl
  case zok1 => kernel_rfl
  case zgd1 => kernel_rfl
  intro a1 w1 hA' hE HF
  replace q0 := kn (HF 0) rfl q0
  clear hA HF; have hA := hA'; clear hA'
  replace h_0 := GR.v_ext _ h_0 hE
  replace hB := Base.step hB hE hO; clear hE
  refine (li_nil ?_)
  refine (nx_then ?_)
  refine wp_seq ?_
  obtain ⟨x1, hx1, h⟩ := Comp.run_bind h
  refine' region [SP.isv (.bool x1), _] mixed hA (.cons ?z2_0 (.cons ?z2_1 .nil)) ?zok2 ?zgd2 ?zk2
  case z2_0 => intro a' w' hE hK hg; have c_ := ok_colletlaw32_sanity (OkO.ext hB.ok hE)  hx1; exact ok_call0 fn38  c_
  case z2_1 => intro a' w' hE hK hg; exact ok_assign (ksv (j := 0) (hK 13 rfl) rfl rfl rfl)
  case zok2 => kernel_rfl
  case zgd2 => kernel_rfl
  intro a2 w2 hA' hE HF
  replace q0 := kn (HF 0) rfl q0
  have q3 := ksv (HF 3) rfl rfl rfl
  clear hA HF; have hA := hA'; clear hA'
  replace h_0 := GR.v_ext _ h_0 hE
  replace hB := Base.step hB hE hO; clear hE
  refine (li_nil ?_)
  refine (nx_then ?_)
  refine wp_seq ?_
  obtain ⟨x2, hx2, h⟩ := Comp.run_bind h
  refine' region [_, SP.vl (rSl (rInt .i64)) O x2, SP.vl (rSl (rInt .i64)) O x2] mixed hA (.cons ?z3_0 (.cons ?z3_1 (.cons ?z3_2 .nil))) ?zok3 ?zgd3 ?zk3
  case z3_0 => intro a' w' hE hK hg; exact ok_move (kn (hK 0 rfl) rfl q0)
  case z3_1 => intro a' w' hE hK hg; have c_ := ok_colletlaw32_cut (OkO.ext hB.ok hE) (GR.v_ext _ h_0 hE) hx2; exact ok_call1 fn39 (ksv (j := 0) (hK 14 rfl) rfl rfl rfl) c_
  case z3_2 => intro a' w' hE hK hg; exact ok_assign_pr (φ := SP.vl (rSl (rInt .i64)) O x2) (kspS (φ := SP.vl (rSl (rInt .i64)) O x2) (j := 1) (hK 15 rfl) rfl rfl rfl)
  case zok3 => kernel_rfl
  case zgd3 => kernel_rfl
  intro a3 w3 hA' hE HF
  have f4 := ksp (HF 0) rfl rfl rfl
  obtain ⟨u3, q0'⟩ : ∃ u, a3.get 0 = u := ⟨_, rfl⟩
  rw [q0'] at f4
  replace q0 := q0'; clear q0'
  replace q3 := kn (HF 3) rfl q3
  clear hA HF; have hA := hA'; clear hA'
  replace h_0 := GR.v_ext _ h_0 hE
  replace hB := Base.step hB hE hO; clear hE
  refine (li_nil ?_)
  refine (nx_then ?_)
  refine wp_seq ?_
  obtain ⟨x5, hx5, h⟩ := Comp.run_bind h
  refine' region [_, SP.tup2 (SP.isv (.int .i64 x5.1)) (SP.isv (.bool x5.2)), SP.tup2 (SP.isv (.int .i64 x5.1)) (SP.isv (.bool x5.2)), SP.isv (.int .i64 x5.1), SP.isv (.bool x5.2), _, _] mixed hA (.cons ?z4_0 (.cons ?z4_1 (.cons ?z4_2 (.cons ?z4_3 (.cons ?z4_4 (.cons ?z4_5 (.cons ?z4_6 .nil))))))) ?zok4 ?zgd4 ?zk4
  case z4_0 => intro a' w' hE hK hg; exact ok_move (kn (hK 0 rfl) rfl q0)
  case z4_1 => intro a' w' hE hK hg; have c_ := ok_core_Least (OkO.ext hB.ok hE) (GR.v_ext _ f4 hE) hx5; exact ok_call1 fn44 (ksv (j := 0) (hK 17 rfl) rfl rfl rfl) c_
  case z4_2 => intro a' w' hE hK hg; exact ok_move_pr (φ := SP.tup2 (SP.isv (.int .i64 x5.1)) (SP.isv (.bool x5.2))) (kspS (φ := SP.tup2 (SP.isv (.int .i64 x5.1)) (SP.isv (.bool x5.2))) (j := 1) (hK 18 rfl) rfl rfl rfl)
  case z4_3 => intro a' w' hE hK hg; exact okl_ext0 (kspS (φ := SP.tup2 (SP.isv (.int .i64 x5.1)) (SP.isv (.bool x5.2))) (j := 2) (hK 16 rfl) rfl rfl rfl)
  case z4_4 => intro a' w' hE hK hg; exact okl_ext1 (kspS (φ := SP.tup2 (SP.isv (.int .i64 x5.1)) (SP.isv (.bool x5.2))) (j := 2) (hK 16 rfl) rfl rfl rfl)
  case z4_5 => intro a' w' hE hK hg; exact ok_assign (ksv (j := 3) (hK 19 rfl) rfl rfl rfl)
  case z4_6 => intro a' w' hE hK hg; exact ok_assign (ksv (j := 4) (hK 20 rfl) rfl rfl rfl)
  case zok4 => kernel_rfl
  case zgd4 => kernel_rfl
  intro a4 w4 hA' hE HF
  replace q0 := kn (HF 0) rfl q0
  replace q3 := kn (HF 3) rfl q3
  have q4 := ksv (HF 4) rfl rfl rfl
  have q5 := ksv (HF 5) rfl rfl rfl
  clear hA HF; have hA := hA'; clear hA'
  replace f4 := GR.v_ext _ f4 hE
  replace hB := Base.step hB hE hO; clear hE
  refine (li_nil ?_)
  refine (nx_then ?_)
  refine wp_seq ?_
  refine wp_seq ?_
  refine' region [_, _, _, _, _] mixed hA (.cons ?z5_0 (.cons ?z5_1 (.cons ?z5_2 (.cons ?z5_3 (.cons ?z5_4 .nil))))) ?zok5 ?zgd5 ?zk5
  case z5_0 => intro a' w' hE hK hg; exact ok_move (kn (hK 5 rfl) rfl q5)
  case z5_1 => intro a' w' hE hK hg; exact ok_move (kn (hK 0 rfl) rfl q0)
  case z5_2 => intro a' w' hE hK hg; exact okl_len (r := (rInt .i64)) ty58 (ksv (j := 1) (hK 22 rfl) rfl rfl rfl) (rd_of (GR.v_ext _ f4 hE))
  case z5_3 => intro a' w' hE hK hg; exact ok_gtr (ksv (j := 2) (hK 23 rfl) rfl rfl rfl) rfl
  case z5_4 => intro a' w' hE hK hg; exact ok_neqB ty4 (ksv (j := 0) (hK 21 rfl) rfl rfl rfl) (ksv (j := 3) (hK 24 rfl) rfl rfl rfl)
  case zok5 => kernel_rfl
  case zgd5 => kernel_rfl
  intro a5 w5 hA' hE HF
  replace q0 := kn (HF 0) rfl q0
  replace q3 := kn (HF 3) rfl q3
  replace q4 := kn (HF 4) rfl q4
  replace q5 := kn (HF 5) rfl q5
  have q25 := ksv (HF 25) rfl rfl rfl
  clear hA HF; have hA := hA'; clear hA'
  replace f4 := GR.v_ext _ f4 hE
  replace hB := Base.step hB hE hO; clear hE
  obtain ⟨x6, hx_, h⟩ := Comp.run_bind h; replace hx_ := Comp.run_pure hx_; rw [hx_] at q25; clear hx_
  refine (li_nil ?_)
  refine (nx_then ?_)
  refine wp_cond_b q25 (fun hc => ?_) (fun hc => ?_)
  ·
    replace h := Comp.run_b_t hc h; clear hc
    refine wp_seq ?_
    refine' region [_] mixed hA (.cons ?z6_0 .nil) ?zok6 ?zgd6 ?zk6
    case z6_0 => intro a' w' hE hK hg; exact ok_assign rfl
    case zok6 => kernel_rfl
    case zgd6 => kernel_rfl
    intro a6 w6 hA' hE HF
    have q2 := ksv (HF 2) rfl rfl rfl
    clear q0
    clear q3
    clear q4
    clear q5
    clear q25
    clear hA HF; have hA := hA'; clear hA'
    replace f4 := GR.v_ext _ f4 hE
    replace hB := Base.step hB hE hO; clear hE
    refine (li_nil ?_)
    refine (nx_then ?_)
    refine (wp_ret (rt_then ?_))
    have h := Comp.run_pure h; subst h
    exact retPure Try.results13 hA q2 hB.ext rfl
  ·
    replace h := Comp.run_b_f hc h; clear hc
    refine wp_skip ?_
    refine (nx_then ?_)
    refine wp_seq ?_
    refine wp_seq ?_
    refine' region [_, _] mixed hA (.cons ?z7_0 (.cons ?z7_1 .nil)) ?zok7 ?zgd7 ?zk7
    case z7_0 => intro a' w' hE hK hg; exact ok_move (kn (hK 5 rfl) rfl q5)
    case z7_1 => intro a' w' hE hK hg; exact ok_not (ksv (j := 0) (hK 26 rfl) rfl rfl rfl)
    case zok7 => kernel_rfl
    case zgd7 => kernel_rfl
    intro a7 w7 hA' hE HF
    replace q0 := kn (HF 0) rfl q0
    replace q3 := kn (HF 3) rfl q3
    replace q4 := kn (HF 4) rfl q4
    have q27 := ksv (HF 27) rfl rfl rfl
    clear q5
    clear q25
    clear hA HF; have hA := hA'; clear hA'
    replace f4 := GR.v_ext _ f4 hE
    replace hB := Base.step hB hE hO; clear hE
    refine (li_nil ?_)
    refine (nx_then ?_)
    refine wp_cond_b q27 (fun hc => ?_) (fun hc => ?_)
    ·
      replace h := Comp.run_b_t hc h; clear hc
      refine wp_seq ?_
      refine' region [_, _, _, _, _, _] mixed hA (.cons ?z8_0 (.cons ?z8_1 (.cons ?z8_2 (.cons ?z8_3 (.cons ?z8_4 (.cons ?z8_5 .nil)))))) ?zok8 ?zgd8 ?zk8
      case z8_0 => intro a' w' hE hK hg; exact ok_move (kn (hK 3 rfl) rfl q3)
      case z8_1 => intro a' w' hE hK hg; exact ok_move (ksv (j := 0) (hK 28 rfl) rfl rfl rfl)
      case z8_2 => intro a' w' hE hK hg; exact ok_move (kn (hK 4 rfl) rfl q4)
      case z8_3 => intro a' w' hE hK hg; exact ok_eqlI (ksv (j := 2) (hK 30 rfl) rfl rfl hg) rfl
      case z8_4 => intro a' w' hE hK hg; exact ok_pick (ksv (j := 1) (hK 29 rfl) rfl rfl rfl) (fun hb => ksv (j := 3) (hK 31 rfl) rfl rfl (act_g1 rfl rfl hb)) (fun _ => rfl)
      case z8_5 => intro a' w' hE hK hg; exact ok_assign (ksv (j := 4) (hK 32 rfl) rfl rfl rfl)
      case zok8 => kernel_rfl
      case zgd8 => kernel_rfl
      intro a8 w8 hA' hE HF
      have q2 := ksv (HF 2) rfl rfl rfl
      clear q0
      clear q3
      clear q4
      clear q27
      clear hA HF; have hA := hA'; clear hA'
      replace f4 := GR.v_ext _ f4 hE
      replace hB := Base.step hB hE hO; clear hE
      obtain ⟨x7, hx_, h⟩ := Comp.run_bind h; replace hx_ := Comp.run_pure hx_; rw [hx_] at q2; clear hx_
      refine (li_nil ?_)
      refine (nx_then ?_)
      refine (wp_ret (rt_then ?_))
      have h := Comp.run_pure h; subst h
      exact retPure Try.results13 hA q2 hB.ext rfl
    ·
      replace h := Comp.run_b_f hc h; clear hc
      refine wp_skip ?_
      refine (nx_then ?_)
      refine wp_seq ?_
      refine' region [SP.isv (.func (.func 52) #[] #[])] mixed hA (.cons ?z9_0 .nil) ?zok9 ?zgd9 ?zk9
      case z9_0 => intro a' w' hE hK hg; exact ok_assign rfl
      case zok9 => kernel_rfl
      case zgd9 => kernel_rfl
      intro a9 w9 hA' hE HF
      replace q0 := kn (HF 0) rfl q0
      replace q3 := kn (HF 3) rfl q3
      replace q4 := kn (HF 4) rfl q4
      have q6 := ksv (HF 6) rfl rfl rfl
      clear q27
      clear hA HF; have hA := hA'; clear hA'
      replace f4 := GR.v_ext _ f4 hE
      replace hB := Base.step hB hE hO; clear hE
      have f8 : (rF1 Try.prog (rInt .i64) (RS.c (fun x => .int .i64 x))).v O w9 (.func (.func 52) #[] #[]) colletlaw32_CoreLeasts_f1 := rF1_v.2 ⟨rfl, fun O' w' hO' hk v_0 x_0 hv_0 n_ y_ hy_ => by obtain rfl := rInt_v.1 hv_0; exact callV_func fn52 (ok_colletlaw32_CoreLeasts_f1 hO'   hy_)⟩
      refine (li_nil ?_)
      refine (nx_then ?_)
      refine wp_seq ?_
      refine' region [_] mixed hA (.cons ?z10_0 .nil) ?zok10 ?zgd10 ?zk10
      case z10_0 => intro a' w' hE hK hg; exact ok_assign rfl
      case zok10 => kernel_rfl
      case zgd10 => kernel_rfl
      intro a10 w10 hA' hE HF
      replace q0 := kn (HF 0) rfl q0
      replace q3 := kn (HF 3) rfl q3
      replace q4 := kn (HF 4) rfl q4
      replace q6 := kn (HF 6) rfl q6
      have q7 := ksv (HF 7) rfl rfl rfl
      clear hA HF; have hA := hA'; clear hA'
      replace f4 := GR.v_ext _ f4 hE
      replace f8 := GR.v_ext _ f8 hE
      replace hB := Base.step hB hE hO; clear hE
      refine (li_nil ?_)
      refine (nx_then ?_)
      refine seq_join (fun a w => ∃ (O23 : Tags) (x22 : Bool), a.fit 92 ∧ Base (Fr w0) O w0 O23 w ∧ a.get 0 = u3 ∧ (rSl (rInt .i64)).v O23 w u3 x2 ∧ a.get 3 = .bool x1 ∧ a.get 4 = .int .i64 x5.1 ∧ a.get 7 = .bool x22 ∧ (colletlaw32_CoreLeasts_j1 x2 x5 x1 x22).run n = some y) ?_ ?_
      ·
        refine wp_seq ?_
        refine' region [_, _, _] mixed hA (.cons ?z11_0 (.cons ?z11_1 (.cons ?z11_2 .nil))) ?zok11 ?zgd11 ?zk11
        case z11_0 => intro a' w' hE hK hg; exact ok_move (kn (hK 0 rfl) rfl q0)
        case z11_1 => intro a' w' hE hK hg; exact okl_len (r := (rInt .i64)) ty58 (ksv (j := 0) (hK 33 rfl) rfl rfl rfl) (rd_of (GR.v_ext _ f4 hE))
        case z11_2 => intro a' w' hE hK hg; exact ok_move rfl
        case zok11 => kernel_rfl
        case zgd11 => kernel_rfl
        intro a11 w11 hA' hE HF
        replace q0 := kn (HF 0) rfl q0
        replace q3 := kn (HF 3) rfl q3
        replace q4 := kn (HF 4) rfl q4
        replace q6 := kn (HF 6) rfl q6
        replace q7 := kn (HF 7) rfl q7
        have q33 := ksv (HF 33) rfl rfl rfl
        have q34 := ksv (HF 34) rfl rfl rfl
        have q35 := ksv (HF 35) rfl rfl rfl
        clear hA HF; have hA := hA'; clear hA'
        replace f4 := GR.v_ext _ f4 hE
        replace f8 := GR.v_ext _ f8 hE
        replace hB := Base.step hB hE hO; clear hE
        refine (li_nil ?_)
        refine (nx_then ?_)
        refine wp_block ?_
        obtain ⟨e2, he2, hk2⟩ := Comp.run_bind h; clear h
        refine loop_m (fun m a w => ∃ (O11 : Tags) (x9 : Bool) (x10 : Int), a.fit 92 ∧ Base (Fr w0) O w0 O11 w ∧ a.get 0 = u3 ∧ (rSl (rInt .i64)).v O11 w u3 x2 ∧ a.get 3 = .bool x1 ∧ a.get 4 = .int .i64 x5.1 ∧ a.get 6 = .func (.func 52) #[] #[] ∧ (rF1 Try.prog (rInt .i64) (RS.c (fun x => .int .i64 x))).v O11 w (.func (.func 52) #[] #[]) colletlaw32_CoreLeasts_f1 ∧ a.get 7 = .bool x9 ∧ a.get 33 = u3 ∧ a.get 34 = .int .i64 (x2.length : Int) ∧ a.get 35 = .int .i64 x10 ∧ Comp.loopN (fun s => colletlaw32_CoreLeasts_l2 x2 x5 s.1 s.2) n m (x9, x10) = some e2) (m := n) ?st2 ?_
        case st2 =>
          exact ⟨_, _, _, hA, hB, q0, f4, q3, q4, q6, f8, q7, q33, q34, q35, Comp.run_loop he2⟩
        intro m_ a12 w12 hI
        clear hA hB he2 q0 q3 q4 q6 q7 q33 q34 q35 f4 f8
        obtain ⟨O11, x9, x10, hA, hB, q0, f4, q3, q4, q6, f8, q7, q33, q34, q35, hl⟩ := hI
        obtain ⟨m2, hlt2, st2, h, hnext2, hdone2⟩ := Comp.loopN_succ hl; clear hl
        replace h : (colletlaw32_CoreLeasts_l2 x2 x5 x9 x10).run n = some st2 := h
        unfold colletlaw32_CoreLeasts_l2 at h
        refine wp_seq ?_
        refine' region [_] mixed hA (.cons ?z12_0 .nil) ?zok12 ?zgd12 ?zk12
        case z12_0 => intro a' w' hE hK hg; exact ok_lss (kn (hK 35 rfl) rfl q35) (kn (hK 34 rfl) rfl q34)
        case zok12 => kernel_rfl
        case zgd12 => kernel_rfl
        intro a13 w13 hA' hE HF
        replace q0 := kn (HF 0) rfl q0
        replace q3 := kn (HF 3) rfl q3
        replace q4 := kn (HF 4) rfl q4
        replace q6 := kn (HF 6) rfl q6
        replace q7 := kn (HF 7) rfl q7
        replace q33 := kn (HF 33) rfl q33
        replace q34 := kn (HF 34) rfl q34
        replace q35 := kn (HF 35) rfl q35
        have q36 := ksv (HF 36) rfl rfl rfl
        clear hA HF; have hA := hA'; clear hA'
        replace f4 := GR.v_ext _ f4 hE
        replace f8 := GR.v_ext _ f8 hE
        replace hB := Base.step hB hE hO; clear hE
        refine (li_nil ?_)
        refine (nx_then ?_)
        refine wp_seq ?_
        refine wp_cond_b q36 (fun hc => ?_) (fun hc => ?_)
        ·
          replace h := Comp.run_b_t hc h; clear hc
          refine wp_skip ?_
          refine (nx_then ?_)
          refine wp_seq ?_
          refine wp_block ?_
          refine wp_seq ?_
          obtain ⟨x12, hx12, h⟩ := Comp.run_bind h
          refine' region [SP.ptr (rInt .i64) O11 x12, SP.isv (.int .i64 x12), _] mixed hA (.cons ?z13_0 (.cons ?z13_1 (.cons ?z13_2 .nil))) ?zok13 ?zgd13 ?zk13
          case z13_0 => intro a' w' hE hK hg; exact okl_idx (r := (rInt .i64)) (O := O11) ty58 ty3 rfl (kn (hK 33 rfl) rfl q33) (rd_of (GR.v_ext _ f4 hE)) (kn (hK 35 rfl) rfl q35) hx12
          case z13_1 => intro a' w' hE hK hg; exact okl_ldr (rInt .i64) (fun _ => rfl) ty3 rfl rfl rfl (kspS (φ := SP.ptr (rInt .i64) O11 x12) (j := 0) (hK 37 rfl) rfl rfl rfl) (fun _ _ _ h => rInt_v.1 h)
          case z13_2 => intro a' w' hE hK hg; exact ok_assign (ksv (j := 1) (hK 38 rfl) rfl rfl rfl)
          case zok13 => kernel_rfl
          case zgd13 => kernel_rfl
          intro a14 w14 hA' hE HF
          replace q0 := kn (HF 0) rfl q0
          replace q3 := kn (HF 3) rfl q3
          replace q4 := kn (HF 4) rfl q4
          replace q6 := kn (HF 6) rfl q6
          replace q7 := kn (HF 7) rfl q7
          have q9 := ksv (HF 9) rfl rfl rfl
          replace q33 := kn (HF 33) rfl q33
          replace q34 := kn (HF 34) rfl q34
          replace q35 := kn (HF 35) rfl q35
          clear q36
          clear hA HF; have hA := hA'; clear hA'
          replace f4 := GR.v_ext _ f4 hE
          replace f8 := GR.v_ext _ f8 hE
          replace hB := Base.step hB hE hO; clear hE
          refine (li_nil ?_)
          refine (nx_then ?_)
          refine wp_seq ?_
          refine wp_seq ?_
          obtain ⟨x13, hx13, h⟩ := Comp.run_bind h
          obtain ⟨x14, hx14, h⟩ := Comp.run_bind h
          obtain ⟨x15, hx15, h⟩ := Comp.run_bind h
          obtain ⟨x16, hx16, h⟩ := Comp.run_bind h
          refine' region [_, _, SP.isv (.int .i64 x13), _, _, SP.isv (.int .i64 x14), _, _, _, _, _, _, _, _, _, _, _, _, SP.isv (.int .i64 x15), _, _, SP.isv (.int .i64 x16), _, _, _] mixed hA (.cons ?z14_0 (.cons ?z14_1 (.cons ?z14_2 (.cons ?z14_3 (.cons ?z14_4 (.cons ?z14_5 (.cons ?z14_6 (.cons ?z14_7 (.cons ?z14_8 (.cons ?z14_9 (.cons ?z14_10 (.cons ?z14_11 (.cons ?z14_12 (.cons ?z14_13 (.cons ?z14_14 (.cons ?z14_15 (.cons ?z14_16 (.cons ?z14_17 (.cons ?z14_18 (.cons ?z14_19 (.cons ?z14_20 (.cons ?z14_21 (.cons ?z14_22 (.cons ?z14_23 (.cons ?z14_24 .nil))))))))))))))))))))))))) ?zok14 ?zgd14 ?zk14
          case z14_0 => intro a' w' hE hK hg; exact ok_move (kn (hK 6 rfl) rfl q6)
          case z14_1 => intro a' w' hE hK hg; exact ok_move (kn (hK 9 rfl) rfl q9)
          case z14_2 => intro a' w' hE hK hg; exact okl_callv1 (R := (RS.c (fun x => .int .i64 x))) (ksv (j := 0) (hK 39 rfl) rfl rfl rfl) (show ((rF1 Try.prog (rInt .i64) (RS.c (fun x => .int .i64 x)))).v O11 _ _ _ from (GR.v_ext _ f8 hE)) (OkO.ext hB.ok hE) (ksv (j := 1) (hK 40 rfl) rfl rfl rfl) (by first | exact rInt_v.2 rfl | exact rBool_v.2 rfl | exact rStr_v.2 rfl | exact rC_v.2 rfl | exact ⟨_, rfl, rfl⟩) hx13
          case z14_3 => intro a' w' hE hK hg; exact ok_move (kn (hK 6 rfl) rfl q6)
          case z14_4 => intro a' w' hE hK hg; exact ok_move (kn (hK 4 rfl) rfl q4)
          case z14_5 => intro a' w' hE hK hg; exact okl_callv1 (R := (RS.c (fun x => .int .i64 x))) (ksv (j := 3) (hK 42 rfl) rfl rfl rfl) (show ((rF1 Try.prog (rInt .i64) (RS.c (fun x => .int .i64 x)))).v O11 _ _ _ from (GR.v_ext _ f8 hE)) (OkO.ext hB.ok hE) (ksv (j := 4) (hK 43 rfl) rfl rfl rfl) (by first | exact rInt_v.2 rfl | exact rBool_v.2 rfl | exact rStr_v.2 rfl | exact rC_v.2 rfl | exact ⟨_, rfl, rfl⟩) hx14
          case z14_6 => intro a' w' hE hK hg; exact ok_lss (ksv (j := 2) (hK 41 rfl) rfl rfl rfl) (ksv (j := 5) (hK 44 rfl) rfl rfl rfl)
          case z14_7 => intro a' w' hE hK hg; exact ok_move (ksv (j := 6) (hK 45 rfl) rfl rfl rfl)
          case z14_8 => intro a' w' hE hK hg; exact ok_move (kn (hK 7 rfl) rfl q7)
          case z14_9 => intro a' w' hE hK hg; exact ok_not (ksv (j := 8) (hK 47 rfl) rfl rfl hg)
          case z14_10 => intro a' w' hE hK hg; exact ok_move (ksv (j := 9) (hK 48 rfl) rfl rfl hg)
          case z14_11 => intro a' w' hE hK hg; exact ok_move (kn (hK 9 rfl) rfl q9)
          case z14_12 => intro a' w' hE hK hg; exact ok_move (kn (hK 4 rfl) rfl q4)
          case z14_13 => intro a' w' hE hK hg; exact ok_neqI (ksv (j := 11) (hK 50 rfl) rfl rfl hg) (ksv (j := 12) (hK 51 rfl) rfl rfl hg)
          case z14_14 => intro a' w' hE hK hg; exact ok_pick (ksv (j := 10) (hK 49 rfl) rfl rfl hg) (fun hb => ksv (j := 13) (hK 52 rfl) rfl rfl (act_g1 rfl hg hb)) (fun _ => rfl)
          case z14_15 => intro a' w' hE hK hg; exact ok_move (ksv (j := 14) (hK 53 rfl) rfl rfl hg)
          case z14_16 => intro a' w' hE hK hg; exact ok_move (kn (hK 6 rfl) rfl q6)
          case z14_17 => intro a' w' hE hK hg; exact ok_move (kn (hK 9 rfl) rfl q9)
          case z14_18 => intro a' w' hE hK hg; exact okl_callv1 (R := (RS.c (fun x => .int .i64 x))) (ksv (j := 16) (hK 55 rfl) rfl rfl hg) (show ((rF1 Try.prog (rInt .i64) (RS.c (fun x => .int .i64 x)))).v O11 _ _ _ from (GR.v_ext _ f8 hE)) (OkO.ext hB.ok hE) (ksv (j := 17) (hK 56 rfl) rfl rfl hg) (by first | exact rInt_v.2 rfl | exact rBool_v.2 rfl | exact rStr_v.2 rfl | exact rC_v.2 rfl | exact ⟨_, rfl, rfl⟩) (run_gdb hx15 hg)
          case z14_19 => intro a' w' hE hK hg; exact ok_move (kn (hK 6 rfl) rfl q6)
          case z14_20 => intro a' w' hE hK hg; exact ok_move (kn (hK 4 rfl) rfl q4)
          case z14_21 => intro a' w' hE hK hg; exact okl_callv1 (R := (RS.c (fun x => .int .i64 x))) (ksv (j := 19) (hK 58 rfl) rfl rfl hg) (show ((rF1 Try.prog (rInt .i64) (RS.c (fun x => .int .i64 x)))).v O11 _ _ _ from (GR.v_ext _ f8 hE)) (OkO.ext hB.ok hE) (ksv (j := 20) (hK 59 rfl) rfl rfl hg) (by first | exact rInt_v.2 rfl | exact rBool_v.2 rfl | exact rStr_v.2 rfl | exact rC_v.2 rfl | exact ⟨_, rfl, rfl⟩) (run_gdb hx16 hg)
          case z14_22 => intro a' w' hE hK hg; exact ok_eqlI (ksv (j := 18) (hK 57 rfl) rfl rfl hg) (ksv (j := 21) (hK 60 rfl) rfl rfl hg)
          case z14_23 => intro a' w' hE hK hg; exact ok_pick (ksv (j := 15) (hK 54 rfl) rfl rfl hg) (fun hb => ksv (j := 22) (hK 61 rfl) rfl rfl (act_g1 rfl hg hb)) (fun _ => rfl)
          case z14_24 => intro a' w' hE hK hg; exact ok_pick (ksv (j := 7) (hK 46 rfl) rfl rfl rfl) (fun _ => rfl) (fun hb => ksv (j := 23) (hK 62 rfl) rfl rfl (act_g1 rfl rfl hb))
          case zok14 => kernel_rfl
          case zgd14 => kernel_rfl
          intro a15 w15 hA' hE HF
          replace q0 := kn (HF 0) rfl q0
          replace q3 := kn (HF 3) rfl q3
          replace q4 := kn (HF 4) rfl q4
          replace q6 := kn (HF 6) rfl q6
          replace q7 := kn (HF 7) rfl q7
          replace q9 := kn (HF 9) rfl q9
          replace q33 := kn (HF 33) rfl q33
          replace q34 := kn (HF 34) rfl q34
          replace q35 := kn (HF 35) rfl q35
          have q63 := ksv (HF 63) rfl rfl rfl
          clear hA HF; have hA := hA'; clear hA'
          replace f4 := GR.v_ext _ f4 hE
          replace f8 := GR.v_ext _ f8 hE
          replace hB := Base.step hB hE hO; clear hE
          obtain ⟨x17, hx_, h⟩ := Comp.run_bind h; replace hx_ := Comp.run_pure hx_; rw [hx_] at q63; clear hx_
          refine (li_nil ?_)
          refine (nx_then ?_)
          refine wp_cond_b q63 (fun hc => ?_) (fun hc => ?_)
          ·
            replace h := Comp.run_b_t hc h; clear hc
            refine wp_seq ?_
            refine' region [_] mixed hA (.cons ?z15_0 .nil) ?zok15 ?zgd15 ?zk15
            case z15_0 => intro a' w' hE hK hg; exact ok_assign rfl
            case zok15 => kernel_rfl
            case zgd15 => kernel_rfl
            intro a16 w16 hA' hE HF
            have q2 := ksv (HF 2) rfl rfl rfl
            clear q0
            clear q3
            clear q4
            clear q6
            clear q7
            clear q9
            clear q33
            clear q34
            clear q35
            clear q63
            clear hA HF; have hA := hA'; clear hA'
            replace f4 := GR.v_ext _ f4 hE
            replace f8 := GR.v_ext _ f8 hE
            replace hB := Base.step hB hE hO; clear hE
            refine (li_nil ?_)
            refine (nx_then ?_)
            refine (wp_ret (rt_then (rt_blk (rt_then (rt_then (rt_blk (rt_then ?_)))))))
            have hd_ := hdone2 _ (Comp.run_pure h).symm; clear h
            subst hd_; have h := hk2; clear hk2; try dsimp only at h
            have h := Comp.run_pure h; subst h
            exact retPure Try.results13 hA q2 hB.ext rfl
          ·
            replace h := Comp.run_b_f hc h; clear hc
            refine wp_skip ?_
            refine (nx_then ?_)
            refine' region [_, _, _, _, _, _, _] mixed hA (.cons ?z16_0 (.cons ?z16_1 (.cons ?z16_2 (.cons ?z16_3 (.cons ?z16_4 (.cons ?z16_5 (.cons ?z16_6 .nil))))))) ?zok16 ?zgd16 ?zk16
            case z16_0 => intro a' w' hE hK hg; exact ok_move (kn (hK 7 rfl) rfl q7)
            case z16_1 => intro a' w' hE hK hg; exact ok_move (ksv (j := 0) (hK 64 rfl) rfl rfl rfl)
            case z16_2 => intro a' w' hE hK hg; exact ok_move (kn (hK 9 rfl) rfl q9)
            case z16_3 => intro a' w' hE hK hg; exact ok_move (kn (hK 4 rfl) rfl q4)
            case z16_4 => intro a' w' hE hK hg; exact ok_eqlI (ksv (j := 2) (hK 66 rfl) rfl rfl hg) (ksv (j := 3) (hK 67 rfl) rfl rfl hg)
            case z16_5 => intro a' w' hE hK hg; exact ok_pick (ksv (j := 1) (hK 65 rfl) rfl rfl rfl) (fun _ => rfl) (fun hb => ksv (j := 4) (hK 68 rfl) rfl rfl (act_g1 rfl rfl hb))
            case z16_6 => intro a' w' hE hK hg; exact ok_assign (ksv (j := 5) (hK 69 rfl) rfl rfl rfl)
            case zok16 => kernel_rfl
            case zgd16 => kernel_rfl
            intro a17 w17 hA' hE HF
            replace q0 := kn (HF 0) rfl q0
            replace q3 := kn (HF 3) rfl q3
            replace q4 := kn (HF 4) rfl q4
            replace q6 := kn (HF 6) rfl q6
            have q7' := ksv (HF 7) rfl rfl rfl
            replace q7 := q7'; clear q7'
            replace q33 := kn (HF 33) rfl q33
            replace q34 := kn (HF 34) rfl q34
            replace q35 := kn (HF 35) rfl q35
            clear q9
            clear q63
            clear hA HF; have hA := hA'; clear hA'
            replace f4 := GR.v_ext _ f4 hE
            replace f8 := GR.v_ext _ f8 hE
            replace hB := Base.step hB hE hO; clear hE
            obtain ⟨x19, hx_, h⟩ := Comp.run_bind h; replace hx_ := Comp.run_pure hx_; rw [hx_] at q7; clear hx_
            refine (li_nil ?_)
            refine (nx_blk (nx_then ?_))
            refine' region [_, _] mixed hA (.cons ?z17_0 (.cons ?z17_1 .nil)) ?zok17 ?zgd17 ?zk17
            case z17_0 => intro a' w' hE hK hg; exact ok_add (kn (hK 35 rfl) rfl q35) rfl
            case z17_1 => intro a' w' hE hK hg; exact ok_move (ksv (j := 0) (hK 70 rfl) rfl rfl rfl)
            case zok17 => kernel_rfl
            case zgd17 => kernel_rfl
            intro a18 w18 hA' hE HF
            replace q0 := kn (HF 0) rfl q0
            replace q3 := kn (HF 3) rfl q3
            replace q4 := kn (HF 4) rfl q4
            replace q6 := kn (HF 6) rfl q6
            replace q7 := kn (HF 7) rfl q7
            replace q33 := kn (HF 33) rfl q33
            replace q34 := kn (HF 34) rfl q34
            have q35' := ksv (HF 35) rfl rfl rfl
            replace q35 := q35'; clear q35'
            clear hA HF; have hA := hA'; clear hA'
            replace f4 := GR.v_ext _ f4 hE
            replace f8 := GR.v_ext _ f8 hE
            replace hB := Base.step hB hE hO; clear hE
            refine (li_nil ?_)
            refine (nx_then ?_)
            have h := hnext2 _ (Comp.run_pure h).symm
            refine ⟨m2, hlt2, ?_⟩
            exact ⟨_, _, _, hA, hB, q0, f4, q3, q4, q6, f8, q7, q33, q34, q35, h⟩
        ·
          replace h := Comp.run_b_f hc h; clear hc
          refine wp_exit ?_
          refine (ex_then (ex_then (ex_same ?_)))
          have hd_ := hdone2 _ (Comp.run_pure h).symm; clear h
          subst hd_; have h := hk2; clear hk2; try dsimp only at h
          refine (nx_then ?_)
          exact ⟨_, _, hA, hB, q0, f4, q3, q4, q7, h⟩
      intro a19 w19 hI
      clear hA hB h q0 q3 q4 q6 q7 f4 f8
      obtain ⟨O23, x22, hA, hB, q0, f4, q3, q4, q7, h⟩ := hI
      unfold colletlaw32_CoreLeasts_j1 at h
      refine wp_seq ?_
      refine' region [_] mixed hA (.cons ?z18_0 .nil) ?zok18 ?zgd18 ?zk18
      case z18_0 => intro a' w' hE hK hg; exact ok_assign rfl
      case zok18 => kernel_rfl
      case zgd18 => kernel_rfl
      intro a20 w20 hA' hE HF
      replace q0 := kn (HF 0) rfl q0
      replace q3 := kn (HF 3) rfl q3
      replace q4 := kn (HF 4) rfl q4
      replace q7 := kn (HF 7) rfl q7
      have q10 := ksv (HF 10) rfl rfl rfl
      clear hA HF; have hA := hA'; clear hA'
      replace f4 := GR.v_ext _ f4 hE
      replace hB := Base.step hB hE hO; clear hE
      refine (li_nil ?_)
      refine (nx_then ?_)
      refine seq_join (fun a w => ∃ (O35 : Tags) (x34 : Bool), a.fit 92 ∧ Base (Fr w0) O w0 O35 w ∧ a.get 3 = .bool x1 ∧ a.get 7 = .bool x22 ∧ a.get 10 = .bool x34 ∧ (colletlaw32_CoreLeasts_j3 x1 x22 x34).run n = some y) ?_ ?_
      ·
        refine wp_seq ?_
        obtain ⟨x24, hx24, h⟩ := Comp.run_bind h
        refine' region [_, SP.vl (rSl (rInt .i64)) O23 x24, _, _] mixed hA (.cons ?z19_0 (.cons ?z19_1 (.cons ?z19_2 (.cons ?z19_3 .nil)))) ?zok19 ?zgd19 ?zk19
        case z19_0 => intro a' w' hE hK hg; exact ok_move (kn (hK 0 rfl) rfl q0)
        case z19_1 => intro a' w' hE hK hg; have c_ := ok_core_Minimal (OkO.ext hB.ok hE) (GR.v_ext _ f4 hE) hx24; exact ok_weak (ok_call1 fn42 (ksv (j := 0) (hK 71 rfl) rfl rfl rfl) c_) (fun _ _ _ h => (OwnR.val h (fun g hg => (OkO.ext hB.ok hE) g (OwnR.ge h g hg).1)))
        case z19_2 => intro a' w' hE hK hg; exact okl_len (r := (rInt .i64)) ty58 rfl (rd_of (kspS (φ := SP.vl (rSl (rInt .i64)) O23 x24) (j := 1) (hK 72 rfl) rfl rfl rfl))
        case z19_3 => intro a' w' hE hK hg; exact ok_move rfl
        case zok19 => kernel_rfl
        case zgd19 => kernel_rfl
        intro a21 w21 hA' hE HF
        replace q3 := kn (HF 3) rfl q3
        replace q4 := kn (HF 4) rfl q4
        replace q7 := kn (HF 7) rfl q7
        replace q10 := kn (HF 10) rfl q10
        have f26 := ksp (HF 72) rfl rfl rfl
        obtain ⟨u25, q72'⟩ : ∃ u, a21.get 72 = u := ⟨_, rfl⟩
        rw [q72'] at f26
        have q72 := q72'; clear q72'
        have q73 := ksv (HF 73) rfl rfl rfl
        have q74 := ksv (HF 74) rfl rfl rfl
        clear q0
        clear hA HF; have hA := hA'; clear hA'
        replace f4 := GR.v_ext _ f4 hE
        replace hB := Base.step hB hE hO; clear hE
        refine (li_nil ?_)
        refine (nx_then ?_)
        refine wp_block ?_
        obtain ⟨e4, he4, hk4⟩ := Comp.run_bind h; clear h
        refine loop_m (fun m a w => ∃ (O29 : Tags) (x27 : Bool) (x28 : Int), a.fit 92 ∧ Base (Fr w0) O w0 O29 w ∧ a.get 3 = .bool x1 ∧ a.get 4 = .int .i64 x5.1 ∧ a.get 7 = .bool x22 ∧ a.get 10 = .bool x27 ∧ a.get 72 = u25 ∧ (rSl (rInt .i64)).v O29 w u25 x24 ∧ a.get 73 = .int .i64 (x24.length : Int) ∧ a.get 74 = .int .i64 x28 ∧ Comp.loopN (fun s => colletlaw32_CoreLeasts_l4 x24 x5 s.1 s.2) n m (x27, x28) = some e4) (m := n) ?st4 ?_
        case st4 =>
          exact ⟨_, _, _, hA, hB, q3, q4, q7, q10, q72, f26, q73, q74, Comp.run_loop he4⟩
        intro m_ a22 w22 hI
        clear hA hB he4 q3 q4 q7 q10 q72 q73 q74 f26
        obtain ⟨O29, x27, x28, hA, hB, q3, q4, q7, q10, q72, f26, q73, q74, hl⟩ := hI
        obtain ⟨m4, hlt4, st4, h, hnext4, hdone4⟩ := Comp.loopN_succ hl; clear hl
        replace h : (colletlaw32_CoreLeasts_l4 x24 x5 x27 x28).run n = some st4 := h
        unfold colletlaw32_CoreLeasts_l4 at h
        refine wp_seq ?_
        refine' region [_] mixed hA (.cons ?z20_0 .nil) ?zok20 ?zgd20 ?zk20
        case z20_0 => intro a' w' hE hK hg; exact ok_lss (kn (hK 74 rfl) rfl q74) (kn (hK 73 rfl) rfl q73)
        case zok20 => kernel_rfl
        case zgd20 => kernel_rfl
        intro a23 w23 hA' hE HF
        replace q3 := kn (HF 3) rfl q3
        replace q4 := kn (HF 4) rfl q4
        replace q7 := kn (HF 7) rfl q7
        replace q10 := kn (HF 10) rfl q10
        replace q72 := kn (HF 72) rfl q72
        replace q73 := kn (HF 73) rfl q73
        replace q74 := kn (HF 74) rfl q74
        have q75 := ksv (HF 75) rfl rfl rfl
        clear hA HF; have hA := hA'; clear hA'
        replace f26 := GR.v_ext _ f26 hE
        replace hB := Base.step hB hE hO; clear hE
        refine (li_nil ?_)
        refine (nx_then ?_)
        refine wp_seq ?_
        refine wp_cond_b q75 (fun hc => ?_) (fun hc => ?_)
        ·
          replace h := Comp.run_b_t hc h; clear hc
          refine wp_skip ?_
          refine (nx_then ?_)
          refine wp_seq ?_
          refine wp_block ?_
          refine wp_seq ?_
          obtain ⟨x30, hx30, h⟩ := Comp.run_bind h
          refine' region [SP.ptr (rInt .i64) O29 x30, SP.isv (.int .i64 x30), _] mixed hA (.cons ?z21_0 (.cons ?z21_1 (.cons ?z21_2 .nil))) ?zok21 ?zgd21 ?zk21
          case z21_0 => intro a' w' hE hK hg; exact okl_idx (r := (rInt .i64)) (O := O29) ty58 ty3 rfl (kn (hK 72 rfl) rfl q72) (rd_of (GR.v_ext _ f26 hE)) (kn (hK 74 rfl) rfl q74) hx30
          case z21_1 => intro a' w' hE hK hg; exact okl_ldr (rInt .i64) (fun _ => rfl) ty3 rfl rfl rfl (kspS (φ := SP.ptr (rInt .i64) O29 x30) (j := 0) (hK 76 rfl) rfl rfl rfl) (fun _ _ _ h => rInt_v.1 h)
          case z21_2 => intro a' w' hE hK hg; exact ok_assign (ksv (j := 1) (hK 77 rfl) rfl rfl rfl)
          case zok21 => kernel_rfl
          case zgd21 => kernel_rfl
          intro a24 w24 hA' hE HF
          replace q3 := kn (HF 3) rfl q3
          replace q4 := kn (HF 4) rfl q4
          replace q7 := kn (HF 7) rfl q7
          replace q10 := kn (HF 10) rfl q10
          have q12 := ksv (HF 12) rfl rfl rfl
          replace q72 := kn (HF 72) rfl q72
          replace q73 := kn (HF 73) rfl q73
          replace q74 := kn (HF 74) rfl q74
          clear q75
          clear hA HF; have hA := hA'; clear hA'
          replace f26 := GR.v_ext _ f26 hE
          replace hB := Base.step hB hE hO; clear hE
          refine (li_nil ?_)
          refine (nx_then ?_)
          refine' region [_, _, _, _, _, _, _] mixed hA (.cons ?z22_0 (.cons ?z22_1 (.cons ?z22_2 (.cons ?z22_3 (.cons ?z22_4 (.cons ?z22_5 (.cons ?z22_6 .nil))))))) ?zok22 ?zgd22 ?zk22
          case z22_0 => intro a' w' hE hK hg; exact ok_move (kn (hK 10 rfl) rfl q10)
          case z22_1 => intro a' w' hE hK hg; exact ok_move (ksv (j := 0) (hK 78 rfl) rfl rfl rfl)
          case z22_2 => intro a' w' hE hK hg; exact ok_move (kn (hK 12 rfl) rfl q12)
          case z22_3 => intro a' w' hE hK hg; exact ok_move (kn (hK 4 rfl) rfl q4)
          case z22_4 => intro a' w' hE hK hg; exact ok_eqlI (ksv (j := 2) (hK 80 rfl) rfl rfl hg) (ksv (j := 3) (hK 81 rfl) rfl rfl hg)
          case z22_5 => intro a' w' hE hK hg; exact ok_pick (ksv (j := 1) (hK 79 rfl) rfl rfl rfl) (fun _ => rfl) (fun hb => ksv (j := 4) (hK 82 rfl) rfl rfl (act_g1 rfl rfl hb))
          case z22_6 => intro a' w' hE hK hg; exact ok_assign (ksv (j := 5) (hK 83 rfl) rfl rfl rfl)
          case zok22 => kernel_rfl
          case zgd22 => kernel_rfl
          intro a25 w25 hA' hE HF
          replace q3 := kn (HF 3) rfl q3
          replace q4 := kn (HF 4) rfl q4
          replace q7 := kn (HF 7) rfl q7
          have q10' := ksv (HF 10) rfl rfl rfl
          replace q10 := q10'; clear q10'
          replace q72 := kn (HF 72) rfl q72
          replace q73 := kn (HF 73) rfl q73
          replace q74 := kn (HF 74) rfl q74
          clear q12
          clear hA HF; have hA := hA'; clear hA'
          replace f26 := GR.v_ext _ f26 hE
          replace hB := Base.step hB hE hO; clear hE
          obtain ⟨x31, hx_, h⟩ := Comp.run_bind h; replace hx_ := Comp.run_pure hx_; rw [hx_] at q10; clear hx_
          refine (li_nil ?_)
          refine (nx_blk (nx_then ?_))
          refine' region [_, _] mixed hA (.cons ?z23_0 (.cons ?z23_1 .nil)) ?zok23 ?zgd23 ?zk23
          case z23_0 => intro a' w' hE hK hg; exact ok_add (kn (hK 74 rfl) rfl q74) rfl
          case z23_1 => intro a' w' hE hK hg; exact ok_move (ksv (j := 0) (hK 84 rfl) rfl rfl rfl)
          case zok23 => kernel_rfl
          case zgd23 => kernel_rfl
          intro a26 w26 hA' hE HF
          replace q3 := kn (HF 3) rfl q3
          replace q4 := kn (HF 4) rfl q4
          replace q7 := kn (HF 7) rfl q7
          replace q10 := kn (HF 10) rfl q10
          replace q72 := kn (HF 72) rfl q72
          replace q73 := kn (HF 73) rfl q73
          have q74' := ksv (HF 74) rfl rfl rfl
          replace q74 := q74'; clear q74'
          clear hA HF; have hA := hA'; clear hA'
          replace f26 := GR.v_ext _ f26 hE
          replace hB := Base.step hB hE hO; clear hE
          refine (li_nil ?_)
          refine (nx_then ?_)
          have h := hnext4 _ (Comp.run_pure h).symm
          refine ⟨m4, hlt4, ?_⟩
          exact ⟨_, _, _, hA, hB, q3, q4, q7, q10, q72, f26, q73, q74, h⟩
        ·
          replace h := Comp.run_b_f hc h; clear hc
          refine wp_exit ?_
          refine (ex_then (ex_then (ex_same ?_)))
          have hd_ := hdone4 _ (Comp.run_pure h).symm; clear h
          subst hd_; have h := hk4; clear hk4; try dsimp only at h
          refine (nx_then ?_)
          exact ⟨_, _, hA, hB, q3, q7, q10, h⟩
      intro a27 w27 hI
      clear hA hB h q0 q3 q4 q7 q10 f4
      obtain ⟨O35, x34, hA, hB, q3, q7, q10, h⟩ := hI
      unfold colletlaw32_CoreLeasts_j3 at h
      refine wp_seq ?_
      refine' region [_, _, _, _, _, _, _, _] mixed hA (.cons ?z24_0 (.cons ?z24_1 (.cons ?z24_2 (.cons ?z24_3 (.cons ?z24_4 (.cons ?z24_5 (.cons ?z24_6 (.cons ?z24_7 .nil)))))))) ?zok24 ?zgd24 ?zk24
      case z24_0 => intro a' w' hE hK hg; exact ok_move (kn (hK 3 rfl) rfl q3)
      case z24_1 => intro a' w' hE hK hg; exact ok_move (ksv (j := 0) (hK 85 rfl) rfl rfl rfl)
      case z24_2 => intro a' w' hE hK hg; exact ok_move (kn (hK 7 rfl) rfl q7)
      case z24_3 => intro a' w' hE hK hg; exact ok_pick (ksv (j := 1) (hK 86 rfl) rfl rfl rfl) (fun hb => ksv (j := 2) (hK 87 rfl) rfl rfl (act_g1 rfl rfl hb)) (fun _ => rfl)
      case z24_4 => intro a' w' hE hK hg; exact ok_move (ksv (j := 3) (hK 88 rfl) rfl rfl rfl)
      case z24_5 => intro a' w' hE hK hg; exact ok_move (kn (hK 10 rfl) rfl q10)
      case z24_6 => intro a' w' hE hK hg; exact ok_pick (ksv (j := 4) (hK 89 rfl) rfl rfl rfl) (fun hb => ksv (j := 5) (hK 90 rfl) rfl rfl (act_g1 rfl rfl hb)) (fun _ => rfl)
      case z24_7 => intro a' w' hE hK hg; exact ok_assign (ksv (j := 6) (hK 91 rfl) rfl rfl rfl)
      case zok24 => kernel_rfl
      case zgd24 => kernel_rfl
      intro a28 w28 hA' hE HF
      have q2 := ksv (HF 2) rfl rfl rfl
      clear q3
      clear q7
      clear q10
      clear hA HF; have hA := hA'; clear hA'
      replace hB := Base.step hB hE hO; clear hE
      obtain ⟨x36, hx_, h⟩ := Comp.run_bind h; replace hx_ := Comp.run_pure hx_; rw [hx_] at q2; clear hx_
      refine (li_nil ?_)
      refine (nx_then ?_)
      refine (wp_ret ?_)
      have h := Comp.run_pure h; subst h
      exact retPure Try.results13 hA q2 hB.ext rfl

end Go.Proofs.Ytkbipbfncbopnaa
