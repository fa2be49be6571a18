/- The lifting of the program's functions, further part (printed by wip/lift). No statement of the program stands here. -/
import Derived.Test.YtkbipbfncbopnaaCoLa1
namespace Go.Proofs.Ytkbipbfncbopnaa
open Go Go.RowKit Go.Eng Go.Lift Go.F
set_option linter.unusedVariables false
set_option linter.unusedSimpArgs false
set_option maxRecDepth 100000
theorem ok_colletref32_Conflicts {O : Tags} {w0 : World} (hO : OkO O w0) {v_0 : Value} {x_0 : List Bool} (h_0 : (rSl rBool).v O w0 v_0 x_0) {n : Nat} {y : ((List Int) × Int)} (h : (colletref32_Conflicts x_0).run n = some y) : Pure Try.prog 50 #[v_0] w0 (SP.tup2 (SP.ownr (rInt .i64) 3 (w0.heap.size) O y.1) (SP.isv (.int .i64 y.2))).holds := by
  unfold colletref32_Conflicts at h
  refine pure_of_wp Try.func50 rfl 73 Try.ntmps50 (by simp) fun a0 hA hs0 => ?_
  have q0 := hs0 0 _ rfl
  clear hs0
  have hB : Base (Fr w0) O w0 O w0 := Base.start hO
  refine wp_seq ?_
  refine' region [_, _] mixed hA (.cons ?z1_0 (.cons ?z1_1 .nil)) ?zok1 ?zgd1 ?zk1
  case z1_0 => intro a' w' hE hK hg; exact ok_assign rfl
  case z1_1 => intro a' w' hE hK hg; exact ok_assign rfl
  case zok1 => kernel_rfl
  case zgd1 => kernel_rfl
  intro a1 w1 hA' hE HF
  replace q0 := kn (HF 0) rfl q0
  clear hA HF; have hA := hA'; clear hA'
  replace h_0 := GR.v_ext _ h_0 hE
  replace hB := Base.step hB hE hO; clear hE
  refine (li_nil ?_)
  refine (nx_then ?_)
  refine wp_seq ?_
  refine wp_seq ?_
  refine' region [_, _, _] mixed hA (.cons ?z2_0 (.cons ?z2_1 (.cons ?z2_2 .nil))) ?zok2 ?zgd2 ?zk2
  case z2_0 => intro a' w' hE hK hg; exact ok_move (kn (hK 0 rfl) rfl q0)
  case z2_1 => intro a' w' hE hK hg; exact okl_len (r := rBool) ty71 (ksv (j := 0) (hK 9 rfl) rfl rfl rfl) (rd_of (GR.v_ext _ h_0 hE))
  case z2_2 => intro a' w' hE hK hg; exact ok_gtr (ksv (j := 1) (hK 10 rfl) rfl rfl rfl) rfl
  case zok2 => kernel_rfl
  case zgd2 => kernel_rfl
  intro a2 w2 hA' hE HF
  replace q0 := kn (HF 0) rfl q0
  have q11 := ksv (HF 11) rfl rfl rfl
  clear hA HF; have hA := hA'; clear hA'
  replace h_0 := GR.v_ext _ h_0 hE
  replace hB := Base.step hB hE hO; clear hE
  refine (li_nil ?_)
  refine (nx_then ?_)
  refine wp_cond_b q11 (fun hc => ?_) (fun hc => ?_)
  ·
    replace h := Comp.run_b_t hc h; clear hc
    refine wp_seq ?_
    refine' region [_, _] mixed hA (.cons ?z3_0 (.cons ?z3_1 .nil)) ?zok3 ?zgd3 ?zk3
    case z3_0 => intro a' w' hE hK hg; exact ok_assign rfl
    case z3_1 => intro a' w' hE hK hg; exact ok_assign rfl
    case zok3 => kernel_rfl
    case zgd3 => kernel_rfl
    intro a3 w3 hA' hE HF
    have q2 := ksv (HF 2) rfl rfl rfl
    have q3 := ksv (HF 3) rfl rfl rfl
    clear q0
    clear q11
    clear hA HF; have hA := hA'; clear hA'
    replace h_0 := GR.v_ext _ h_0 hE
    replace hB := Base.step hB hE hO; clear hE
    refine (li_nil ?_)
    refine (nx_then ?_)
    refine (wp_ret (rt_then ?_))
    have h := Comp.run_pure h; subst h
    exact retPure2 Try.results50 hA q2 q3 hB.ext ⟨_, _, rfl, (OwnR.nil _ _ _ _ _), rfl⟩
  ·
    replace h := Comp.run_b_f hc h; clear hc
    refine wp_skip ?_
    refine (nx_then ?_)
    refine wp_seq ?_
    refine' region [_] mixed hA (.cons ?z4_0 .nil) ?zok4 ?zgd4 ?zk4
    case z4_0 => intro a' w' hE hK hg; exact ok_assign rfl
    case zok4 => kernel_rfl
    case zgd4 => kernel_rfl
    intro a4 w4 hA' hE HF
    replace q0 := kn (HF 0) rfl q0
    have q4 := ksv (HF 4) rfl rfl rfl
    clear q11
    clear hA HF; have hA := hA'; clear hA'
    replace h_0 := GR.v_ext _ h_0 hE
    replace hB := Base.step hB hE hO; clear hE
    refine (li_nil ?_)
    refine (nx_then ?_)
    refine seq_join (fun a w => ∃ (O8 : Tags) (x7 : Int), a.fit 73 ∧ Base (Fr w0) O w0 O8 w ∧ a.get 0 = v_0 ∧ (rSl rBool).v O8 w v_0 x_0 ∧ a.get 4 = .int .i64 x7 ∧ (colletref32_Conflicts_j1 x_0 x7).run n = some y) ?_ ?_
    ·
      refine wp_block ?_
      obtain ⟨e2, he2, hk2⟩ := Comp.run_bind h; clear h
      refine loop_m (fun m a w => ∃ (O2 : Tags) (x1 : Int), a.fit 73 ∧ Base (Fr w0) O w0 O2 w ∧ a.get 0 = v_0 ∧ (rSl rBool).v O2 w v_0 x_0 ∧ a.get 4 = .int .i64 x1 ∧ Comp.loopN (fun s => colletref32_Conflicts_l2 x_0 s) n m x1 = some e2) (m := n) ?st2 ?_
      case st2 =>
        exact ⟨_, _, hA, hB, q0, h_0, q4, Comp.run_loop he2⟩
      intro m_ a5 w5 hI
      clear hA hB he2 q0 q4 h_0
      obtain ⟨O2, x1, hA, hB, q0, h_0, q4, hl⟩ := hI
      obtain ⟨m2, hlt2, st2, h, hnext2, hdone2⟩ := Comp.loopN_succ hl; clear hl
      replace h : (colletref32_Conflicts_l2 x_0 x1).run n = some st2 := h
      unfold colletref32_Conflicts_l2 at h
      refine wp_seq ?_
      refine wp_seq ?_
      obtain ⟨x3, hx3, h⟩ := Comp.run_bind h
      refine' region [_, _, _, _, _] mixed hA (.cons ?z5_0 (.cons ?z5_1 (.cons ?z5_2 (.cons ?z5_3 (.cons ?z5_4 .nil))))) ?zok5 ?zgd5 ?zk5
      case z5_0 => intro a' w' hE hK hg; exact ok_move (kn (hK 4 rfl) rfl q4)
      case z5_1 => intro a' w' hE hK hg; exact okl_shl rfl (ksv (j := 0) (hK 12 rfl) rfl rfl rfl) (run_nonneg hx3)
      case z5_2 => intro a' w' hE hK hg; exact ok_move (kn (hK 0 rfl) rfl q0)
      case z5_3 => intro a' w' hE hK hg; exact okl_len (r := rBool) ty71 (ksv (j := 2) (hK 14 rfl) rfl rfl rfl) (rd_of (GR.v_ext _ h_0 hE))
      case z5_4 => intro a' w' hE hK hg; exact ok_lss (ksv (j := 1) (hK 13 rfl) rfl rfl rfl) (ksv (j := 3) (hK 15 rfl) rfl rfl rfl)
      case zok5 => kernel_rfl
      case zgd5 => kernel_rfl
      intro a6 w6 hA' hE HF
      replace q0 := kn (HF 0) rfl q0
      replace q4 := kn (HF 4) rfl q4
      have q16 := ksv (HF 16) rfl rfl rfl
      clear hA HF; have hA := hA'; clear hA'
      replace h_0 := GR.v_ext _ h_0 hE
      replace hB := Base.step hB hE hO; clear hE
      obtain ⟨x4, hx_, h⟩ := Comp.run_bind h; replace hx_ := Comp.run_pure hx_; rw [hx_] at q16; clear hx_
      refine (li_nil ?_)
      refine (nx_then ?_)
      refine wp_cond_b q16 (fun hc => ?_) (fun hc => ?_)
      ·
        replace h := Comp.run_b_t hc h; clear hc
        refine wp_skip ?_
        refine (nx_then ?_)
        refine wp_block ?_
        refine' region [_, _, _] mixed hA (.cons ?z6_0 (.cons ?z6_1 (.cons ?z6_2 .nil))) ?zok6 ?zgd6 ?zk6
        case z6_0 => intro a' w' hE hK hg; exact ok_move (kn (hK 4 rfl) rfl q4)
        case z6_1 => intro a' w' hE hK hg; exact ok_add (ksv (j := 0) (hK 17 rfl) rfl rfl rfl) rfl
        case z6_2 => intro a' w' hE hK hg; exact ok_assign (ksv (j := 1) (hK 18 rfl) rfl rfl rfl)
        case zok6 => kernel_rfl
        case zgd6 => kernel_rfl
        intro a7 w7 hA' hE HF
        replace q0 := kn (HF 0) rfl q0
        have q4' := ksv (HF 4) rfl rfl rfl
        replace q4 := q4'; clear q4'
        clear q16
        clear hA HF; have hA := hA'; clear hA'
        replace h_0 := GR.v_ext _ h_0 hE
        replace hB := Base.step hB hE hO; clear hE
        refine (li_nil ?_)
        refine (nx_blk (nx_then ?_))
        have h := hnext2 _ (Comp.run_pure h).symm
        refine ⟨m2, hlt2, ?_⟩
        exact ⟨_, _, hA, hB, q0, h_0, q4, h⟩
      ·
        replace h := Comp.run_b_f hc h; clear hc
        refine wp_exit ?_
        refine (ex_then (ex_then (ex_same ?_)))
        have hd_ := hdone2 _ (Comp.run_pure h).symm; clear h
        subst hd_; have h := hk2; clear hk2; try dsimp only at h
        refine (nx_then ?_)
        exact ⟨_, _, hA, hB, q0, h_0, q4, h⟩
    intro a8 w8 hI
    clear hA hB h q0 q4 h_0
    obtain ⟨O8, x7, hA, hB, q0, h_0, q4, h⟩ := hI
    unfold colletref32_Conflicts_j1 at h
    refine wp_seq ?_
    refine wp_seq ?_
    obtain ⟨x9, hx9, h⟩ := Comp.run_bind h
    refine' region [_, _, _, _, _] mixed hA (.cons ?z7_0 (.cons ?z7_1 (.cons ?z7_2 (.cons ?z7_3 (.cons ?z7_4 .nil))))) ?zok7 ?zgd7 ?zk7
    case z7_0 => intro a' w' hE hK hg; exact ok_move (kn (hK 0 rfl) rfl q0)
    case z7_1 => intro a' w' hE hK hg; exact okl_len (r := rBool) ty71 (ksv (j := 0) (hK 19 rfl) rfl rfl rfl) (rd_of (GR.v_ext _ h_0 hE))
    case z7_2 => intro a' w' hE hK hg; exact ok_move (kn (hK 4 rfl) rfl q4)
    case z7_3 => intro a' w' hE hK hg; exact okl_shl rfl (ksv (j := 2) (hK 21 rfl) rfl rfl rfl) (run_nonneg hx9)
    case z7_4 => intro a' w' hE hK hg; exact ok_neqI (ksv (j := 1) (hK 20 rfl) rfl rfl rfl) (ksv (j := 3) (hK 22 rfl) rfl rfl rfl)
    case zok7 => kernel_rfl
    case zgd7 => kernel_rfl
    intro a9 w9 hA' hE HF
    replace q0 := kn (HF 0) rfl q0
    replace q4 := kn (HF 4) rfl q4
    have q23 := ksv (HF 23) rfl rfl rfl
    clear hA HF; have hA := hA'; clear hA'
    replace h_0 := GR.v_ext _ h_0 hE
    replace hB := Base.step hB hE hO; clear hE
    obtain ⟨x10, hx_, h⟩ := Comp.run_bind h; replace hx_ := Comp.run_pure hx_; rw [hx_] at q23; clear hx_
    refine (li_nil ?_)
    refine (nx_then ?_)
    refine wp_cond_b q23 (fun hc => ?_) (fun hc => ?_)
    ·
      replace h := Comp.run_b_t hc h; clear hc
      refine wp_seq ?_
      refine' region [_, _] mixed hA (.cons ?z8_0 (.cons ?z8_1 .nil)) ?zok8 ?zgd8 ?zk8
      case z8_0 => intro a' w' hE hK hg; exact ok_assign rfl
      case z8_1 => intro a' w' hE hK hg; exact ok_assign rfl
      case zok8 => kernel_rfl
      case zgd8 => kernel_rfl
      intro a10 w10 hA' hE HF
      have q2 := ksv (HF 2) rfl rfl rfl
      have q3 := ksv (HF 3) rfl rfl rfl
      clear q0
      clear q4
      clear q23
      clear hA HF; have hA := hA'; clear hA'
      replace h_0 := GR.v_ext _ h_0 hE
      replace hB := Base.step hB hE hO; clear hE
      refine (li_nil ?_)
      refine (nx_then ?_)
      refine (wp_ret (rt_then ?_))
      have h := Comp.run_pure h; subst h
      exact retPure2 Try.results50 hA q2 q3 hB.ext ⟨_, _, rfl, (OwnR.nil _ _ _ _ _), rfl⟩
    ·
      replace h := Comp.run_b_f hc h; clear hc
      refine wp_skip ?_
      refine (nx_then ?_)
      refine wp_seq ?_
      refine' region [_] mixed hA (.cons ?z9_0 .nil) ?zok9 ?zgd9 ?zk9
      case z9_0 => intro a' w' hE hK hg; exact ok_assign rfl
      case zok9 => kernel_rfl
      case zgd9 => kernel_rfl
      intro a11 w11 hA' hE HF
      replace q0 := kn (HF 0) rfl q0
      replace q4 := kn (HF 4) rfl q4
      have q5 := ksv (HF 5) rfl rfl rfl
      clear q23
      clear hA HF; have hA := hA'; clear hA'
      replace h_0 := GR.v_ext _ h_0 hE
      replace hB := Base.step hB hE hO; clear hE
      refine (li_nil ?_)
      refine (nx_then ?_)
      refine seq_join (fun a w => ∃ (O46 : Tags) (x43 : List Int) (u44 : Value), a.fit 73 ∧ Base (Fr w0) O w0 O46 w ∧ a.get 5 = u44 ∧ OwnL 1 (rInt .i64) 3 (Fr w0) O46 w u44 x43 ∧ (colletref32_Conflicts_j3 x43).run n = some y) ?_ ?_
      ·
        refine wp_seq ?_
        refine' region [_] mixed hA (.cons ?z10_0 .nil) ?zok10 ?zgd10 ?zk10
        case z10_0 => intro a' w' hE hK hg; exact ok_assign rfl
        case zok10 => kernel_rfl
        case zgd10 => kernel_rfl
        intro a12 w12 hA' hE HF
        replace q0 := kn (HF 0) rfl q0
        replace q4 := kn (HF 4) rfl q4
        replace q5 := kn (HF 5) rfl q5
        have q6 := ksv (HF 6) rfl rfl rfl
        clear hA HF; have hA := hA'; clear hA'
        replace h_0 := GR.v_ext _ h_0 hE
        replace hB := Base.step hB hE hO; clear hE
        refine (li_nil ?_)
        refine (nx_then ?_)
        refine wp_block ?_
        obtain ⟨e4, he4, hk4⟩ := Comp.run_bind h; clear h
        refine loop_m (fun m a w => ∃ (O15 : Tags) (x11 : List Int) (x14 : Int) (u12 : Value), a.fit 73 ∧ Base (Fr w0) O w0 O15 w ∧ a.get 0 = v_0 ∧ (rSl rBool).v O15 w v_0 x_0 ∧ a.get 4 = .int .i64 x7 ∧ a.get 5 = u12 ∧ OwnL 1 (rInt .i64) 3 (Fr w0) O15 w u12 x11 ∧ a.get 6 = .int .i64 x14 ∧ Comp.loopN (fun s => colletref32_Conflicts_l4 x_0 x7 s.1 s.2) n m (x11, x14) = some e4) (m := n) ?st4 ?_
        case st4 =>
          exact ⟨_, _, _, _, hA, hB, q0, h_0, q4, q5, (OwnL.nil _ _ _ _ _ _), q6, Comp.run_loop he4⟩
        intro m_ a13 w13 hI
        clear hA hB he4 q0 q4 q5 q6 h_0
        obtain ⟨O15, x11, x14, u12, hA, hB, q0, h_0, q4, q5, f13, q6, hl⟩ := hI
        obtain ⟨m4, hlt4, st4, h, hnext4, hdone4⟩ := Comp.loopN_succ hl; clear hl
        replace h : (colletref32_Conflicts_l4 x_0 x7 x11 x14).run n = some st4 := h
        unfold colletref32_Conflicts_l4 at h
        refine wp_seq ?_
        refine wp_seq ?_
        refine' region [_, _, _, _] mixed hA (.cons ?z11_0 (.cons ?z11_1 (.cons ?z11_2 (.cons ?z11_3 .nil)))) ?zok11 ?zgd11 ?zk11
        case z11_0 => intro a' w' hE hK hg; exact ok_move (kn (hK 6 rfl) rfl q6)
        case z11_1 => intro a' w' hE hK hg; exact ok_move (kn (hK 0 rfl) rfl q0)
        case z11_2 => intro a' w' hE hK hg; exact okl_len (r := rBool) ty71 (ksv (j := 1) (hK 25 rfl) rfl rfl rfl) (rd_of (GR.v_ext _ h_0 hE))
        case z11_3 => intro a' w' hE hK hg; exact ok_lss (ksv (j := 0) (hK 24 rfl) rfl rfl rfl) (ksv (j := 2) (hK 26 rfl) rfl rfl rfl)
        case zok11 => kernel_rfl
        case zgd11 => kernel_rfl
        intro a14 w14 hA' hE HF
        replace q0 := kn (HF 0) rfl q0
        replace q4 := kn (HF 4) rfl q4
        replace q5 := kn (HF 5) rfl q5
        replace q6 := kn (HF 6) rfl q6
        have q27 := ksv (HF 27) rfl rfl rfl
        clear hA HF; have hA := hA'; clear hA'
        replace h_0 := GR.v_ext _ h_0 hE
        replace f13 := f13.ext hE
        replace hB := Base.step hB hE hO; clear hE
        refine (li_nil ?_)
        refine (nx_then ?_)
        refine wp_cond_b q27 (fun hc => ?_) (fun hc => ?_)
        ·
          replace h := Comp.run_b_t hc h; clear hc
          refine wp_skip ?_
          refine (nx_then ?_)
          refine seq_join (fun a w => ∃ (O40 : Tags) (x37 : List Int) (u38 : Value), a.fit 73 ∧ Base (Fr w0) O w0 O40 w ∧ a.get 0 = v_0 ∧ (rSl rBool).v O40 w v_0 x_0 ∧ a.get 4 = .int .i64 x7 ∧ a.get 5 = u38 ∧ OwnL 1 (rInt .i64) 3 (Fr w0) O40 w u38 x37 ∧ a.get 6 = .int .i64 x14 ∧ (colletref32_Conflicts_j5 x14 x37).run n = some st4) ?_ ?_
          ·
            refine wp_block ?_
            refine wp_seq ?_
            refine' region [_] mixed hA (.cons ?z12_0 .nil) ?zok12 ?zgd12 ?zk12
            case z12_0 => intro a' w' hE hK hg; exact ok_assign rfl
            case zok12 => kernel_rfl
            case zgd12 => kernel_rfl
            intro a15 w15 hA' hE HF
            replace q0 := kn (HF 0) rfl q0
            replace q4 := kn (HF 4) rfl q4
            replace q5 := kn (HF 5) rfl q5
            replace q6 := kn (HF 6) rfl q6
            have q7 := ksv (HF 7) rfl rfl rfl
            clear q27
            clear hA HF; have hA := hA'; clear hA'
            replace h_0 := GR.v_ext _ h_0 hE
            replace f13 := f13.ext hE
            replace hB := Base.step hB hE hO; clear hE
            refine (li_nil ?_)
            refine (nx_then ?_)
            refine seq_join (fun a w => ∃ (O26 : Tags) (x25 : Bool), a.fit 73 ∧ Base (Fr w0) O w0 O26 w ∧ a.get 0 = v_0 ∧ (rSl rBool).v O26 w v_0 x_0 ∧ a.get 4 = .int .i64 x7 ∧ a.get 5 = u12 ∧ OwnL 1 (rInt .i64) 3 (Fr w0) O26 w u12 x11 ∧ a.get 6 = .int .i64 x14 ∧ a.get 7 = .bool x25 ∧ (colletref32_Conflicts_j6 x_0 x14 x11 x25).run n = some st4) ?_ ?_
            ·
              refine wp_seq ?_
              refine' region [_] mixed hA (.cons ?z13_0 .nil) ?zok13 ?zgd13 ?zk13
              case z13_0 => intro a' w' hE hK hg; exact ok_assign rfl
              case zok13 => kernel_rfl
              case zgd13 => kernel_rfl
              intro a16 w16 hA' hE HF
              replace q0 := kn (HF 0) rfl q0
              replace q4 := kn (HF 4) rfl q4
              replace q5 := kn (HF 5) rfl q5
              replace q6 := kn (HF 6) rfl q6
              replace q7 := kn (HF 7) rfl q7
              have q8 := ksv (HF 8) rfl rfl rfl
              clear hA HF; have hA := hA'; clear hA'
              replace h_0 := GR.v_ext _ h_0 hE
              replace f13 := f13.ext hE
              replace hB := Base.step hB hE hO; clear hE
              refine (li_nil ?_)
              refine (nx_then ?_)
              refine wp_block ?_
              obtain ⟨e7, he7, hk7⟩ := Comp.run_bind h; clear h
              refine loop_m (fun m a w => ∃ (O18 : Tags) (x16 : Bool) (x17 : Int), a.fit 73 ∧ Base (Fr w0) O w0 O18 w ∧ a.get 0 = v_0 ∧ (rSl rBool).v O18 w v_0 x_0 ∧ a.get 4 = .int .i64 x7 ∧ a.get 5 = u12 ∧ OwnL 1 (rInt .i64) 3 (Fr w0) O18 w u12 x11 ∧ a.get 6 = .int .i64 x14 ∧ a.get 7 = .bool x16 ∧ a.get 8 = .int .i64 x17 ∧ Comp.loopN (fun s => colletref32_Conflicts_l7 x7 x14 x_0 s.1 s.2) n m (x16, x17) = some e7) (m := n) ?st7 ?_
              case st7 =>
                exact ⟨_, _, _, hA, hB, q0, h_0, q4, q5, f13, q6, q7, q8, Comp.run_loop he7⟩
              intro m_ a17 w17 hI
              clear hA hB he7 q0 q4 q5 q6 q7 q8 f13 h_0
              obtain ⟨O18, x16, x17, hA, hB, q0, h_0, q4, q5, f13, q6, q7, q8, hl⟩ := hI
              obtain ⟨m7, hlt7, st7, h, hnext7, hdone7⟩ := Comp.loopN_succ hl; clear hl
              replace h : (colletref32_Conflicts_l7 x7 x14 x_0 x16 x17).run n = some st7 := h
              unfold colletref32_Conflicts_l7 at h
              refine wp_seq ?_
              refine wp_seq ?_
              refine' region [_, _, _] mixed hA (.cons ?z14_0 (.cons ?z14_1 (.cons ?z14_2 .nil))) ?zok14 ?zgd14 ?zk14
              case z14_0 => intro a' w' hE hK hg; exact ok_move (kn (hK 8 rfl) rfl q8)
              case z14_1 => intro a' w' hE hK hg; exact ok_move (kn (hK 4 rfl) rfl q4)
              case z14_2 => intro a' w' hE hK hg; exact ok_lss (ksv (j := 0) (hK 30 rfl) rfl rfl rfl) (ksv (j := 1) (hK 31 rfl) rfl rfl rfl)
              case zok14 => kernel_rfl
              case zgd14 => kernel_rfl
              intro a18 w18 hA' hE HF
              replace q0 := kn (HF 0) rfl q0
              replace q4 := kn (HF 4) rfl q4
              replace q5 := kn (HF 5) rfl q5
              replace q6 := kn (HF 6) rfl q6
              replace q7 := kn (HF 7) rfl q7
              replace q8 := kn (HF 8) rfl q8
              have q32 := ksv (HF 32) rfl rfl rfl
              clear hA HF; have hA := hA'; clear hA'
              replace h_0 := GR.v_ext _ h_0 hE
              replace f13 := f13.ext hE
              replace hB := Base.step hB hE hO; clear hE
              refine (li_nil ?_)
              refine (nx_then ?_)
              refine wp_cond_b q32 (fun hc => ?_) (fun hc => ?_)
              ·
                replace h := Comp.run_b_t hc h; clear hc
                refine wp_skip ?_
                refine (nx_then ?_)
                refine wp_seq ?_
                refine wp_block ?_
                obtain ⟨x19, hx19, h⟩ := Comp.run_bind h
                obtain ⟨x20, hx20, h⟩ := Comp.run_bind h
                obtain ⟨x21, hx21, h⟩ := Comp.run_bind h
                refine' region [_, _, _, _, _, _, _, _, _, _, _, _, _, SP.ptr rBool O18 x21, SP.isv (.bool x21), _, _, _] mixed hA (.cons ?z15_0 (.cons ?z15_1 (.cons ?z15_2 (.cons ?z15_3 (.cons ?z15_4 (.cons ?z15_5 (.cons ?z15_6 (.cons ?z15_7 (.cons ?z15_8 (.cons ?z15_9 (.cons ?z15_10 (.cons ?z15_11 (.cons ?z15_12 (.cons ?z15_13 (.cons ?z15_14 (.cons ?z15_15 (.cons ?z15_16 (.cons ?z15_17 .nil)))))))))))))))))) ?zok15 ?zgd15 ?zk15
                case z15_0 => intro a' w' hE hK hg; exact ok_move (kn (hK 7 rfl) rfl q7)
                case z15_1 => intro a' w' hE hK hg; exact ok_move (ksv (j := 0) (hK 35 rfl) rfl rfl rfl)
                case z15_2 => intro a' w' hE hK hg; exact ok_move (kn (hK 6 rfl) rfl q6)
                case z15_3 => intro a' w' hE hK hg; exact ok_move (kn (hK 8 rfl) rfl q8)
                case z15_4 => intro a' w' hE hK hg; exact okl_shr (ksv (j := 2) (hK 37 rfl) rfl rfl hg) (ksv (j := 3) (hK 38 rfl) rfl rfl hg) (run_nonneg (run_gdb hx19 hg))
                case z15_5 => intro a' w' hE hK hg; exact okb_and (ksv (j := 4) (hK 39 rfl) rfl rfl hg) rfl
                case z15_6 => intro a' w' hE hK hg; exact ok_eqlI (ksv (j := 5) (hK 40 rfl) rfl rfl hg) rfl
                case z15_7 => intro a' w' hE hK hg; exact ok_move (ksv (j := 6) (hK 41 rfl) rfl rfl hg)
                case z15_8 => intro a' w' hE hK hg; exact ok_move (kn (hK 0 rfl) rfl q0)
                case z15_9 => intro a' w' hE hK hg; exact ok_move (kn (hK 6 rfl) rfl q6)
                case z15_10 => intro a' w' hE hK hg; exact ok_move (kn (hK 8 rfl) rfl q8)
                case z15_11 => intro a' w' hE hK hg; exact okl_shl rfl (ksv (j := 10) (hK 45 rfl) rfl rfl hg) (run_nonneg (run_gdb hx20 hg))
                case z15_12 => intro a' w' hE hK hg; exact okb_andNot (ksv (j := 9) (hK 44 rfl) rfl rfl hg) (ksv (j := 11) (hK 46 rfl) rfl rfl hg)
                case z15_13 => intro a' w' hE hK hg; exact okl_idx (r := rBool) (O := O18) ty71 ty4 rfl (ksv (j := 8) (hK 43 rfl) rfl rfl hg) (rd_of (GR.v_ext _ h_0 hE)) (ksv (j := 12) (hK 47 rfl) rfl rfl hg) (run_gdb hx21 hg)
                case z15_14 => intro a' w' hE hK hg; exact okl_ldr rBool (fun _ => rfl) ty4 rfl rfl rfl (kspS (φ := SP.ptr rBool O18 x21) (j := 13) (hK 48 rfl) rfl rfl hg) (fun _ _ _ h => rBool_v.1 h)
                case z15_15 => intro a' w' hE hK hg; exact ok_pick (ksv (j := 7) (hK 42 rfl) rfl rfl hg) (fun _ => rfl) (fun hb => ksv (j := 14) (hK 49 rfl) rfl rfl (act_g1 rfl hg hb))
                case z15_16 => intro a' w' hE hK hg; exact ok_pick (ksv (j := 1) (hK 36 rfl) rfl rfl rfl) (fun hb => ksv (j := 15) (hK 50 rfl) rfl rfl (act_g1 rfl rfl hb)) (fun _ => rfl)
                case z15_17 => intro a' w' hE hK hg; exact ok_assign (ksv (j := 16) (hK 51 rfl) rfl rfl rfl)
                case zok15 => kernel_rfl
                case zgd15 => kernel_rfl
                intro a19 w19 hA' hE HF
                replace q0 := kn (HF 0) rfl q0
                replace q4 := kn (HF 4) rfl q4
                replace q5 := kn (HF 5) rfl q5
                replace q6 := kn (HF 6) rfl q6
                have q7' := ksv (HF 7) rfl rfl rfl
                replace q7 := q7'; clear q7'
                replace q8 := kn (HF 8) rfl q8
                clear q32
                clear hA HF; have hA := hA'; clear hA'
                replace h_0 := GR.v_ext _ h_0 hE
                replace f13 := f13.ext hE
                replace hB := Base.step hB hE hO; clear hE
                obtain ⟨x22, hx_, h⟩ := Comp.run_bind h; replace hx_ := Comp.run_pure hx_; rw [hx_] at q7; clear hx_
                refine (li_nil ?_)
                refine (nx_blk (nx_then ?_))
                refine' region [_, _, _] mixed hA (.cons ?z16_0 (.cons ?z16_1 (.cons ?z16_2 .nil))) ?zok16 ?zgd16 ?zk16
                case z16_0 => intro a' w' hE hK hg; exact ok_move (kn (hK 8 rfl) rfl q8)
                case z16_1 => intro a' w' hE hK hg; exact ok_add (ksv (j := 0) (hK 33 rfl) rfl rfl rfl) rfl
                case z16_2 => intro a' w' hE hK hg; exact ok_assign (ksv (j := 1) (hK 34 rfl) rfl rfl rfl)
                case zok16 => kernel_rfl
                case zgd16 => kernel_rfl
                intro a20 w20 hA' hE HF
                replace q0 := kn (HF 0) rfl q0
                replace q4 := kn (HF 4) rfl q4
                replace q5 := kn (HF 5) rfl q5
                replace q6 := kn (HF 6) rfl q6
                replace q7 := kn (HF 7) rfl q7
                have q8' := ksv (HF 8) rfl rfl rfl
                replace q8 := q8'; clear q8'
                clear hA HF; have hA := hA'; clear hA'
                replace h_0 := GR.v_ext _ h_0 hE
                replace f13 := f13.ext hE
                replace hB := Base.step hB hE hO; clear hE
                refine (li_nil ?_)
                refine (nx_then ?_)
                have h := hnext7 _ (Comp.run_pure h).symm
                refine ⟨m7, hlt7, ?_⟩
                exact ⟨_, _, _, hA, hB, q0, h_0, q4, q5, f13, q6, q7, q8, h⟩
              ·
                replace h := Comp.run_b_f hc h; clear hc
                refine wp_exit ?_
                refine (ex_then (ex_then (ex_same ?_)))
                have hd_ := hdone7 _ (Comp.run_pure h).symm; clear h
                subst hd_; have h := hk7; clear hk7; try dsimp only at h
                refine (nx_then ?_)
                exact ⟨_, _, hA, hB, q0, h_0, q4, q5, f13, q6, q7, h⟩
            intro a21 w21 hI
            clear hA hB h q0 q4 q5 q6 q7 f13 h_0
            obtain ⟨O26, x25, hA, hB, q0, h_0, q4, q5, f13, q6, q7, h⟩ := hI
            unfold colletref32_Conflicts_j6 at h
            refine wp_seq ?_
            refine wp_seq ?_
            obtain ⟨x27, hx27, h⟩ := Comp.run_bind h
            refine' region [_, _, SP.ptr rBool O26 x27, SP.isv (.bool x27), _, _, _, _] mixed hA (.cons ?z17_0 (.cons ?z17_1 (.cons ?z17_2 (.cons ?z17_3 (.cons ?z17_4 (.cons ?z17_5 (.cons ?z17_6 (.cons ?z17_7 .nil)))))))) ?zok17 ?zgd17 ?zk17
            case z17_0 => intro a' w' hE hK hg; exact ok_move (kn (hK 0 rfl) rfl q0)
            case z17_1 => intro a' w' hE hK hg; exact ok_move (kn (hK 6 rfl) rfl q6)
            case z17_2 => intro a' w' hE hK hg; exact okl_idx (r := rBool) (O := O26) ty71 ty4 rfl (ksv (j := 0) (hK 52 rfl) rfl rfl rfl) (rd_of (GR.v_ext _ h_0 hE)) (ksv (j := 1) (hK 53 rfl) rfl rfl rfl) hx27
            case z17_3 => intro a' w' hE hK hg; exact okl_ldr rBool (fun _ => rfl) ty4 rfl rfl rfl (kspS (φ := SP.ptr rBool O26 x27) (j := 2) (hK 54 rfl) rfl rfl rfl) (fun _ _ _ h => rBool_v.1 h)
            case z17_4 => intro a' w' hE hK hg; exact ok_move (ksv (j := 3) (hK 55 rfl) rfl rfl rfl)
            case z17_5 => intro a' w' hE hK hg; exact ok_move (kn (hK 7 rfl) rfl q7)
            case z17_6 => intro a' w' hE hK hg; exact ok_not (ksv (j := 5) (hK 57 rfl) rfl rfl hg)
            case z17_7 => intro a' w' hE hK hg; exact ok_pick (ksv (j := 4) (hK 56 rfl) rfl rfl rfl) (fun hb => ksv (j := 6) (hK 58 rfl) rfl rfl (act_g1 rfl rfl hb)) (fun _ => rfl)
            case zok17 => kernel_rfl
            case zgd17 => kernel_rfl
            intro a22 w22 hA' hE HF
            replace q0 := kn (HF 0) rfl q0
            replace q4 := kn (HF 4) rfl q4
            replace q5 := kn (HF 5) rfl q5
            replace q6 := kn (HF 6) rfl q6
            replace q7 := kn (HF 7) rfl q7
            have q59 := ksv (HF 59) rfl rfl rfl
            clear hA HF; have hA := hA'; clear hA'
            replace h_0 := GR.v_ext _ h_0 hE
            replace f13 := f13.ext hE
            replace hB := Base.step hB hE hO; clear hE
            refine (li_nil ?_)
            refine (nx_then ?_)
            refine wp_cond_b q59 (fun hc => ?_) (fun hc => ?_)
            ·
              replace h := Comp.run_b_t hc h; clear hc
              refine wp_seq ?_
              refine' region [_, _] mixed hA (.cons ?z18_0 (.cons ?z18_1 .nil)) ?zok18 ?zgd18 ?zk18
              case z18_0 => intro a' w' hE hK hg; exact ok_assign rfl
              case z18_1 => intro a' w' hE hK hg; exact ok_assign rfl
              case zok18 => kernel_rfl
              case zgd18 => kernel_rfl
              intro a23 w23 hA' hE HF
              have q2 := ksv (HF 2) rfl rfl rfl
              have q3 := ksv (HF 3) rfl rfl rfl
              clear q0
              clear q4
              clear q5
              clear q6
              clear q7
              clear q59
              clear hA HF; have hA := hA'; clear hA'
              replace h_0 := GR.v_ext _ h_0 hE
              replace f13 := f13.ext hE
              replace hB := Base.step hB hE hO; clear hE
              refine (li_nil ?_)
              refine (nx_then ?_)
              refine (wp_ret (rt_then (rt_blk (rt_then (rt_then (rt_blk (rt_then ?_)))))))
              have hd_ := hdone4 _ (Comp.run_pure h).symm; clear h
              subst hd_; have h := hk4; clear hk4; try dsimp only at h
              have h := Comp.run_pure h; subst h
              exact retPure2 Try.results50 hA q2 q3 hB.ext ⟨_, _, rfl, (OwnR.nil _ _ _ _ _), rfl⟩
            ·
              replace h := Comp.run_b_f hc h; clear hc
              refine wp_skip ?_
              refine (nx_then ?_)
              refine wp_seq ?_
              obtain ⟨x30, hx30, h⟩ := Comp.run_bind h
              refine' region [_, _, SP.ptr rBool O26 x30, SP.isv (.bool x30), _, _, _, _] mixed hA (.cons ?z19_0 (.cons ?z19_1 (.cons ?z19_2 (.cons ?z19_3 (.cons ?z19_4 (.cons ?z19_5 (.cons ?z19_6 (.cons ?z19_7 .nil)))))))) ?zok19 ?zgd19 ?zk19
              case z19_0 => intro a' w' hE hK hg; exact ok_move (kn (hK 0 rfl) rfl q0)
              case z19_1 => intro a' w' hE hK hg; exact ok_move (kn (hK 6 rfl) rfl q6)
              case z19_2 => intro a' w' hE hK hg; exact okl_idx (r := rBool) (O := O26) ty71 ty4 rfl (ksv (j := 0) (hK 60 rfl) rfl rfl rfl) (rd_of (GR.v_ext _ h_0 hE)) (ksv (j := 1) (hK 61 rfl) rfl rfl rfl) hx30
              case z19_3 => intro a' w' hE hK hg; exact okl_ldr rBool (fun _ => rfl) ty4 rfl rfl rfl (kspS (φ := SP.ptr rBool O26 x30) (j := 2) (hK 62 rfl) rfl rfl rfl) (fun _ _ _ h => rBool_v.1 h)
              case z19_4 => intro a' w' hE hK hg; exact ok_not (ksv (j := 3) (hK 63 rfl) rfl rfl rfl)
              case z19_5 => intro a' w' hE hK hg; exact ok_move (ksv (j := 4) (hK 64 rfl) rfl rfl rfl)
              case z19_6 => intro a' w' hE hK hg; exact ok_move (kn (hK 7 rfl) rfl q7)
              case z19_7 => intro a' w' hE hK hg; exact ok_pick (ksv (j := 5) (hK 65 rfl) rfl rfl rfl) (fun hb => ksv (j := 6) (hK 66 rfl) rfl rfl (act_g1 rfl rfl hb)) (fun _ => rfl)
              case zok19 => kernel_rfl
              case zgd19 => kernel_rfl
              intro a24 w24 hA' hE HF
              replace q0 := kn (HF 0) rfl q0
              replace q4 := kn (HF 4) rfl q4
              replace q5 := kn (HF 5) rfl q5
              replace q6 := kn (HF 6) rfl q6
              have q67 := ksv (HF 67) rfl rfl rfl
              clear q7
              clear q59
              clear hA HF; have hA := hA'; clear hA'
              replace h_0 := GR.v_ext _ h_0 hE
              replace f13 := f13.ext hE
              replace hB := Base.step hB hE hO; clear hE
              refine (li_nil ?_)
              refine (nx_then ?_)
              refine wp_cond_b q67 (fun hc => ?_) (fun hc => ?_)
              ·
                replace h := Comp.run_b_t hc h; clear hc
                refine' regionT [_, _, SP.vl (rSl (rInt .i64)) O26 [x14]] hA (.cons ?z20_0 (.cons ?z20_1 (.cons ?z20_2 .nil))) ?zok20 ?zgd20 ?zk20
                case z20_0 => intro a' w' hE hK hg; exact ok_move (kn (hK 5 rfl) rfl q5)
                case z20_1 => intro a' w' hE hK hg; exact ok_move (kn (hK 6 rfl) rfl q6)
                case z20_2 => intro a' w' hE hK hg; exact okl_buildSliceV (r := (rInt .i64)) (fun _ => rfl) rfl (OkO.ext hB.ok hE) ty58 ty3 (parts_cons (ksv (j := 1) (hK 69 rfl) rfl rfl rfl) parts_nil) ⟨(by first | exact rInt_v.2 rfl | exact rBool_v.2 rfl | exact rStr_v.2 rfl | exact rC_v.2 rfl | exact ⟨_, rfl, rfl⟩), trivial⟩ rfl (by decide)
                case zok20 => kernel_rfl
                case zgd20 => kernel_rfl
                intro a25 w25 hA' hE HF
                replace q0 := kn (HF 0) rfl q0
                replace q4 := kn (HF 4) rfl q4
                replace q5 := kn (HF 5) rfl q5
                replace q6 := kn (HF 6) rfl q6
                have q68 := ksv (HF 68) rfl rfl rfl
                have f32 := ksp (HF 70) rfl rfl rfl
                obtain ⟨u31, q70'⟩ : ∃ u, a25.get 70 = u := ⟨_, rfl⟩
                rw [q70'] at f32
                have q70 := q70'; clear q70'
                clear q67
                clear hA HF; have hA := hA'; clear hA'
                replace h_0 := GR.v_ext _ h_0 hE
                replace f13 := f13.ext hE
                replace hB := Base.step hB hE hO; clear hE
                obtain ⟨x33, hx33, h⟩ := Comp.run_bind h
                refine l_append (r := (rInt .i64)) (fun _ => rfl) rfl ty58 ty3 rfl (by decide) hO hB (okB_fr hB) q68 f13 q70 (rd_of f32) hx33 (by decide) fun u34 w26 O35 f36 hB' hX => ?_
                clear hB; have hB := hB'; clear hB'
                clear f13
                replace h_0 := GR.kx _ h_0 hX (by decide)
                replace f32 := GR.kx _ f32 hX (by decide)
                clear hX
                refine put_cont hA (by decide) fun a27 hA' q_ hfr => ?_
                clear hA; have hA := hA'; clear hA'
                replace q0 := (hfr 0 rfl).trans q0
                replace q4 := (hfr 4 rfl).trans q4
                replace q5 := (hfr 5 rfl).trans q5
                replace q6 := (hfr 6 rfl).trans q6
                replace q68 := (hfr 68 rfl).trans q68
                replace q70 := (hfr 70 rfl).trans q70
                have q71 := q_; clear q_ hfr
                refine l_ok (φ := SP.isv (u34)) hO hB (by exact ok_assign q71) rfl fun u_ w28 hE hB' hv_ => ?_
                replace hv_ := Eq.symm hv_; subst hv_; clear hB; have hB := hB'; clear hB'
                replace h_0 := GR.v_ext _ h_0 hE
                replace f36 := f36.ext hE
                clear hE
                refine put_cont hA (by decide) fun a29 hA' q_ hfr => ?_
                clear hA; have hA := hA'; clear hA'
                replace q0 := (hfr 0 rfl).trans q0
                replace q4 := (hfr 4 rfl).trans q4
                replace q6 := (hfr 6 rfl).trans q6
                replace q71 := (hfr 71 rfl).trans q71
                clear q5
                have q5 := q_; clear q_ hfr
                refine (li_nil ?_)
                refine (nx_blk (nx_then ?_))
                exact ⟨_, _, _, hA, hB, q0, h_0, q4, q5, f36, q6, h⟩
              ·
                replace h := Comp.run_b_f hc h; clear hc
                refine wp_skip ?_
                refine (nx_blk (nx_then ?_))
                exact ⟨_, _, _, hA, hB, q0, h_0, q4, q5, f13, q6, h⟩
          intro a30 w30 hI
          clear hA hB h q0 q4 q5 q6 q27 f13 h_0
          obtain ⟨O40, x37, u38, hA, hB, q0, h_0, q4, q5, f39, q6, h⟩ := hI
          unfold colletref32_Conflicts_j5 at h
          refine' region [_, _, _] mixed hA (.cons ?z21_0 (.cons ?z21_1 (.cons ?z21_2 .nil))) ?zok21 ?zgd21 ?zk21
          case z21_0 => intro a' w' hE hK hg; exact ok_move (kn (hK 6 rfl) rfl q6)
          case z21_1 => intro a' w' hE hK hg; exact ok_add (ksv (j := 0) (hK 28 rfl) rfl rfl rfl) rfl
          case z21_2 => intro a' w' hE hK hg; exact ok_assign (ksv (j := 1) (hK 29 rfl) rfl rfl rfl)
          case zok21 => kernel_rfl
          case zgd21 => kernel_rfl
          intro a31 w31 hA' hE HF
          replace q0 := kn (HF 0) rfl q0
          replace q4 := kn (HF 4) rfl q4
          replace q5 := kn (HF 5) rfl q5
          have q6' := ksv (HF 6) rfl rfl rfl
          replace q6 := q6'; clear q6'
          clear hA HF; have hA := hA'; clear hA'
          replace h_0 := GR.v_ext _ h_0 hE
          replace f39 := f39.ext hE
          replace hB := Base.step hB hE hO; clear hE
          refine (li_nil ?_)
          refine (nx_then ?_)
          have h := hnext4 _ (Comp.run_pure h).symm
          refine ⟨m4, hlt4, ?_⟩
          exact ⟨_, _, _, _, hA, hB, q0, h_0, q4, q5, f39, q6, h⟩
        ·
          replace h := Comp.run_b_f hc h; clear hc
          refine wp_exit ?_
          refine (ex_then (ex_then (ex_same ?_)))
          have hd_ := hdone4 _ (Comp.run_pure h).symm; clear h
          subst hd_; have h := hk4; clear hk4; try dsimp only at h
          refine (nx_then ?_)
          exact ⟨_, _, _, hA, hB, q5, f13, h⟩
      intro a32 w32 hI
      clear hA hB h q0 q4 q5 h_0
      obtain ⟨O46, x43, u44, hA, hB, q5, f45, h⟩ := hI
      unfold colletref32_Conflicts_j3 at h
      refine wp_seq ?_
      refine' region [_, _, _] mixed hA (.cons ?z22_0 (.cons ?z22_1 (.cons ?z22_2 .nil))) ?zok22 ?zgd22 ?zk22
      case z22_0 => intro a' w' hE hK hg; exact ok_move (kn (hK 5 rfl) rfl q5)
      case z22_1 => intro a' w' hE hK hg; exact ok_assign (ksv (j := 0) (hK 72 rfl) rfl rfl rfl)
      case z22_2 => intro a' w' hE hK hg; exact ok_assign rfl
      case zok22 => kernel_rfl
      case zgd22 => kernel_rfl
      intro a33 w33 hA' hE HF
      have q2 := ksv (HF 2) rfl rfl rfl
      have q3 := ksv (HF 3) rfl rfl rfl
      clear q5
      clear hA HF; have hA := hA'; clear hA'
      replace f45 := f45.ext hE
      replace hB := Base.step hB hE hO; clear hE
      refine (li_nil ?_)
      refine (nx_then ?_)
      refine (wp_ret ?_)
      have h := Comp.run_pure h; subst h
      exact retPure2 Try.results50 hA q2 q3 hB.ext ⟨_, _, rfl, (OwnL.res f45 (by decide) hB.zero), rfl⟩

theorem ok_colletlaw32_CoreConflicts {O : Tags} {w0 : World} (hO : OkO O w0) {v_0 : Value} {x_0 : List Int} (h_0 : (rSl (rInt .i64)).v O w0 v_0 x_0) {x_1 : Int} {x_2 : Int} {v_3 : Value} {x_3 : List Bool} (h_3 : (rSl rBool).v O w0 v_3 x_3) {n : Nat} {y : Bool} (h : (colletlaw32_CoreConflicts x_0 x_1 x_2 x_3).run n = some y) : Pure Try.prog 9 #[v_0, .int .u8 x_1, .int .u16 x_2, v_3] w0 (SP.isv (.bool y)).holds := by
  unfold colletlaw32_CoreConflicts at h
  refine pure_of_wp Try.func9 rfl 89 Try.ntmps9 (by simp) fun a0 hA hs0 => ?_
  have q0 := hs0 0 _ rfl
  have q1 := hs0 1 _ rfl
  have q2 := hs0 2 _ rfl
  have q3 := hs0 3 _ rfl
  clear hs0
  have hB : Base (Fr w0) O w0 O w0 := Base.start hO
  refine wp_seq ?_
  refine' region [_] mixed hA (.cons ?z1_0 .nil) ?zok1 ?zgd1 ?zk1
  case z1_0 => intro a' w' hE hK hg; exact ok_assign rfl
  case zok1 => kernel_rfl
  case zgd1 => kernel_rfl
  intro a1 w1 hA' hE HF
  replace q0 := kn (HF 0) rfl q0
  replace q1 := kn (HF 1) rfl q1
  replace q2 := kn (HF 2) rfl q2
  replace q3 := kn (HF 3) rfl q3
  clear hA HF; have hA := hA'; clear hA'
  replace h_0 := GR.v_ext _ h_0 hE
  replace h_3 := GR.v_ext _ h_3 hE
  replace hB := Base.step hB hE hO; clear hE
  refine (li_nil ?_)
  refine (nx_then ?_)
  refine wp_seq ?_
  obtain ⟨x1, hx1, h⟩ := Comp.run_bind h
  refine' region [SP.isv (.bool x1), _] mixed hA (.cons ?z2_0 (.cons ?z2_1 .nil)) ?zok2 ?zgd2 ?zk2
  case z2_0 => intro a' w' hE hK hg; have c_ := ok_colletlaw32_sanity (OkO.ext hB.ok hE)  hx1; exact ok_call0 fn38  c_
  case z2_1 => intro a' w' hE hK hg; exact ok_assign (ksv (j := 0) (hK 20 rfl) rfl rfl rfl)
  case zok2 => kernel_rfl
  case zgd2 => kernel_rfl
  intro a2 w2 hA' hE HF
  replace q0 := kn (HF 0) rfl q0
  replace q1 := kn (HF 1) rfl q1
  replace q2 := kn (HF 2) rfl q2
  replace q3 := kn (HF 3) rfl q3
  have q9 := ksv (HF 9) rfl rfl rfl
  clear hA HF; have hA := hA'; clear hA'
  replace h_0 := GR.v_ext _ h_0 hE
  replace h_3 := GR.v_ext _ h_3 hE
  replace hB := Base.step hB hE hO; clear hE
  refine (li_nil ?_)
  refine (nx_then ?_)
  refine wp_seq ?_
  refine' region [_, _, _, _] mixed hA (.cons ?z3_0 (.cons ?z3_1 (.cons ?z3_2 (.cons ?z3_3 .nil)))) ?zok3 ?zgd3 ?zk3
  case z3_0 => intro a' w' hE hK hg; exact ok_move (kn (hK 1 rfl) rfl q1)
  case z3_1 => intro a' w' hE hK hg; exact ok_convI ty5 ty3 (ksv (j := 0) (hK 21 rfl) rfl rfl rfl)
  case z3_2 => intro a' w' hE hK hg; exact ok_rem (ksv (j := 1) (hK 22 rfl) rfl rfl rfl) rfl (by decide)
  case z3_3 => intro a' w' hE hK hg; exact ok_assign (ksv (j := 2) (hK 23 rfl) rfl rfl rfl)
  case zok3 => kernel_rfl
  case zgd3 => kernel_rfl
  intro a3 w3 hA' hE HF
  replace q0 := kn (HF 0) rfl q0
  replace q2 := kn (HF 2) rfl q2
  replace q3 := kn (HF 3) rfl q3
  replace q9 := kn (HF 9) rfl q9
  have q10 := ksv (HF 10) rfl rfl rfl
  clear q1
  clear hA HF; have hA := hA'; clear hA'
  replace h_0 := GR.v_ext _ h_0 hE
  replace h_3 := GR.v_ext _ h_3 hE
  replace hB := Base.step hB hE hO; clear hE
  refine (li_nil ?_)
  refine (nx_then ?_)
  refine wp_seq ?_
  obtain ⟨x2, hx2, h⟩ := Comp.run_bind h
  obtain ⟨x3, hx3, h⟩ := Comp.run_bind h
  refine' region [_, _, SP.vl (rSl (rInt .i64)) O x2, _, SP.vl (rSl rBool) O x3, SP.vl (rSl rBool) O x3] mixed hA (.cons ?z4_0 (.cons ?z4_1 (.cons ?z4_2 (.cons ?z4_3 (.cons ?z4_4 (.cons ?z4_5 .nil)))))) ?zok4 ?zgd4 ?zk4
  case z4_0 => intro a' w' hE hK hg; exact ok_move (kn (hK 0 rfl) rfl q0)
  case z4_1 => intro a' w' hE hK hg; exact ok_move (kn (hK 10 rfl) rfl q10)
  case z4_2 => intro a' w' hE hK hg; have c_ := ok_colletref32_Sets (OkO.ext hB.ok hE) (GR.v_ext _ h_0 hE) hx2; exact ok_weak (ok_call2 fn40 (ksv (j := 0) (hK 24 rfl) rfl rfl rfl) (ksv (j := 1) (hK 25 rfl) rfl rfl rfl) c_) (fun _ _ _ h => (OwnR.val h (fun g hg => (OkO.ext hB.ok hE) g (OwnR.ge h g hg).1)))
  case z4_3 => intro a' w' hE hK hg; exact ok_move (kn (hK 10 rfl) rfl q10)
  case z4_4 => intro a' w' hE hK hg; have c_ := ok_colletref32_Closed (OkO.ext hB.ok hE) (kspS (φ := SP.vl (rSl (rInt .i64)) O x2) (j := 2) (hK 26 rfl) rfl rfl rfl) hx3; exact ok_weak (ok_call2 fn48 rfl (ksv (j := 3) (hK 27 rfl) rfl rfl rfl) c_) (fun _ _ _ h => (OwnR.val h (fun g hg => (OkO.ext hB.ok hE) g (OwnR.ge h g hg).1)))
  case z4_5 => intro a' w' hE hK hg; exact ok_assign_pr (φ := SP.vl (rSl rBool) O x3) (kspS (φ := SP.vl (rSl rBool) O x3) (j := 4) (hK 28 rfl) rfl rfl rfl)
  case zok4 => kernel_rfl
  case zgd4 => kernel_rfl
  intro a4 w4 hA' hE HF
  replace q2 := kn (HF 2) rfl q2
  replace q3 := kn (HF 3) rfl q3
  replace q9 := kn (HF 9) rfl q9
  have f5 := ksp (HF 11) rfl rfl rfl
  obtain ⟨u4, q11'⟩ : ∃ u, a4.get 11 = u := ⟨_, rfl⟩
  rw [q11'] at f5
  have q11 := q11'; clear q11'
  clear q0
  clear q10
  clear hA HF; have hA := hA'; clear hA'
  replace h_0 := GR.v_ext _ h_0 hE
  replace h_3 := GR.v_ext _ h_3 hE
  replace hB := Base.step hB hE hO; clear hE
  refine (li_nil ?_)
  refine (nx_then ?_)
  refine wp_seq ?_
  refine' regionT [] hA .nil ?zok5 ?zgd5 ?zk5
  case zok5 => kernel_rfl
  case zgd5 => kernel_rfl
  intro a5 w5 hA' hE HF
  replace q2 := kn (HF 2) rfl q2
  replace q3 := kn (HF 3) rfl q3
  replace q9 := kn (HF 9) rfl q9
  replace q11 := kn (HF 11) rfl q11
  clear hA HF; have hA := hA'; clear hA'
  replace h_3 := GR.v_ext _ h_3 hE
  replace f5 := GR.v_ext _ f5 hE
  replace hB := Base.step hB hE hO; clear hE
  refine l_ok (φ := SP.ownr rBool 4 w5.heap.size O []) hO hB (by exact okl_buildSlice (r := rBool) (fun _ => rfl) rfl hB.ok ty71 ty4 (Nat.le_refl _) parts_nil trivial rfl (by decide)) rfl fun u6 w6 hE hB' f7 => ?_
  clear hB'; obtain ⟨O8, hB', hX, f9⟩ := ownNew hO hB hE f7 rfl 1 (by decide)
  clear hB f7; have hB := hB'; clear hB'
  replace h_3 := GR.kx _ h_3 hX (by decide)
  replace f5 := GR.kx _ f5 hX (by decide)
  clear hX hE
  refine put_cont hA (by decide) fun a7 hA' q_ hfr => ?_
  clear hA; have hA := hA'; clear hA'
  replace q2 := (hfr 2 rfl).trans q2
  replace q3 := (hfr 3 rfl).trans q3
  replace q9 := (hfr 9 rfl).trans q9
  replace q11 := (hfr 11 rfl).trans q11
  have q29 := q_; clear q_ hfr
  refine l_ok (φ := SP.isv (u4)) hO hB (by exact ok_move q11) rfl fun u_ w8 hE hB' hv_ => ?_
  replace hv_ := Eq.symm hv_; subst hv_; clear hB; have hB := hB'; clear hB'
  replace h_3 := GR.v_ext _ h_3 hE
  replace f5 := GR.v_ext _ f5 hE
  replace f9 := f9.ext hE
  clear hE
  refine put_cont hA (by decide) fun a9 hA' q_ hfr => ?_
  clear hA; have hA := hA'; clear hA'
  replace q2 := (hfr 2 rfl).trans q2
  replace q3 := (hfr 3 rfl).trans q3
  replace q9 := (hfr 9 rfl).trans q9
  replace q11 := (hfr 11 rfl).trans q11
  replace q29 := (hfr 29 rfl).trans q29
  have q30 := q_; clear q_ hfr
  obtain ⟨x10, hx10, h⟩ := Comp.run_bind h
  refine l_append (r := rBool) (fun _ => rfl) rfl ty71 ty4 rfl (by decide) hO hB (okB_fr hB) q29 f9 q30 (rd_of f5) hx10 (by decide) fun u11 w10 O12 f13 hB' hX => ?_
  clear hB; have hB := hB'; clear hB'
  clear f9
  replace h_3 := GR.kx _ h_3 hX (by decide)
  replace f5 := GR.kx _ f5 hX (by decide)
  clear hX
  refine put_cont hA (by decide) fun a11 hA' q_ hfr => ?_
  clear hA; have hA := hA'; clear hA'
  replace q2 := (hfr 2 rfl).trans q2
  replace q3 := (hfr 3 rfl).trans q3
  replace q9 := (hfr 9 rfl).trans q9
  replace q11 := (hfr 11 rfl).trans q11
  replace q29 := (hfr 29 rfl).trans q29
  replace q30 := (hfr 30 rfl).trans q30
  have q31 := q_; clear q_ hfr
  refine l_ok (φ := SP.isv (u11)) hO hB (by exact ok_assign q31) rfl fun u_ w12 hE hB' hv_ => ?_
  replace hv_ := Eq.symm hv_; subst hv_; clear hB; have hB := hB'; clear hB'
  replace h_3 := GR.v_ext _ h_3 hE
  replace f5 := GR.v_ext _ f5 hE
  replace f13 := f13.ext hE
  clear hE
  refine put_cont hA (by decide) fun a13 hA' q_ hfr => ?_
  clear hA; have hA := hA'; clear hA'
  replace q2 := (hfr 2 rfl).trans q2
  replace q3 := (hfr 3 rfl).trans q3
  replace q9 := (hfr 9 rfl).trans q9
  replace q11 := (hfr 11 rfl).trans q11
  replace q31 := (hfr 31 rfl).trans q31
  have q12 := q_; clear q_ hfr
  refine (li_nil ?_)
  refine (nx_then ?_)
  refine wp_seq ?_
  obtain ⟨x14, hx14, h⟩ := Comp.run_bind h
  refine' region [_, _, _, _, SP.isv (.int .i64 x14), _] mixed hA (.cons ?z6_0 (.cons ?z6_1 (.cons ?z6_2 (.cons ?z6_3 (.cons ?z6_4 (.cons ?z6_5 .nil)))))) ?zok6 ?zgd6 ?zk6
  case z6_0 => intro a' w' hE hK hg; exact ok_move (kn (hK 2 rfl) rfl q2)
  case z6_1 => intro a' w' hE hK hg; exact ok_convI ty70 ty3 (ksv (j := 0) (hK 32 rfl) rfl rfl rfl)
  case z6_2 => intro a' w' hE hK hg; exact ok_move (kn (hK 12 rfl) rfl q12)
  case z6_3 => intro a' w' hE hK hg; exact okl_len (r := rBool) ty71 (ksv (j := 2) (hK 34 rfl) rfl rfl rfl) (OwnL.rd (OwnL.ext f13 hE))
  case z6_4 => intro a' w' hE hK hg; exact ok_isv (ok_rem (ksv (j := 1) (hK 33 rfl) rfl rfl rfl) (ksv (j := 3) (hK 35 rfl) rfl rfl rfl) (run_rem hx14).1) (congrArg _ (run_rem hx14).2)
  case z6_5 => intro a' w' hE hK hg; exact ok_assign (ksv (j := 4) (hK 36 rfl) rfl rfl rfl)
  case zok6 => kernel_rfl
  case zgd6 => kernel_rfl
  intro a14 w14 hA' hE HF
  replace q3 := kn (HF 3) rfl q3
  replace q9 := kn (HF 9) rfl q9
  replace q11 := kn (HF 11) rfl q11
  replace q12 := kn (HF 12) rfl q12
  have q13 := ksv (HF 13) rfl rfl rfl
  clear q2
  clear hA HF; have hA := hA'; clear hA'
  replace h_3 := GR.v_ext _ h_3 hE
  replace f5 := GR.v_ext _ f5 hE
  replace f13 := f13.ext hE
  replace hB := Base.step hB hE hO; clear hE
  refine (li_nil ?_)
  refine (nx_then ?_)
  refine wp_seq ?_
  obtain ⟨x15, hx15, h⟩ := Comp.run_bind h
  obtain ⟨x16, hx16, h⟩ := Comp.run_bind h
  refine' regionT [_, _, _, _, SP.ptr rBool O12 x15, SP.isv (.bool x15), _, SP.elt (u11) (Int.toNat x14 * 1)] hA (.cons ?z7_0 (.cons ?z7_1 (.cons ?z7_2 (.cons ?z7_3 (.cons ?z7_4 (.cons ?z7_5 (.cons ?z7_6 (.cons ?z7_7 .nil)))))))) ?zok7 ?zgd7 ?zk7
  case z7_0 => intro a' w' hE hK hg; exact ok_move (kn (hK 12 rfl) rfl q12)
  case z7_1 => intro a' w' hE hK hg; exact ok_move (kn (hK 13 rfl) rfl q13)
  case z7_2 => intro a' w' hE hK hg; exact ok_move (kn (hK 12 rfl) rfl q12)
  case z7_3 => intro a' w' hE hK hg; exact ok_move (kn (hK 13 rfl) rfl q13)
  case z7_4 => intro a' w' hE hK hg; exact okl_idx (r := rBool) (O := O12) ty71 ty4 rfl (ksv (j := 2) (hK 39 rfl) rfl rfl rfl) (OwnL.rd (OwnL.ext f13 hE)) (ksv (j := 3) (hK 40 rfl) rfl rfl rfl) hx15
  case z7_5 => intro a' w' hE hK hg; exact okl_ldr rBool (fun _ => rfl) ty4 rfl rfl rfl (kspS (φ := SP.ptr rBool O12 x15) (j := 4) (hK 41 rfl) rfl rfl rfl) (fun _ _ _ h => rBool_v.1 h)
  case z7_6 => intro a' w' hE hK hg; exact ok_not (ksv (j := 5) (hK 42 rfl) rfl rfl rfl)
  case z7_7 => intro a' w' hE hK hg; exact okl_idxOwn rfl ty71 ty4 (ksv (j := 0) (hK 37 rfl) rfl rfl rfl) (OwnL.ext f13 hE) (ksv (j := 1) (hK 38 rfl) rfl rfl rfl) (idx_lt hx16)
  case zok7 => kernel_rfl
  case zgd7 => kernel_rfl
  intro a15 w15 hA' hE HF
  replace q3 := kn (HF 3) rfl q3
  replace q9 := kn (HF 9) rfl q9
  replace q11 := kn (HF 11) rfl q11
  replace q12 := kn (HF 12) rfl q12
  replace q13 := kn (HF 13) rfl q13
  have q43 := ksv (HF 43) rfl rfl rfl
  have f18 := ksp (HF 44) rfl rfl rfl
  obtain ⟨u17, q44'⟩ : ∃ u, a15.get 44 = u := ⟨_, rfl⟩
  rw [q44'] at f18
  have q44 := q44'; clear q44'
  clear hA HF; have hA := hA'; clear hA'
  replace h_3 := GR.v_ext _ h_3 hE
  replace f5 := GR.v_ext _ f5 hE
  replace f13 := f13.ext hE
  replace hB := Base.step hB hE hO; clear hE
  obtain ⟨x20, hx20, h⟩ := Comp.run_bind h
  refine l_storeElt (r := rBool) (fun _ => rfl) rfl hO hB (okB_fr hB) ty4 q44 f18 f13 q43 (by first | exact rInt_v.2 rfl | exact rBool_v.2 rfl | exact rStr_v.2 rfl | exact rC_v.2 rfl | exact ⟨_, rfl, rfl⟩) hx20 (by decide) fun w16 f19 hB' hX => ?_
  clear hB; have hB := hB'; clear hB'
  replace h_3 := GR.kx _ h_3 hX (by decide)
  replace f5 := GR.kx _ f5 hX (by decide)
  clear hX f13
  refine (li_nil ?_)
  refine (nx_then ?_)
  refine wp_seq ?_
  obtain ⟨x21, hx21, h⟩ := Comp.run_bind h
  refine' region [_, _, _, _, SP.vl (rSl rBool) O12 x21, SP.vl (rSl rBool) O12 x21] mixed hA (.cons ?z8_0 (.cons ?z8_1 (.cons ?z8_2 (.cons ?z8_3 (.cons ?z8_4 (.cons ?z8_5 .nil)))))) ?zok8 ?zgd8 ?zk8
  case z8_0 => intro a' w' hE hK hg; exact ok_move (kn (hK 3 rfl) rfl q3)
  case z8_1 => intro a' w' hE hK hg; exact ok_move (kn (hK 3 rfl) rfl q3)
  case z8_2 => intro a' w' hE hK hg; exact okl_len (r := rBool) ty71 (ksv (j := 1) (hK 46 rfl) rfl rfl rfl) (rd_of (GR.v_ext _ h_3 hE))
  case z8_3 => intro a' w' hE hK hg; exact ok_min (ksv (j := 2) (hK 47 rfl) rfl rfl rfl) rfl
  case z8_4 => intro a' w' hE hK hg; exact okl_slice_h (r := rBool) ty71 ty4 rfl (ksv (j := 0) (hK 45 rfl) rfl rfl rfl) (GR.v_ext _ h_3 hE) (ksv (j := 3) (hK 48 rfl) rfl rfl rfl) hx21
  case z8_5 => intro a' w' hE hK hg; exact ok_assign_pr (φ := SP.vl (rSl rBool) O12 x21) (kspS (φ := SP.vl (rSl rBool) O12 x21) (j := 4) (hK 49 rfl) rfl rfl rfl)
  case zok8 => kernel_rfl
  case zgd8 => kernel_rfl
  intro a17 w17 hA' hE HF
  have f23 := ksp (HF 3) rfl rfl rfl
  obtain ⟨u22, q3'⟩ : ∃ u, a17.get 3 = u := ⟨_, rfl⟩
  rw [q3'] at f23
  replace q3 := q3'; clear q3'
  replace q9 := kn (HF 9) rfl q9
  replace q11 := kn (HF 11) rfl q11
  replace q12 := kn (HF 12) rfl q12
  replace q13 := kn (HF 13) rfl q13
  clear hA HF; have hA := hA'; clear hA'
  replace h_3 := GR.v_ext _ h_3 hE
  replace f5 := GR.v_ext _ f5 hE
  replace f19 := f19.ext hE
  replace hB := Base.step hB hE hO; clear hE
  refine (li_nil ?_)
  refine (nx_then ?_)
  refine seq_join (fun a w => ∃ (O48 : Tags), a.fit 89 ∧ Base (Fr w0) O w0 O48 w ∧ a.get 9 = .bool x1 ∧ (colletlaw32_CoreConflicts_j1 x1 ).run n = some y) ?_ ?_
  ·
    refine wp_seq ?_
    obtain ⟨O24, hB', hX, f25⟩ := freezeL hO hB f19 (by decide)
    clear f19 hB; have hB := hB'; clear hB'
    replace f23 := GR.kx _ f23 hX (by decide)
    replace f5 := GR.kx _ f5 hX (by decide)
    clear hX
    obtain ⟨x26, hx26, h⟩ := Comp.run_bind h
    obtain ⟨x27, hx27, h⟩ := Comp.run_bind h
    obtain ⟨x28, hx28, h⟩ := Comp.run_bind h
    obtain ⟨x29, hx29, h⟩ := Comp.run_bind h
    refine' regionX (draw := true) (fun S_ a_ w_ => ∃ O_ : Tags, Base (Fr w0) O w0 O_ w_ ∧ Keep 0 O24 w17 O_ w_ ∧ (S_ 7 = true → (rSl rBool).v O_ w_ (a_.get 57) x27) ∧ (S_ 8 = true → (rSl rBool).v O_ w_ (a_.get 58) x28) ∧ (S_ 11 = true → (rSl rBool).v O_ w_ (a_.get 61) x29) ∧ (S_ 12 = true → (rSl (rSl rBool)).v O_ w_ (a_.get 62) [x3, x20, x21, x27, x28, x29]) ∧ (S_ 3 = true → S_ 5 = false → OwnL 2 rBool 4 (Fr w0) O_ w_ (a_.get 53) []) ∧ (S_ 5 = true → S_ 7 = false → OwnL 2 rBool 4 (Fr w0) O_ w_ (a_.get 55) x26) ∧ (S_ 7 = true → OwnL 2 rBool 4 (Fr w0) O_ w_ (.slice none 0 0) [])) [SP.isv (u4), SP.isv (u11), SP.isv (u22), SP.tt, SP.isv (u4), SP.tt, SP.isv (u22), SP.tt, SP.tt, SP.isv (u4), SP.isv (.int .i64 x14), SP.tt, SP.tt, SP.isv (.int .i64 ([x3, x20, x21, x27, x28, x29].length : Int)), SP.isv (.int .i64 0)] mixed hA (.cons (stE_isv _) (.cons (stE_isv _) (.cons (stE_isv _) (.cons (stE_tt _) (.cons (stE_isv _) (.cons (stE_tt _) (.cons (stE_isv _) (.cons (stE_tt _) (.cons (stE_tt _) (.cons (stE_isv _) (.cons (stE_isv _) (.cons (stE_tt _) (.cons (stE_tt _) (.cons (stE_isv _) (.cons (stE_isv _) .nil))))))))))))))) (.cons ?z9_0 (.cons ?z9_1 (.cons ?z9_2 (.cons ?z9_3 (.cons ?z9_4 (.cons ?z9_5 (.cons ?z9_6 (.cons ?z9_7 (.cons ?z9_8 (.cons ?z9_9 (.cons ?z9_10 (.cons ?z9_11 (.cons ?z9_12 (.cons ?z9_13 (.cons ?z9_14 .nil))))))))))))))) ?zsk9 ?zst9 ?zok9 ?zgd9 ?zk9
    case z9_0 =>
      intro S_ a' w' hA_ hJ_ hS_ hafter_ hbef_ hK hg K_ Q_ hK_
      obtain ⟨O_, hB_, k0_, m7_, m8_, m11_, m12_, v0_0_, v0_1_, v0_2_⟩ := hJ_
      refine x_ok (φ := SP.isv (u4)) (by exact ok_move (kn (hK 11 rfl) rfl q11)) fun v_ w2 hE hv_ => ?_
      have hB2_ := Base.step hB_ hE hO
      exact hK_ v_ w2 ⟨O_, hB2_, (k0_.trans (KX.keep (KX.ext hE) (by decide))), fun h_ => put_other (d := some 50) (t := 57) (φ := fun u_ => (rSl rBool).v O_ w2 u_ x27) ((GR.v_mono _ (m7_ (addS_off rfl h_)) (KX.keep (KX.ext hE) (by decide)))) (by decide), fun h_ => put_other (d := some 50) (t := 58) (φ := fun u_ => (rSl rBool).v O_ w2 u_ x28) ((GR.v_mono _ (m8_ (addS_off rfl h_)) (KX.keep (KX.ext hE) (by decide)))) (by decide), fun h_ => put_other (d := some 50) (t := 61) (φ := fun u_ => (rSl rBool).v O_ w2 u_ x29) ((GR.v_mono _ (m11_ (addS_off rfl h_)) (KX.keep (KX.ext hE) (by decide)))) (by decide), fun h_ => put_other (d := some 50) (t := 62) (φ := fun u_ => (rSl (rSl rBool)).v O_ w2 u_ [x3, x20, x21, x27, x28, x29]) ((GR.v_mono _ (m12_ (addS_off rfl h_)) (KX.keep (KX.ext hE) (by decide)))) (by decide), fun hp_ hq_ => put_other (d := some 50) (t := 53) (φ := fun u_ => OwnL 2 rBool 4 (Fr w0) O_ w2 (u_) []) (OwnL.kx (v0_0_ (addS_off rfl hp_) (addS_no hq_)) (KX.ext hE) (by decide) (by decide)) (by decide), fun hp_ hq_ => put_other (d := some 50) (t := 55) (φ := fun u_ => OwnL 2 rBool 4 (Fr w0) O_ w2 (u_) x26) (OwnL.kx (v0_1_ (addS_off rfl hp_) (addS_no hq_)) (KX.ext hE) (by decide) (by decide)) (by decide), fun hp_ => OwnL.kx (v0_2_ (addS_off rfl hp_)) (KX.ext hE) (by decide) (by decide)⟩ hv_
    case z9_1 =>
      intro S_ a' w' hA_ hJ_ hS_ hafter_ hbef_ hK hg K_ Q_ hK_
      obtain ⟨O_, hB_, k0_, m7_, m8_, m11_, m12_, v0_0_, v0_1_, v0_2_⟩ := hJ_
      refine x_ok (φ := SP.isv (u11)) (by exact ok_move (kn (hK 12 rfl) rfl q12)) fun v_ w2 hE hv_ => ?_
      have hB2_ := Base.step hB_ hE hO
      exact hK_ v_ w2 ⟨O_, hB2_, (k0_.trans (KX.keep (KX.ext hE) (by decide))), fun h_ => put_other (d := some 51) (t := 57) (φ := fun u_ => (rSl rBool).v O_ w2 u_ x27) ((GR.v_mono _ (m7_ (addS_off rfl h_)) (KX.keep (KX.ext hE) (by decide)))) (by decide), fun h_ => put_other (d := some 51) (t := 58) (φ := fun u_ => (rSl rBool).v O_ w2 u_ x28) ((GR.v_mono _ (m8_ (addS_off rfl h_)) (KX.keep (KX.ext hE) (by decide)))) (by decide), fun h_ => put_other (d := some 51) (t := 61) (φ := fun u_ => (rSl rBool).v O_ w2 u_ x29) ((GR.v_mono _ (m11_ (addS_off rfl h_)) (KX.keep (KX.ext hE) (by decide)))) (by decide), fun h_ => put_other (d := some 51) (t := 62) (φ := fun u_ => (rSl (rSl rBool)).v O_ w2 u_ [x3, x20, x21, x27, x28, x29]) ((GR.v_mono _ (m12_ (addS_off rfl h_)) (KX.keep (KX.ext hE) (by decide)))) (by decide), fun hp_ hq_ => put_other (d := some 51) (t := 53) (φ := fun u_ => OwnL 2 rBool 4 (Fr w0) O_ w2 (u_) []) (OwnL.kx (v0_0_ (addS_off rfl hp_) (addS_no hq_)) (KX.ext hE) (by decide) (by decide)) (by decide), fun hp_ hq_ => put_other (d := some 51) (t := 55) (φ := fun u_ => OwnL 2 rBool 4 (Fr w0) O_ w2 (u_) x26) (OwnL.kx (v0_1_ (addS_off rfl hp_) (addS_no hq_)) (KX.ext hE) (by decide) (by decide)) (by decide), fun hp_ => OwnL.kx (v0_2_ (addS_off rfl hp_)) (KX.ext hE) (by decide) (by decide)⟩ hv_
    case z9_2 =>
      intro S_ a' w' hA_ hJ_ hS_ hafter_ hbef_ hK hg K_ Q_ hK_
      obtain ⟨O_, hB_, k0_, m7_, m8_, m11_, m12_, v0_0_, v0_1_, v0_2_⟩ := hJ_
      refine x_ok (φ := SP.isv (u22)) (by exact ok_move (kn (hK 3 rfl) rfl q3)) fun v_ w2 hE hv_ => ?_
      have hB2_ := Base.step hB_ hE hO
      exact hK_ v_ w2 ⟨O_, hB2_, (k0_.trans (KX.keep (KX.ext hE) (by decide))), fun h_ => put_other (d := some 52) (t := 57) (φ := fun u_ => (rSl rBool).v O_ w2 u_ x27) ((GR.v_mono _ (m7_ (addS_off rfl h_)) (KX.keep (KX.ext hE) (by decide)))) (by decide), fun h_ => put_other (d := some 52) (t := 58) (φ := fun u_ => (rSl rBool).v O_ w2 u_ x28) ((GR.v_mono _ (m8_ (addS_off rfl h_)) (KX.keep (KX.ext hE) (by decide)))) (by decide), fun h_ => put_other (d := some 52) (t := 61) (φ := fun u_ => (rSl rBool).v O_ w2 u_ x29) ((GR.v_mono _ (m11_ (addS_off rfl h_)) (KX.keep (KX.ext hE) (by decide)))) (by decide), fun h_ => put_other (d := some 52) (t := 62) (φ := fun u_ => (rSl (rSl rBool)).v O_ w2 u_ [x3, x20, x21, x27, x28, x29]) ((GR.v_mono _ (m12_ (addS_off rfl h_)) (KX.keep (KX.ext hE) (by decide)))) (by decide), fun hp_ hq_ => put_other (d := some 52) (t := 53) (φ := fun u_ => OwnL 2 rBool 4 (Fr w0) O_ w2 (u_) []) (OwnL.kx (v0_0_ (addS_off rfl hp_) (addS_no hq_)) (KX.ext hE) (by decide) (by decide)) (by decide), fun hp_ hq_ => put_other (d := some 52) (t := 55) (φ := fun u_ => OwnL 2 rBool 4 (Fr w0) O_ w2 (u_) x26) (OwnL.kx (v0_1_ (addS_off rfl hp_) (addS_no hq_)) (KX.ext hE) (by decide) (by decide)) (by decide), fun hp_ => OwnL.kx (v0_2_ (addS_off rfl hp_)) (KX.ext hE) (by decide) (by decide)⟩ hv_
    case z9_3 =>
      intro S_ a' w' hA_ hJ_ hS_ hafter_ hbef_ hK hg K_ Q_ hK_
      obtain ⟨O_, hB_, k0_, m7_, m8_, m11_, m12_, v0_0_, v0_1_, v0_2_⟩ := hJ_
      refine x_ok (φ := SP.ownr rBool 4 w'.heap.size O_ []) (by exact okl_buildSlice (r := rBool) (fun _ => rfl) rfl hB_.ok ty71 ty4 (Nat.le_refl _) parts_nil trivial rfl (by decide)) fun v_ w2 hE hv_ => ?_
      obtain ⟨O2_, hB2_, hX_, f_⟩ := ownNew hO hB_ hE hv_ rfl 2 (by decide)
      exact hK_ v_ w2 ⟨O2_, hB2_, (k0_.trans (KX.keep hX_ (by decide))), fun h_ => put_other (d := some 53) (t := 57) (φ := fun u_ => (rSl rBool).v O2_ w2 u_ x27) ((GR.v_mono _ (m7_ (addS_off rfl h_)) (KX.keep hX_ (by decide)))) (by decide), fun h_ => put_other (d := some 53) (t := 58) (φ := fun u_ => (rSl rBool).v O2_ w2 u_ x28) ((GR.v_mono _ (m8_ (addS_off rfl h_)) (KX.keep hX_ (by decide)))) (by decide), fun h_ => put_other (d := some 53) (t := 61) (φ := fun u_ => (rSl rBool).v O2_ w2 u_ x29) ((GR.v_mono _ (m11_ (addS_off rfl h_)) (KX.keep hX_ (by decide)))) (by decide), fun h_ => put_other (d := some 53) (t := 62) (φ := fun u_ => (rSl (rSl rBool)).v O2_ w2 u_ [x3, x20, x21, x27, x28, x29]) ((GR.v_mono _ (m12_ (addS_off rfl h_)) (KX.keep hX_ (by decide)))) (by decide), fun hp_ hq_ => put_me (φ := fun u_ => OwnL 2 rBool 4 (Fr w0) O2_ w2 (u_) []) hA_ (by decide) f_, fun hp_ hq_ => no_tf (addS_off rfl hp_) (hafter_ 5 (by kernel_rfl)), fun hp_ => no_tf (addS_off rfl hp_) (hafter_ 7 (by kernel_rfl))⟩ trivial
    case z9_4 =>
      intro S_ a' w' hA_ hJ_ hS_ hafter_ hbef_ hK hg K_ Q_ hK_
      obtain ⟨O_, hB_, k0_, m7_, m8_, m11_, m12_, v0_0_, v0_1_, v0_2_⟩ := hJ_
      refine x_ok (φ := SP.isv (u4)) (by exact ok_move (kn (hK 11 rfl) rfl q11)) fun v_ w2 hE hv_ => ?_
      have hB2_ := Base.step hB_ hE hO
      exact hK_ v_ w2 ⟨O_, hB2_, (k0_.trans (KX.keep (KX.ext hE) (by decide))), fun h_ => put_other (d := some 54) (t := 57) (φ := fun u_ => (rSl rBool).v O_ w2 u_ x27) ((GR.v_mono _ (m7_ (addS_off rfl h_)) (KX.keep (KX.ext hE) (by decide)))) (by decide), fun h_ => put_other (d := some 54) (t := 58) (φ := fun u_ => (rSl rBool).v O_ w2 u_ x28) ((GR.v_mono _ (m8_ (addS_off rfl h_)) (KX.keep (KX.ext hE) (by decide)))) (by decide), fun h_ => put_other (d := some 54) (t := 61) (φ := fun u_ => (rSl rBool).v O_ w2 u_ x29) ((GR.v_mono _ (m11_ (addS_off rfl h_)) (KX.keep (KX.ext hE) (by decide)))) (by decide), fun h_ => put_other (d := some 54) (t := 62) (φ := fun u_ => (rSl (rSl rBool)).v O_ w2 u_ [x3, x20, x21, x27, x28, x29]) ((GR.v_mono _ (m12_ (addS_off rfl h_)) (KX.keep (KX.ext hE) (by decide)))) (by decide), fun hp_ hq_ => put_other (d := some 54) (t := 53) (φ := fun u_ => OwnL 2 rBool 4 (Fr w0) O_ w2 (u_) []) (OwnL.kx (v0_0_ (addS_off rfl hp_) (addS_no hq_)) (KX.ext hE) (by decide) (by decide)) (by decide), fun hp_ hq_ => put_other (d := some 54) (t := 55) (φ := fun u_ => OwnL 2 rBool 4 (Fr w0) O_ w2 (u_) x26) (OwnL.kx (v0_1_ (addS_off rfl hp_) (addS_no hq_)) (KX.ext hE) (by decide) (by decide)) (by decide), fun hp_ => OwnL.kx (v0_2_ (addS_off rfl hp_)) (KX.ext hE) (by decide) (by decide)⟩ hv_
    case z9_5 =>
      intro S_ a' w' hA_ hJ_ hS_ hafter_ hbef_ hK hg K_ Q_ hK_
      obtain ⟨O_, hB_, k0_, m7_, m8_, m11_, m12_, v0_0_, v0_1_, v0_2_⟩ := hJ_
      refine x_append (r := rBool) (fun _ => rfl) rfl ty71 ty4 rfl (by decide) hO hB_ (okB_fr hB_) rfl (v0_0_ (addS_off rfl (hbef_ 3 (by kernel_rfl))) hS_) (ksv (j := 4) (hK 54 rfl) rfl rfl rfl) (rd_of (GR.v_mono _ f5 k0_)) hx26 (by decide) fun u_ w2 O2_ f_ hB2_ hX_ => ?_
      exact hK_ u_ w2 ⟨O2_, hB2_, (k0_.trans (KX.keep hX_ (by decide))), fun h_ => put_other (d := some 55) (t := 57) (φ := fun u_ => (rSl rBool).v O2_ w2 u_ x27) ((GR.v_mono _ (m7_ (addS_off rfl h_)) (KX.keep hX_ (by decide)))) (by decide), fun h_ => put_other (d := some 55) (t := 58) (φ := fun u_ => (rSl rBool).v O2_ w2 u_ x28) ((GR.v_mono _ (m8_ (addS_off rfl h_)) (KX.keep hX_ (by decide)))) (by decide), fun h_ => put_other (d := some 55) (t := 61) (φ := fun u_ => (rSl rBool).v O2_ w2 u_ x29) ((GR.v_mono _ (m11_ (addS_off rfl h_)) (KX.keep hX_ (by decide)))) (by decide), fun h_ => put_other (d := some 55) (t := 62) (φ := fun u_ => (rSl (rSl rBool)).v O2_ w2 u_ [x3, x20, x21, x27, x28, x29]) ((GR.v_mono _ (m12_ (addS_off rfl h_)) (KX.keep hX_ (by decide)))) (by decide), fun hp_ hq_ => addS_me hq_, fun hp_ hq_ => put_me (φ := fun u_ => OwnL 2 rBool 4 (Fr w0) O2_ w2 (u_) x26) hA_ (by decide) f_, fun hp_ => no_tf (addS_off rfl hp_) (hafter_ 7 (by kernel_rfl))⟩ trivial
    case z9_6 =>
      intro S_ a' w' hA_ hJ_ hS_ hafter_ hbef_ hK hg K_ Q_ hK_
      obtain ⟨O_, hB_, k0_, m7_, m8_, m11_, m12_, v0_0_, v0_1_, v0_2_⟩ := hJ_
      refine x_ok (φ := SP.isv (u22)) (by exact ok_move (kn (hK 3 rfl) rfl q3)) fun v_ w2 hE hv_ => ?_
      have hB2_ := Base.step hB_ hE hO
      exact hK_ v_ w2 ⟨O_, hB2_, (k0_.trans (KX.keep (KX.ext hE) (by decide))), fun h_ => put_other (d := some 56) (t := 57) (φ := fun u_ => (rSl rBool).v O_ w2 u_ x27) ((GR.v_mono _ (m7_ (addS_off rfl h_)) (KX.keep (KX.ext hE) (by decide)))) (by decide), fun h_ => put_other (d := some 56) (t := 58) (φ := fun u_ => (rSl rBool).v O_ w2 u_ x28) ((GR.v_mono _ (m8_ (addS_off rfl h_)) (KX.keep (KX.ext hE) (by decide)))) (by decide), fun h_ => put_other (d := some 56) (t := 61) (φ := fun u_ => (rSl rBool).v O_ w2 u_ x29) ((GR.v_mono _ (m11_ (addS_off rfl h_)) (KX.keep (KX.ext hE) (by decide)))) (by decide), fun h_ => put_other (d := some 56) (t := 62) (φ := fun u_ => (rSl (rSl rBool)).v O_ w2 u_ [x3, x20, x21, x27, x28, x29]) ((GR.v_mono _ (m12_ (addS_off rfl h_)) (KX.keep (KX.ext hE) (by decide)))) (by decide), fun hp_ hq_ => put_other (d := some 56) (t := 53) (φ := fun u_ => OwnL 2 rBool 4 (Fr w0) O_ w2 (u_) []) (OwnL.kx (v0_0_ (addS_off rfl hp_) (addS_no hq_)) (KX.ext hE) (by decide) (by decide)) (by decide), fun hp_ hq_ => put_other (d := some 56) (t := 55) (φ := fun u_ => OwnL 2 rBool 4 (Fr w0) O_ w2 (u_) x26) (OwnL.kx (v0_1_ (addS_off rfl hp_) (addS_no hq_)) (KX.ext hE) (by decide) (by decide)) (by decide), fun hp_ => OwnL.kx (v0_2_ (addS_off rfl hp_)) (KX.ext hE) (by decide) (by decide)⟩ hv_
    case z9_7 =>
      intro S_ a' w' hA_ hJ_ hS_ hafter_ hbef_ hK hg K_ Q_ hK_
      obtain ⟨O_, hB_, k0_, m7_, m8_, m11_, m12_, v0_0_, v0_1_, v0_2_⟩ := hJ_
      refine x_append (r := rBool) (fun _ => rfl) rfl ty71 ty4 rfl (by decide) hO hB_ (okB_fr hB_) rfl (v0_1_ (addS_off rfl (hbef_ 5 (by kernel_rfl))) hS_) (ksv (j := 6) (hK 56 rfl) rfl rfl rfl) (rd_of (GR.v_mono _ f23 k0_)) hx27 (by decide) fun u_ w2 O2_ f_ hB2_ hX_ => ?_
      obtain ⟨O3_, hB3_, hX3_, f3_⟩ := freezeL hO hB2_ f_ (by decide)
      have hX4_ := KX.trans_same hX_ hX3_
      exact hK_ u_ w2 ⟨O3_, hB3_, (k0_.trans (KX.keep hX4_ (by decide))), fun _ => put_me (φ := fun u_ => (rSl rBool).v O3_ w2 u_ x27) hA_ (by decide) f3_, fun h_ => put_other (d := some 57) (t := 58) (φ := fun u_ => (rSl rBool).v O3_ w2 u_ x28) ((GR.v_mono _ (m8_ (addS_off rfl h_)) (KX.keep hX4_ (by decide)))) (by decide), fun h_ => put_other (d := some 57) (t := 61) (φ := fun u_ => (rSl rBool).v O3_ w2 u_ x29) ((GR.v_mono _ (m11_ (addS_off rfl h_)) (KX.keep hX4_ (by decide)))) (by decide), fun h_ => put_other (d := some 57) (t := 62) (φ := fun u_ => (rSl (rSl rBool)).v O3_ w2 u_ [x3, x20, x21, x27, x28, x29]) ((GR.v_mono _ (m12_ (addS_off rfl h_)) (KX.keep hX4_ (by decide)))) (by decide), fun hp_ hq_ => no_tf (hbef_ 5 (by kernel_rfl)) hq_, fun hp_ hq_ => addS_me hq_, fun hp_ => (OwnL.nil _ _ _ _ _ _)⟩ trivial
    case z9_8 =>
      intro S_ a' w' hA_ hJ_ hS_ hafter_ hbef_ hK hg K_ Q_ hK_
      obtain ⟨O_, hB_, k0_, m7_, m8_, m11_, m12_, v0_0_, v0_1_, v0_2_⟩ := hJ_
      refine x_ok (φ := SP.vl (rSl rBool) O_ x28) (by exact ok_weak (okl_make (r := rBool) (B := w'.heap.size) rfl ty71 ty4 (by decide) rfl (Nat.le_refl _) rfl rfl (fun _ _ => rBool_v.2 rfl) hx28) (fun _ _ _ h => OwnR.val h (fun g hg => hB_.ok g (Nat.le_trans (Nat.le_refl _) (OwnR.ge h g hg).1)))) fun v_ w2 hE hv_ => ?_
      have hB2_ := Base.step hB_ hE hO
      exact hK_ v_ w2 ⟨O_, hB2_, (k0_.trans (KX.keep (KX.ext hE) (by decide))), fun h_ => put_other (d := some 58) (t := 57) (φ := fun u_ => (rSl rBool).v O_ w2 u_ x27) ((GR.v_mono _ (m7_ (addS_off rfl h_)) (KX.keep (KX.ext hE) (by decide)))) (by decide), fun _ => put_me (φ := fun u_ => (rSl rBool).v O_ w2 u_ x28) hA_ (by decide) hv_, fun h_ => put_other (d := some 58) (t := 61) (φ := fun u_ => (rSl rBool).v O_ w2 u_ x29) ((GR.v_mono _ (m11_ (addS_off rfl h_)) (KX.keep (KX.ext hE) (by decide)))) (by decide), fun h_ => put_other (d := some 58) (t := 62) (φ := fun u_ => (rSl (rSl rBool)).v O_ w2 u_ [x3, x20, x21, x27, x28, x29]) ((GR.v_mono _ (m12_ (addS_off rfl h_)) (KX.keep (KX.ext hE) (by decide)))) (by decide), fun hp_ hq_ => put_other (d := some 58) (t := 53) (φ := fun u_ => OwnL 2 rBool 4 (Fr w0) O_ w2 (u_) []) (OwnL.kx (v0_0_ (addS_off rfl hp_) (addS_no hq_)) (KX.ext hE) (by decide) (by decide)) (by decide), fun hp_ hq_ => put_other (d := some 58) (t := 55) (φ := fun u_ => OwnL 2 rBool 4 (Fr w0) O_ w2 (u_) x26) (OwnL.kx (v0_1_ (addS_off rfl hp_) (addS_no hq_)) (KX.ext hE) (by decide) (by decide)) (by decide), fun hp_ => OwnL.kx (v0_2_ (addS_off rfl hp_)) (KX.ext hE) (by decide) (by decide)⟩ trivial
    case z9_9 =>
      intro S_ a' w' hA_ hJ_ hS_ hafter_ hbef_ hK hg K_ Q_ hK_
      obtain ⟨O_, hB_, k0_, m7_, m8_, m11_, m12_, v0_0_, v0_1_, v0_2_⟩ := hJ_
      refine x_ok (φ := SP.isv (u4)) (by exact ok_move (kn (hK 11 rfl) rfl q11)) fun v_ w2 hE hv_ => ?_
      have hB2_ := Base.step hB_ hE hO
      exact hK_ v_ w2 ⟨O_, hB2_, (k0_.trans (KX.keep (KX.ext hE) (by decide))), fun h_ => put_other (d := some 59) (t := 57) (φ := fun u_ => (rSl rBool).v O_ w2 u_ x27) ((GR.v_mono _ (m7_ (addS_off rfl h_)) (KX.keep (KX.ext hE) (by decide)))) (by decide), fun h_ => put_other (d := some 59) (t := 58) (φ := fun u_ => (rSl rBool).v O_ w2 u_ x28) ((GR.v_mono _ (m8_ (addS_off rfl h_)) (KX.keep (KX.ext hE) (by decide)))) (by decide), fun h_ => put_other (d := some 59) (t := 61) (φ := fun u_ => (rSl rBool).v O_ w2 u_ x29) ((GR.v_mono _ (m11_ (addS_off rfl h_)) (KX.keep (KX.ext hE) (by decide)))) (by decide), fun h_ => put_other (d := some 59) (t := 62) (φ := fun u_ => (rSl (rSl rBool)).v O_ w2 u_ [x3, x20, x21, x27, x28, x29]) ((GR.v_mono _ (m12_ (addS_off rfl h_)) (KX.keep (KX.ext hE) (by decide)))) (by decide), fun hp_ hq_ => put_other (d := some 59) (t := 53) (φ := fun u_ => OwnL 2 rBool 4 (Fr w0) O_ w2 (u_) []) (OwnL.kx (v0_0_ (addS_off rfl hp_) (addS_no hq_)) (KX.ext hE) (by decide) (by decide)) (by decide), fun hp_ hq_ => put_other (d := some 59) (t := 55) (φ := fun u_ => OwnL 2 rBool 4 (Fr w0) O_ w2 (u_) x26) (OwnL.kx (v0_1_ (addS_off rfl hp_) (addS_no hq_)) (KX.ext hE) (by decide) (by decide)) (by decide), fun hp_ => OwnL.kx (v0_2_ (addS_off rfl hp_)) (KX.ext hE) (by decide) (by decide)⟩ hv_
    case z9_10 =>
      intro S_ a' w' hA_ hJ_ hS_ hafter_ hbef_ hK hg K_ Q_ hK_
      obtain ⟨O_, hB_, k0_, m7_, m8_, m11_, m12_, v0_0_, v0_1_, v0_2_⟩ := hJ_
      refine x_ok (φ := SP.isv (.int .i64 x14)) (by exact ok_move (kn (hK 13 rfl) rfl q13)) fun v_ w2 hE hv_ => ?_
      have hB2_ := Base.step hB_ hE hO
      exact hK_ v_ w2 ⟨O_, hB2_, (k0_.trans (KX.keep (KX.ext hE) (by decide))), fun h_ => put_other (d := some 60) (t := 57) (φ := fun u_ => (rSl rBool).v O_ w2 u_ x27) ((GR.v_mono _ (m7_ (addS_off rfl h_)) (KX.keep (KX.ext hE) (by decide)))) (by decide), fun h_ => put_other (d := some 60) (t := 58) (φ := fun u_ => (rSl rBool).v O_ w2 u_ x28) ((GR.v_mono _ (m8_ (addS_off rfl h_)) (KX.keep (KX.ext hE) (by decide)))) (by decide), fun h_ => put_other (d := some 60) (t := 61) (φ := fun u_ => (rSl rBool).v O_ w2 u_ x29) ((GR.v_mono _ (m11_ (addS_off rfl h_)) (KX.keep (KX.ext hE) (by decide)))) (by decide), fun h_ => put_other (d := some 60) (t := 62) (φ := fun u_ => (rSl (rSl rBool)).v O_ w2 u_ [x3, x20, x21, x27, x28, x29]) ((GR.v_mono _ (m12_ (addS_off rfl h_)) (KX.keep (KX.ext hE) (by decide)))) (by decide), fun hp_ hq_ => put_other (d := some 60) (t := 53) (φ := fun u_ => OwnL 2 rBool 4 (Fr w0) O_ w2 (u_) []) (OwnL.kx (v0_0_ (addS_off rfl hp_) (addS_no hq_)) (KX.ext hE) (by decide) (by decide)) (by decide), fun hp_ hq_ => put_other (d := some 60) (t := 55) (φ := fun u_ => OwnL 2 rBool 4 (Fr w0) O_ w2 (u_) x26) (OwnL.kx (v0_1_ (addS_off rfl hp_) (addS_no hq_)) (KX.ext hE) (by decide) (by decide)) (by decide), fun hp_ => OwnL.kx (v0_2_ (addS_off rfl hp_)) (KX.ext hE) (by decide) (by decide)⟩ hv_
    case z9_11 =>
      intro S_ a' w' hA_ hJ_ hS_ hafter_ hbef_ hK hg K_ Q_ hK_
      obtain ⟨O_, hB_, k0_, m7_, m8_, m11_, m12_, v0_0_, v0_1_, v0_2_⟩ := hJ_
      refine x_ok (φ := SP.vl (rSl rBool) O_ x29) (by exact okl_slice_h (r := rBool) ty71 ty4 rfl (ksv (j := 9) (hK 59 rfl) rfl rfl rfl) (GR.v_mono _ f5 k0_) (ksv (j := 10) (hK 60 rfl) rfl rfl rfl) hx29) fun v_ w2 hE hv_ => ?_
      have hB2_ := Base.step hB_ hE hO
      exact hK_ v_ w2 ⟨O_, hB2_, (k0_.trans (KX.keep (KX.ext hE) (by decide))), fun h_ => put_other (d := some 61) (t := 57) (φ := fun u_ => (rSl rBool).v O_ w2 u_ x27) ((GR.v_mono _ (m7_ (addS_off rfl h_)) (KX.keep (KX.ext hE) (by decide)))) (by decide), fun h_ => put_other (d := some 61) (t := 58) (φ := fun u_ => (rSl rBool).v O_ w2 u_ x28) ((GR.v_mono _ (m8_ (addS_off rfl h_)) (KX.keep (KX.ext hE) (by decide)))) (by decide), fun _ => put_me (φ := fun u_ => (rSl rBool).v O_ w2 u_ x29) hA_ (by decide) hv_, fun h_ => put_other (d := some 61) (t := 62) (φ := fun u_ => (rSl (rSl rBool)).v O_ w2 u_ [x3, x20, x21, x27, x28, x29]) ((GR.v_mono _ (m12_ (addS_off rfl h_)) (KX.keep (KX.ext hE) (by decide)))) (by decide), fun hp_ hq_ => put_other (d := some 61) (t := 53) (φ := fun u_ => OwnL 2 rBool 4 (Fr w0) O_ w2 (u_) []) (OwnL.kx (v0_0_ (addS_off rfl hp_) (addS_no hq_)) (KX.ext hE) (by decide) (by decide)) (by decide), fun hp_ hq_ => put_other (d := some 61) (t := 55) (φ := fun u_ => OwnL 2 rBool 4 (Fr w0) O_ w2 (u_) x26) (OwnL.kx (v0_1_ (addS_off rfl hp_) (addS_no hq_)) (KX.ext hE) (by decide) (by decide)) (by decide), fun hp_ => OwnL.kx (v0_2_ (addS_off rfl hp_)) (KX.ext hE) (by decide) (by decide)⟩ trivial
    case z9_12 =>
      intro S_ a' w' hA_ hJ_ hS_ hafter_ hbef_ hK hg K_ Q_ hK_
      obtain ⟨O_, hB_, k0_, m7_, m8_, m11_, m12_, v0_0_, v0_1_, v0_2_⟩ := hJ_
      refine x_ok (φ := SP.vl (rSl (rSl rBool)) O_ [x3, x20, x21, x27, x28, x29]) (by exact okl_buildSliceV (r := (rSl rBool)) (fun _ => rfl) rfl hB_.ok ty73 ty71 (parts_cons (ksv (j := 0) (hK 50 rfl) rfl rfl rfl) (parts_cons (ksv (j := 1) (hK 51 rfl) rfl rfl rfl) (parts_cons (ksv (j := 2) (hK 52 rfl) rfl rfl rfl) (parts_cons rfl (parts_cons rfl (parts_cons rfl parts_nil)))))) ⟨(GR.v_mono _ f5 k0_), ⟨(GR.v_mono _ f25 k0_), ⟨(GR.v_mono _ f23 k0_), ⟨(m7_ (addS_off rfl (hbef_ 7 (by kernel_rfl)))), ⟨(m8_ (addS_off rfl (hbef_ 8 (by kernel_rfl)))), ⟨(m11_ (addS_off rfl (hbef_ 11 (by kernel_rfl)))), trivial⟩⟩⟩⟩⟩⟩ rfl (by decide)) fun v_ w2 hE hv_ => ?_
      have hB2_ := Base.step hB_ hE hO
      exact hK_ v_ w2 ⟨O_, hB2_, (k0_.trans (KX.keep (KX.ext hE) (by decide))), fun h_ => put_other (d := some 62) (t := 57) (φ := fun u_ => (rSl rBool).v O_ w2 u_ x27) ((GR.v_mono _ (m7_ (addS_off rfl h_)) (KX.keep (KX.ext hE) (by decide)))) (by decide), fun h_ => put_other (d := some 62) (t := 58) (φ := fun u_ => (rSl rBool).v O_ w2 u_ x28) ((GR.v_mono _ (m8_ (addS_off rfl h_)) (KX.keep (KX.ext hE) (by decide)))) (by decide), fun h_ => put_other (d := some 62) (t := 61) (φ := fun u_ => (rSl rBool).v O_ w2 u_ x29) ((GR.v_mono _ (m11_ (addS_off rfl h_)) (KX.keep (KX.ext hE) (by decide)))) (by decide), fun _ => put_me (φ := fun u_ => (rSl (rSl rBool)).v O_ w2 u_ [x3, x20, x21, x27, x28, x29]) hA_ (by decide) hv_, fun hp_ hq_ => put_other (d := some 62) (t := 53) (φ := fun u_ => OwnL 2 rBool 4 (Fr w0) O_ w2 (u_) []) (OwnL.kx (v0_0_ (addS_off rfl hp_) (addS_no hq_)) (KX.ext hE) (by decide) (by decide)) (by decide), fun hp_ hq_ => put_other (d := some 62) (t := 55) (φ := fun u_ => OwnL 2 rBool 4 (Fr w0) O_ w2 (u_) x26) (OwnL.kx (v0_1_ (addS_off rfl hp_) (addS_no hq_)) (KX.ext hE) (by decide) (by decide)) (by decide), fun hp_ => OwnL.kx (v0_2_ (addS_off rfl hp_)) (KX.ext hE) (by decide) (by decide)⟩ trivial
    case z9_13 =>
      intro S_ a' w' hA_ hJ_ hS_ hafter_ hbef_ hK hg K_ Q_ hK_
      obtain ⟨O_, hB_, k0_, m7_, m8_, m11_, m12_, v0_0_, v0_1_, v0_2_⟩ := hJ_
      refine x_ok (φ := SP.isv (.int .i64 ([x3, x20, x21, x27, x28, x29].length : Int))) (by exact okl_len (r := (rSl rBool)) ty73 rfl (rd_of (m12_ (addS_off rfl (hbef_ 12 (by kernel_rfl)))))) fun v_ w2 hE hv_ => ?_
      have hB2_ := Base.step hB_ hE hO
      exact hK_ v_ w2 ⟨O_, hB2_, (k0_.trans (KX.keep (KX.ext hE) (by decide))), fun h_ => put_other (d := some 63) (t := 57) (φ := fun u_ => (rSl rBool).v O_ w2 u_ x27) ((GR.v_mono _ (m7_ (addS_off rfl h_)) (KX.keep (KX.ext hE) (by decide)))) (by decide), fun h_ => put_other (d := some 63) (t := 58) (φ := fun u_ => (rSl rBool).v O_ w2 u_ x28) ((GR.v_mono _ (m8_ (addS_off rfl h_)) (KX.keep (KX.ext hE) (by decide)))) (by decide), fun h_ => put_other (d := some 63) (t := 61) (φ := fun u_ => (rSl rBool).v O_ w2 u_ x29) ((GR.v_mono _ (m11_ (addS_off rfl h_)) (KX.keep (KX.ext hE) (by decide)))) (by decide), fun h_ => put_other (d := some 63) (t := 62) (φ := fun u_ => (rSl (rSl rBool)).v O_ w2 u_ [x3, x20, x21, x27, x28, x29]) ((GR.v_mono _ (m12_ (addS_off rfl h_)) (KX.keep (KX.ext hE) (by decide)))) (by decide), fun hp_ hq_ => put_other (d := some 63) (t := 53) (φ := fun u_ => OwnL 2 rBool 4 (Fr w0) O_ w2 (u_) []) (OwnL.kx (v0_0_ (addS_off rfl hp_) (addS_no hq_)) (KX.ext hE) (by decide) (by decide)) (by decide), fun hp_ hq_ => put_other (d := some 63) (t := 55) (φ := fun u_ => OwnL 2 rBool 4 (Fr w0) O_ w2 (u_) x26) (OwnL.kx (v0_1_ (addS_off rfl hp_) (addS_no hq_)) (KX.ext hE) (by decide) (by decide)) (by decide), fun hp_ => OwnL.kx (v0_2_ (addS_off rfl hp_)) (KX.ext hE) (by decide) (by decide)⟩ hv_
    case z9_14 =>
      intro S_ a' w' hA_ hJ_ hS_ hafter_ hbef_ hK hg K_ Q_ hK_
      obtain ⟨O_, hB_, k0_, m7_, m8_, m11_, m12_, v0_0_, v0_1_, v0_2_⟩ := hJ_
      refine x_ok (φ := SP.isv (.int .i64 0)) (by exact ok_move rfl) fun v_ w2 hE hv_ => ?_
      have hB2_ := Base.step hB_ hE hO
      exact hK_ v_ w2 ⟨O_, hB2_, (k0_.trans (KX.keep (KX.ext hE) (by decide))), fun h_ => put_other (d := some 64) (t := 57) (φ := fun u_ => (rSl rBool).v O_ w2 u_ x27) ((GR.v_mono _ (m7_ (addS_off rfl h_)) (KX.keep (KX.ext hE) (by decide)))) (by decide), fun h_ => put_other (d := some 64) (t := 58) (φ := fun u_ => (rSl rBool).v O_ w2 u_ x28) ((GR.v_mono _ (m8_ (addS_off rfl h_)) (KX.keep (KX.ext hE) (by decide)))) (by decide), fun h_ => put_other (d := some 64) (t := 61) (φ := fun u_ => (rSl rBool).v O_ w2 u_ x29) ((GR.v_mono _ (m11_ (addS_off rfl h_)) (KX.keep (KX.ext hE) (by decide)))) (by decide), fun h_ => put_other (d := some 64) (t := 62) (φ := fun u_ => (rSl (rSl rBool)).v O_ w2 u_ [x3, x20, x21, x27, x28, x29]) ((GR.v_mono _ (m12_ (addS_off rfl h_)) (KX.keep (KX.ext hE) (by decide)))) (by decide), fun hp_ hq_ => put_other (d := some 64) (t := 53) (φ := fun u_ => OwnL 2 rBool 4 (Fr w0) O_ w2 (u_) []) (OwnL.kx (v0_0_ (addS_off rfl hp_) (addS_no hq_)) (KX.ext hE) (by decide) (by decide)) (by decide), fun hp_ hq_ => put_other (d := some 64) (t := 55) (φ := fun u_ => OwnL 2 rBool 4 (Fr w0) O_ w2 (u_) x26) (OwnL.kx (v0_1_ (addS_off rfl hp_) (addS_no hq_)) (KX.ext hE) (by decide) (by decide)) (by decide), fun hp_ => OwnL.kx (v0_2_ (addS_off rfl hp_)) (KX.ext hE) (by decide) (by decide)⟩ hv_
    case zsk9 =>
      intro i_ o_ S_ a_ w_ ho_ hact_ hA_ hS_ hbef_ hJ_
      obtain ⟨O_, hB_, k0_, m7_, m8_, m11_, m12_, v0_0_, v0_1_, v0_2_⟩ := hJ_
      exact ⟨O_, hB_, k0_, fun h_ => by obtain ⟨h1_, h2_⟩ := skip_off (j := 7) hact_ rfl h_; exact put_other (t := 57) (φ := fun u_ => (rSl rBool).v O_ w_ u_ x27) (m7_ h1_) (uniqDst_ne (j := 7) (by kernel_rfl) ho_ h2_), fun h_ => by obtain ⟨h1_, h2_⟩ := skip_off (j := 8) hact_ rfl h_; exact put_other (t := 58) (φ := fun u_ => (rSl rBool).v O_ w_ u_ x28) (m8_ h1_) (uniqDst_ne (j := 8) (by kernel_rfl) ho_ h2_), fun h_ => by obtain ⟨h1_, h2_⟩ := skip_off (j := 11) hact_ rfl h_; exact put_other (t := 61) (φ := fun u_ => (rSl rBool).v O_ w_ u_ x29) (m11_ h1_) (uniqDst_ne (j := 11) (by kernel_rfl) ho_ h2_), fun h_ => by obtain ⟨h1_, h2_⟩ := skip_off (j := 12) hact_ rfl h_; exact put_other (t := 62) (φ := fun u_ => (rSl (rSl rBool)).v O_ w_ u_ [x3, x20, x21, x27, x28, x29]) (m12_ h1_) (uniqDst_ne (j := 12) (by kernel_rfl) ho_ h2_), fun hp_ hq_ => by obtain ⟨h1_, h2_⟩ := skip_off (j := 3) hact_ rfl hp_; exact put_other (t := 53) (φ := fun u_ => OwnL 2 rBool 4 (Fr w0) O_ w_ (u_) []) (v0_0_ h1_ (addS_no hq_)) (uniqDst_ne (j := 3) (by kernel_rfl) ho_ h2_), fun hp_ hq_ => by obtain ⟨h1_, h2_⟩ := skip_off (j := 5) hact_ rfl hp_; exact put_other (t := 55) (φ := fun u_ => OwnL 2 rBool 4 (Fr w0) O_ w_ (u_) x26) (v0_1_ h1_ (addS_no hq_)) (uniqDst_ne (j := 5) (by kernel_rfl) ho_ h2_), fun hp_ => by obtain ⟨h1_, h2_⟩ := skip_off (j := 7) hact_ rfl hp_; exact (v0_2_ h1_)⟩
    case zst9 => exact fun w1_ hE_ => ⟨O24, (Base.step hB hE_ hO), (Keep.ext hE_), fun h_ => no_ft h_, fun h_ => no_ft h_, fun h_ => no_ft h_, fun h_ => no_ft h_, fun hp_ => no_ft hp_, fun hp_ => no_ft hp_, fun hp_ => no_ft hp_⟩
    case zok9 => kernel_rfl
    case zgd9 => kernel_rfl
    intro a18 w18 hA' HF hJ_
    obtain ⟨O30, hB_, k0_, m7_, m8_, m11_, m12_, v0_0_, v0_1_, v0_2_⟩ := hJ_
    replace q9 := kn (HF 9) rfl q9
    have f32 := m12_ rfl
    obtain ⟨u31, q62'⟩ : ∃ u, a18.get 62 = u := ⟨_, rfl⟩
    rw [q62'] at f32
    have q62 := q62'; clear q62'
    have q63' := ksv (j := 13) (HF 63) rfl rfl rfl
    have q63 := q63'; clear q63'
    have q64' := ksv (j := 14) (HF 64) rfl rfl rfl
    have q64 := q64'; clear q64'
    clear q3
    clear q11
    clear q12
    clear q13
    clear hA HF; have hA := hA'; clear hA'
    replace f23 := GR.v_mono _ f23 k0_
    replace f5 := GR.v_mono _ f5 k0_
    replace f25 := GR.v_mono _ f25 k0_
    clear hB; have hB := hB_; clear hB_
    clear k0_ m7_ m8_ m11_ m12_ v0_0_ v0_1_ v0_2_
    obtain ⟨x33, hx_, h⟩ := Comp.run_bind h; replace hx_ := Comp.run_pure hx_; rw [hx_] at q63; clear hx_
    refine (nx_then ?_)
    refine wp_block ?_
    obtain ⟨e2, he2, hk2⟩ := Comp.run_bind h; clear h
    refine loop_m (fun m a w => ∃ (O35 : Tags) (x34 : Int), a.fit 89 ∧ Base (Fr w0) O w0 O35 w ∧ a.get 9 = .bool x1 ∧ a.get 62 = u31 ∧ (rSl (rSl rBool)).v O35 w u31 [x3, x20, x21, x27, x28, x29] ∧ a.get 63 = .int .i64 x33 ∧ a.get 64 = .int .i64 x34 ∧ Comp.loopN (fun s => colletlaw32_CoreConflicts_l2 x33 x3 x20 x21 x27 x28 x29 s) n m x34 = some e2) (m := n) ?st2 ?_
    case st2 =>
      exact ⟨_, _, hA, hB, q9, q62, f32, q63, q64, Comp.run_loop he2⟩
    intro m_ a19 w19 hI
    clear hA hB he2 q9 q62 q63 q64 f32
    obtain ⟨O35, x34, hA, hB, q9, q62, f32, q63, q64, hl⟩ := hI
    obtain ⟨m2, hlt2, st2, h, hnext2, hdone2⟩ := Comp.loopN_succ hl; clear hl
    replace h : (colletlaw32_CoreConflicts_l2 x33 x3 x20 x21 x27 x28 x29 x34).run n = some st2 := h
    unfold colletlaw32_CoreConflicts_l2 at h
    refine wp_seq ?_
    refine' region [_] mixed hA (.cons ?z10_0 .nil) ?zok10 ?zgd10 ?zk10
    case z10_0 => intro a' w' hE hK hg; exact ok_lss (kn (hK 64 rfl) rfl q64) (kn (hK 63 rfl) rfl q63)
    case zok10 => kernel_rfl
    case zgd10 => kernel_rfl
    intro a20 w20 hA' hE HF
    replace q9 := kn (HF 9) rfl q9
    replace q62 := kn (HF 62) rfl q62
    replace q63 := kn (HF 63) rfl q63
    replace q64 := kn (HF 64) rfl q64
    have q65 := ksv (HF 65) rfl rfl rfl
    clear hA HF; have hA := hA'; clear hA'
    replace f32 := GR.v_ext _ f32 hE
    replace hB := Base.step hB hE hO; clear hE
    refine (li_nil ?_)
    refine (nx_then ?_)
    refine wp_seq ?_
    refine wp_cond_b q65 (fun hc => ?_) (fun hc => ?_)
    ·
      replace h := Comp.run_b_t hc h; clear hc
      refine wp_skip ?_
      refine (nx_then ?_)
      refine wp_seq ?_
      refine wp_block ?_
      refine wp_seq ?_
      obtain ⟨x36, hx36, h⟩ := Comp.run_bind h
      refine' region [SP.ptr (rSl rBool) O35 x36, SP.vl (rSl rBool) O35 x36, SP.vl (rSl rBool) O35 x36] mixed hA (.cons ?z11_0 (.cons ?z11_1 (.cons ?z11_2 .nil))) ?zok11 ?zgd11 ?zk11
      case z11_0 => intro a' w' hE hK hg; exact okl_idx (r := (rSl rBool)) (O := O35) ty73 ty71 rfl (kn (hK 62 rfl) rfl q62) (rd_of (GR.v_ext _ f32 hE)) (kn (hK 64 rfl) rfl q64) hx36
      case z11_1 => intro a' w' hE hK hg; exact okl_ld (r := (rSl rBool)) (fun _ => rfl) ty71 rfl rfl rfl (kspS (φ := SP.ptr (rSl rBool) O35 x36) (j := 0) (hK 66 rfl) rfl rfl rfl)
      case z11_2 => intro a' w' hE hK hg; exact ok_assign_pr (φ := SP.vl (rSl rBool) O35 x36) (kspS (φ := SP.vl (rSl rBool) O35 x36) (j := 1) (hK 67 rfl) rfl rfl rfl)
      case zok11 => kernel_rfl
      case zgd11 => kernel_rfl
      intro a21 w21 hA' hE HF
      replace q9 := kn (HF 9) rfl q9
      have f38 := ksp (HF 15) rfl rfl rfl
      obtain ⟨u37, q15'⟩ : ∃ u, a21.get 15 = u := ⟨_, rfl⟩
      rw [q15'] at f38
      have q15 := q15'; clear q15'
      replace q62 := kn (HF 62) rfl q62
      replace q63 := kn (HF 63) rfl q63
      replace q64 := kn (HF 64) rfl q64
      clear q65
      clear hA HF; have hA := hA'; clear hA'
      replace f32 := GR.v_ext _ f32 hE
      replace hB := Base.step hB hE hO; clear hE
      refine (li_nil ?_)
      refine (nx_then ?_)
      refine wp_seq ?_
      obtain ⟨x39, hx39, h⟩ := Comp.run_bind h
      refine' region [_, SP.tup2 (SP.vl (rSl (rInt .i64)) O35 x39.1) (SP.isv (.int .i64 x39.2)), SP.tup2 (SP.vl (rSl (rInt .i64)) O35 x39.1) (SP.isv (.int .i64 x39.2)), SP.vl (rSl (rInt .i64)) O35 x39.1, SP.isv (.int .i64 x39.2), SP.vl (rSl (rInt .i64)) O35 x39.1, _] mixed hA (.cons ?z12_0 (.cons ?z12_1 (.cons ?z12_2 (.cons ?z12_3 (.cons ?z12_4 (.cons ?z12_5 (.cons ?z12_6 .nil))))))) ?zok12 ?zgd12 ?zk12
      case z12_0 => intro a' w' hE hK hg; exact ok_move (kn (hK 15 rfl) rfl q15)
      case z12_1 => intro a' w' hE hK hg; have c_ := ok_core_Conflicts (OkO.ext hB.ok hE) (GR.v_ext _ f38 hE) hx39; exact ok_weak (ok_call1 fn49 (ksv (j := 0) (hK 69 rfl) rfl rfl rfl) c_) (fun _ _ _ ⟨a_, b_, e0_, h0_, h1_⟩ => ⟨a_, b_, e0_, (fun h => (OwnR.val h (fun g hg => (OkO.ext hB.ok hE) g (OwnR.ge h g hg).1))) h0_, h1_⟩)
      case z12_2 => intro a' w' hE hK hg; exact ok_move_pr (φ := SP.tup2 (SP.vl (rSl (rInt .i64)) O35 x39.1) (SP.isv (.int .i64 x39.2))) (kspS (φ := SP.tup2 (SP.vl (rSl (rInt .i64)) O35 x39.1) (SP.isv (.int .i64 x39.2))) (j := 1) (hK 70 rfl) rfl rfl rfl)
      case z12_3 => intro a' w' hE hK hg; exact okl_ext0 (kspS (φ := SP.tup2 (SP.vl (rSl (rInt .i64)) O35 x39.1) (SP.isv (.int .i64 x39.2))) (j := 2) (hK 68 rfl) rfl rfl rfl)
      case z12_4 => intro a' w' hE hK hg; exact okl_ext1 (kspS (φ := SP.tup2 (SP.vl (rSl (rInt .i64)) O35 x39.1) (SP.isv (.int .i64 x39.2))) (j := 2) (hK 68 rfl) rfl rfl rfl)
      case z12_5 => intro a' w' hE hK hg; exact ok_assign_pr (φ := SP.vl (rSl (rInt .i64)) O35 x39.1) (kspS (φ := SP.vl (rSl (rInt .i64)) O35 x39.1) (j := 3) (hK 71 rfl) rfl rfl rfl)
      case z12_6 => intro a' w' hE hK hg; exact ok_assign (ksv (j := 4) (hK 72 rfl) rfl rfl rfl)
      case zok12 => kernel_rfl
      case zgd12 => kernel_rfl
      intro a22 w22 hA' hE HF
      replace q9 := kn (HF 9) rfl q9
      replace q15 := kn (HF 15) rfl q15
      have f41 := ksp (HF 16) rfl rfl rfl
      obtain ⟨u40, q16'⟩ : ∃ u, a22.get 16 = u := ⟨_, rfl⟩
      rw [q16'] at f41
      have q16 := q16'; clear q16'
      have q17 := ksv (HF 17) rfl rfl rfl
      replace q62 := kn (HF 62) rfl q62
      replace q63 := kn (HF 63) rfl q63
      replace q64 := kn (HF 64) rfl q64
      clear hA HF; have hA := hA'; clear hA'
      replace f38 := GR.v_ext _ f38 hE
      replace f32 := GR.v_ext _ f32 hE
      replace hB := Base.step hB hE hO; clear hE
      refine (li_nil ?_)
      refine (nx_then ?_)
      refine wp_seq ?_
      obtain ⟨x42, hx42, h⟩ := Comp.run_bind h
      refine' region [_, SP.tup2 (SP.vl (rSl (rInt .i64)) O35 x42.1) (SP.isv (.int .i64 x42.2)), SP.tup2 (SP.vl (rSl (rInt .i64)) O35 x42.1) (SP.isv (.int .i64 x42.2)), SP.vl (rSl (rInt .i64)) O35 x42.1, SP.isv (.int .i64 x42.2), SP.vl (rSl (rInt .i64)) O35 x42.1, _] mixed hA (.cons ?z13_0 (.cons ?z13_1 (.cons ?z13_2 (.cons ?z13_3 (.cons ?z13_4 (.cons ?z13_5 (.cons ?z13_6 .nil))))))) ?zok13 ?zgd13 ?zk13
      case z13_0 => intro a' w' hE hK hg; exact ok_move (kn (hK 15 rfl) rfl q15)
      case z13_1 => intro a' w' hE hK hg; have c_ := ok_colletref32_Conflicts (OkO.ext hB.ok hE) (GR.v_ext _ f38 hE) hx42; exact ok_weak (ok_call1 fn50 (ksv (j := 0) (hK 74 rfl) rfl rfl rfl) c_) (fun _ _ _ ⟨a_, b_, e0_, h0_, h1_⟩ => ⟨a_, b_, e0_, (fun h => (OwnR.val h (fun g hg => (OkO.ext hB.ok hE) g (OwnR.ge h g hg).1))) h0_, h1_⟩)
      case z13_2 => intro a' w' hE hK hg; exact ok_move_pr (φ := SP.tup2 (SP.vl (rSl (rInt .i64)) O35 x42.1) (SP.isv (.int .i64 x42.2))) (kspS (φ := SP.tup2 (SP.vl (rSl (rInt .i64)) O35 x42.1) (SP.isv (.int .i64 x42.2))) (j := 1) (hK 75 rfl) rfl rfl rfl)
      case z13_3 => intro a' w' hE hK hg; exact okl_ext0 (kspS (φ := SP.tup2 (SP.vl (rSl (rInt .i64)) O35 x42.1) (SP.isv (.int .i64 x42.2))) (j := 2) (hK 73 rfl) rfl rfl rfl)
      case z13_4 => intro a' w' hE hK hg; exact okl_ext1 (kspS (φ := SP.tup2 (SP.vl (rSl (rInt .i64)) O35 x42.1) (SP.isv (.int .i64 x42.2))) (j := 2) (hK 73 rfl) rfl rfl rfl)
      case z13_5 => intro a' w' hE hK hg; exact ok_assign_pr (φ := SP.vl (rSl (rInt .i64)) O35 x42.1) (kspS (φ := SP.vl (rSl (rInt .i64)) O35 x42.1) (j := 3) (hK 76 rfl) rfl rfl rfl)
      case z13_6 => intro a' w' hE hK hg; exact ok_assign (ksv (j := 4) (hK 77 rfl) rfl rfl rfl)
      case zok13 => kernel_rfl
      case zgd13 => kernel_rfl
      intro a23 w23 hA' hE HF
      replace q9 := kn (HF 9) rfl q9
      replace q16 := kn (HF 16) rfl q16
      replace q17 := kn (HF 17) rfl q17
      have f44 := ksp (HF 18) rfl rfl rfl
      obtain ⟨u43, q18'⟩ : ∃ u, a23.get 18 = u := ⟨_, rfl⟩
      rw [q18'] at f44
      have q18 := q18'; clear q18'
      have q19 := ksv (HF 19) rfl rfl rfl
      replace q62 := kn (HF 62) rfl q62
      replace q63 := kn (HF 63) rfl q63
      replace q64 := kn (HF 64) rfl q64
      clear q15
      clear hA HF; have hA := hA'; clear hA'
      replace f38 := GR.v_ext _ f38 hE
      replace f41 := GR.v_ext _ f41 hE
      replace f32 := GR.v_ext _ f32 hE
      replace hB := Base.step hB hE hO; clear hE
      refine (li_nil ?_)
      refine (nx_then ?_)
      refine wp_seq ?_
      obtain ⟨x45, hx45, h⟩ := Comp.run_bind h
      refine' region [_, _, _, _, _, _, SP.isv (.bool x45), _, _] mixed hA (.cons ?z14_0 (.cons ?z14_1 (.cons ?z14_2 (.cons ?z14_3 (.cons ?z14_4 (.cons ?z14_5 (.cons ?z14_6 (.cons ?z14_7 (.cons ?z14_8 .nil))))))))) ?zok14 ?zgd14 ?zk14
      case z14_0 => intro a' w' hE hK hg; exact ok_move (kn (hK 17 rfl) rfl q17)
      case z14_1 => intro a' w' hE hK hg; exact ok_move (kn (hK 19 rfl) rfl q19)
      case z14_2 => intro a' w' hE hK hg; exact ok_neqI (ksv (j := 0) (hK 78 rfl) rfl rfl rfl) (ksv (j := 1) (hK 79 rfl) rfl rfl rfl)
      case z14_3 => intro a' w' hE hK hg; exact ok_move (ksv (j := 2) (hK 80 rfl) rfl rfl rfl)
      case z14_4 => intro a' w' hE hK hg; exact ok_move (kn (hK 16 rfl) rfl q16)
      case z14_5 => intro a' w' hE hK hg; exact ok_move (kn (hK 18 rfl) rfl q18)
      case z14_6 => intro a' w' hE hK hg; have c_ := ok_colletref32_Same (OkO.ext hB.ok hE) (GR.v_ext _ f41 hE) (GR.v_ext _ f44 hE) (run_gdb hx45 hg); exact ok_call2 fn41 (ksv (j := 4) (hK 82 rfl) rfl rfl hg) (ksv (j := 5) (hK 83 rfl) rfl rfl hg) c_
      case z14_7 => intro a' w' hE hK hg; exact ok_not (ksv (j := 6) (hK 84 rfl) rfl rfl hg)
      case z14_8 => intro a' w' hE hK hg; exact ok_pick (ksv (j := 3) (hK 81 rfl) rfl rfl rfl) (fun _ => rfl) (fun hb => ksv (j := 7) (hK 85 rfl) rfl rfl (act_g1 rfl rfl hb))
      case zok14 => kernel_rfl
      case zgd14 => kernel_rfl
      intro a24 w24 hA' hE HF
      replace q9 := kn (HF 9) rfl q9
      replace q62 := kn (HF 62) rfl q62
      replace q63 := kn (HF 63) rfl q63
      replace q64 := kn (HF 64) rfl q64
      have q86 := ksv (HF 86) rfl rfl rfl
      clear q16
      clear q17
      clear q18
      clear q19
      clear hA HF; have hA := hA'; clear hA'
      replace f41 := GR.v_ext _ f41 hE
      replace f44 := GR.v_ext _ f44 hE
      replace f32 := GR.v_ext _ f32 hE
      replace hB := Base.step hB hE hO; clear hE
      obtain ⟨x46, hx_, h⟩ := Comp.run_bind h; replace hx_ := Comp.run_pure hx_; rw [hx_] at q86; clear hx_
      refine (li_nil ?_)
      refine (nx_then ?_)
      refine wp_cond_b q86 (fun hc => ?_) (fun hc => ?_)
      ·
        replace h := Comp.run_b_t hc h; clear hc
        refine wp_seq ?_
        refine' region [_] mixed hA (.cons ?z15_0 .nil) ?zok15 ?zgd15 ?zk15
        case z15_0 => intro a' w' hE hK hg; exact ok_assign rfl
        case zok15 => kernel_rfl
        case zgd15 => kernel_rfl
        intro a25 w25 hA' hE HF
        have q8 := ksv (HF 8) rfl rfl rfl
        clear q9
        clear q62
        clear q63
        clear q64
        clear q86
        clear hA HF; have hA := hA'; clear hA'
        replace f32 := GR.v_ext _ f32 hE
        replace hB := Base.step hB hE hO; clear hE
        refine (li_nil ?_)
        refine (nx_then ?_)
        refine (wp_ret (rt_blk (rt_then (rt_then (rt_blk (rt_then ?_))))))
        have hd_ := hdone2 _ (Comp.run_pure h).symm; clear h
        subst hd_; have h := hk2; clear hk2; try dsimp only at h
        have h := Comp.run_pure h; subst h
        exact retPure Try.results9 hA q8 hB.ext rfl
      ·
        replace h := Comp.run_b_f hc h; clear hc
        refine wp_skip ?_
        refine (nx_blk (nx_then ?_))
        refine' region [_, _] mixed hA (.cons ?z16_0 (.cons ?z16_1 .nil)) ?zok16 ?zgd16 ?zk16
        case z16_0 => intro a' w' hE hK hg; exact ok_add (kn (hK 64 rfl) rfl q64) rfl
        case z16_1 => intro a' w' hE hK hg; exact ok_move (ksv (j := 0) (hK 87 rfl) rfl rfl rfl)
        case zok16 => kernel_rfl
        case zgd16 => kernel_rfl
        intro a26 w26 hA' hE HF
        replace q9 := kn (HF 9) rfl q9
        replace q62 := kn (HF 62) rfl q62
        replace q63 := kn (HF 63) rfl q63
        have q64' := ksv (HF 64) rfl rfl rfl
        replace q64 := q64'; clear q64'
        clear q86
        clear hA HF; have hA := hA'; clear hA'
        replace f32 := GR.v_ext _ f32 hE
        replace hB := Base.step hB hE hO; clear hE
        refine (li_nil ?_)
        refine (nx_then ?_)
        have h := hnext2 _ (Comp.run_pure h).symm
        refine ⟨m2, hlt2, ?_⟩
        exact ⟨_, _, hA, hB, q9, q62, f32, q63, q64, h⟩
    ·
      replace h := Comp.run_b_f hc h; clear hc
      refine wp_exit ?_
      refine (ex_then (ex_then (ex_same ?_)))
      have hd_ := hdone2 _ (Comp.run_pure h).symm; clear h
      subst hd_; have h := hk2; clear hk2; try dsimp only at h
      refine (nx_then ?_)
      exact ⟨_, hA, hB, q9, h⟩
  intro a27 w27 hI
  clear hA hB h q3 q9 q11 q12 q13 f19 f23 f5
  obtain ⟨O48, hA, hB, q9, h⟩ := hI
  unfold colletlaw32_CoreConflicts_j1 at h
  refine wp_seq ?_
  refine' region [_, _] mixed hA (.cons ?z17_0 (.cons ?z17_1 .nil)) ?zok17 ?zgd17 ?zk17
  case z17_0 => intro a' w' hE hK hg; exact ok_move (kn (hK 9 rfl) rfl q9)
  case z17_1 => intro a' w' hE hK hg; exact ok_assign (ksv (j := 0) (hK 88 rfl) rfl rfl rfl)
  case zok17 => kernel_rfl
  case zgd17 => kernel_rfl
  intro a28 w28 hA' hE HF
  have q8 := ksv (HF 8) rfl rfl rfl
  clear q9
  clear hA HF; have hA := hA'; clear hA'
  replace hB := Base.step hB hE hO; clear hE
  refine (li_nil ?_)
  refine (nx_then ?_)
  refine (wp_ret ?_)
  have h := Comp.run_pure h; subst h
  exact retPure Try.results9 hA q8 hB.ext rfl

theorem ok_colletlaw32_CoreDuality {O : Tags} {w0 : World} (hO : OkO O w0) {v_0 : Value} {x_0 : List Int} (h_0 : (rSl (rInt .i64)).v O w0 v_0 x_0) {x_1 : Int} {n : Nat} {y : Bool} (h : (colletlaw32_CoreDuality x_0 x_1).run n = some y) : Pure Try.prog 10 #[v_0, .int .u8 x_1] w0 (SP.isv (.bool y)).holds := by
  unfold colletlaw32_CoreDuality at h
  refine pure_of_wp Try.func10 rfl 77 Try.ntmps10 (by simp) fun a0 hA hs0 => ?_
  have q0 := hs0 0 _ rfl
  have q1 := hs0 1 _ rfl
  clear hs0
  have hB : Base (Fr w0) O w0 O w0 := Base.start hO
  refine wp_seq ?_
  refine' region [_] mixed hA (.cons ?z1_0 .nil) ?zok1 ?zgd1 ?zk1
  case z1_0 => intro a' w' hE hK hg; exact ok_assign rfl
  case zok1 => kernel_rfl
  case zgd1 => kernel_rfl
  intro a1 w1 hA' hE HF
  replace q0 := kn (HF 0) rfl q0
  replace q1 := kn (HF 1) rfl q1
  clear hA HF; have hA := hA'; clear hA'
  replace h_0 := GR.v_ext _ h_0 hE
  replace hB := Base.step hB hE hO; clear hE
  refine (li_nil ?_)
  refine (nx_then ?_)
  refine wp_seq ?_
  obtain ⟨x1, hx1, h⟩ := Comp.run_bind h
  refine' region [SP.isv (.bool x1), _] mixed hA (.cons ?z2_0 (.cons ?z2_1 .nil)) ?zok2 ?zgd2 ?zk2
  case z2_0 => intro a' w' hE hK hg; have c_ := ok_colletlaw32_sanity (OkO.ext hB.ok hE)  hx1; exact ok_call0 fn38  c_
  case z2_1 => intro a' w' hE hK hg; exact ok_assign (ksv (j := 0) (hK 15 rfl) rfl rfl rfl)
  case zok2 => kernel_rfl
  case zgd2 => kernel_rfl
  intro a2 w2 hA' hE HF
  replace q0 := kn (HF 0) rfl q0
  replace q1 := kn (HF 1) rfl q1
  have q5 := ksv (HF 5) rfl rfl rfl
  clear hA HF; have hA := hA'; clear hA'
  replace h_0 := GR.v_ext _ h_0 hE
  replace hB := Base.step hB hE hO; clear hE
  refine (li_nil ?_)
  refine (nx_then ?_)
  refine wp_seq ?_
  refine' region [_, _, _, _] mixed hA (.cons ?z3_0 (.cons ?z3_1 (.cons ?z3_2 (.cons ?z3_3 .nil)))) ?zok3 ?zgd3 ?zk3
  case z3_0 => intro a' w' hE hK hg; exact ok_move (kn (hK 1 rfl) rfl q1)
  case z3_1 => intro a' w' hE hK hg; exact ok_convI ty5 ty3 (ksv (j := 0) (hK 16 rfl) rfl rfl rfl)
  case z3_2 => intro a' w' hE hK hg; exact ok_rem (ksv (j := 1) (hK 17 rfl) rfl rfl rfl) rfl (by decide)
  case z3_3 => intro a' w' hE hK hg; exact ok_assign (ksv (j := 2) (hK 18 rfl) rfl rfl rfl)
  case zok3 => kernel_rfl
  case zgd3 => kernel_rfl
  intro a3 w3 hA' hE HF
  replace q0 := kn (HF 0) rfl q0
  replace q5 := kn (HF 5) rfl q5
  have q6 := ksv (HF 6) rfl rfl rfl
  clear q1
  clear hA HF; have hA := hA'; clear hA'
  replace h_0 := GR.v_ext _ h_0 hE
  replace hB := Base.step hB hE hO; clear hE
  refine (li_nil ?_)
  refine (nx_then ?_)
  refine wp_seq ?_
  obtain ⟨x2, hx2, h⟩ := Comp.run_bind h
  refine' region [_, _, SP.vl (rSl (rInt .i64)) O x2, SP.vl (rSl (rInt .i64)) O x2] mixed hA (.cons ?z4_0 (.cons ?z4_1 (.cons ?z4_2 (.cons ?z4_3 .nil)))) ?zok4 ?zgd4 ?zk4
  case z4_0 => intro a' w' hE hK hg; exact ok_move (kn (hK 0 rfl) rfl q0)
  case z4_1 => intro a' w' hE hK hg; exact ok_move (kn (hK 6 rfl) rfl q6)
  case z4_2 => intro a' w' hE hK hg; have c_ := ok_colletref32_Sets (OkO.ext hB.ok hE) (GR.v_ext _ h_0 hE) hx2; exact ok_weak (ok_call2 fn40 (ksv (j := 0) (hK 19 rfl) rfl rfl rfl) (ksv (j := 1) (hK 20 rfl) rfl rfl rfl) c_) (fun _ _ _ h => (OwnR.val h (fun g hg => (OkO.ext hB.ok hE) g (OwnR.ge h g hg).1)))
  case z4_3 => intro a' w' hE hK hg; exact ok_assign_pr (φ := SP.vl (rSl (rInt .i64)) O x2) (kspS (φ := SP.vl (rSl (rInt .i64)) O x2) (j := 2) (hK 21 rfl) rfl rfl rfl)
  case zok4 => kernel_rfl
  case zgd4 => kernel_rfl
  intro a4 w4 hA' hE HF
  replace q5 := kn (HF 5) rfl q5
  replace q6 := kn (HF 6) rfl q6
  have f4 := ksp (HF 7) rfl rfl rfl
  obtain ⟨u3, q7'⟩ : ∃ u, a4.get 7 = u := ⟨_, rfl⟩
  rw [q7'] at f4
  have q7 := q7'; clear q7'
  clear q0
  clear hA HF; have hA := hA'; clear hA'
  replace h_0 := GR.v_ext _ h_0 hE
  replace hB := Base.step hB hE hO; clear hE
  refine (li_nil ?_)
  refine (nx_then ?_)
  refine wp_seq ?_
  obtain ⟨x5, hx5, h⟩ := Comp.run_bind h
  refine' region [_, SP.vl (rSl (rInt .i64)) O x5, SP.vl (rSl (rInt .i64)) O x5] mixed hA (.cons ?z5_0 (.cons ?z5_1 (.cons ?z5_2 .nil))) ?zok5 ?zgd5 ?zk5
  case z5_0 => intro a' w' hE hK hg; exact ok_move (kn (hK 7 rfl) rfl q7)
  case z5_1 => intro a' w' hE hK hg; have c_ := ok_core_Minimal (OkO.ext hB.ok hE) (GR.v_ext _ f4 hE) hx5; exact ok_weak (ok_call1 fn42 (ksv (j := 0) (hK 22 rfl) rfl rfl rfl) c_) (fun _ _ _ h => (OwnR.val h (fun g hg => (OkO.ext hB.ok hE) g (OwnR.ge h g hg).1)))
  case z5_2 => intro a' w' hE hK hg; exact ok_assign_pr (φ := SP.vl (rSl (rInt .i64)) O x5) (kspS (φ := SP.vl (rSl (rInt .i64)) O x5) (j := 1) (hK 23 rfl) rfl rfl rfl)
  case zok5 => kernel_rfl
  case zgd5 => kernel_rfl
  intro a5 w5 hA' hE HF
  replace q5 := kn (HF 5) rfl q5
  replace q6 := kn (HF 6) rfl q6
  replace q7 := kn (HF 7) rfl q7
  have f7 := ksp (HF 8) rfl rfl rfl
  obtain ⟨u6, q8'⟩ : ∃ u, a5.get 8 = u := ⟨_, rfl⟩
  rw [q8'] at f7
  have q8 := q8'; clear q8'
  clear hA HF; have hA := hA'; clear hA'
  replace f4 := GR.v_ext _ f4 hE
  replace hB := Base.step hB hE hO; clear hE
  refine (li_nil ?_)
  refine (nx_then ?_)
  refine wp_seq ?_
  obtain ⟨x8, hx8, h⟩ := Comp.run_bind h
  refine' region [_, _, SP.tup2 (SP.vl (rSl (rInt .i64)) O x8.1) (SP.isv (.int .i64 x8.2)), SP.tup2 (SP.vl (rSl (rInt .i64)) O x8.1) (SP.isv (.int .i64 x8.2)), SP.vl (rSl (rInt .i64)) O x8.1, SP.isv (.int .i64 x8.2), SP.vl (rSl (rInt .i64)) O x8.1, _] mixed hA (.cons ?z6_0 (.cons ?z6_1 (.cons ?z6_2 (.cons ?z6_3 (.cons ?z6_4 (.cons ?z6_5 (.cons ?z6_6 (.cons ?z6_7 .nil)))))))) ?zok6 ?zgd6 ?zk6
  case z6_0 => intro a' w' hE hK hg; exact ok_move (kn (hK 7 rfl) rfl q7)
  case z6_1 => intro a' w' hE hK hg; exact ok_move (kn (hK 6 rfl) rfl q6)
  case z6_2 => intro a' w' hE hK hg; have c_ := ok_core_Hitting (OkO.ext hB.ok hE) (GR.v_ext _ f4 hE) hx8; exact ok_weak (ok_call2 fn46 (ksv (j := 0) (hK 25 rfl) rfl rfl rfl) (ksv (j := 1) (hK 26 rfl) rfl rfl rfl) c_) (fun _ _ _ ⟨a_, b_, e0_, h0_, h1_⟩ => ⟨a_, b_, e0_, (fun h => (OwnR.val h (fun g hg => (OkO.ext hB.ok hE) g (OwnR.ge h g hg).1))) h0_, h1_⟩)
  case z6_3 => intro a' w' hE hK hg; exact ok_move_pr (φ := SP.tup2 (SP.vl (rSl (rInt .i64)) O x8.1) (SP.isv (.int .i64 x8.2))) (kspS (φ := SP.tup2 (SP.vl (rSl (rInt .i64)) O x8.1) (SP.isv (.int .i64 x8.2))) (j := 2) (hK 27 rfl) rfl rfl rfl)
  case z6_4 => intro a' w' hE hK hg; exact okl_ext0 (kspS (φ := SP.tup2 (SP.vl (rSl (rInt .i64)) O x8.1) (SP.isv (.int .i64 x8.2))) (j := 3) (hK 24 rfl) rfl rfl rfl)
  case z6_5 => intro a' w' hE hK hg; exact okl_ext1 (kspS (φ := SP.tup2 (SP.vl (rSl (rInt .i64)) O x8.1) (SP.isv (.int .i64 x8.2))) (j := 3) (hK 24 rfl) rfl rfl rfl)
  case z6_6 => intro a' w' hE hK hg; exact ok_assign_pr (φ := SP.vl (rSl (rInt .i64)) O x8.1) (kspS (φ := SP.vl (rSl (rInt .i64)) O x8.1) (j := 4) (hK 28 rfl) rfl rfl rfl)
  case z6_7 => intro a' w' hE hK hg; exact ok_assign (ksv (j := 5) (hK 29 rfl) rfl rfl rfl)
  case zok6 => kernel_rfl
  case zgd6 => kernel_rfl
  intro a6 w6 hA' hE HF
  replace q5 := kn (HF 5) rfl q5
  replace q6 := kn (HF 6) rfl q6
  replace q8 := kn (HF 8) rfl q8
  have f10 := ksp (HF 9) rfl rfl rfl
  obtain ⟨u9, q9'⟩ : ∃ u, a6.get 9 = u := ⟨_, rfl⟩
  rw [q9'] at f10
  have q9 := q9'; clear q9'
  have q10 := ksv (HF 10) rfl rfl rfl
  clear q7
  clear hA HF; have hA := hA'; clear hA'
  replace f4 := GR.v_ext _ f4 hE
  replace f7 := GR.v_ext _ f7 hE
  replace hB := Base.step hB hE hO; clear hE
  refine (li_nil ?_)
  refine (nx_then ?_)
  refine wp_seq ?_
  obtain ⟨x11, hx11, h⟩ := Comp.run_bind h
  refine' region [_, _, SP.tup2 (SP.vl (rSl (rInt .i64)) O x11.1) (SP.isv (.int .i64 x11.2)), SP.tup2 (SP.vl (rSl (rInt .i64)) O x11.1) (SP.isv (.int .i64 x11.2)), SP.vl (rSl (rInt .i64)) O x11.1, SP.isv (.int .i64 x11.2), SP.vl (rSl (rInt .i64)) O x11.1, _] mixed hA (.cons ?z7_0 (.cons ?z7_1 (.cons ?z7_2 (.cons ?z7_3 (.cons ?z7_4 (.cons ?z7_5 (.cons ?z7_6 (.cons ?z7_7 .nil)))))))) ?zok7 ?zgd7 ?zk7
  case z7_0 => intro a' w' hE hK hg; exact ok_move (kn (hK 9 rfl) rfl q9)
  case z7_1 => intro a' w' hE hK hg; exact ok_move (kn (hK 6 rfl) rfl q6)
  case z7_2 => intro a' w' hE hK hg; have c_ := ok_core_Hitting (OkO.ext hB.ok hE) (GR.v_ext _ f10 hE) hx11; exact ok_weak (ok_call2 fn46 (ksv (j := 0) (hK 31 rfl) rfl rfl rfl) (ksv (j := 1) (hK 32 rfl) rfl rfl rfl) c_) (fun _ _ _ ⟨a_, b_, e0_, h0_, h1_⟩ => ⟨a_, b_, e0_, (fun h => (OwnR.val h (fun g hg => (OkO.ext hB.ok hE) g (OwnR.ge h g hg).1))) h0_, h1_⟩)
  case z7_3 => intro a' w' hE hK hg; exact ok_move_pr (φ := SP.tup2 (SP.vl (rSl (rInt .i64)) O x11.1) (SP.isv (.int .i64 x11.2))) (kspS (φ := SP.tup2 (SP.vl (rSl (rInt .i64)) O x11.1) (SP.isv (.int .i64 x11.2))) (j := 2) (hK 33 rfl) rfl rfl rfl)
  case z7_4 => intro a' w' hE hK hg; exact okl_ext0 (kspS (φ := SP.tup2 (SP.vl (rSl (rInt .i64)) O x11.1) (SP.isv (.int .i64 x11.2))) (j := 3) (hK 30 rfl) rfl rfl rfl)
  case z7_5 => intro a' w' hE hK hg; exact okl_ext1 (kspS (φ := SP.tup2 (SP.vl (rSl (rInt .i64)) O x11.1) (SP.isv (.int .i64 x11.2))) (j := 3) (hK 30 rfl) rfl rfl rfl)
  case z7_6 => intro a' w' hE hK hg; exact ok_assign_pr (φ := SP.vl (rSl (rInt .i64)) O x11.1) (kspS (φ := SP.vl (rSl (rInt .i64)) O x11.1) (j := 4) (hK 34 rfl) rfl rfl rfl)
  case z7_7 => intro a' w' hE hK hg; exact ok_assign (ksv (j := 5) (hK 35 rfl) rfl rfl rfl)
  case zok7 => kernel_rfl
  case zgd7 => kernel_rfl
  intro a7 w7 hA' hE HF
  replace q5 := kn (HF 5) rfl q5
  replace q6 := kn (HF 6) rfl q6
  replace q8 := kn (HF 8) rfl q8
  replace q9 := kn (HF 9) rfl q9
  replace q10 := kn (HF 10) rfl q10
  have f13 := ksp (HF 11) rfl rfl rfl
  obtain ⟨u12, q11'⟩ : ∃ u, a7.get 11 = u := ⟨_, rfl⟩
  rw [q11'] at f13
  have q11 := q11'; clear q11'
  have q12 := ksv (HF 12) rfl rfl rfl
  clear hA HF; have hA := hA'; clear hA'
  replace f7 := GR.v_ext _ f7 hE
  replace f10 := GR.v_ext _ f10 hE
  replace hB := Base.step hB hE hO; clear hE
  refine (li_nil ?_)
  refine (nx_then ?_)
  refine wp_seq ?_
  obtain ⟨x14, hx14, h⟩ := Comp.run_bind h
  refine' region [_, _, SP.tup2 (SP.vl (rSl (rInt .i64)) O x14.1) (SP.isv (.int .i64 x14.2)), SP.tup2 (SP.vl (rSl (rInt .i64)) O x14.1) (SP.isv (.int .i64 x14.2)), SP.vl (rSl (rInt .i64)) O x14.1, SP.isv (.int .i64 x14.2), SP.vl (rSl (rInt .i64)) O x14.1, _] mixed hA (.cons ?z8_0 (.cons ?z8_1 (.cons ?z8_2 (.cons ?z8_3 (.cons ?z8_4 (.cons ?z8_5 (.cons ?z8_6 (.cons ?z8_7 .nil)))))))) ?zok8 ?zgd8 ?zk8
  case z8_0 => intro a' w' hE hK hg; exact ok_move (kn (hK 8 rfl) rfl q8)
  case z8_1 => intro a' w' hE hK hg; exact ok_move (kn (hK 6 rfl) rfl q6)
  case z8_2 => intro a' w' hE hK hg; have c_ := ok_core_Hitting (OkO.ext hB.ok hE) (GR.v_ext _ f7 hE) hx14; exact ok_weak (ok_call2 fn46 (ksv (j := 0) (hK 37 rfl) rfl rfl rfl) (ksv (j := 1) (hK 38 rfl) rfl rfl rfl) c_) (fun _ _ _ ⟨a_, b_, e0_, h0_, h1_⟩ => ⟨a_, b_, e0_, (fun h => (OwnR.val h (fun g hg => (OkO.ext hB.ok hE) g (OwnR.ge h g hg).1))) h0_, h1_⟩)
  case z8_3 => intro a' w' hE hK hg; exact ok_move_pr (φ := SP.tup2 (SP.vl (rSl (rInt .i64)) O x14.1) (SP.isv (.int .i64 x14.2))) (kspS (φ := SP.tup2 (SP.vl (rSl (rInt .i64)) O x14.1) (SP.isv (.int .i64 x14.2))) (j := 2) (hK 39 rfl) rfl rfl rfl)
  case z8_4 => intro a' w' hE hK hg; exact okl_ext0 (kspS (φ := SP.tup2 (SP.vl (rSl (rInt .i64)) O x14.1) (SP.isv (.int .i64 x14.2))) (j := 3) (hK 36 rfl) rfl rfl rfl)
  case z8_5 => intro a' w' hE hK hg; exact okl_ext1 (kspS (φ := SP.tup2 (SP.vl (rSl (rInt .i64)) O x14.1) (SP.isv (.int .i64 x14.2))) (j := 3) (hK 36 rfl) rfl rfl rfl)
  case z8_6 => intro a' w' hE hK hg; exact ok_assign_pr (φ := SP.vl (rSl (rInt .i64)) O x14.1) (kspS (φ := SP.vl (rSl (rInt .i64)) O x14.1) (j := 4) (hK 40 rfl) rfl rfl rfl)
  case z8_7 => intro a' w' hE hK hg; exact ok_assign (ksv (j := 5) (hK 41 rfl) rfl rfl rfl)
  case zok8 => kernel_rfl
  case zgd8 => kernel_rfl
  intro a8 w8 hA' hE HF
  replace q5 := kn (HF 5) rfl q5
  replace q8 := kn (HF 8) rfl q8
  replace q9 := kn (HF 9) rfl q9
  replace q10 := kn (HF 10) rfl q10
  replace q11 := kn (HF 11) rfl q11
  replace q12 := kn (HF 12) rfl q12
  have f16 := ksp (HF 13) rfl rfl rfl
  obtain ⟨u15, q13'⟩ : ∃ u, a8.get 13 = u := ⟨_, rfl⟩
  rw [q13'] at f16
  have q13 := q13'; clear q13'
  have q14 := ksv (HF 14) rfl rfl rfl
  clear q6
  clear hA HF; have hA := hA'; clear hA'
  replace f7 := GR.v_ext _ f7 hE
  replace f10 := GR.v_ext _ f10 hE
  replace f13 := GR.v_ext _ f13 hE
  replace hB := Base.step hB hE hO; clear hE
  refine (li_nil ?_)
  refine (nx_then ?_)
  refine wp_seq ?_
  obtain ⟨x17, hx17, h⟩ := Comp.run_bind h
  obtain ⟨x18, hx18, h⟩ := Comp.run_bind h
  obtain ⟨x19, hx19, h⟩ := Comp.run_bind h
  obtain ⟨x20, hx20, h⟩ := Comp.run_bind h
  obtain ⟨x21, hx21, h⟩ := Comp.run_bind h
  obtain ⟨x22, hx22, h⟩ := Comp.run_bind h
  refine' region [_, _, _, _, _, _, _, _, _, _, _, _, _, _, _, _, SP.isv (.bool x17), _, _, _, _, SP.isv (.bool x18), _, _, _, SP.vl (rSl (rInt .i64)) O x19, _, SP.isv (.bool x20), _, _, _, SP.vl (rSl (rInt .i64)) O x21, _, SP.isv (.bool x22), _, _] mixed hA (.cons ?z9_0 (.cons ?z9_1 (.cons ?z9_2 (.cons ?z9_3 (.cons ?z9_4 (.cons ?z9_5 (.cons ?z9_6 (.cons ?z9_7 (.cons ?z9_8 (.cons ?z9_9 (.cons ?z9_10 (.cons ?z9_11 (.cons ?z9_12 (.cons ?z9_13 (.cons ?z9_14 (.cons ?z9_15 (.cons ?z9_16 (.cons ?z9_17 (.cons ?z9_18 (.cons ?z9_19 (.cons ?z9_20 (.cons ?z9_21 (.cons ?z9_22 (.cons ?z9_23 (.cons ?z9_24 (.cons ?z9_25 (.cons ?z9_26 (.cons ?z9_27 (.cons ?z9_28 (.cons ?z9_29 (.cons ?z9_30 (.cons ?z9_31 (.cons ?z9_32 (.cons ?z9_33 (.cons ?z9_34 (.cons ?z9_35 .nil)))))))))))))))))))))))))))))))))))) ?zok9 ?zgd9 ?zk9
  case z9_0 => intro a' w' hE hK hg; exact ok_move (kn (hK 5 rfl) rfl q5)
  case z9_1 => intro a' w' hE hK hg; exact ok_move (ksv (j := 0) (hK 42 rfl) rfl rfl rfl)
  case z9_2 => intro a' w' hE hK hg; exact ok_move (kn (hK 10 rfl) rfl q10)
  case z9_3 => intro a' w' hE hK hg; exact ok_eqlI (ksv (j := 2) (hK 44 rfl) rfl rfl hg) rfl
  case z9_4 => intro a' w' hE hK hg; exact ok_pick (ksv (j := 1) (hK 43 rfl) rfl rfl rfl) (fun hb => ksv (j := 3) (hK 45 rfl) rfl rfl (act_g1 rfl rfl hb)) (fun _ => rfl)
  case z9_5 => intro a' w' hE hK hg; exact ok_move (ksv (j := 4) (hK 46 rfl) rfl rfl rfl)
  case z9_6 => intro a' w' hE hK hg; exact ok_move (kn (hK 12 rfl) rfl q12)
  case z9_7 => intro a' w' hE hK hg; exact ok_eqlI (ksv (j := 6) (hK 48 rfl) rfl rfl hg) rfl
  case z9_8 => intro a' w' hE hK hg; exact ok_pick (ksv (j := 5) (hK 47 rfl) rfl rfl rfl) (fun hb => ksv (j := 7) (hK 49 rfl) rfl rfl (act_g1 rfl rfl hb)) (fun _ => rfl)
  case z9_9 => intro a' w' hE hK hg; exact ok_move (ksv (j := 8) (hK 50 rfl) rfl rfl rfl)
  case z9_10 => intro a' w' hE hK hg; exact ok_move (kn (hK 14 rfl) rfl q14)
  case z9_11 => intro a' w' hE hK hg; exact ok_eqlI (ksv (j := 10) (hK 52 rfl) rfl rfl hg) rfl
  case z9_12 => intro a' w' hE hK hg; exact ok_pick (ksv (j := 9) (hK 51 rfl) rfl rfl rfl) (fun hb => ksv (j := 11) (hK 53 rfl) rfl rfl (act_g1 rfl rfl hb)) (fun _ => rfl)
  case z9_13 => intro a' w' hE hK hg; exact ok_move (ksv (j := 12) (hK 54 rfl) rfl rfl rfl)
  case z9_14 => intro a' w' hE hK hg; exact ok_move (kn (hK 11 rfl) rfl q11)
  case z9_15 => intro a' w' hE hK hg; exact ok_move (kn (hK 8 rfl) rfl q8)
  case z9_16 => intro a' w' hE hK hg; have c_ := ok_colletref32_Same (OkO.ext hB.ok hE) (GR.v_ext _ f13 hE) (GR.v_ext _ f7 hE) (run_gdb hx17 hg); exact ok_call2 fn41 (ksv (j := 14) (hK 56 rfl) rfl rfl hg) (ksv (j := 15) (hK 57 rfl) rfl rfl hg) c_
  case z9_17 => intro a' w' hE hK hg; exact ok_pick (ksv (j := 13) (hK 55 rfl) rfl rfl rfl) (fun hb => ksv (j := 16) (hK 58 rfl) rfl rfl (act_g1 rfl rfl hb)) (fun _ => rfl)
  case z9_18 => intro a' w' hE hK hg; exact ok_move (ksv (j := 17) (hK 59 rfl) rfl rfl rfl)
  case z9_19 => intro a' w' hE hK hg; exact ok_move (kn (hK 13 rfl) rfl q13)
  case z9_20 => intro a' w' hE hK hg; exact ok_move (kn (hK 9 rfl) rfl q9)
  case z9_21 => intro a' w' hE hK hg; have c_ := ok_colletref32_Same (OkO.ext hB.ok hE) (GR.v_ext _ f16 hE) (GR.v_ext _ f10 hE) (run_gdb hx18 hg); exact ok_call2 fn41 (ksv (j := 19) (hK 61 rfl) rfl rfl hg) (ksv (j := 20) (hK 62 rfl) rfl rfl hg) c_
  case z9_22 => intro a' w' hE hK hg; exact ok_pick (ksv (j := 18) (hK 60 rfl) rfl rfl rfl) (fun hb => ksv (j := 21) (hK 63 rfl) rfl rfl (act_g1 rfl rfl hb)) (fun _ => rfl)
  case z9_23 => intro a' w' hE hK hg; exact ok_move (ksv (j := 22) (hK 64 rfl) rfl rfl rfl)
  case z9_24 => intro a' w' hE hK hg; exact ok_move (kn (hK 9 rfl) rfl q9)
  case z9_25 => intro a' w' hE hK hg; have c_ := ok_core_Minimal (OkO.ext hB.ok hE) (GR.v_ext _ f10 hE) (run_gdb hx19 hg); exact ok_weak (ok_call1 fn42 (ksv (j := 24) (hK 66 rfl) rfl rfl hg) c_) (fun _ _ _ h => (OwnR.val h (fun g hg => (OkO.ext hB.ok hE) g (OwnR.ge h g hg).1)))
  case z9_26 => intro a' w' hE hK hg; exact ok_move (kn (hK 9 rfl) rfl q9)
  case z9_27 => intro a' w' hE hK hg; have c_ := ok_colletref32_Same (OkO.ext hB.ok hE) (kspS (φ := SP.vl (rSl (rInt .i64)) O x19) (j := 25) (hK 67 rfl) rfl rfl hg) (GR.v_ext _ f10 hE) (run_gdb hx20 hg); exact ok_call2 fn41 rfl (ksv (j := 26) (hK 68 rfl) rfl rfl hg) c_
  case z9_28 => intro a' w' hE hK hg; exact ok_pick (ksv (j := 23) (hK 65 rfl) rfl rfl rfl) (fun hb => ksv (j := 27) (hK 69 rfl) rfl rfl (act_g1 rfl rfl hb)) (fun _ => rfl)
  case z9_29 => intro a' w' hE hK hg; exact ok_move (ksv (j := 28) (hK 70 rfl) rfl rfl rfl)
  case z9_30 => intro a' w' hE hK hg; exact ok_move (kn (hK 8 rfl) rfl q8)
  case z9_31 => intro a' w' hE hK hg; have c_ := ok_core_Minimal (OkO.ext hB.ok hE) (GR.v_ext _ f7 hE) (run_gdb hx21 hg); exact ok_weak (ok_call1 fn42 (ksv (j := 30) (hK 72 rfl) rfl rfl hg) c_) (fun _ _ _ h => (OwnR.val h (fun g hg => (OkO.ext hB.ok hE) g (OwnR.ge h g hg).1)))
  case z9_32 => intro a' w' hE hK hg; exact ok_move (kn (hK 8 rfl) rfl q8)
  case z9_33 => intro a' w' hE hK hg; have c_ := ok_colletref32_Same (OkO.ext hB.ok hE) (kspS (φ := SP.vl (rSl (rInt .i64)) O x21) (j := 31) (hK 73 rfl) rfl rfl hg) (GR.v_ext _ f7 hE) (run_gdb hx22 hg); exact ok_call2 fn41 rfl (ksv (j := 32) (hK 74 rfl) rfl rfl hg) c_
  case z9_34 => intro a' w' hE hK hg; exact ok_pick (ksv (j := 29) (hK 71 rfl) rfl rfl rfl) (fun hb => ksv (j := 33) (hK 75 rfl) rfl rfl (act_g1 rfl rfl hb)) (fun _ => rfl)
  case z9_35 => intro a' w' hE hK hg; exact ok_assign (ksv (j := 34) (hK 76 rfl) rfl rfl rfl)
  case zok9 => kernel_rfl
  case zgd9 => kernel_rfl
  intro a9 w9 hA' hE HF
  have q4 := ksv (HF 4) rfl rfl rfl
  clear q5
  clear q8
  clear q9
  clear q10
  clear q11
  clear q12
  clear q13
  clear q14
  clear hA HF; have hA := hA'; clear hA'
  replace f7 := GR.v_ext _ f7 hE
  replace f10 := GR.v_ext _ f10 hE
  replace f13 := GR.v_ext _ f13 hE
  replace f16 := GR.v_ext _ f16 hE
  replace hB := Base.step hB hE hO; clear hE
  obtain ⟨x23, hx_, h⟩ := Comp.run_bind h; replace hx_ := Comp.run_pure hx_; rw [hx_] at q4; clear hx_
  refine (li_nil ?_)
  refine (nx_then ?_)
  refine (wp_ret ?_)
  have h := Comp.run_pure h; subst h
  exact retPure Try.results10 hA q4 hB.ext rfl

theorem ok_colletlaw32_CoreHits_f1 {O : Tags} {w0 : World} (hO : OkO O w0) {x_0 : Int} {v_1 : Value} {x_1 : List Int} (h_1 : (rBox (rSl (rInt .i64))).v O w0 v_1 x_1) {n : Nat} {y : Bool} (h : (colletlaw32_CoreHits_f1 x_0 x_1).run n = some y) : Pure Try.prog 51 #[.int .i64 x_0, v_1] w0 (SP.isv (.bool y)).holds := by
  unfold colletlaw32_CoreHits_f1 at h
  refine pure_of_wp Try.func51 rfl 17 Try.ntmps51 (by simp) fun a0 hA hs0 => ?_
  have q0 := hs0 0 _ rfl
  have q1 := hs0 1 _ rfl
  clear hs0
  have hB : Base (Fr w0) O w0 O w0 := Base.start hO
  refine wp_seq ?_
  refine' region [_] mixed hA (.cons ?z1_0 .nil) ?zok1 ?zgd1 ?zk1
  case z1_0 => intro a' w' hE hK hg; exact ok_assign rfl
  case zok1 => kernel_rfl
  case zgd1 => kernel_rfl
  intro a1 w1 hA' hE HF
  replace q0 := kn (HF 0) rfl q0
  replace q1 := kn (HF 1) rfl q1
  clear hA HF; have hA := hA'; clear hA'
  replace h_1 := GR.v_ext _ h_1 hE
  replace hB := Base.step hB hE hO; clear hE
  refine (li_nil ?_)
  refine (nx_then ?_)
  refine seq_join (fun a w => ∃ (O7 : Tags), a.fit 17 ∧ Base (Fr w0) O w0 O7 w ∧ (colletlaw32_CoreHits_f1_j1 ).run n = some y) ?_ ?_
  ·
    refine wp_seq ?_
    refine' region [SP.vl (rSl (rInt .i64)) O x_1, _, _] mixed hA (.cons ?z2_0 (.cons ?z2_1 (.cons ?z2_2 .nil))) ?zok2 ?zgd2 ?zk2
    case z2_0 => intro a' w' hE hK hg; exact okl_ld (r := (rSl (rInt .i64))) (fun _ => rfl) ty58 rfl rfl (kn (hK 1 rfl) rfl q1) (ptr_of_box (fun _ => rfl) (GR.v_ext _ h_1 hE))
    case z2_1 => intro a' w' hE hK hg; exact okl_len (r := (rInt .i64)) ty58 rfl (rd_of (kspS (φ := SP.vl (rSl (rInt .i64)) O x_1) (j := 0) (hK 6 rfl) rfl rfl rfl))
    case z2_2 => intro a' w' hE hK hg; exact ok_move rfl
    case zok2 => kernel_rfl
    case zgd2 => kernel_rfl
    intro a2 w2 hA' hE HF
    replace q0 := kn (HF 0) rfl q0
    have f2 := ksp (HF 6) rfl rfl rfl
    obtain ⟨u1, q6'⟩ : ∃ u, a2.get 6 = u := ⟨_, rfl⟩
    rw [q6'] at f2
    have q6 := q6'; clear q6'
    have q7 := ksv (HF 7) rfl rfl rfl
    have q8 := ksv (HF 8) rfl rfl rfl
    clear q1
    clear hA HF; have hA := hA'; clear hA'
    replace h_1 := GR.v_ext _ h_1 hE
    replace hB := Base.step hB hE hO; clear hE
    refine (li_nil ?_)
    refine (nx_then ?_)
    refine wp_block ?_
    obtain ⟨e2, he2, hk2⟩ := Comp.run_bind h; clear h
    refine loop_m (fun m a w => ∃ (O4 : Tags) (x3 : Int), a.fit 17 ∧ Base (Fr w0) O w0 O4 w ∧ a.get 0 = .int .i64 x_0 ∧ a.get 6 = u1 ∧ (rSl (rInt .i64)).v O4 w u1 x_1 ∧ a.get 7 = .int .i64 (x_1.length : Int) ∧ a.get 8 = .int .i64 x3 ∧ Comp.loopN (fun s => colletlaw32_CoreHits_f1_l2 x_1 x_0 s) n m x3 = some e2) (m := n) ?st2 ?_
    case st2 =>
      exact ⟨_, _, hA, hB, q0, q6, f2, q7, q8, Comp.run_loop he2⟩
    intro m_ a3 w3 hI
    clear hA hB he2 q0 q6 q7 q8 f2
    obtain ⟨O4, x3, hA, hB, q0, q6, f2, q7, q8, hl⟩ := hI
    obtain ⟨m2, hlt2, st2, h, hnext2, hdone2⟩ := Comp.loopN_succ hl; clear hl
    replace h : (colletlaw32_CoreHits_f1_l2 x_1 x_0 x3).run n = some st2 := h
    unfold colletlaw32_CoreHits_f1_l2 at h
    refine wp_seq ?_
    refine' region [_] mixed hA (.cons ?z3_0 .nil) ?zok3 ?zgd3 ?zk3
    case z3_0 => intro a' w' hE hK hg; exact ok_lss (kn (hK 8 rfl) rfl q8) (kn (hK 7 rfl) rfl q7)
    case zok3 => kernel_rfl
    case zgd3 => kernel_rfl
    intro a4 w4 hA' hE HF
    replace q0 := kn (HF 0) rfl q0
    replace q6 := kn (HF 6) rfl q6
    replace q7 := kn (HF 7) rfl q7
    replace q8 := kn (HF 8) rfl q8
    have q9 := ksv (HF 9) rfl rfl rfl
    clear hA HF; have hA := hA'; clear hA'
    replace f2 := GR.v_ext _ f2 hE
    replace hB := Base.step hB hE hO; clear hE
    refine (li_nil ?_)
    refine (nx_then ?_)
    refine wp_seq ?_
    refine wp_cond_b q9 (fun hc => ?_) (fun hc => ?_)
    ·
      replace h := Comp.run_b_t hc h; clear hc
      refine wp_skip ?_
      refine (nx_then ?_)
      refine wp_seq ?_
      refine wp_block ?_
      refine wp_seq ?_
      obtain ⟨x5, hx5, h⟩ := Comp.run_bind h
      refine' region [SP.ptr (rInt .i64) O4 x5, SP.isv (.int .i64 x5), _] mixed hA (.cons ?z4_0 (.cons ?z4_1 (.cons ?z4_2 .nil))) ?zok4 ?zgd4 ?zk4
      case z4_0 => intro a' w' hE hK hg; exact okl_idx (r := (rInt .i64)) (O := O4) ty58 ty3 rfl (kn (hK 6 rfl) rfl q6) (rd_of (GR.v_ext _ f2 hE)) (kn (hK 8 rfl) rfl q8) hx5
      case z4_1 => intro a' w' hE hK hg; exact okl_ldr (rInt .i64) (fun _ => rfl) ty3 rfl rfl rfl (kspS (φ := SP.ptr (rInt .i64) O4 x5) (j := 0) (hK 10 rfl) rfl rfl rfl) (fun _ _ _ h => rInt_v.1 h)
      case z4_2 => intro a' w' hE hK hg; exact ok_assign (ksv (j := 1) (hK 11 rfl) rfl rfl rfl)
      case zok4 => kernel_rfl
      case zgd4 => kernel_rfl
      intro a5 w5 hA' hE HF
      replace q0 := kn (HF 0) rfl q0
      have q5 := ksv (HF 5) rfl rfl rfl
      replace q6 := kn (HF 6) rfl q6
      replace q7 := kn (HF 7) rfl q7
      replace q8 := kn (HF 8) rfl q8
      clear q9
      clear hA HF; have hA := hA'; clear hA'
      replace f2 := GR.v_ext _ f2 hE
      replace hB := Base.step hB hE hO; clear hE
      refine (li_nil ?_)
      refine (nx_then ?_)
      refine wp_seq ?_
      refine' region [_, _, _, _] mixed hA (.cons ?z5_0 (.cons ?z5_1 (.cons ?z5_2 (.cons ?z5_3 .nil)))) ?zok5 ?zgd5 ?zk5
      case z5_0 => intro a' w' hE hK hg; exact ok_move (kn (hK 0 rfl) rfl q0)
      case z5_1 => intro a' w' hE hK hg; exact ok_move (kn (hK 5 rfl) rfl q5)
      case z5_2 => intro a' w' hE hK hg; exact okb_and (ksv (j := 0) (hK 12 rfl) rfl rfl rfl) (ksv (j := 1) (hK 13 rfl) rfl rfl rfl)
      case z5_3 => intro a' w' hE hK hg; exact ok_eqlI (ksv (j := 2) (hK 14 rfl) rfl rfl rfl) rfl
      case zok5 => kernel_rfl
      case zgd5 => kernel_rfl
      intro a6 w6 hA' hE HF
      replace q0 := kn (HF 0) rfl q0
      replace q6 := kn (HF 6) rfl q6
      replace q7 := kn (HF 7) rfl q7
      replace q8 := kn (HF 8) rfl q8
      have q15 := ksv (HF 15) rfl rfl rfl
      clear q5
      clear hA HF; have hA := hA'; clear hA'
      replace f2 := GR.v_ext _ f2 hE
      replace hB := Base.step hB hE hO; clear hE
      refine (li_nil ?_)
      refine (nx_then ?_)
      refine wp_cond_b q15 (fun hc => ?_) (fun hc => ?_)
      ·
        replace h := Comp.run_b_t hc h; clear hc
        refine wp_seq ?_
        refine' region [_] mixed hA (.cons ?z6_0 .nil) ?zok6 ?zgd6 ?zk6
        case z6_0 => intro a' w' hE hK hg; exact ok_assign rfl
        case zok6 => kernel_rfl
        case zgd6 => kernel_rfl
        intro a7 w7 hA' hE HF
        have q3 := ksv (HF 3) rfl rfl rfl
        clear q0
        clear q6
        clear q7
        clear q8
        clear q15
        clear hA HF; have hA := hA'; clear hA'
        replace f2 := GR.v_ext _ f2 hE
        replace hB := Base.step hB hE hO; clear hE
        refine (li_nil ?_)
        refine (nx_then ?_)
        refine (wp_ret (rt_blk (rt_then (rt_then (rt_blk (rt_then ?_))))))
        have hd_ := hdone2 _ (Comp.run_pure h).symm; clear h
        subst hd_; have h := hk2; clear hk2; try dsimp only at h
        have h := Comp.run_pure h; subst h
        exact retPure Try.results51 hA q3 hB.ext rfl
      ·
        replace h := Comp.run_b_f hc h; clear hc
        refine wp_skip ?_
        refine (nx_blk (nx_then ?_))
        refine' region [_, _] mixed hA (.cons ?z7_0 (.cons ?z7_1 .nil)) ?zok7 ?zgd7 ?zk7
        case z7_0 => intro a' w' hE hK hg; exact ok_add (kn (hK 8 rfl) rfl q8) rfl
        case z7_1 => intro a' w' hE hK hg; exact ok_move (ksv (j := 0) (hK 16 rfl) rfl rfl rfl)
        case zok7 => kernel_rfl
        case zgd7 => kernel_rfl
        intro a8 w8 hA' hE HF
        replace q0 := kn (HF 0) rfl q0
        replace q6 := kn (HF 6) rfl q6
        replace q7 := kn (HF 7) rfl q7
        have q8' := ksv (HF 8) rfl rfl rfl
        replace q8 := q8'; clear q8'
        clear q15
        clear hA HF; have hA := hA'; clear hA'
        replace f2 := GR.v_ext _ f2 hE
        replace hB := Base.step hB hE hO; clear hE
        refine (li_nil ?_)
        refine (nx_then ?_)
        have h := hnext2 _ (Comp.run_pure h).symm
        refine ⟨m2, hlt2, ?_⟩
        exact ⟨_, _, hA, hB, q0, q6, f2, q7, q8, h⟩
    ·
      replace h := Comp.run_b_f hc h; clear hc
      refine wp_exit ?_
      refine (ex_then (ex_then (ex_same ?_)))
      have hd_ := hdone2 _ (Comp.run_pure h).symm; clear h
      subst hd_; have h := hk2; clear hk2; try dsimp only at h
      refine (nx_then ?_)
      exact ⟨_, hA, hB, h⟩
  intro a9 w9 hI
  clear hA hB h q0 q1 h_1
  obtain ⟨O7, hA, hB, h⟩ := hI
  unfold colletlaw32_CoreHits_f1_j1 at h
  refine wp_seq ?_
  refine' region [_] mixed hA (.cons ?z8_0 .nil) ?zok8 ?zgd8 ?zk8
  case z8_0 => intro a' w' hE hK hg; exact ok_assign rfl
  case zok8 => kernel_rfl
  case zgd8 => kernel_rfl
  intro a10 w10 hA' hE HF
  have q3 := ksv (HF 3) rfl rfl rfl
  clear hA HF; have hA := hA'; clear hA'
  replace hB := Base.step hB hE hO; clear hE
  refine (li_nil ?_)
  refine (nx_then ?_)
  refine (wp_ret ?_)
  have h := Comp.run_pure h; subst h
  exact retPure Try.results51 hA q3 hB.ext rfl

theorem ok_colletlaw32_CoreHits {O : Tags} {w0 : World} (hO : OkO O w0) {v_0 : Value} {x_0 : List Int} (h_0 : (rSl (rInt .i64)).v O w0 v_0 x_0) {x_1 : Int} {x_2 : Int} {n : Nat} {y : Bool} (h : (colletlaw32_CoreHits x_0 x_1 x_2).run n = some y) : Pure Try.prog 11 #[v_0, .int .u8 x_1, .int .u8 x_2] w0 (SP.isv (.bool y)).holds := by
  unfold colletlaw32_CoreHits at h
  refine pure_of_wp Try.func11 rfl 108 Try.ntmps11 (by simp) fun a0 hA hs0 => ?_
  have q0 := hs0 0 _ rfl
  have q1 := hs0 1 _ rfl
  have q2 := hs0 2 _ rfl
  clear hs0
  have hB : Base (Fr w0) O w0 O w0 := Base.start hO
  refine wp_seq ?_
  refine' region [_] mixed hA (.cons ?z1_0 .nil) ?zok1 ?zgd1 ?zk1
  case z1_0 => intro a' w' hE hK hg; exact ok_assign rfl
  case zok1 => kernel_rfl
  case zgd1 => kernel_rfl
  intro a1 w1 hA' hE HF
  replace q0 := kn (HF 0) rfl q0
  replace q1 := kn (HF 1) rfl q1
  replace q2 := kn (HF 2) rfl q2
  clear hA HF; have hA := hA'; clear hA'
  replace h_0 := GR.v_ext _ h_0 hE
  replace hB := Base.step hB hE hO; clear hE
  refine (li_nil ?_)
  refine (nx_then ?_)
  refine wp_seq ?_
  obtain ⟨x1, hx1, h⟩ := Comp.run_bind h
  refine' region [SP.isv (.bool x1), _] mixed hA (.cons ?z2_0 (.cons ?z2_1 .nil)) ?zok2 ?zgd2 ?zk2
  case z2_0 => intro a' w' hE hK hg; have c_ := ok_colletlaw32_sanity (OkO.ext hB.ok hE)  hx1; exact ok_call0 fn38  c_
  case z2_1 => intro a' w' hE hK hg; exact ok_assign (ksv (j := 0) (hK 18 rfl) rfl rfl rfl)
  case zok2 => kernel_rfl
  case zgd2 => kernel_rfl
  intro a2 w2 hA' hE HF
  replace q0 := kn (HF 0) rfl q0
  replace q1 := kn (HF 1) rfl q1
  replace q2 := kn (HF 2) rfl q2
  have q7 := ksv (HF 7) rfl rfl rfl
  clear hA HF; have hA := hA'; clear hA'
  replace h_0 := GR.v_ext _ h_0 hE
  replace hB := Base.step hB hE hO; clear hE
  refine (li_nil ?_)
  refine (nx_then ?_)
  refine wp_seq ?_
  refine' region [_, _, _, _] mixed hA (.cons ?z3_0 (.cons ?z3_1 (.cons ?z3_2 (.cons ?z3_3 .nil)))) ?zok3 ?zgd3 ?zk3
  case z3_0 => intro a' w' hE hK hg; exact ok_move (kn (hK 1 rfl) rfl q1)
  case z3_1 => intro a' w' hE hK hg; exact ok_convI ty5 ty3 (ksv (j := 0) (hK 19 rfl) rfl rfl rfl)
  case z3_2 => intro a' w' hE hK hg; exact ok_rem (ksv (j := 1) (hK 20 rfl) rfl rfl rfl) rfl (by decide)
  case z3_3 => intro a' w' hE hK hg; exact ok_assign (ksv (j := 2) (hK 21 rfl) rfl rfl rfl)
  case zok3 => kernel_rfl
  case zgd3 => kernel_rfl
  intro a3 w3 hA' hE HF
  replace q0 := kn (HF 0) rfl q0
  replace q2 := kn (HF 2) rfl q2
  replace q7 := kn (HF 7) rfl q7
  have q8 := ksv (HF 8) rfl rfl rfl
  clear q1
  clear hA HF; have hA := hA'; clear hA'
  replace h_0 := GR.v_ext _ h_0 hE
  replace hB := Base.step hB hE hO; clear hE
  refine (li_nil ?_)
  refine (nx_then ?_)
  refine wp_seq ?_
  obtain ⟨x2, hx2, h⟩ := Comp.run_bind h
  refine' regionT [_, _, SP.vl (rSl (rInt .i64)) O x2] hA (.cons ?z4_0 (.cons ?z4_1 (.cons ?z4_2 .nil))) ?zok4 ?zgd4 ?zk4
  case z4_0 => intro a' w' hE hK hg; exact ok_move (kn (hK 0 rfl) rfl q0)
  case z4_1 => intro a' w' hE hK hg; exact ok_move (kn (hK 8 rfl) rfl q8)
  case z4_2 => intro a' w' hE hK hg; have c_ := ok_colletref32_Sets (OkO.ext hB.ok hE) (GR.v_ext _ h_0 hE) hx2; exact ok_weak (ok_call2 fn40 (ksv (j := 0) (hK 22 rfl) rfl rfl rfl) (ksv (j := 1) (hK 23 rfl) rfl rfl rfl) c_) (fun _ _ _ h => (OwnR.val h (fun g hg => (OkO.ext hB.ok hE) g (OwnR.ge h g hg).1)))
  case zok4 => kernel_rfl
  case zgd4 => kernel_rfl
  intro a4 w4 hA' hE HF
  replace q2 := kn (HF 2) rfl q2
  replace q7 := kn (HF 7) rfl q7
  replace q8 := kn (HF 8) rfl q8
  have f4 := ksp (HF 24) rfl rfl rfl
  obtain ⟨u3, q24'⟩ : ∃ u, a4.get 24 = u := ⟨_, rfl⟩
  rw [q24'] at f4
  have q24 := q24'; clear q24'
  clear q0
  clear hA HF; have hA := hA'; clear hA'
  replace h_0 := GR.v_ext _ h_0 hE
  replace hB := Base.step hB hE hO; clear hE
  refine l_ok (φ := SP.box w4.heap.size #[.slice none 0 0] 58) hO hB (by exact ok_alloc (Nat.le_refl _) ty58) rfl fun u5 w5 hE hB' f6 => ?_
  clear hB'; obtain ⟨O7, b9, hB', hX, e_, f8⟩ := boxNew hO hB hE f6 1 (by decide)
  subst e_; clear hB f6; have hB := hB'; clear hB'
  replace f4 := GR.kx _ f4 hX (by decide)
  clear hX hE
  refine put_cont hA (by decide) fun a6 hA' q_ hfr => ?_
  clear hA; have hA := hA'; clear hA'
  replace q2 := (hfr 2 rfl).trans q2
  replace q7 := (hfr 7 rfl).trans q7
  replace q8 := (hfr 8 rfl).trans q8
  replace q24 := (hfr 24 rfl).trans q24
  have q9 := q_; clear q_ hfr
  refine l_store1 (cs' := #[u3]) hO hB (okB_fr hB) ty58 q9 q24 (sl_cells f4 rfl rfl) (sl_one f4 rfl rfl) f8 (by simp) rfl fun w7 f10 hB' hX => ?_
  clear hB f8; have hB := hB'; clear hB'
  replace f4 := GR.kx _ f4 hX (by decide)
  clear hX
  refine (li_nil ?_)
  refine (nx_then ?_)
  refine wp_seq ?_
  obtain ⟨x11, hx11, h⟩ := Comp.run_bind h
  refine' region [SP.isv (u3), _, SP.tup2 (SP.vl (rSl (rInt .i64)) O7 x11.1) (SP.isv (.int .i64 x11.2)), SP.tup2 (SP.vl (rSl (rInt .i64)) O7 x11.1) (SP.isv (.int .i64 x11.2)), SP.vl (rSl (rInt .i64)) O7 x11.1, SP.isv (.int .i64 x11.2), SP.vl (rSl (rInt .i64)) O7 x11.1, _] mixed hA (.cons ?z5_0 (.cons ?z5_1 (.cons ?z5_2 (.cons ?z5_3 (.cons ?z5_4 (.cons ?z5_5 (.cons ?z5_6 (.cons ?z5_7 .nil)))))))) ?zok5 ?zgd5 ?zk5
  case z5_0 => intro a' w' hE hK hg; exact ok_loadOwn ty58 rfl (kn (hK 9 rfl) rfl q9) (OwnB.ext f10 hE).own rfl
  case z5_1 => intro a' w' hE hK hg; exact ok_move (kn (hK 8 rfl) rfl q8)
  case z5_2 => intro a' w' hE hK hg; have c_ := ok_core_Hitting (OkO.ext hB.ok hE) (GR.v_ext _ f4 hE) hx11; exact ok_weak (ok_call2 fn46 (ksv (j := 0) (hK 26 rfl) rfl rfl rfl) (ksv (j := 1) (hK 27 rfl) rfl rfl rfl) c_) (fun _ _ _ ⟨a_, b_, e0_, h0_, h1_⟩ => ⟨a_, b_, e0_, (fun h => (OwnR.val h (fun g hg => (OkO.ext hB.ok hE) g (OwnR.ge h g hg).1))) h0_, h1_⟩)
  case z5_3 => intro a' w' hE hK hg; exact ok_move_pr (φ := SP.tup2 (SP.vl (rSl (rInt .i64)) O7 x11.1) (SP.isv (.int .i64 x11.2))) (kspS (φ := SP.tup2 (SP.vl (rSl (rInt .i64)) O7 x11.1) (SP.isv (.int .i64 x11.2))) (j := 2) (hK 28 rfl) rfl rfl rfl)
  case z5_4 => intro a' w' hE hK hg; exact okl_ext0 (kspS (φ := SP.tup2 (SP.vl (rSl (rInt .i64)) O7 x11.1) (SP.isv (.int .i64 x11.2))) (j := 3) (hK 25 rfl) rfl rfl rfl)
  case z5_5 => intro a' w' hE hK hg; exact okl_ext1 (kspS (φ := SP.tup2 (SP.vl (rSl (rInt .i64)) O7 x11.1) (SP.isv (.int .i64 x11.2))) (j := 3) (hK 25 rfl) rfl rfl rfl)
  case z5_6 => intro a' w' hE hK hg; exact ok_assign_pr (φ := SP.vl (rSl (rInt .i64)) O7 x11.1) (kspS (φ := SP.vl (rSl (rInt .i64)) O7 x11.1) (j := 4) (hK 29 rfl) rfl rfl rfl)
  case z5_7 => intro a' w' hE hK hg; exact ok_assign (ksv (j := 5) (hK 30 rfl) rfl rfl rfl)
  case zok5 => kernel_rfl
  case zgd5 => kernel_rfl
  intro a8 w8 hA' hE HF
  replace q2 := kn (HF 2) rfl q2
  replace q7 := kn (HF 7) rfl q7
  replace q8 := kn (HF 8) rfl q8
  replace q9 := kn (HF 9) rfl q9
  have f13 := ksp (HF 10) rfl rfl rfl
  obtain ⟨u12, q10'⟩ : ∃ u, a8.get 10 = u := ⟨_, rfl⟩
  rw [q10'] at f13
  have q10 := q10'; clear q10'
  have q11 := ksv (HF 11) rfl rfl rfl
  clear hA HF; have hA := hA'; clear hA'
  replace f10 := f10.ext hE
  replace f4 := GR.v_ext _ f4 hE
  replace hB := Base.step hB hE hO; clear hE
  refine (li_nil ?_)
  refine (nx_then ?_)
  refine wp_seq ?_
  refine wp_seq ?_
  refine' region [_, _] mixed hA (.cons ?z6_0 (.cons ?z6_1 .nil)) ?zok6 ?zgd6 ?zk6
  case z6_0 => intro a' w' hE hK hg; exact ok_move (kn (hK 11 rfl) rfl q11)
  case z6_1 => intro a' w' hE hK hg; exact ok_neqI (ksv (j := 0) (hK 31 rfl) rfl rfl rfl) rfl
  case zok6 => kernel_rfl
  case zgd6 => kernel_rfl
  intro a9 w9 hA' hE HF
  replace q2 := kn (HF 2) rfl q2
  replace q7 := kn (HF 7) rfl q7
  replace q8 := kn (HF 8) rfl q8
  replace q9 := kn (HF 9) rfl q9
  replace q10 := kn (HF 10) rfl q10
  have q32 := ksv (HF 32) rfl rfl rfl
  clear q11
  clear hA HF; have hA := hA'; clear hA'
  replace f13 := GR.v_ext _ f13 hE
  replace f10 := f10.ext hE
  replace f4 := GR.v_ext _ f4 hE
  replace hB := Base.step hB hE hO; clear hE
  refine (li_nil ?_)
  refine (nx_then ?_)
  refine wp_cond_b q32 (fun hc => ?_) (fun hc => ?_)
  ·
    replace h := Comp.run_b_t hc h; clear hc
    refine wp_seq ?_
    refine' region [_] mixed hA (.cons ?z7_0 .nil) ?zok7 ?zgd7 ?zk7
    case z7_0 => intro a' w' hE hK hg; exact ok_assign rfl
    case zok7 => kernel_rfl
    case zgd7 => kernel_rfl
    intro a10 w10 hA' hE HF
    have q6 := ksv (HF 6) rfl rfl rfl
    clear q2
    clear q7
    clear q8
    clear q9
    clear q10
    clear q32
    clear hA HF; have hA := hA'; clear hA'
    replace f13 := GR.v_ext _ f13 hE
    replace f10 := f10.ext hE
    replace f4 := GR.v_ext _ f4 hE
    replace hB := Base.step hB hE hO; clear hE
    refine (li_nil ?_)
    refine (nx_then ?_)
    refine (wp_ret (rt_then ?_))
    have h := Comp.run_pure h; subst h
    exact retPure Try.results11 hA q6 hB.ext rfl
  ·
    replace h := Comp.run_b_f hc h; clear hc
    refine wp_skip ?_
    refine (nx_then ?_)
    refine wp_seq ?_
    obtain ⟨O14, hB', hX, f15⟩ := freezeB (r := (rSl (rInt .i64))) (x := x2) hO hB f10 (by decide) (rel_ofF (r := (rSl (rInt .i64))) f4 rfl rfl)
    clear f10 hB; have hB := hB'; clear hB'
    replace f13 := GR.kx _ f13 hX (by decide)
    replace f4 := GR.kx _ f4 hX (by decide)
    clear hX
    refine' region [SP.isv (.func (.func 51) #[] #[.pointer (some ⟨b9, 0, none⟩)]), _] mixed hA (.cons ?z8_0 (.cons ?z8_1 .nil)) ?zok8 ?zgd8 ?zk8
    case z8_0 => intro a' w' hE hK hg; exact ok_makeFunc map0 (map1 (kn (hK 9 rfl) rfl q9))
    case z8_1 => intro a' w' hE hK hg; exact ok_assign (ksv (j := 0) (hK 33 rfl) rfl rfl rfl)
    case zok8 => kernel_rfl
    case zgd8 => kernel_rfl
    intro a11 w11 hA' hE HF
    replace q2 := kn (HF 2) rfl q2
    replace q7 := kn (HF 7) rfl q7
    replace q8 := kn (HF 8) rfl q8
    replace q10 := kn (HF 10) rfl q10
    have q12 := ksv (HF 12) rfl rfl rfl
    clear q9
    clear q32
    clear hA HF; have hA := hA'; clear hA'
    replace f15 := GR.v_ext _ f15 hE
    replace f13 := GR.v_ext _ f13 hE
    replace hB := Base.step hB hE hO; clear hE
    have f16 : (rF1 Try.prog (rInt .i64) (RS.c (fun x => .bool x))).v O14 w11 (.func (.func 51) #[] #[.pointer (some ⟨b9, 0, none⟩)]) (fun z0 => colletlaw32_CoreHits_f1 z0 x2) := rF1_v.2 ⟨rfl, fun O' w' hO' hk v_0 x_0 hv_0 n_ y_ hy_ => by obtain rfl := rInt_v.1 hv_0; exact callV_func fn51 (ok_colletlaw32_CoreHits_f1 hO'  (GR.v_mono _ f15 hk) hy_)⟩
    refine (li_nil ?_)
    refine (nx_then ?_)
    refine wp_seq ?_
    obtain ⟨x17, hx17, h⟩ := Comp.run_bind h
    obtain ⟨x18, hx18, h⟩ := Comp.run_bind h
    refine' region [_, _, _, _, SP.isv (.int .i64 x18), _] mixed hA (.cons ?z9_0 (.cons ?z9_1 (.cons ?z9_2 (.cons ?z9_3 (.cons ?z9_4 (.cons ?z9_5 .nil)))))) ?zok9 ?zgd9 ?zk9
    case z9_0 => intro a' w' hE hK hg; exact ok_move (kn (hK 2 rfl) rfl q2)
    case z9_1 => intro a' w' hE hK hg; exact ok_convI ty5 ty3 (ksv (j := 0) (hK 34 rfl) rfl rfl rfl)
    case z9_2 => intro a' w' hE hK hg; exact ok_move (kn (hK 8 rfl) rfl q8)
    case z9_3 => intro a' w' hE hK hg; exact okl_shl rfl (ksv (j := 2) (hK 36 rfl) rfl rfl rfl) (run_nonneg hx17)
    case z9_4 => intro a' w' hE hK hg; exact ok_isv (ok_rem (ksv (j := 1) (hK 35 rfl) rfl rfl rfl) (ksv (j := 3) (hK 37 rfl) rfl rfl rfl) (run_rem hx18).1) (congrArg _ (run_rem hx18).2)
    case z9_5 => intro a' w' hE hK hg; exact ok_assign (ksv (j := 4) (hK 38 rfl) rfl rfl rfl)
    case zok9 => kernel_rfl
    case zgd9 => kernel_rfl
    intro a12 w12 hA' hE HF
    replace q7 := kn (HF 7) rfl q7
    replace q8 := kn (HF 8) rfl q8
    replace q10 := kn (HF 10) rfl q10
    replace q12 := kn (HF 12) rfl q12
    have q13 := ksv (HF 13) rfl rfl rfl
    clear q2
    clear hA HF; have hA := hA'; clear hA'
    replace f13 := GR.v_ext _ f13 hE
    replace f16 := GR.v_ext _ f16 hE
    replace hB := Base.step hB hE hO; clear hE
    refine (li_nil ?_)
    refine (nx_then ?_)
    refine wp_seq ?_
    refine' region [_] mixed hA (.cons ?z10_0 .nil) ?zok10 ?zgd10 ?zk10
    case z10_0 => intro a' w' hE hK hg; exact ok_assign rfl
    case zok10 => kernel_rfl
    case zgd10 => kernel_rfl
    intro a13 w13 hA' hE HF
    replace q7 := kn (HF 7) rfl q7
    replace q8 := kn (HF 8) rfl q8
    replace q10 := kn (HF 10) rfl q10
    replace q12 := kn (HF 12) rfl q12
    replace q13 := kn (HF 13) rfl q13
    have q14 := ksv (HF 14) rfl rfl rfl
    clear hA HF; have hA := hA'; clear hA'
    replace f13 := GR.v_ext _ f13 hE
    replace f16 := GR.v_ext _ f16 hE
    replace hB := Base.step hB hE hO; clear hE
    refine (li_nil ?_)
    refine (nx_then ?_)
    refine seq_join (fun a w => ∃ (O40 : Tags) (x39 : Bool), a.fit 108 ∧ Base (Fr w0) O w0 O40 w ∧ a.get 7 = .bool x1 ∧ a.get 12 = .func (.func 51) #[] #[.pointer (some ⟨b9, 0, none⟩)] ∧ (rF1 Try.prog (rInt .i64) (RS.c (fun x => .bool x))).v O40 w (.func (.func 51) #[] #[.pointer (some ⟨b9, 0, none⟩)]) (fun z0 => colletlaw32_CoreHits_f1 z0 x2) ∧ a.get 13 = .int .i64 x18 ∧ a.get 14 = .bool x39 ∧ (colletlaw32_CoreHits_j1 x1 x2 x18 x39).run n = some y) ?_ ?_
    ·
      refine wp_seq ?_
      refine' region [_, _, _] mixed hA (.cons ?z11_0 (.cons ?z11_1 (.cons ?z11_2 .nil))) ?zok11 ?zgd11 ?zk11
      case z11_0 => intro a' w' hE hK hg; exact ok_move (kn (hK 10 rfl) rfl q10)
      case z11_1 => intro a' w' hE hK hg; exact okl_len (r := (rInt .i64)) ty58 (ksv (j := 0) (hK 39 rfl) rfl rfl rfl) (rd_of (GR.v_ext _ f13 hE))
      case z11_2 => intro a' w' hE hK hg; exact ok_move rfl
      case zok11 => kernel_rfl
      case zgd11 => kernel_rfl
      intro a14 w14 hA' hE HF
      replace q7 := kn (HF 7) rfl q7
      replace q8 := kn (HF 8) rfl q8
      replace q10 := kn (HF 10) rfl q10
      replace q12 := kn (HF 12) rfl q12
      replace q13 := kn (HF 13) rfl q13
      replace q14 := kn (HF 14) rfl q14
      have q39 := ksv (HF 39) rfl rfl rfl
      have q40 := ksv (HF 40) rfl rfl rfl
      have q41 := ksv (HF 41) rfl rfl rfl
      clear hA HF; have hA := hA'; clear hA'
      replace f13 := GR.v_ext _ f13 hE
      replace f16 := GR.v_ext _ f16 hE
      replace hB := Base.step hB hE hO; clear hE
      refine (li_nil ?_)
      refine (nx_then ?_)
      refine wp_block ?_
      obtain ⟨e2, he2, hk2⟩ := Comp.run_bind h; clear h
      refine loop_m (fun m a w => ∃ (O21 : Tags) (x19 : Bool) (x20 : Int), a.fit 108 ∧ Base (Fr w0) O w0 O21 w ∧ a.get 7 = .bool x1 ∧ a.get 8 = .int .i64 (Int.tmod (IntKind.wrap .i64 x_1) 7) ∧ a.get 10 = u12 ∧ (rSl (rInt .i64)).v O21 w u12 x11.1 ∧ a.get 12 = .func (.func 51) #[] #[.pointer (some ⟨b9, 0, none⟩)] ∧ (rF1 Try.prog (rInt .i64) (RS.c (fun x => .bool x))).v O21 w (.func (.func 51) #[] #[.pointer (some ⟨b9, 0, none⟩)]) (fun z0 => colletlaw32_CoreHits_f1 z0 x2) ∧ a.get 13 = .int .i64 x18 ∧ a.get 14 = .bool x19 ∧ a.get 39 = u12 ∧ a.get 40 = .int .i64 (x11.1.length : Int) ∧ a.get 41 = .int .i64 x20 ∧ Comp.loopN (fun s => colletlaw32_CoreHits_l2 x11 x18 x2 x_1 s.1 s.2) n m (x19, x20) = some e2) (m := n) ?st2 ?_
      case st2 =>
        exact ⟨_, _, _, hA, hB, q7, q8, q10, f13, q12, f16, q13, q14, q39, q40, q41, Comp.run_loop he2⟩
      intro m_ a15 w15 hI
      clear hA hB he2 q7 q8 q10 q12 q13 q14 q39 q40 q41 f13 f16
      obtain ⟨O21, x19, x20, hA, hB, q7, q8, q10, f13, q12, f16, q13, q14, q39, q40, q41, hl⟩ := hI
      obtain ⟨m2, hlt2, st2, h, hnext2, hdone2⟩ := Comp.loopN_succ hl; clear hl
      replace h : (colletlaw32_CoreHits_l2 x11 x18 x2 x_1 x19 x20).run n = some st2 := h
      unfold colletlaw32_CoreHits_l2 at h
      refine wp_seq ?_
      refine' region [_] mixed hA (.cons ?z12_0 .nil) ?zok12 ?zgd12 ?zk12
      case z12_0 => intro a' w' hE hK hg; exact ok_lss (kn (hK 41 rfl) rfl q41) (kn (hK 40 rfl) rfl q40)
      case zok12 => kernel_rfl
      case zgd12 => kernel_rfl
      intro a16 w16 hA' hE HF
      replace q7 := kn (HF 7) rfl q7
      replace q8 := kn (HF 8) rfl q8
      replace q10 := kn (HF 10) rfl q10
      replace q12 := kn (HF 12) rfl q12
      replace q13 := kn (HF 13) rfl q13
      replace q14 := kn (HF 14) rfl q14
      replace q39 := kn (HF 39) rfl q39
      replace q40 := kn (HF 40) rfl q40
      replace q41 := kn (HF 41) rfl q41
      have q42 := ksv (HF 42) rfl rfl rfl
      clear hA HF; have hA := hA'; clear hA'
      replace f13 := GR.v_ext _ f13 hE
      replace f16 := GR.v_ext _ f16 hE
      replace hB := Base.step hB hE hO; clear hE
      refine (li_nil ?_)
      refine (nx_then ?_)
      refine wp_seq ?_
      refine wp_cond_b q42 (fun hc => ?_) (fun hc => ?_)
      ·
        replace h := Comp.run_b_t hc h; clear hc
        refine wp_skip ?_
        refine (nx_then ?_)
        refine wp_seq ?_
        refine wp_block ?_
        refine wp_seq ?_
        obtain ⟨x22, hx22, h⟩ := Comp.run_bind h
        refine' region [_, SP.ptr (rInt .i64) O21 x22, SP.isv (.int .i64 x22), _, _] mixed hA (.cons ?z13_0 (.cons ?z13_1 (.cons ?z13_2 (.cons ?z13_3 (.cons ?z13_4 .nil))))) ?zok13 ?zgd13 ?zk13
        case z13_0 => intro a' w' hE hK hg; exact ok_move (kn (hK 41 rfl) rfl q41)
        case z13_1 => intro a' w' hE hK hg; exact okl_idx (r := (rInt .i64)) (O := O21) ty58 ty3 rfl (kn (hK 39 rfl) rfl q39) (rd_of (GR.v_ext _ f13 hE)) (kn (hK 41 rfl) rfl q41) hx22
        case z13_2 => intro a' w' hE hK hg; exact okl_ldr (rInt .i64) (fun _ => rfl) ty3 rfl rfl rfl (kspS (φ := SP.ptr (rInt .i64) O21 x22) (j := 1) (hK 44 rfl) rfl rfl rfl) (fun _ _ _ h => rInt_v.1 h)
        case z13_3 => intro a' w' hE hK hg; exact ok_assign (ksv (j := 0) (hK 43 rfl) rfl rfl rfl)
        case z13_4 => intro a' w' hE hK hg; exact ok_assign (ksv (j := 2) (hK 45 rfl) rfl rfl rfl)
        case zok13 => kernel_rfl
        case zgd13 => kernel_rfl
        intro a17 w17 hA' hE HF
        replace q7 := kn (HF 7) rfl q7
        replace q8 := kn (HF 8) rfl q8
        replace q10 := kn (HF 10) rfl q10
        replace q12 := kn (HF 12) rfl q12
        replace q13 := kn (HF 13) rfl q13
        replace q14 := kn (HF 14) rfl q14
        have q15 := ksv (HF 15) rfl rfl rfl
        have q16 := ksv (HF 16) rfl rfl rfl
        replace q39 := kn (HF 39) rfl q39
        replace q40 := kn (HF 40) rfl q40
        replace q41 := kn (HF 41) rfl q41
        clear q42
        clear hA HF; have hA := hA'; clear hA'
        replace f13 := GR.v_ext _ f13 hE
        replace f16 := GR.v_ext _ f16 hE
        replace hB := Base.step hB hE hO; clear hE
        refine (li_nil ?_)
        refine (nx_then ?_)
        refine wp_seq ?_
        refine' region [_, _, _, _, _, _, _, _, _] mixed hA (.cons ?z14_0 (.cons ?z14_1 (.cons ?z14_2 (.cons ?z14_3 (.cons ?z14_4 (.cons ?z14_5 (.cons ?z14_6 (.cons ?z14_7 (.cons ?z14_8 .nil))))))))) ?zok14 ?zgd14 ?zk14
        case z14_0 => intro a' w' hE hK hg; exact ok_move (kn (hK 14 rfl) rfl q14)
        case z14_1 => intro a' w' hE hK hg; exact ok_move (ksv (j := 0) (hK 46 rfl) rfl rfl rfl)
        case z14_2 => intro a' w' hE hK hg; exact ok_move (kn (hK 13 rfl) rfl q13)
        case z14_3 => intro a' w' hE hK hg; exact ok_move (kn (hK 16 rfl) rfl q16)
        case z14_4 => intro a' w' hE hK hg; exact okb_and (ksv (j := 2) (hK 48 rfl) rfl rfl hg) (ksv (j := 3) (hK 49 rfl) rfl rfl hg)
        case z14_5 => intro a' w' hE hK hg; exact ok_move (kn (hK 16 rfl) rfl q16)
        case z14_6 => intro a' w' hE hK hg; exact ok_eqlI (ksv (j := 4) (hK 50 rfl) rfl rfl hg) (ksv (j := 5) (hK 51 rfl) rfl rfl hg)
        case z14_7 => intro a' w' hE hK hg; exact ok_pick (ksv (j := 1) (hK 47 rfl) rfl rfl rfl) (fun _ => rfl) (fun hb => ksv (j := 6) (hK 52 rfl) rfl rfl (act_g1 rfl rfl hb))
        case z14_8 => intro a' w' hE hK hg; exact ok_assign (ksv (j := 7) (hK 53 rfl) rfl rfl rfl)
        case zok14 => kernel_rfl
        case zgd14 => kernel_rfl
        intro a18 w18 hA' hE HF
        replace q7 := kn (HF 7) rfl q7
        replace q8 := kn (HF 8) rfl q8
        replace q10 := kn (HF 10) rfl q10
        replace q12 := kn (HF 12) rfl q12
        replace q13 := kn (HF 13) rfl q13
        have q14' := ksv (HF 14) rfl rfl rfl
        replace q14 := q14'; clear q14'
        replace q15 := kn (HF 15) rfl q15
        replace q16 := kn (HF 16) rfl q16
        replace q39 := kn (HF 39) rfl q39
        replace q40 := kn (HF 40) rfl q40
        replace q41 := kn (HF 41) rfl q41
        clear hA HF; have hA := hA'; clear hA'
        replace f13 := GR.v_ext _ f13 hE
        replace f16 := GR.v_ext _ f16 hE
        replace hB := Base.step hB hE hO; clear hE
        obtain ⟨x23, hx_, h⟩ := Comp.run_bind h; replace hx_ := Comp.run_pure hx_; rw [hx_] at q14; clear hx_
        refine (li_nil ?_)
        refine (nx_then ?_)
        refine wp_seq ?_
        refine wp_seq ?_
        obtain ⟨x24, hx24, h⟩ := Comp.run_bind h
        obtain ⟨x25, hx25, h⟩ := Comp.run_bind h
        obtain ⟨x26, hx26, h⟩ := Comp.run_bind h
        refine' region [_, _, SP.isv (.bool x24), _, _, _, _, _, _, _, _, _, _, _, _, _, _, _, _, _, _, _, SP.ptr (rInt .i64) O21 x26, SP.isv (.int .i64 x26), _, _, _] mixed hA (.cons ?z15_0 (.cons ?z15_1 (.cons ?z15_2 (.cons ?z15_3 (.cons ?z15_4 (.cons ?z15_5 (.cons ?z15_6 (.cons ?z15_7 (.cons ?z15_8 (.cons ?z15_9 (.cons ?z15_10 (.cons ?z15_11 (.cons ?z15_12 (.cons ?z15_13 (.cons ?z15_14 (.cons ?z15_15 (.cons ?z15_16 (.cons ?z15_17 (.cons ?z15_18 (.cons ?z15_19 (.cons ?z15_20 (.cons ?z15_21 (.cons ?z15_22 (.cons ?z15_23 (.cons ?z15_24 (.cons ?z15_25 (.cons ?z15_26 .nil))))))))))))))))))))))))))) ?zok15 ?zgd15 ?zk15
        case z15_0 => intro a' w' hE hK hg; exact ok_move (kn (hK 12 rfl) rfl q12)
        case z15_1 => intro a' w' hE hK hg; exact ok_move (kn (hK 16 rfl) rfl q16)
        case z15_2 => intro a' w' hE hK hg; exact okl_callv1 (R := (RS.c (fun x => .bool x))) (ksv (j := 0) (hK 54 rfl) rfl rfl rfl) (show ((rF1 Try.prog (rInt .i64) (RS.c (fun x => .bool x)))).v O21 _ _ _ from (GR.v_ext _ f16 hE)) (OkO.ext hB.ok hE) (ksv (j := 1) (hK 55 rfl) rfl rfl rfl) (by first | exact rInt_v.2 rfl | exact rBool_v.2 rfl | exact rStr_v.2 rfl | exact rC_v.2 rfl | exact ⟨_, rfl, rfl⟩) hx24
        case z15_3 => intro a' w' hE hK hg; exact ok_not (ksv (j := 2) (hK 56 rfl) rfl rfl rfl)
        case z15_4 => intro a' w' hE hK hg; exact ok_move (ksv (j := 3) (hK 57 rfl) rfl rfl rfl)
        case z15_5 => intro a' w' hE hK hg; exact ok_move (kn (hK 16 rfl) rfl q16)
        case z15_6 => intro a' w' hE hK hg; exact ok_lss (ksv (j := 5) (hK 59 rfl) rfl rfl hg) rfl
        case z15_7 => intro a' w' hE hK hg; exact ok_pick (ksv (j := 4) (hK 58 rfl) rfl rfl rfl) (fun _ => rfl) (fun hb => ksv (j := 6) (hK 60 rfl) rfl rfl (act_g1 rfl rfl hb))
        case z15_8 => intro a' w' hE hK hg; exact ok_move (ksv (j := 7) (hK 61 rfl) rfl rfl rfl)
        case z15_9 => intro a' w' hE hK hg; exact ok_move (kn (hK 16 rfl) rfl q16)
        case z15_10 => intro a' w' hE hK hg; exact ok_move (kn (hK 8 rfl) rfl q8)
        case z15_11 => intro a' w' hE hK hg; exact okl_shl rfl (ksv (j := 10) (hK 64 rfl) rfl rfl hg) (run_nonneg (run_gdb hx25 hg))
        case z15_12 => intro a' w' hE hK hg; exact ok_geq (ksv (j := 9) (hK 63 rfl) rfl rfl hg) (ksv (j := 11) (hK 65 rfl) rfl rfl hg)
        case z15_13 => intro a' w' hE hK hg; exact ok_pick (ksv (j := 8) (hK 62 rfl) rfl rfl rfl) (fun _ => rfl) (fun hb => ksv (j := 12) (hK 66 rfl) rfl rfl (act_g1 rfl rfl hb))
        case z15_14 => intro a' w' hE hK hg; exact ok_move (ksv (j := 13) (hK 67 rfl) rfl rfl rfl)
        case z15_15 => intro a' w' hE hK hg; exact ok_move (kn (hK 15 rfl) rfl q15)
        case z15_16 => intro a' w' hE hK hg; exact ok_gtr (ksv (j := 15) (hK 69 rfl) rfl rfl hg) rfl
        case z15_17 => intro a' w' hE hK hg; exact ok_move (ksv (j := 16) (hK 70 rfl) rfl rfl hg)
        case z15_18 => intro a' w' hE hK hg; exact ok_move (kn (hK 16 rfl) rfl q16)
        case z15_19 => intro a' w' hE hK hg; exact ok_move (kn (hK 10 rfl) rfl q10)
        case z15_20 => intro a' w' hE hK hg; exact ok_move (kn (hK 15 rfl) rfl q15)
        case z15_21 => intro a' w' hE hK hg; exact ok_sub (ksv (j := 20) (hK 74 rfl) rfl rfl hg) rfl
        case z15_22 => intro a' w' hE hK hg; exact okl_idx (r := (rInt .i64)) (O := O21) ty58 ty3 rfl (ksv (j := 19) (hK 73 rfl) rfl rfl hg) (rd_of (GR.v_ext _ f13 hE)) (ksv (j := 21) (hK 75 rfl) rfl rfl hg) (run_gdb hx26 hg)
        case z15_23 => intro a' w' hE hK hg; exact okl_ldr (rInt .i64) (fun _ => rfl) ty3 rfl rfl rfl (kspS (φ := SP.ptr (rInt .i64) O21 x26) (j := 22) (hK 76 rfl) rfl rfl hg) (fun _ _ _ h => rInt_v.1 h)
        case z15_24 => intro a' w' hE hK hg; exact ok_leq (ksv (j := 18) (hK 72 rfl) rfl rfl hg) (ksv (j := 23) (hK 77 rfl) rfl rfl hg)
        case z15_25 => intro a' w' hE hK hg; exact ok_pick (ksv (j := 17) (hK 71 rfl) rfl rfl hg) (fun hb => ksv (j := 24) (hK 78 rfl) rfl rfl (act_g1 rfl hg hb)) (fun _ => rfl)
        case z15_26 => intro a' w' hE hK hg; exact ok_pick (ksv (j := 14) (hK 68 rfl) rfl rfl rfl) (fun _ => rfl) (fun hb => ksv (j := 25) (hK 79 rfl) rfl rfl (act_g1 rfl rfl hb))
        case zok15 => kernel_rfl
        case zgd15 => kernel_rfl
        intro a19 w19 hA' hE HF
        replace q7 := kn (HF 7) rfl q7
        replace q8 := kn (HF 8) rfl q8
        replace q10 := kn (HF 10) rfl q10
        replace q12 := kn (HF 12) rfl q12
        replace q13 := kn (HF 13) rfl q13
        replace q14 := kn (HF 14) rfl q14
        replace q16 := kn (HF 16) rfl q16
        replace q39 := kn (HF 39) rfl q39
        replace q40 := kn (HF 40) rfl q40
        replace q41 := kn (HF 41) rfl q41
        have q80 := ksv (HF 80) rfl rfl rfl
        clear q15
        clear hA HF; have hA := hA'; clear hA'
        replace f13 := GR.v_ext _ f13 hE
        replace f16 := GR.v_ext _ f16 hE
        replace hB := Base.step hB hE hO; clear hE
        obtain ⟨x27, hx_, h⟩ := Comp.run_bind h; replace hx_ := Comp.run_pure hx_; rw [hx_] at q80; clear hx_
        refine (li_nil ?_)
        refine (nx_then ?_)
        refine wp_cond_b q80 (fun hc => ?_) (fun hc => ?_)
        ·
          replace h := Comp.run_b_t hc h; clear hc
          refine wp_seq ?_
          refine' region [_] mixed hA (.cons ?z16_0 .nil) ?zok16 ?zgd16 ?zk16
          case z16_0 => intro a' w' hE hK hg; exact ok_assign rfl
          case zok16 => kernel_rfl
          case zgd16 => kernel_rfl
          intro a20 w20 hA' hE HF
          have q6 := ksv (HF 6) rfl rfl rfl
          clear q7
          clear q8
          clear q10
          clear q12
          clear q13
          clear q14
          clear q16
          clear q39
          clear q40
          clear q41
          clear q80
          clear hA HF; have hA := hA'; clear hA'
          replace f13 := GR.v_ext _ f13 hE
          replace f16 := GR.v_ext _ f16 hE
          replace hB := Base.step hB hE hO; clear hE
          refine (li_nil ?_)
          refine (nx_then ?_)
          refine (wp_ret (rt_then (rt_blk (rt_then (rt_then (rt_blk (rt_then ?_)))))))
          have hd_ := hdone2 _ (Comp.run_pure h).symm; clear h
          subst hd_; have h := hk2; clear hk2; try dsimp only at h
          have h := Comp.run_pure h; subst h
          exact retPure Try.results11 hA q6 hB.ext rfl
        ·
          replace h := Comp.run_b_f hc h; clear hc
          refine wp_skip ?_
          refine (nx_then ?_)
          refine wp_seq ?_
          refine' region [_, _] mixed hA (.cons ?z17_0 (.cons ?z17_1 .nil)) ?zok17 ?zgd17 ?zk17
          case z17_0 => intro a' w' hE hK hg; exact ok_move (kn (hK 8 rfl) rfl q8)
          case z17_1 => intro a' w' hE hK hg; exact ok_move rfl
          case zok17 => kernel_rfl
          case zgd17 => kernel_rfl
          intro a21 w21 hA' hE HF
          replace q7 := kn (HF 7) rfl q7
          replace q8 := kn (HF 8) rfl q8
          replace q10 := kn (HF 10) rfl q10
          replace q12 := kn (HF 12) rfl q12
          replace q13 := kn (HF 13) rfl q13
          replace q14 := kn (HF 14) rfl q14
          replace q16 := kn (HF 16) rfl q16
          replace q39 := kn (HF 39) rfl q39
          replace q40 := kn (HF 40) rfl q40
          replace q41 := kn (HF 41) rfl q41
          have q81 := ksv (HF 81) rfl rfl rfl
          have q82 := ksv (HF 82) rfl rfl rfl
          clear q80
          clear hA HF; have hA := hA'; clear hA'
          replace f13 := GR.v_ext _ f13 hE
          replace f16 := GR.v_ext _ f16 hE
          replace hB := Base.step hB hE hO; clear hE
          refine (li_nil ?_)
          refine (nx_then ?_)
          refine wp_block ?_
          obtain ⟨e3, he3, hk3⟩ := Comp.run_bind h; clear h
          refine loop_m (fun m a w => ∃ (O30 : Tags) (x29 : Int), a.fit 108 ∧ Base (Fr w0) O w0 O30 w ∧ a.get 7 = .bool x1 ∧ a.get 8 = .int .i64 (Int.tmod (IntKind.wrap .i64 x_1) 7) ∧ a.get 10 = u12 ∧ (rSl (rInt .i64)).v O30 w u12 x11.1 ∧ a.get 12 = .func (.func 51) #[] #[.pointer (some ⟨b9, 0, none⟩)] ∧ (rF1 Try.prog (rInt .i64) (RS.c (fun x => .bool x))).v O30 w (.func (.func 51) #[] #[.pointer (some ⟨b9, 0, none⟩)]) (fun z0 => colletlaw32_CoreHits_f1 z0 x2) ∧ a.get 13 = .int .i64 x18 ∧ a.get 14 = .bool x23 ∧ a.get 16 = .int .i64 x22 ∧ a.get 39 = u12 ∧ a.get 40 = .int .i64 (x11.1.length : Int) ∧ a.get 41 = .int .i64 x20 ∧ a.get 81 = .int .i64 (Int.tmod (IntKind.wrap .i64 x_1) 7) ∧ a.get 82 = .int .i64 x29 ∧ Comp.loopN (fun s => colletlaw32_CoreHits_l3 x_1 x22 x2 s) n m x29 = some e3) (m := n) ?st3 ?_
          case st3 =>
            exact ⟨_, _, hA, hB, q7, q8, q10, f13, q12, f16, q13, q14, q16, q39, q40, q41, q81, q82, Comp.run_loop he3⟩
          intro m_ a22 w22 hI
          clear hA hB he3 q7 q8 q10 q12 q13 q14 q16 q39 q40 q41 q81 q82 f13 f16
          obtain ⟨O30, x29, hA, hB, q7, q8, q10, f13, q12, f16, q13, q14, q16, q39, q40, q41, q81, q82, hl⟩ := hI
          obtain ⟨m3, hlt3, st3, h, hnext3, hdone3⟩ := Comp.loopN_succ hl; clear hl
          replace h : (colletlaw32_CoreHits_l3 x_1 x22 x2 x29).run n = some st3 := h
          unfold colletlaw32_CoreHits_l3 at h
          refine wp_seq ?_
          refine' region [_] mixed hA (.cons ?z18_0 .nil) ?zok18 ?zgd18 ?zk18
          case z18_0 => intro a' w' hE hK hg; exact ok_lss (kn (hK 82 rfl) rfl q82) (kn (hK 81 rfl) rfl q81)
          case zok18 => kernel_rfl
          case zgd18 => kernel_rfl
          intro a23 w23 hA' hE HF
          replace q7 := kn (HF 7) rfl q7
          replace q8 := kn (HF 8) rfl q8
          replace q10 := kn (HF 10) rfl q10
          replace q12 := kn (HF 12) rfl q12
          replace q13 := kn (HF 13) rfl q13
          replace q14 := kn (HF 14) rfl q14
          replace q16 := kn (HF 16) rfl q16
          replace q39 := kn (HF 39) rfl q39
          replace q40 := kn (HF 40) rfl q40
          replace q41 := kn (HF 41) rfl q41
          replace q81 := kn (HF 81) rfl q81
          replace q82 := kn (HF 82) rfl q82
          have q83 := ksv (HF 83) rfl rfl rfl
          clear hA HF; have hA := hA'; clear hA'
          replace f13 := GR.v_ext _ f13 hE
          replace f16 := GR.v_ext _ f16 hE
          replace hB := Base.step hB hE hO; clear hE
          obtain ⟨x31, hx_, h⟩ := Comp.run_bind h; replace hx_ := Comp.run_pure hx_; rw [hx_] at q83; clear hx_
          refine (li_nil ?_)
          refine (nx_then ?_)
          refine wp_seq ?_
          refine wp_cond_b q83 (fun hc => ?_) (fun hc => ?_)
          ·
            replace h := Comp.run_b_t hc h; clear hc
            refine wp_skip ?_
            refine (nx_then ?_)
            refine wp_seq ?_
            refine wp_block ?_
            refine wp_seq ?_
            refine' region [_, _] mixed hA (.cons ?z19_0 (.cons ?z19_1 .nil)) ?zok19 ?zgd19 ?zk19
            case z19_0 => intro a' w' hE hK hg; exact ok_move (kn (hK 82 rfl) rfl q82)
            case z19_1 => intro a' w' hE hK hg; exact ok_assign (ksv (j := 0) (hK 84 rfl) rfl rfl rfl)
            case zok19 => kernel_rfl
            case zgd19 => kernel_rfl
            intro a24 w24 hA' hE HF
            replace q7 := kn (HF 7) rfl q7
            replace q8 := kn (HF 8) rfl q8
            replace q10 := kn (HF 10) rfl q10
            replace q12 := kn (HF 12) rfl q12
            replace q13 := kn (HF 13) rfl q13
            replace q14 := kn (HF 14) rfl q14
            replace q16 := kn (HF 16) rfl q16
            have q17 := ksv (HF 17) rfl rfl rfl
            replace q39 := kn (HF 39) rfl q39
            replace q40 := kn (HF 40) rfl q40
            replace q41 := kn (HF 41) rfl q41
            replace q81 := kn (HF 81) rfl q81
            replace q82 := kn (HF 82) rfl q82
            clear q83
            clear hA HF; have hA := hA'; clear hA'
            replace f13 := GR.v_ext _ f13 hE
            replace f16 := GR.v_ext _ f16 hE
            replace hB := Base.step hB hE hO; clear hE
            refine (li_nil ?_)
            refine (nx_then ?_)
            refine wp_seq ?_
            obtain ⟨x32, hx32, h⟩ := Comp.run_bind h
            obtain ⟨x33, hx33, h⟩ := Comp.run_bind h
            obtain ⟨x34, hx34, h⟩ := Comp.run_bind h
            refine' region [_, _, _, _, _, _, _, _, _, _, _, SP.isv (.bool x34), _] mixed hA (.cons ?z20_0 (.cons ?z20_1 (.cons ?z20_2 (.cons ?z20_3 (.cons ?z20_4 (.cons ?z20_5 (.cons ?z20_6 (.cons ?z20_7 (.cons ?z20_8 (.cons ?z20_9 (.cons ?z20_10 (.cons ?z20_11 (.cons ?z20_12 .nil))))))))))))) ?zok20 ?zgd20 ?zk20
            case z20_0 => intro a' w' hE hK hg; exact ok_move (kn (hK 16 rfl) rfl q16)
            case z20_1 => intro a' w' hE hK hg; exact ok_move (kn (hK 17 rfl) rfl q17)
            case z20_2 => intro a' w' hE hK hg; exact okl_shr (ksv (j := 0) (hK 85 rfl) rfl rfl rfl) (ksv (j := 1) (hK 86 rfl) rfl rfl rfl) (run_nonneg hx32)
            case z20_3 => intro a' w' hE hK hg; exact okb_and (ksv (j := 2) (hK 87 rfl) rfl rfl rfl) rfl
            case z20_4 => intro a' w' hE hK hg; exact ok_eqlI (ksv (j := 3) (hK 88 rfl) rfl rfl rfl) rfl
            case z20_5 => intro a' w' hE hK hg; exact ok_move (ksv (j := 4) (hK 89 rfl) rfl rfl rfl)
            case z20_6 => intro a' w' hE hK hg; exact ok_move (kn (hK 12 rfl) rfl q12)
            case z20_7 => intro a' w' hE hK hg; exact ok_move (kn (hK 16 rfl) rfl q16)
            case z20_8 => intro a' w' hE hK hg; exact ok_move (kn (hK 17 rfl) rfl q17)
            case z20_9 => intro a' w' hE hK hg; exact okl_shl rfl (ksv (j := 8) (hK 93 rfl) rfl rfl hg) (run_nonneg (run_gdb hx33 hg))
            case z20_10 => intro a' w' hE hK hg; exact okb_andNot (ksv (j := 7) (hK 92 rfl) rfl rfl hg) (ksv (j := 9) (hK 94 rfl) rfl rfl hg)
            case z20_11 => intro a' w' hE hK hg; exact okl_callv1 (R := (RS.c (fun x => .bool x))) (ksv (j := 6) (hK 91 rfl) rfl rfl hg) (show ((rF1 Try.prog (rInt .i64) (RS.c (fun x => .bool x)))).v O30 _ _ _ from (GR.v_ext _ f16 hE)) (OkO.ext hB.ok hE) (ksv (j := 10) (hK 95 rfl) rfl rfl hg) (by first | exact rInt_v.2 rfl | exact rBool_v.2 rfl | exact rStr_v.2 rfl | exact rC_v.2 rfl | exact ⟨_, rfl, rfl⟩) (run_gdb hx34 hg)
            case z20_12 => intro a' w' hE hK hg; exact ok_pick (ksv (j := 5) (hK 90 rfl) rfl rfl rfl) (fun hb => ksv (j := 11) (hK 96 rfl) rfl rfl (act_g1 rfl rfl hb)) (fun _ => rfl)
            case zok20 => kernel_rfl
            case zgd20 => kernel_rfl
            intro a25 w25 hA' hE HF
            replace q7 := kn (HF 7) rfl q7
            replace q8 := kn (HF 8) rfl q8
            replace q10 := kn (HF 10) rfl q10
            replace q12 := kn (HF 12) rfl q12
            replace q13 := kn (HF 13) rfl q13
            replace q14 := kn (HF 14) rfl q14
            replace q16 := kn (HF 16) rfl q16
            replace q39 := kn (HF 39) rfl q39
            replace q40 := kn (HF 40) rfl q40
            replace q41 := kn (HF 41) rfl q41
            replace q81 := kn (HF 81) rfl q81
            replace q82 := kn (HF 82) rfl q82
            have q97 := ksv (HF 97) rfl rfl rfl
            clear q17
            clear hA HF; have hA := hA'; clear hA'
            replace f13 := GR.v_ext _ f13 hE
            replace f16 := GR.v_ext _ f16 hE
            replace hB := Base.step hB hE hO; clear hE
            obtain ⟨x35, hx_, h⟩ := Comp.run_bind h; replace hx_ := Comp.run_pure hx_; rw [hx_] at q97; clear hx_
            refine (li_nil ?_)
            refine (nx_then ?_)
            refine wp_cond_b q97 (fun hc => ?_) (fun hc => ?_)
            ·
              replace h := Comp.run_b_t hc h; clear hc
              refine wp_seq ?_
              refine' region [_] mixed hA (.cons ?z21_0 .nil) ?zok21 ?zgd21 ?zk21
              case z21_0 => intro a' w' hE hK hg; exact ok_assign rfl
              case zok21 => kernel_rfl
              case zgd21 => kernel_rfl
              intro a26 w26 hA' hE HF
              have q6 := ksv (HF 6) rfl rfl rfl
              clear q7
              clear q8
              clear q10
              clear q12
              clear q13
              clear q14
              clear q16
              clear q39
              clear q40
              clear q41
              clear q81
              clear q82
              clear q97
              clear hA HF; have hA := hA'; clear hA'
              replace f13 := GR.v_ext _ f13 hE
              replace f16 := GR.v_ext _ f16 hE
              replace hB := Base.step hB hE hO; clear hE
              refine (li_nil ?_)
              refine (nx_then ?_)
              refine (wp_ret (rt_blk (rt_then (rt_then (rt_blk (rt_blk (rt_then (rt_then (rt_blk (rt_then ?_))))))))))
              have hd_ := hdone3 _ (Comp.run_pure h).symm; clear h
              subst hd_; have h := hk3; clear hk3; try dsimp only at h
              have hd_ := hdone2 _ (Comp.run_pure h).symm; clear h
              subst hd_; have h := hk2; clear hk2; try dsimp only at h
              have h := Comp.run_pure h; subst h
              exact retPure Try.results11 hA q6 hB.ext rfl
            ·
              replace h := Comp.run_b_f hc h; clear hc
              refine wp_skip ?_
              refine (nx_blk (nx_then ?_))
              refine' region [_, _] mixed hA (.cons ?z22_0 (.cons ?z22_1 .nil)) ?zok22 ?zgd22 ?zk22
              case z22_0 => intro a' w' hE hK hg; exact ok_add (kn (hK 82 rfl) rfl q82) rfl
              case z22_1 => intro a' w' hE hK hg; exact ok_move (ksv (j := 0) (hK 98 rfl) rfl rfl rfl)
              case zok22 => kernel_rfl
              case zgd22 => kernel_rfl
              intro a27 w27 hA' hE HF
              replace q7 := kn (HF 7) rfl q7
              replace q8 := kn (HF 8) rfl q8
              replace q10 := kn (HF 10) rfl q10
              replace q12 := kn (HF 12) rfl q12
              replace q13 := kn (HF 13) rfl q13
              replace q14 := kn (HF 14) rfl q14
              replace q16 := kn (HF 16) rfl q16
              replace q39 := kn (HF 39) rfl q39
              replace q40 := kn (HF 40) rfl q40
              replace q41 := kn (HF 41) rfl q41
              replace q81 := kn (HF 81) rfl q81
              have q82' := ksv (HF 82) rfl rfl rfl
              replace q82 := q82'; clear q82'
              clear q97
              clear hA HF; have hA := hA'; clear hA'
              replace f13 := GR.v_ext _ f13 hE
              replace f16 := GR.v_ext _ f16 hE
              replace hB := Base.step hB hE hO; clear hE
              refine (li_nil ?_)
              refine (nx_then ?_)
              have h := hnext3 _ (Comp.run_pure h).symm
              refine ⟨m3, hlt3, ?_⟩
              exact ⟨_, _, hA, hB, q7, q8, q10, f13, q12, f16, q13, q14, q16, q39, q40, q41, q81, q82, h⟩
          ·
            replace h := Comp.run_b_f hc h; clear hc
            refine wp_exit ?_
            refine (ex_then (ex_then (ex_same ?_)))
            have hd_ := hdone3 _ (Comp.run_pure h).symm; clear h
            subst hd_; have h := hk3; clear hk3; try dsimp only at h
            refine (nx_blk (nx_then ?_))
            refine' region [_, _] mixed hA (.cons ?z23_0 (.cons ?z23_1 .nil)) ?zok23 ?zgd23 ?zk23
            case z23_0 => intro a' w' hE hK hg; exact ok_add (kn (hK 41 rfl) rfl q41) rfl
            case z23_1 => intro a' w' hE hK hg; exact ok_move (ksv (j := 0) (hK 99 rfl) rfl rfl rfl)
            case zok23 => kernel_rfl
            case zgd23 => kernel_rfl
            intro a28 w28 hA' hE HF
            replace q7 := kn (HF 7) rfl q7
            replace q8 := kn (HF 8) rfl q8
            replace q10 := kn (HF 10) rfl q10
            replace q12 := kn (HF 12) rfl q12
            replace q13 := kn (HF 13) rfl q13
            replace q14 := kn (HF 14) rfl q14
            replace q39 := kn (HF 39) rfl q39
            replace q40 := kn (HF 40) rfl q40
            have q41' := ksv (HF 41) rfl rfl rfl
            replace q41 := q41'; clear q41'
            clear q16
            clear q81
            clear q82
            clear q83
            clear hA HF; have hA := hA'; clear hA'
            replace f13 := GR.v_ext _ f13 hE
            replace f16 := GR.v_ext _ f16 hE
            replace hB := Base.step hB hE hO; clear hE
            refine (li_nil ?_)
            refine (nx_then ?_)
            have h := hnext2 _ (Comp.run_pure h).symm
            refine ⟨m2, hlt2, ?_⟩
            exact ⟨_, _, _, hA, hB, q7, q8, q10, f13, q12, f16, q13, q14, q39, q40, q41, h⟩
      ·
        replace h := Comp.run_b_f hc h; clear hc
        refine wp_exit ?_
        refine (ex_then (ex_then (ex_same ?_)))
        have hd_ := hdone2 _ (Comp.run_pure h).symm; clear h
        subst hd_; have h := hk2; clear hk2; try dsimp only at h
        refine (nx_then ?_)
        exact ⟨_, _, hA, hB, q7, q12, f16, q13, q14, h⟩
    intro a29 w29 hI
    clear hA hB h q7 q8 q10 q12 q13 q14 f13 f16
    obtain ⟨O40, x39, hA, hB, q7, q12, f16, q13, q14, h⟩ := hI
    unfold colletlaw32_CoreHits_j1 at h
    refine wp_seq ?_
    obtain ⟨x41, hx41, h⟩ := Comp.run_bind h
    refine' region [_, _, _, _, _, SP.isv (.bool x41), _, _, _] mixed hA (.cons ?z24_0 (.cons ?z24_1 (.cons ?z24_2 (.cons ?z24_3 (.cons ?z24_4 (.cons ?z24_5 (.cons ?z24_6 (.cons ?z24_7 (.cons ?z24_8 .nil))))))))) ?zok24 ?zgd24 ?zk24
    case z24_0 => intro a' w' hE hK hg; exact ok_move (kn (hK 7 rfl) rfl q7)
    case z24_1 => intro a' w' hE hK hg; exact ok_move (ksv (j := 0) (hK 100 rfl) rfl rfl rfl)
    case z24_2 => intro a' w' hE hK hg; exact ok_move (kn (hK 14 rfl) rfl q14)
    case z24_3 => intro a' w' hE hK hg; exact ok_move (kn (hK 12 rfl) rfl q12)
    case z24_4 => intro a' w' hE hK hg; exact ok_move (kn (hK 13 rfl) rfl q13)
    case z24_5 => intro a' w' hE hK hg; exact okl_callv1 (R := (RS.c (fun x => .bool x))) (ksv (j := 3) (hK 103 rfl) rfl rfl hg) (show ((rF1 Try.prog (rInt .i64) (RS.c (fun x => .bool x)))).v O40 _ _ _ from (GR.v_ext _ f16 hE)) (OkO.ext hB.ok hE) (ksv (j := 4) (hK 104 rfl) rfl rfl hg) (by first | exact rInt_v.2 rfl | exact rBool_v.2 rfl | exact rStr_v.2 rfl | exact rC_v.2 rfl | exact ⟨_, rfl, rfl⟩) (run_gdb hx41 hg)
    case z24_6 => intro a' w' hE hK hg; exact ok_eqlB ty4 (ksv (j := 2) (hK 102 rfl) rfl rfl hg) (ksv (j := 5) (hK 105 rfl) rfl rfl hg)
    case z24_7 => intro a' w' hE hK hg; exact ok_pick (ksv (j := 1) (hK 101 rfl) rfl rfl rfl) (fun hb => ksv (j := 6) (hK 106 rfl) rfl rfl (act_g1 rfl rfl hb)) (fun _ => rfl)
    case z24_8 => intro a' w' hE hK hg; exact ok_assign (ksv (j := 7) (hK 107 rfl) rfl rfl rfl)
    case zok24 => kernel_rfl
    case zgd24 => kernel_rfl
    intro a30 w30 hA' hE HF
    have q6 := ksv (HF 6) rfl rfl rfl
    clear q7
    clear q12
    clear q13
    clear q14
    clear hA HF; have hA := hA'; clear hA'
    replace f16 := GR.v_ext _ f16 hE
    replace hB := Base.step hB hE hO; clear hE
    obtain ⟨x42, hx_, h⟩ := Comp.run_bind h; replace hx_ := Comp.run_pure hx_; rw [hx_] at q6; clear hx_
    refine (li_nil ?_)
    refine (nx_then ?_)
    refine (wp_ret ?_)
    have h := Comp.run_pure h; subst h
    exact retPure Try.results11 hA q6 hB.ext rfl

theorem ok_colletlaw32_CoreRefuses {O : Tags} {w0 : World} (hO : OkO O w0) {v_0 : Value} {x_0 : List Int} (h_0 : (rSl (rInt .i64)).v O w0 v_0 x_0) {x_1 : Int} {x_2 : Int} {n : Nat} {y : Bool} (h : (colletlaw32_CoreRefuses x_0 x_1 x_2).run n = some y) : Pure Try.prog 12 #[v_0, .int .u8 x_1, .int .u8 x_2] w0 (SP.isv (.bool y)).holds := by
  unfold colletlaw32_CoreRefuses at h
  refine pure_of_wp Try.func12 rfl 160 Try.ntmps12 (by simp) fun a0 hA hs0 => ?_
  have q0 := hs0 0 _ rfl
  have q1 := hs0 1 _ rfl
  have q2 := hs0 2 _ rfl
  clear hs0
  have hB : Base (Fr w0) O w0 O w0 := Base.start hO
  refine wp_seq ?_
  refine' region [_] mixed hA (.cons ?z1_0 .nil) ?zok1 ?zgd1 ?zk1
  case z1_0 => intro a' w' hE hK hg; exact ok_assign rfl
  case zok1 => kernel_rfl
  case zgd1 => kernel_rfl
  intro a1 w1 hA' hE HF
  replace q0 := kn (HF 0) rfl q0
  replace q1 := kn (HF 1) rfl q1
  replace q2 := kn (HF 2) rfl q2
  clear hA HF; have hA := hA'; clear hA'
  replace h_0 := GR.v_ext _ h_0 hE
  replace hB := Base.step hB hE hO; clear hE
  refine (li_nil ?_)
  refine (nx_then ?_)
  refine wp_seq ?_
  obtain ⟨x1, hx1, h⟩ := Comp.run_bind h
  refine' region [SP.isv (.bool x1), _] mixed hA (.cons ?z2_0 (.cons ?z2_1 .nil)) ?zok2 ?zgd2 ?zk2
  case z2_0 => intro a' w' hE hK hg; have c_ := ok_colletlaw32_sanity (OkO.ext hB.ok hE)  hx1; exact ok_call0 fn38  c_
  case z2_1 => intro a' w' hE hK hg; exact ok_assign (ksv (j := 0) (hK 24 rfl) rfl rfl rfl)
  case zok2 => kernel_rfl
  case zgd2 => kernel_rfl
  intro a2 w2 hA' hE HF
  replace q0 := kn (HF 0) rfl q0
  replace q1 := kn (HF 1) rfl q1
  replace q2 := kn (HF 2) rfl q2
  have q7 := ksv (HF 7) rfl rfl rfl
  clear hA HF; have hA := hA'; clear hA'
  replace h_0 := GR.v_ext _ h_0 hE
  replace hB := Base.step hB hE hO; clear hE
  refine (li_nil ?_)
  refine (nx_then ?_)
  refine wp_seq ?_
  refine' region [_, _, _, _] mixed hA (.cons ?z3_0 (.cons ?z3_1 (.cons ?z3_2 (.cons ?z3_3 .nil)))) ?zok3 ?zgd3 ?zk3
  case z3_0 => intro a' w' hE hK hg; exact ok_move (kn (hK 1 rfl) rfl q1)
  case z3_1 => intro a' w' hE hK hg; exact ok_convI ty5 ty3 (ksv (j := 0) (hK 25 rfl) rfl rfl rfl)
  case z3_2 => intro a' w' hE hK hg; exact ok_rem (ksv (j := 1) (hK 26 rfl) rfl rfl rfl) rfl (by decide)
  case z3_3 => intro a' w' hE hK hg; exact ok_assign (ksv (j := 2) (hK 27 rfl) rfl rfl rfl)
  case zok3 => kernel_rfl
  case zgd3 => kernel_rfl
  intro a3 w3 hA' hE HF
  replace q0 := kn (HF 0) rfl q0
  replace q2 := kn (HF 2) rfl q2
  replace q7 := kn (HF 7) rfl q7
  have q8 := ksv (HF 8) rfl rfl rfl
  clear q1
  clear hA HF; have hA := hA'; clear hA'
  replace h_0 := GR.v_ext _ h_0 hE
  replace hB := Base.step hB hE hO; clear hE
  refine (li_nil ?_)
  refine (nx_then ?_)
  refine wp_seq ?_
  obtain ⟨x2, hx2, h⟩ := Comp.run_bind h
  obtain ⟨x3, hx3, h⟩ := Comp.run_bind h
  refine' region [_, _, SP.vl (rSl (rInt .i64)) O x2, _, SP.vl (rSl rBool) O x3, SP.vl (rSl rBool) O x3] mixed hA (.cons ?z4_0 (.cons ?z4_1 (.cons ?z4_2 (.cons ?z4_3 (.cons ?z4_4 (.cons ?z4_5 .nil)))))) ?zok4 ?zgd4 ?zk4
  case z4_0 => intro a' w' hE hK hg; exact ok_move (kn (hK 0 rfl) rfl q0)
  case z4_1 => intro a' w' hE hK hg; exact ok_move (kn (hK 8 rfl) rfl q8)
  case z4_2 => intro a' w' hE hK hg; have c_ := ok_colletref32_Sets (OkO.ext hB.ok hE) (GR.v_ext _ h_0 hE) hx2; exact ok_weak (ok_call2 fn40 (ksv (j := 0) (hK 28 rfl) rfl rfl rfl) (ksv (j := 1) (hK 29 rfl) rfl rfl rfl) c_) (fun _ _ _ h => (OwnR.val h (fun g hg => (OkO.ext hB.ok hE) g (OwnR.ge h g hg).1)))
  case z4_3 => intro a' w' hE hK hg; exact ok_move (kn (hK 8 rfl) rfl q8)
  case z4_4 => intro a' w' hE hK hg; have c_ := ok_colletref32_Closed (OkO.ext hB.ok hE) (kspS (φ := SP.vl (rSl (rInt .i64)) O x2) (j := 2) (hK 30 rfl) rfl rfl rfl) hx3; exact ok_weak (ok_call2 fn48 rfl (ksv (j := 3) (hK 31 rfl) rfl rfl rfl) c_) (fun _ _ _ h => (OwnR.val h (fun g hg => (OkO.ext hB.ok hE) g (OwnR.ge h g hg).1)))
  case z4_5 => intro a' w' hE hK hg; exact ok_assign_pr (φ := SP.vl (rSl rBool) O x3) (kspS (φ := SP.vl (rSl rBool) O x3) (j := 4) (hK 32 rfl) rfl rfl rfl)
  case zok4 => kernel_rfl
  case zgd4 => kernel_rfl
  intro a4 w4 hA' hE HF
  replace q2 := kn (HF 2) rfl q2
  replace q7 := kn (HF 7) rfl q7
  replace q8 := kn (HF 8) rfl q8
  have f5 := ksp (HF 9) rfl rfl rfl
  obtain ⟨u4, q9'⟩ : ∃ u, a4.get 9 = u := ⟨_, rfl⟩
  rw [q9'] at f5
  have q9 := q9'; clear q9'
  clear q0
  clear hA HF; have hA := hA'; clear hA'
  replace h_0 := GR.v_ext _ h_0 hE
  replace hB := Base.step hB hE hO; clear hE
  refine (li_nil ?_)
  refine (nx_then ?_)
  refine wp_seq ?_
  obtain ⟨x6, hx6, h⟩ := Comp.run_bind h
  refine' region [_, SP.tup2 (SP.vl (rSl (rInt .i64)) O x6.1) (SP.isv (.int .i64 x6.2)), SP.tup2 (SP.vl (rSl (rInt .i64)) O x6.1) (SP.isv (.int .i64 x6.2)), SP.vl (rSl (rInt .i64)) O x6.1, SP.isv (.int .i64 x6.2), SP.vl (rSl (rInt .i64)) O x6.1, _] mixed hA (.cons ?z5_0 (.cons ?z5_1 (.cons ?z5_2 (.cons ?z5_3 (.cons ?z5_4 (.cons ?z5_5 (.cons ?z5_6 .nil))))))) ?zok5 ?zgd5 ?zk5
  case z5_0 => intro a' w' hE hK hg; exact ok_move (kn (hK 9 rfl) rfl q9)
  case z5_1 => intro a' w' hE hK hg; have c_ := ok_core_Conflicts (OkO.ext hB.ok hE) (GR.v_ext _ f5 hE) hx6; exact ok_weak (ok_call1 fn49 (ksv (j := 0) (hK 34 rfl) rfl rfl rfl) c_) (fun _ _ _ ⟨a_, b_, e0_, h0_, h1_⟩ => ⟨a_, b_, e0_, (fun h => (OwnR.val h (fun g hg => (OkO.ext hB.ok hE) g (OwnR.ge h g hg).1))) h0_, h1_⟩)
  case z5_2 => intro a' w' hE hK hg; exact ok_move_pr (φ := SP.tup2 (SP.vl (rSl (rInt .i64)) O x6.1) (SP.isv (.int .i64 x6.2))) (kspS (φ := SP.tup2 (SP.vl (rSl (rInt .i64)) O x6.1) (SP.isv (.int .i64 x6.2))) (j := 1) (hK 35 rfl) rfl rfl rfl)
  case z5_3 => intro a' w' hE hK hg; exact okl_ext0 (kspS (φ := SP.tup2 (SP.vl (rSl (rInt .i64)) O x6.1) (SP.isv (.int .i64 x6.2))) (j := 2) (hK 33 rfl) rfl rfl rfl)
  case z5_4 => intro a' w' hE hK hg; exact okl_ext1 (kspS (φ := SP.tup2 (SP.vl (rSl (rInt .i64)) O x6.1) (SP.isv (.int .i64 x6.2))) (j := 2) (hK 33 rfl) rfl rfl rfl)
  case z5_5 => intro a' w' hE hK hg; exact ok_assign_pr (φ := SP.vl (rSl (rInt .i64)) O x6.1) (kspS (φ := SP.vl (rSl (rInt .i64)) O x6.1) (j := 3) (hK 36 rfl) rfl rfl rfl)
  case z5_6 => intro a' w' hE hK hg; exact ok_assign (ksv (j := 4) (hK 37 rfl) rfl rfl rfl)
  case zok5 => kernel_rfl
  case zgd5 => kernel_rfl
  intro a5 w5 hA' hE HF
  replace q2 := kn (HF 2) rfl q2
  replace q7 := kn (HF 7) rfl q7
  replace q8 := kn (HF 8) rfl q8
  replace q9 := kn (HF 9) rfl q9
  have f8 := ksp (HF 10) rfl rfl rfl
  obtain ⟨u7, q10'⟩ : ∃ u, a5.get 10 = u := ⟨_, rfl⟩
  rw [q10'] at f8
  have q10 := q10'; clear q10'
  have q11 := ksv (HF 11) rfl rfl rfl
  clear hA HF; have hA := hA'; clear hA'
  replace f5 := GR.v_ext _ f5 hE
  replace hB := Base.step hB hE hO; clear hE
  refine (li_nil ?_)
  refine (nx_then ?_)
  refine wp_seq ?_
  refine wp_seq ?_
  refine' region [_, _] mixed hA (.cons ?z6_0 (.cons ?z6_1 .nil)) ?zok6 ?zgd6 ?zk6
  case z6_0 => intro a' w' hE hK hg; exact ok_move (kn (hK 11 rfl) rfl q11)
  case z6_1 => intro a' w' hE hK hg; exact ok_neqI (ksv (j := 0) (hK 38 rfl) rfl rfl rfl) rfl
  case zok6 => kernel_rfl
  case zgd6 => kernel_rfl
  intro a6 w6 hA' hE HF
  replace q2 := kn (HF 2) rfl q2
  replace q7 := kn (HF 7) rfl q7
  replace q8 := kn (HF 8) rfl q8
  replace q9 := kn (HF 9) rfl q9
  replace q10 := kn (HF 10) rfl q10
  have q39 := ksv (HF 39) rfl rfl rfl
  clear q11
  clear hA HF; have hA := hA'; clear hA'
  replace f5 := GR.v_ext _ f5 hE
  replace f8 := GR.v_ext _ f8 hE
  replace hB := Base.step hB hE hO; clear hE
  refine (li_nil ?_)
  refine (nx_then ?_)
  refine wp_cond_b q39 (fun hc => ?_) (fun hc => ?_)
  ·
    replace h := Comp.run_b_t hc h; clear hc
    refine wp_seq ?_
    refine' region [_] mixed hA (.cons ?z7_0 .nil) ?zok7 ?zgd7 ?zk7
    case z7_0 => intro a' w' hE hK hg; exact ok_assign rfl
    case zok7 => kernel_rfl
    case zgd7 => kernel_rfl
    intro a7 w7 hA' hE HF
    have q6 := ksv (HF 6) rfl rfl rfl
    clear q2
    clear q7
    clear q8
    clear q9
    clear q10
    clear q39
    clear hA HF; have hA := hA'; clear hA'
    replace f5 := GR.v_ext _ f5 hE
    replace f8 := GR.v_ext _ f8 hE
    replace hB := Base.step hB hE hO; clear hE
    refine (li_nil ?_)
    refine (nx_then ?_)
    refine (wp_ret (rt_then ?_))
    have h := Comp.run_pure h; subst h
    exact retPure Try.results12 hA q6 hB.ext rfl
  ·
    replace h := Comp.run_b_f hc h; clear hc
    refine wp_skip ?_
    refine (nx_then ?_)
    refine wp_seq ?_
    obtain ⟨x9, hx9, h⟩ := Comp.run_bind h
    obtain ⟨x10, hx10, h⟩ := Comp.run_bind h
    refine' region [_, _, _, _, SP.isv (.int .i64 x10), _] mixed hA (.cons ?z8_0 (.cons ?z8_1 (.cons ?z8_2 (.cons ?z8_3 (.cons ?z8_4 (.cons ?z8_5 .nil)))))) ?zok8 ?zgd8 ?zk8
    case z8_0 => intro a' w' hE hK hg; exact ok_move (kn (hK 2 rfl) rfl q2)
    case z8_1 => intro a' w' hE hK hg; exact ok_convI ty5 ty3 (ksv (j := 0) (hK 40 rfl) rfl rfl rfl)
    case z8_2 => intro a' w' hE hK hg; exact ok_move (kn (hK 8 rfl) rfl q8)
    case z8_3 => intro a' w' hE hK hg; exact okl_shl rfl (ksv (j := 2) (hK 42 rfl) rfl rfl rfl) (run_nonneg hx9)
    case z8_4 => intro a' w' hE hK hg; exact ok_isv (ok_rem (ksv (j := 1) (hK 41 rfl) rfl rfl rfl) (ksv (j := 3) (hK 43 rfl) rfl rfl rfl) (run_rem hx10).1) (congrArg _ (run_rem hx10).2)
    case z8_5 => intro a' w' hE hK hg; exact ok_assign (ksv (j := 4) (hK 44 rfl) rfl rfl rfl)
    case zok8 => kernel_rfl
    case zgd8 => kernel_rfl
    intro a8 w8 hA' hE HF
    replace q7 := kn (HF 7) rfl q7
    replace q8 := kn (HF 8) rfl q8
    replace q9 := kn (HF 9) rfl q9
    replace q10 := kn (HF 10) rfl q10
    have q12 := ksv (HF 12) rfl rfl rfl
    clear q2
    clear q39
    clear hA HF; have hA := hA'; clear hA'
    replace f5 := GR.v_ext _ f5 hE
    replace f8 := GR.v_ext _ f8 hE
    replace hB := Base.step hB hE hO; clear hE
    refine (li_nil ?_)
    refine (nx_then ?_)
    refine wp_seq ?_
    refine' region [_] mixed hA (.cons ?z9_0 .nil) ?zok9 ?zgd9 ?zk9
    case z9_0 => intro a' w' hE hK hg; exact ok_assign rfl
    case zok9 => kernel_rfl
    case zgd9 => kernel_rfl
    intro a9 w9 hA' hE HF
    replace q7 := kn (HF 7) rfl q7
    replace q8 := kn (HF 8) rfl q8
    replace q9 := kn (HF 9) rfl q9
    replace q10 := kn (HF 10) rfl q10
    replace q12 := kn (HF 12) rfl q12
    have q13 := ksv (HF 13) rfl rfl rfl
    clear hA HF; have hA := hA'; clear hA'
    replace f5 := GR.v_ext _ f5 hE
    replace f8 := GR.v_ext _ f8 hE
    replace hB := Base.step hB hE hO; clear hE
    refine (li_nil ?_)
    refine (nx_then ?_)
    refine seq_join (fun a w => ∃ (O30 : Tags) (x29 : Bool), a.fit 160 ∧ Base (Fr w0) O w0 O30 w ∧ a.get 7 = .bool x1 ∧ a.get 8 = .int .i64 (Int.tmod (IntKind.wrap .i64 x_1) 7) ∧ a.get 9 = u4 ∧ (rSl rBool).v O30 w u4 x3 ∧ a.get 10 = u7 ∧ (rSl (rInt .i64)).v O30 w u7 x6.1 ∧ a.get 12 = .int .i64 x10 ∧ a.get 13 = .bool x29 ∧ (colletlaw32_CoreRefuses_j1 x6 x_1 x3 x10 x1 x29).run n = some y) ?_ ?_
    ·
      refine wp_seq ?_
      refine' region [_, _, _] mixed hA (.cons ?z10_0 (.cons ?z10_1 (.cons ?z10_2 .nil))) ?zok10 ?zgd10 ?zk10
      case z10_0 => intro a' w' hE hK hg; exact ok_move (kn (hK 10 rfl) rfl q10)
      case z10_1 => intro a' w' hE hK hg; exact okl_len (r := (rInt .i64)) ty58 (ksv (j := 0) (hK 45 rfl) rfl rfl rfl) (rd_of (GR.v_ext _ f8 hE))
      case z10_2 => intro a' w' hE hK hg; exact ok_move rfl
      case zok10 => kernel_rfl
      case zgd10 => kernel_rfl
      intro a10 w10 hA' hE HF
      replace q7 := kn (HF 7) rfl q7
      replace q8 := kn (HF 8) rfl q8
      replace q9 := kn (HF 9) rfl q9
      replace q10 := kn (HF 10) rfl q10
      replace q12 := kn (HF 12) rfl q12
      replace q13 := kn (HF 13) rfl q13
      have q45 := ksv (HF 45) rfl rfl rfl
      have q46 := ksv (HF 46) rfl rfl rfl
      have q47 := ksv (HF 47) rfl rfl rfl
      clear hA HF; have hA := hA'; clear hA'
      replace f5 := GR.v_ext _ f5 hE
      replace f8 := GR.v_ext _ f8 hE
      replace hB := Base.step hB hE hO; clear hE
      refine (li_nil ?_)
      refine (nx_then ?_)
      refine wp_block ?_
      obtain ⟨e2, he2, hk2⟩ := Comp.run_bind h; clear h
      refine loop_m (fun m a w => ∃ (O13 : Tags) (x11 : Bool) (x12 : Int), a.fit 160 ∧ Base (Fr w0) O w0 O13 w ∧ a.get 7 = .bool x1 ∧ a.get 8 = .int .i64 (Int.tmod (IntKind.wrap .i64 x_1) 7) ∧ a.get 9 = u4 ∧ (rSl rBool).v O13 w u4 x3 ∧ a.get 10 = u7 ∧ (rSl (rInt .i64)).v O13 w u7 x6.1 ∧ a.get 12 = .int .i64 x10 ∧ a.get 13 = .bool x11 ∧ a.get 45 = u7 ∧ a.get 46 = .int .i64 (x6.1.length : Int) ∧ a.get 47 = .int .i64 x12 ∧ Comp.loopN (fun s => colletlaw32_CoreRefuses_l2 x6 x10 x3 x_1 s.1 s.2) n m (x11, x12) = some e2) (m := n) ?st2 ?_
      case st2 =>
        exact ⟨_, _, _, hA, hB, q7, q8, q9, f5, q10, f8, q12, q13, q45, q46, q47, Comp.run_loop he2⟩
      intro m_ a11 w11 hI
      clear hA hB he2 q7 q8 q9 q10 q12 q13 q45 q46 q47 f5 f8
      obtain ⟨O13, x11, x12, hA, hB, q7, q8, q9, f5, q10, f8, q12, q13, q45, q46, q47, hl⟩ := hI
      obtain ⟨m2, hlt2, st2, h, hnext2, hdone2⟩ := Comp.loopN_succ hl; clear hl
      replace h : (colletlaw32_CoreRefuses_l2 x6 x10 x3 x_1 x11 x12).run n = some st2 := h
      unfold colletlaw32_CoreRefuses_l2 at h
      refine wp_seq ?_
      refine' region [_] mixed hA (.cons ?z11_0 .nil) ?zok11 ?zgd11 ?zk11
      case z11_0 => intro a' w' hE hK hg; exact ok_lss (kn (hK 47 rfl) rfl q47) (kn (hK 46 rfl) rfl q46)
      case zok11 => kernel_rfl
      case zgd11 => kernel_rfl
      intro a12 w12 hA' hE HF
      replace q7 := kn (HF 7) rfl q7
      replace q8 := kn (HF 8) rfl q8
      replace q9 := kn (HF 9) rfl q9
      replace q10 := kn (HF 10) rfl q10
      replace q12 := kn (HF 12) rfl q12
      replace q13 := kn (HF 13) rfl q13
      replace q45 := kn (HF 45) rfl q45
      replace q46 := kn (HF 46) rfl q46
      replace q47 := kn (HF 47) rfl q47
      have q48 := ksv (HF 48) rfl rfl rfl
      clear hA HF; have hA := hA'; clear hA'
      replace f5 := GR.v_ext _ f5 hE
      replace f8 := GR.v_ext _ f8 hE
      replace hB := Base.step hB hE hO; clear hE
      refine (li_nil ?_)
      refine (nx_then ?_)
      refine wp_seq ?_
      refine wp_cond_b q48 (fun hc => ?_) (fun hc => ?_)
      ·
        replace h := Comp.run_b_t hc h; clear hc
        refine wp_skip ?_
        refine (nx_then ?_)
        refine wp_seq ?_
        refine wp_block ?_
        refine wp_seq ?_
        obtain ⟨x14, hx14, h⟩ := Comp.run_bind h
        refine' region [SP.ptr (rInt .i64) O13 x14, SP.isv (.int .i64 x14), _] mixed hA (.cons ?z12_0 (.cons ?z12_1 (.cons ?z12_2 .nil))) ?zok12 ?zgd12 ?zk12
        case z12_0 => intro a' w' hE hK hg; exact okl_idx (r := (rInt .i64)) (O := O13) ty58 ty3 rfl (kn (hK 45 rfl) rfl q45) (rd_of (GR.v_ext _ f8 hE)) (kn (hK 47 rfl) rfl q47) hx14
        case z12_1 => intro a' w' hE hK hg; exact okl_ldr (rInt .i64) (fun _ => rfl) ty3 rfl rfl rfl (kspS (φ := SP.ptr (rInt .i64) O13 x14) (j := 0) (hK 49 rfl) rfl rfl rfl) (fun _ _ _ h => rInt_v.1 h)
        case z12_2 => intro a' w' hE hK hg; exact ok_assign (ksv (j := 1) (hK 50 rfl) rfl rfl rfl)
        case zok12 => kernel_rfl
        case zgd12 => kernel_rfl
        intro a13 w13 hA' hE HF
        replace q7 := kn (HF 7) rfl q7
        replace q8 := kn (HF 8) rfl q8
        replace q9 := kn (HF 9) rfl q9
        replace q10 := kn (HF 10) rfl q10
        replace q12 := kn (HF 12) rfl q12
        replace q13 := kn (HF 13) rfl q13
        have q15 := ksv (HF 15) rfl rfl rfl
        replace q45 := kn (HF 45) rfl q45
        replace q46 := kn (HF 46) rfl q46
        replace q47 := kn (HF 47) rfl q47
        clear q48
        clear hA HF; have hA := hA'; clear hA'
        replace f5 := GR.v_ext _ f5 hE
        replace f8 := GR.v_ext _ f8 hE
        replace hB := Base.step hB hE hO; clear hE
        refine (li_nil ?_)
        refine (nx_then ?_)
        refine wp_seq ?_
        refine' region [_, _, _, _, _, _, _, _, _] mixed hA (.cons ?z13_0 (.cons ?z13_1 (.cons ?z13_2 (.cons ?z13_3 (.cons ?z13_4 (.cons ?z13_5 (.cons ?z13_6 (.cons ?z13_7 (.cons ?z13_8 .nil))))))))) ?zok13 ?zgd13 ?zk13
        case z13_0 => intro a' w' hE hK hg; exact ok_move (kn (hK 13 rfl) rfl q13)
        case z13_1 => intro a' w' hE hK hg; exact ok_move (ksv (j := 0) (hK 51 rfl) rfl rfl rfl)
        case z13_2 => intro a' w' hE hK hg; exact ok_move (kn (hK 12 rfl) rfl q12)
        case z13_3 => intro a' w' hE hK hg; exact ok_move (kn (hK 15 rfl) rfl q15)
        case z13_4 => intro a' w' hE hK hg; exact okb_and (ksv (j := 2) (hK 53 rfl) rfl rfl hg) (ksv (j := 3) (hK 54 rfl) rfl rfl hg)
        case z13_5 => intro a' w' hE hK hg; exact ok_move (kn (hK 15 rfl) rfl q15)
        case z13_6 => intro a' w' hE hK hg; exact ok_eqlI (ksv (j := 4) (hK 55 rfl) rfl rfl hg) (ksv (j := 5) (hK 56 rfl) rfl rfl hg)
        case z13_7 => intro a' w' hE hK hg; exact ok_pick (ksv (j := 1) (hK 52 rfl) rfl rfl rfl) (fun _ => rfl) (fun hb => ksv (j := 6) (hK 57 rfl) rfl rfl (act_g1 rfl rfl hb))
        case z13_8 => intro a' w' hE hK hg; exact ok_assign (ksv (j := 7) (hK 58 rfl) rfl rfl rfl)
        case zok13 => kernel_rfl
        case zgd13 => kernel_rfl
        intro a14 w14 hA' hE HF
        replace q7 := kn (HF 7) rfl q7
        replace q8 := kn (HF 8) rfl q8
        replace q9 := kn (HF 9) rfl q9
        replace q10 := kn (HF 10) rfl q10
        replace q12 := kn (HF 12) rfl q12
        have q13' := ksv (HF 13) rfl rfl rfl
        replace q13 := q13'; clear q13'
        replace q15 := kn (HF 15) rfl q15
        replace q45 := kn (HF 45) rfl q45
        replace q46 := kn (HF 46) rfl q46
        replace q47 := kn (HF 47) rfl q47
        clear hA HF; have hA := hA'; clear hA'
        replace f5 := GR.v_ext _ f5 hE
        replace f8 := GR.v_ext _ f8 hE
        replace hB := Base.step hB hE hO; clear hE
        obtain ⟨x15, hx_, h⟩ := Comp.run_bind h; replace hx_ := Comp.run_pure hx_; rw [hx_] at q13; clear hx_
        refine (li_nil ?_)
        refine (nx_then ?_)
        refine wp_seq ?_
        refine wp_seq ?_
        obtain ⟨x16, hx16, h⟩ := Comp.run_bind h
        refine' region [_, _, _, _, _, _, _, _, _, _, _, SP.ptr rBool O13 x16, SP.isv (.bool x16), _] mixed hA (.cons ?z14_0 (.cons ?z14_1 (.cons ?z14_2 (.cons ?z14_3 (.cons ?z14_4 (.cons ?z14_5 (.cons ?z14_6 (.cons ?z14_7 (.cons ?z14_8 (.cons ?z14_9 (.cons ?z14_10 (.cons ?z14_11 (.cons ?z14_12 (.cons ?z14_13 .nil)))))))))))))) ?zok14 ?zgd14 ?zk14
        case z14_0 => intro a' w' hE hK hg; exact ok_move (kn (hK 15 rfl) rfl q15)
        case z14_1 => intro a' w' hE hK hg; exact ok_lss (ksv (j := 0) (hK 59 rfl) rfl rfl rfl) rfl
        case z14_2 => intro a' w' hE hK hg; exact ok_move (ksv (j := 1) (hK 60 rfl) rfl rfl rfl)
        case z14_3 => intro a' w' hE hK hg; exact ok_move (kn (hK 15 rfl) rfl q15)
        case z14_4 => intro a' w' hE hK hg; exact ok_move (kn (hK 9 rfl) rfl q9)
        case z14_5 => intro a' w' hE hK hg; exact okl_len (r := rBool) ty71 (ksv (j := 4) (hK 63 rfl) rfl rfl hg) (rd_of (GR.v_ext _ f5 hE))
        case z14_6 => intro a' w' hE hK hg; exact ok_geq (ksv (j := 3) (hK 62 rfl) rfl rfl hg) (ksv (j := 5) (hK 64 rfl) rfl rfl hg)
        case z14_7 => intro a' w' hE hK hg; exact ok_pick (ksv (j := 2) (hK 61 rfl) rfl rfl rfl) (fun _ => rfl) (fun hb => ksv (j := 6) (hK 65 rfl) rfl rfl (act_g1 rfl rfl hb))
        case z14_8 => intro a' w' hE hK hg; exact ok_move (ksv (j := 7) (hK 66 rfl) rfl rfl rfl)
        case z14_9 => intro a' w' hE hK hg; exact ok_move (kn (hK 9 rfl) rfl q9)
        case z14_10 => intro a' w' hE hK hg; exact ok_move (kn (hK 15 rfl) rfl q15)
        case z14_11 => intro a' w' hE hK hg; exact okl_idx (r := rBool) (O := O13) ty71 ty4 rfl (ksv (j := 9) (hK 68 rfl) rfl rfl hg) (rd_of (GR.v_ext _ f5 hE)) (ksv (j := 10) (hK 69 rfl) rfl rfl hg) (run_gdb hx16 hg)
        case z14_12 => intro a' w' hE hK hg; exact okl_ldr rBool (fun _ => rfl) ty4 rfl rfl rfl (kspS (φ := SP.ptr rBool O13 x16) (j := 11) (hK 70 rfl) rfl rfl hg) (fun _ _ _ h => rBool_v.1 h)
        case z14_13 => intro a' w' hE hK hg; exact ok_pick (ksv (j := 8) (hK 67 rfl) rfl rfl rfl) (fun _ => rfl) (fun hb => ksv (j := 12) (hK 71 rfl) rfl rfl (act_g1 rfl rfl hb))
        case zok14 => kernel_rfl
        case zgd14 => kernel_rfl
        intro a15 w15 hA' hE HF
        replace q7 := kn (HF 7) rfl q7
        replace q8 := kn (HF 8) rfl q8
        replace q9 := kn (HF 9) rfl q9
        replace q10 := kn (HF 10) rfl q10
        replace q12 := kn (HF 12) rfl q12
        replace q13 := kn (HF 13) rfl q13
        replace q15 := kn (HF 15) rfl q15
        replace q45 := kn (HF 45) rfl q45
        replace q46 := kn (HF 46) rfl q46
        replace q47 := kn (HF 47) rfl q47
        have q72 := ksv (HF 72) rfl rfl rfl
        clear hA HF; have hA := hA'; clear hA'
        replace f5 := GR.v_ext _ f5 hE
        replace f8 := GR.v_ext _ f8 hE
        replace hB := Base.step hB hE hO; clear hE
        obtain ⟨x17, hx_, h⟩ := Comp.run_bind h; replace hx_ := Comp.run_pure hx_; rw [hx_] at q72; clear hx_
        refine (li_nil ?_)
        refine (nx_then ?_)
        refine wp_cond_b q72 (fun hc => ?_) (fun hc => ?_)
        ·
          replace h := Comp.run_b_t hc h; clear hc
          refine wp_seq ?_
          refine' region [_] mixed hA (.cons ?z15_0 .nil) ?zok15 ?zgd15 ?zk15
          case z15_0 => intro a' w' hE hK hg; exact ok_assign rfl
          case zok15 => kernel_rfl
          case zgd15 => kernel_rfl
          intro a16 w16 hA' hE HF
          have q6 := ksv (HF 6) rfl rfl rfl
          clear q7
          clear q8
          clear q9
          clear q10
          clear q12
          clear q13
          clear q15
          clear q45
          clear q46
          clear q47
          clear q72
          clear hA HF; have hA := hA'; clear hA'
          replace f5 := GR.v_ext _ f5 hE
          replace f8 := GR.v_ext _ f8 hE
          replace hB := Base.step hB hE hO; clear hE
          refine (li_nil ?_)
          refine (nx_then ?_)
          refine (wp_ret (rt_then (rt_blk (rt_then (rt_then (rt_blk (rt_then ?_)))))))
          have hd_ := hdone2 _ (Comp.run_pure h).symm; clear h
          subst hd_; have h := hk2; clear hk2; try dsimp only at h
          have h := Comp.run_pure h; subst h
          exact retPure Try.results12 hA q6 hB.ext rfl
        ·
          replace h := Comp.run_b_f hc h; clear hc
          refine wp_skip ?_
          refine (nx_then ?_)
          refine wp_seq ?_
          refine' region [_, _] mixed hA (.cons ?z16_0 (.cons ?z16_1 .nil)) ?zok16 ?zgd16 ?zk16
          case z16_0 => intro a' w' hE hK hg; exact ok_move (kn (hK 8 rfl) rfl q8)
          case z16_1 => intro a' w' hE hK hg; exact ok_move rfl
          case zok16 => kernel_rfl
          case zgd16 => kernel_rfl
          intro a17 w17 hA' hE HF
          replace q7 := kn (HF 7) rfl q7
          replace q8 := kn (HF 8) rfl q8
          replace q9 := kn (HF 9) rfl q9
          replace q10 := kn (HF 10) rfl q10
          replace q12 := kn (HF 12) rfl q12
          replace q13 := kn (HF 13) rfl q13
          replace q15 := kn (HF 15) rfl q15
          replace q45 := kn (HF 45) rfl q45
          replace q46 := kn (HF 46) rfl q46
          replace q47 := kn (HF 47) rfl q47
          have q73 := ksv (HF 73) rfl rfl rfl
          have q74 := ksv (HF 74) rfl rfl rfl
          clear q72
          clear hA HF; have hA := hA'; clear hA'
          replace f5 := GR.v_ext _ f5 hE
          replace f8 := GR.v_ext _ f8 hE
          replace hB := Base.step hB hE hO; clear hE
          refine (li_nil ?_)
          refine (nx_then ?_)
          refine wp_block ?_
          obtain ⟨e3, he3, hk3⟩ := Comp.run_bind h; clear h
          refine loop_m (fun m a w => ∃ (O20 : Tags) (x19 : Int), a.fit 160 ∧ Base (Fr w0) O w0 O20 w ∧ a.get 7 = .bool x1 ∧ a.get 8 = .int .i64 (Int.tmod (IntKind.wrap .i64 x_1) 7) ∧ a.get 9 = u4 ∧ (rSl rBool).v O20 w u4 x3 ∧ a.get 10 = u7 ∧ (rSl (rInt .i64)).v O20 w u7 x6.1 ∧ a.get 12 = .int .i64 x10 ∧ a.get 13 = .bool x15 ∧ a.get 15 = .int .i64 x14 ∧ a.get 45 = u7 ∧ a.get 46 = .int .i64 (x6.1.length : Int) ∧ a.get 47 = .int .i64 x12 ∧ a.get 73 = .int .i64 (Int.tmod (IntKind.wrap .i64 x_1) 7) ∧ a.get 74 = .int .i64 x19 ∧ Comp.loopN (fun s => colletlaw32_CoreRefuses_l3 x_1 x14 x3 s) n m x19 = some e3) (m := n) ?st3 ?_
          case st3 =>
            exact ⟨_, _, hA, hB, q7, q8, q9, f5, q10, f8, q12, q13, q15, q45, q46, q47, q73, q74, Comp.run_loop he3⟩
          intro m_ a18 w18 hI
          clear hA hB he3 q7 q8 q9 q10 q12 q13 q15 q45 q46 q47 q73 q74 f5 f8
          obtain ⟨O20, x19, hA, hB, q7, q8, q9, f5, q10, f8, q12, q13, q15, q45, q46, q47, q73, q74, hl⟩ := hI
          obtain ⟨m3, hlt3, st3, h, hnext3, hdone3⟩ := Comp.loopN_succ hl; clear hl
          replace h : (colletlaw32_CoreRefuses_l3 x_1 x14 x3 x19).run n = some st3 := h
          unfold colletlaw32_CoreRefuses_l3 at h
          refine wp_seq ?_
          refine' region [_] mixed hA (.cons ?z17_0 .nil) ?zok17 ?zgd17 ?zk17
          case z17_0 => intro a' w' hE hK hg; exact ok_lss (kn (hK 74 rfl) rfl q74) (kn (hK 73 rfl) rfl q73)
          case zok17 => kernel_rfl
          case zgd17 => kernel_rfl
          intro a19 w19 hA' hE HF
          replace q7 := kn (HF 7) rfl q7
          replace q8 := kn (HF 8) rfl q8
          replace q9 := kn (HF 9) rfl q9
          replace q10 := kn (HF 10) rfl q10
          replace q12 := kn (HF 12) rfl q12
          replace q13 := kn (HF 13) rfl q13
          replace q15 := kn (HF 15) rfl q15
          replace q45 := kn (HF 45) rfl q45
          replace q46 := kn (HF 46) rfl q46
          replace q47 := kn (HF 47) rfl q47
          replace q73 := kn (HF 73) rfl q73
          replace q74 := kn (HF 74) rfl q74
          have q75 := ksv (HF 75) rfl rfl rfl
          clear hA HF; have hA := hA'; clear hA'
          replace f5 := GR.v_ext _ f5 hE
          replace f8 := GR.v_ext _ f8 hE
          replace hB := Base.step hB hE hO; clear hE
          obtain ⟨x21, hx_, h⟩ := Comp.run_bind h; replace hx_ := Comp.run_pure hx_; rw [hx_] at q75; clear hx_
          refine (li_nil ?_)
          refine (nx_then ?_)
          refine wp_seq ?_
          refine wp_cond_b q75 (fun hc => ?_) (fun hc => ?_)
          ·
            replace h := Comp.run_b_t hc h; clear hc
            refine wp_skip ?_
            refine (nx_then ?_)
            refine wp_seq ?_
            refine wp_block ?_
            refine wp_seq ?_
            refine' region [_, _] mixed hA (.cons ?z18_0 (.cons ?z18_1 .nil)) ?zok18 ?zgd18 ?zk18
            case z18_0 => intro a' w' hE hK hg; exact ok_move (kn (hK 74 rfl) rfl q74)
            case z18_1 => intro a' w' hE hK hg; exact ok_assign (ksv (j := 0) (hK 76 rfl) rfl rfl rfl)
            case zok18 => kernel_rfl
            case zgd18 => kernel_rfl
            intro a20 w20 hA' hE HF
            replace q7 := kn (HF 7) rfl q7
            replace q8 := kn (HF 8) rfl q8
            replace q9 := kn (HF 9) rfl q9
            replace q10 := kn (HF 10) rfl q10
            replace q12 := kn (HF 12) rfl q12
            replace q13 := kn (HF 13) rfl q13
            replace q15 := kn (HF 15) rfl q15
            have q16 := ksv (HF 16) rfl rfl rfl
            replace q45 := kn (HF 45) rfl q45
            replace q46 := kn (HF 46) rfl q46
            replace q47 := kn (HF 47) rfl q47
            replace q73 := kn (HF 73) rfl q73
            replace q74 := kn (HF 74) rfl q74
            clear q75
            clear hA HF; have hA := hA'; clear hA'
            replace f5 := GR.v_ext _ f5 hE
            replace f8 := GR.v_ext _ f8 hE
            replace hB := Base.step hB hE hO; clear hE
            refine (li_nil ?_)
            refine (nx_then ?_)
            refine wp_seq ?_
            obtain ⟨x22, hx22, h⟩ := Comp.run_bind h
            obtain ⟨x23, hx23, h⟩ := Comp.run_bind h
            obtain ⟨x24, hx24, h⟩ := Comp.run_bind h
            refine' region [_, _, _, _, _, _, _, _, _, _, _, SP.ptr rBool O20 x24, SP.isv (.bool x24), _, _] mixed hA (.cons ?z19_0 (.cons ?z19_1 (.cons ?z19_2 (.cons ?z19_3 (.cons ?z19_4 (.cons ?z19_5 (.cons ?z19_6 (.cons ?z19_7 (.cons ?z19_8 (.cons ?z19_9 (.cons ?z19_10 (.cons ?z19_11 (.cons ?z19_12 (.cons ?z19_13 (.cons ?z19_14 .nil))))))))))))))) ?zok19 ?zgd19 ?zk19
            case z19_0 => intro a' w' hE hK hg; exact ok_move (kn (hK 15 rfl) rfl q15)
            case z19_1 => intro a' w' hE hK hg; exact ok_move (kn (hK 16 rfl) rfl q16)
            case z19_2 => intro a' w' hE hK hg; exact okl_shr (ksv (j := 0) (hK 77 rfl) rfl rfl rfl) (ksv (j := 1) (hK 78 rfl) rfl rfl rfl) (run_nonneg hx22)
            case z19_3 => intro a' w' hE hK hg; exact okb_and (ksv (j := 2) (hK 79 rfl) rfl rfl rfl) rfl
            case z19_4 => intro a' w' hE hK hg; exact ok_eqlI (ksv (j := 3) (hK 80 rfl) rfl rfl rfl) rfl
            case z19_5 => intro a' w' hE hK hg; exact ok_move (ksv (j := 4) (hK 81 rfl) rfl rfl rfl)
            case z19_6 => intro a' w' hE hK hg; exact ok_move (kn (hK 9 rfl) rfl q9)
            case z19_7 => intro a' w' hE hK hg; exact ok_move (kn (hK 15 rfl) rfl q15)
            case z19_8 => intro a' w' hE hK hg; exact ok_move (kn (hK 16 rfl) rfl q16)
            case z19_9 => intro a' w' hE hK hg; exact okl_shl rfl (ksv (j := 8) (hK 85 rfl) rfl rfl hg) (run_nonneg (run_gdb hx23 hg))
            case z19_10 => intro a' w' hE hK hg; exact okb_andNot (ksv (j := 7) (hK 84 rfl) rfl rfl hg) (ksv (j := 9) (hK 86 rfl) rfl rfl hg)
            case z19_11 => intro a' w' hE hK hg; exact okl_idx (r := rBool) (O := O20) ty71 ty4 rfl (ksv (j := 6) (hK 83 rfl) rfl rfl hg) (rd_of (GR.v_ext _ f5 hE)) (ksv (j := 10) (hK 87 rfl) rfl rfl hg) (run_gdb hx24 hg)
            case z19_12 => intro a' w' hE hK hg; exact okl_ldr rBool (fun _ => rfl) ty4 rfl rfl rfl (kspS (φ := SP.ptr rBool O20 x24) (j := 11) (hK 88 rfl) rfl rfl hg) (fun _ _ _ h => rBool_v.1 h)
            case z19_13 => intro a' w' hE hK hg; exact ok_not (ksv (j := 12) (hK 89 rfl) rfl rfl hg)
            case z19_14 => intro a' w' hE hK hg; exact ok_pick (ksv (j := 5) (hK 82 rfl) rfl rfl rfl) (fun hb => ksv (j := 13) (hK 90 rfl) rfl rfl (act_g1 rfl rfl hb)) (fun _ => rfl)
            case zok19 => kernel_rfl
            case zgd19 => kernel_rfl
            intro a21 w21 hA' hE HF
            replace q7 := kn (HF 7) rfl q7
            replace q8 := kn (HF 8) rfl q8
            replace q9 := kn (HF 9) rfl q9
            replace q10 := kn (HF 10) rfl q10
            replace q12 := kn (HF 12) rfl q12
            replace q13 := kn (HF 13) rfl q13
            replace q15 := kn (HF 15) rfl q15
            replace q45 := kn (HF 45) rfl q45
            replace q46 := kn (HF 46) rfl q46
            replace q47 := kn (HF 47) rfl q47
            replace q73 := kn (HF 73) rfl q73
            replace q74 := kn (HF 74) rfl q74
            have q91 := ksv (HF 91) rfl rfl rfl
            clear q16
            clear hA HF; have hA := hA'; clear hA'
            replace f5 := GR.v_ext _ f5 hE
            replace f8 := GR.v_ext _ f8 hE
            replace hB := Base.step hB hE hO; clear hE
            obtain ⟨x25, hx_, h⟩ := Comp.run_bind h; replace hx_ := Comp.run_pure hx_; rw [hx_] at q91; clear hx_
            refine (li_nil ?_)
            refine (nx_then ?_)
            refine wp_cond_b q91 (fun hc => ?_) (fun hc => ?_)
            ·
              replace h := Comp.run_b_t hc h; clear hc
              refine wp_seq ?_
              refine' region [_] mixed hA (.cons ?z20_0 .nil) ?zok20 ?zgd20 ?zk20
              case z20_0 => intro a' w' hE hK hg; exact ok_assign rfl
              case zok20 => kernel_rfl
              case zgd20 => kernel_rfl
              intro a22 w22 hA' hE HF
              have q6 := ksv (HF 6) rfl rfl rfl
              clear q7
              clear q8
              clear q9
              clear q10
              clear q12
              clear q13
              clear q15
              clear q45
              clear q46
              clear q47
              clear q73
              clear q74
              clear q91
              clear hA HF; have hA := hA'; clear hA'
              replace f5 := GR.v_ext _ f5 hE
              replace f8 := GR.v_ext _ f8 hE
              replace hB := Base.step hB hE hO; clear hE
              refine (li_nil ?_)
              refine (nx_then ?_)
              refine (wp_ret (rt_blk (rt_then (rt_then (rt_blk (rt_blk (rt_then (rt_then (rt_blk (rt_then ?_))))))))))
              have hd_ := hdone3 _ (Comp.run_pure h).symm; clear h
              subst hd_; have h := hk3; clear hk3; try dsimp only at h
              have hd_ := hdone2 _ (Comp.run_pure h).symm; clear h
              subst hd_; have h := hk2; clear hk2; try dsimp only at h
              have h := Comp.run_pure h; subst h
              exact retPure Try.results12 hA q6 hB.ext rfl
            ·
              replace h := Comp.run_b_f hc h; clear hc
              refine wp_skip ?_
              refine (nx_blk (nx_then ?_))
              refine' region [_, _] mixed hA (.cons ?z21_0 (.cons ?z21_1 .nil)) ?zok21 ?zgd21 ?zk21
              case z21_0 => intro a' w' hE hK hg; exact ok_add (kn (hK 74 rfl) rfl q74) rfl
              case z21_1 => intro a' w' hE hK hg; exact ok_move (ksv (j := 0) (hK 92 rfl) rfl rfl rfl)
              case zok21 => kernel_rfl
              case zgd21 => kernel_rfl
              intro a23 w23 hA' hE HF
              replace q7 := kn (HF 7) rfl q7
              replace q8 := kn (HF 8) rfl q8
              replace q9 := kn (HF 9) rfl q9
              replace q10 := kn (HF 10) rfl q10
              replace q12 := kn (HF 12) rfl q12
              replace q13 := kn (HF 13) rfl q13
              replace q15 := kn (HF 15) rfl q15
              replace q45 := kn (HF 45) rfl q45
              replace q46 := kn (HF 46) rfl q46
              replace q47 := kn (HF 47) rfl q47
              replace q73 := kn (HF 73) rfl q73
              have q74' := ksv (HF 74) rfl rfl rfl
              replace q74 := q74'; clear q74'
              clear q91
              clear hA HF; have hA := hA'; clear hA'
              replace f5 := GR.v_ext _ f5 hE
              replace f8 := GR.v_ext _ f8 hE
              replace hB := Base.step hB hE hO; clear hE
              refine (li_nil ?_)
              refine (nx_then ?_)
              have h := hnext3 _ (Comp.run_pure h).symm
              refine ⟨m3, hlt3, ?_⟩
              exact ⟨_, _, hA, hB, q7, q8, q9, f5, q10, f8, q12, q13, q15, q45, q46, q47, q73, q74, h⟩
          ·
            replace h := Comp.run_b_f hc h; clear hc
            refine wp_exit ?_
            refine (ex_then (ex_then (ex_same ?_)))
            have hd_ := hdone3 _ (Comp.run_pure h).symm; clear h
            subst hd_; have h := hk3; clear hk3; try dsimp only at h
            refine (nx_blk (nx_then ?_))
            refine' region [_, _] mixed hA (.cons ?z22_0 (.cons ?z22_1 .nil)) ?zok22 ?zgd22 ?zk22
            case z22_0 => intro a' w' hE hK hg; exact ok_add (kn (hK 47 rfl) rfl q47) rfl
            case z22_1 => intro a' w' hE hK hg; exact ok_move (ksv (j := 0) (hK 93 rfl) rfl rfl rfl)
            case zok22 => kernel_rfl
            case zgd22 => kernel_rfl
            intro a24 w24 hA' hE HF
            replace q7 := kn (HF 7) rfl q7
            replace q8 := kn (HF 8) rfl q8
            replace q9 := kn (HF 9) rfl q9
            replace q10 := kn (HF 10) rfl q10
            replace q12 := kn (HF 12) rfl q12
            replace q13 := kn (HF 13) rfl q13
            replace q45 := kn (HF 45) rfl q45
            replace q46 := kn (HF 46) rfl q46
            have q47' := ksv (HF 47) rfl rfl rfl
            replace q47 := q47'; clear q47'
            clear q15
            clear q73
            clear q74
            clear q75
            clear hA HF; have hA := hA'; clear hA'
            replace f5 := GR.v_ext _ f5 hE
            replace f8 := GR.v_ext _ f8 hE
            replace hB := Base.step hB hE hO; clear hE
            refine (li_nil ?_)
            refine (nx_then ?_)
            have h := hnext2 _ (Comp.run_pure h).symm
            refine ⟨m2, hlt2, ?_⟩
            exact ⟨_, _, _, hA, hB, q7, q8, q9, f5, q10, f8, q12, q13, q45, q46, q47, h⟩
      ·
        replace h := Comp.run_b_f hc h; clear hc
        refine wp_exit ?_
        refine (ex_then (ex_then (ex_same ?_)))
        have hd_ := hdone2 _ (Comp.run_pure h).symm; clear h
        subst hd_; have h := hk2; clear hk2; try dsimp only at h
        refine (nx_then ?_)
        exact ⟨_, _, hA, hB, q7, q8, q9, f5, q10, f8, q12, q13, h⟩
    intro a25 w25 hI
    clear hA hB h q7 q8 q9 q10 q12 q13 f5 f8
    obtain ⟨O30, x29, hA, hB, q7, q8, q9, f5, q10, f8, q12, q13, h⟩ := hI
    unfold colletlaw32_CoreRefuses_j1 at h
    refine wp_seq ?_
    obtain ⟨x31, hx31, h⟩ := Comp.run_bind h
    refine' region [_, _, SP.tup2 (SP.vl (rSl (rInt .i64)) O30 x31.1) (SP.isv (.int .i64 x31.2)), SP.tup2 (SP.vl (rSl (rInt .i64)) O30 x31.1) (SP.isv (.int .i64 x31.2)), SP.vl (rSl (rInt .i64)) O30 x31.1, SP.isv (.int .i64 x31.2), SP.vl (rSl (rInt .i64)) O30 x31.1, _] mixed hA (.cons ?z23_0 (.cons ?z23_1 (.cons ?z23_2 (.cons ?z23_3 (.cons ?z23_4 (.cons ?z23_5 (.cons ?z23_6 (.cons ?z23_7 .nil)))))))) ?zok23 ?zgd23 ?zk23
    case z23_0 => intro a' w' hE hK hg; exact ok_move (kn (hK 10 rfl) rfl q10)
    case z23_1 => intro a' w' hE hK hg; exact ok_move (kn (hK 8 rfl) rfl q8)
    case z23_2 => intro a' w' hE hK hg; have c_ := ok_core_Hitting (OkO.ext hB.ok hE) (GR.v_ext _ f8 hE) hx31; exact ok_weak (ok_call2 fn46 (ksv (j := 0) (hK 95 rfl) rfl rfl rfl) (ksv (j := 1) (hK 96 rfl) rfl rfl rfl) c_) (fun _ _ _ ⟨a_, b_, e0_, h0_, h1_⟩ => ⟨a_, b_, e0_, (fun h => (OwnR.val h (fun g hg => (OkO.ext hB.ok hE) g (OwnR.ge h g hg).1))) h0_, h1_⟩)
    case z23_3 => intro a' w' hE hK hg; exact ok_move_pr (φ := SP.tup2 (SP.vl (rSl (rInt .i64)) O30 x31.1) (SP.isv (.int .i64 x31.2))) (kspS (φ := SP.tup2 (SP.vl (rSl (rInt .i64)) O30 x31.1) (SP.isv (.int .i64 x31.2))) (j := 2) (hK 97 rfl) rfl rfl rfl)
    case z23_4 => intro a' w' hE hK hg; exact okl_ext0 (kspS (φ := SP.tup2 (SP.vl (rSl (rInt .i64)) O30 x31.1) (SP.isv (.int .i64 x31.2))) (j := 3) (hK 94 rfl) rfl rfl rfl)
    case z23_5 => intro a' w' hE hK hg; exact okl_ext1 (kspS (φ := SP.tup2 (SP.vl (rSl (rInt .i64)) O30 x31.1) (SP.isv (.int .i64 x31.2))) (j := 3) (hK 94 rfl) rfl rfl rfl)
    case z23_6 => intro a' w' hE hK hg; exact ok_assign_pr (φ := SP.vl (rSl (rInt .i64)) O30 x31.1) (kspS (φ := SP.vl (rSl (rInt .i64)) O30 x31.1) (j := 4) (hK 98 rfl) rfl rfl rfl)
    case z23_7 => intro a' w' hE hK hg; exact ok_assign (ksv (j := 5) (hK 99 rfl) rfl rfl rfl)
    case zok23 => kernel_rfl
    case zgd23 => kernel_rfl
    intro a26 w26 hA' hE HF
    replace q7 := kn (HF 7) rfl q7
    replace q8 := kn (HF 8) rfl q8
    replace q9 := kn (HF 9) rfl q9
    replace q12 := kn (HF 12) rfl q12
    replace q13 := kn (HF 13) rfl q13
    have f33 := ksp (HF 17) rfl rfl rfl
    obtain ⟨u32, q17'⟩ : ∃ u, a26.get 17 = u := ⟨_, rfl⟩
    rw [q17'] at f33
    have q17 := q17'; clear q17'
    have q18 := ksv (HF 18) rfl rfl rfl
    clear q10
    clear hA HF; have hA := hA'; clear hA'
    replace f5 := GR.v_ext _ f5 hE
    replace f8 := GR.v_ext _ f8 hE
    replace hB := Base.step hB hE hO; clear hE
    refine (li_nil ?_)
    refine (nx_then ?_)
    refine wp_seq ?_
    refine wp_seq ?_
    obtain ⟨x34, hx34, h⟩ := Comp.run_bind h
    refine' region [_, _, _, _, _, _, SP.ptr rBool O30 x34, SP.isv (.bool x34), _, _] mixed hA (.cons ?z24_0 (.cons ?z24_1 (.cons ?z24_2 (.cons ?z24_3 (.cons ?z24_4 (.cons ?z24_5 (.cons ?z24_6 (.cons ?z24_7 (.cons ?z24_8 (.cons ?z24_9 .nil)))))))))) ?zok24 ?zgd24 ?zk24
    case z24_0 => intro a' w' hE hK hg; exact ok_move (kn (hK 18 rfl) rfl q18)
    case z24_1 => intro a' w' hE hK hg; exact ok_neqI (ksv (j := 0) (hK 100 rfl) rfl rfl rfl) rfl
    case z24_2 => intro a' w' hE hK hg; exact ok_move (ksv (j := 1) (hK 101 rfl) rfl rfl rfl)
    case z24_3 => intro a' w' hE hK hg; exact ok_move (kn (hK 13 rfl) rfl q13)
    case z24_4 => intro a' w' hE hK hg; exact ok_move (kn (hK 9 rfl) rfl q9)
    case z24_5 => intro a' w' hE hK hg; exact ok_move (kn (hK 12 rfl) rfl q12)
    case z24_6 => intro a' w' hE hK hg; exact okl_idx (r := rBool) (O := O30) ty71 ty4 rfl (ksv (j := 4) (hK 104 rfl) rfl rfl hg) (rd_of (GR.v_ext _ f5 hE)) (ksv (j := 5) (hK 105 rfl) rfl rfl hg) (run_gdb hx34 hg)
    case z24_7 => intro a' w' hE hK hg; exact okl_ldr rBool (fun _ => rfl) ty4 rfl rfl rfl (kspS (φ := SP.ptr rBool O30 x34) (j := 6) (hK 106 rfl) rfl rfl hg) (fun _ _ _ h => rBool_v.1 h)
    case z24_8 => intro a' w' hE hK hg; exact ok_eqlB ty4 (ksv (j := 3) (hK 103 rfl) rfl rfl hg) (ksv (j := 7) (hK 107 rfl) rfl rfl hg)
    case z24_9 => intro a' w' hE hK hg; exact ok_pick (ksv (j := 2) (hK 102 rfl) rfl rfl rfl) (fun _ => rfl) (fun hb => ksv (j := 8) (hK 108 rfl) rfl rfl (act_g1 rfl rfl hb))
    case zok24 => kernel_rfl
    case zgd24 => kernel_rfl
    intro a27 w27 hA' hE HF
    replace q7 := kn (HF 7) rfl q7
    replace q8 := kn (HF 8) rfl q8
    replace q9 := kn (HF 9) rfl q9
    replace q12 := kn (HF 12) rfl q12
    replace q17 := kn (HF 17) rfl q17
    have q109 := ksv (HF 109) rfl rfl rfl
    clear q13
    clear q18
    clear hA HF; have hA := hA'; clear hA'
    replace f5 := GR.v_ext _ f5 hE
    replace f33 := GR.v_ext _ f33 hE
    replace hB := Base.step hB hE hO; clear hE
    obtain ⟨x35, hx_, h⟩ := Comp.run_bind h; replace hx_ := Comp.run_pure hx_; rw [hx_] at q109; clear hx_
    refine (li_nil ?_)
    refine (nx_then ?_)
    refine wp_cond_b q109 (fun hc => ?_) (fun hc => ?_)
    ·
      replace h := Comp.run_b_t hc h; clear hc
      refine wp_seq ?_
      refine' region [_] mixed hA (.cons ?z25_0 .nil) ?zok25 ?zgd25 ?zk25
      case z25_0 => intro a' w' hE hK hg; exact ok_assign rfl
      case zok25 => kernel_rfl
      case zgd25 => kernel_rfl
      intro a28 w28 hA' hE HF
      have q6 := ksv (HF 6) rfl rfl rfl
      clear q7
      clear q8
      clear q9
      clear q12
      clear q17
      clear q109
      clear hA HF; have hA := hA'; clear hA'
      replace f5 := GR.v_ext _ f5 hE
      replace f33 := GR.v_ext _ f33 hE
      replace hB := Base.step hB hE hO; clear hE
      refine (li_nil ?_)
      refine (nx_then ?_)
      refine (wp_ret (rt_then ?_))
      have h := Comp.run_pure h; subst h
      exact retPure Try.results12 hA q6 hB.ext rfl
    ·
      replace h := Comp.run_b_f hc h; clear hc
      refine wp_skip ?_
      refine (nx_then ?_)
      refine wp_seq ?_
      refine' region [_] mixed hA (.cons ?z26_0 .nil) ?zok26 ?zgd26 ?zk26
      case z26_0 => intro a' w' hE hK hg; exact ok_assign rfl
      case zok26 => kernel_rfl
      case zgd26 => kernel_rfl
      intro a29 w29 hA' hE HF
      replace q7 := kn (HF 7) rfl q7
      replace q8 := kn (HF 8) rfl q8
      replace q9 := kn (HF 9) rfl q9
      replace q12 := kn (HF 12) rfl q12
      replace q17 := kn (HF 17) rfl q17
      have q19 := ksv (HF 19) rfl rfl rfl
      clear q109
      clear hA HF; have hA := hA'; clear hA'
      replace f5 := GR.v_ext _ f5 hE
      replace f33 := GR.v_ext _ f33 hE
      replace hB := Base.step hB hE hO; clear hE
      refine (li_nil ?_)
      refine (nx_then ?_)
      refine seq_join (fun a w => ∃ (O45 : Tags) (x44 : Bool), a.fit 160 ∧ Base (Fr w0) O w0 O45 w ∧ a.get 7 = .bool x1 ∧ a.get 8 = .int .i64 (Int.tmod (IntKind.wrap .i64 x_1) 7) ∧ a.get 9 = u4 ∧ (rSl rBool).v O45 w u4 x3 ∧ a.get 12 = .int .i64 x10 ∧ a.get 19 = .bool x44 ∧ (colletlaw32_CoreRefuses_j4 x3 x10 x_1 x1 x44).run n = some y) ?_ ?_
      ·
        refine wp_seq ?_
        refine' region [_, _, _] mixed hA (.cons ?z27_0 (.cons ?z27_1 (.cons ?z27_2 .nil))) ?zok27 ?zgd27 ?zk27
        case z27_0 => intro a' w' hE hK hg; exact ok_move (kn (hK 17 rfl) rfl q17)
        case z27_1 => intro a' w' hE hK hg; exact okl_len (r := (rInt .i64)) ty58 (ksv (j := 0) (hK 110 rfl) rfl rfl rfl) (rd_of (GR.v_ext _ f33 hE))
        case z27_2 => intro a' w' hE hK hg; exact ok_move rfl
        case zok27 => kernel_rfl
        case zgd27 => kernel_rfl
        intro a30 w30 hA' hE HF
        replace q7 := kn (HF 7) rfl q7
        replace q8 := kn (HF 8) rfl q8
        replace q9 := kn (HF 9) rfl q9
        replace q12 := kn (HF 12) rfl q12
        replace q19 := kn (HF 19) rfl q19
        have q110 := ksv (HF 110) rfl rfl rfl
        have q111 := ksv (HF 111) rfl rfl rfl
        have q112 := ksv (HF 112) rfl rfl rfl
        clear q17
        clear hA HF; have hA := hA'; clear hA'
        replace f5 := GR.v_ext _ f5 hE
        replace f33 := GR.v_ext _ f33 hE
        replace hB := Base.step hB hE hO; clear hE
        refine (li_nil ?_)
        refine (nx_then ?_)
        refine wp_block ?_
        obtain ⟨e5, he5, hk5⟩ := Comp.run_bind h; clear h
        refine loop_m (fun m a w => ∃ (O38 : Tags) (x36 : Bool) (x37 : Int), a.fit 160 ∧ Base (Fr w0) O w0 O38 w ∧ a.get 7 = .bool x1 ∧ a.get 8 = .int .i64 (Int.tmod (IntKind.wrap .i64 x_1) 7) ∧ a.get 9 = u4 ∧ (rSl rBool).v O38 w u4 x3 ∧ a.get 12 = .int .i64 x10 ∧ a.get 19 = .bool x36 ∧ a.get 110 = u32 ∧ (rSl (rInt .i64)).v O38 w u32 x31.1 ∧ a.get 111 = .int .i64 (x31.1.length : Int) ∧ a.get 112 = .int .i64 x37 ∧ Comp.loopN (fun s => colletlaw32_CoreRefuses_l5 x31 x_1 x10 s.1 s.2) n m (x36, x37) = some e5) (m := n) ?st5 ?_
        case st5 =>
          exact ⟨_, _, _, hA, hB, q7, q8, q9, f5, q12, q19, q110, f33, q111, q112, Comp.run_loop he5⟩
        intro m_ a31 w31 hI
        clear hA hB he5 q7 q8 q9 q12 q19 q110 q111 q112 f33 f5
        obtain ⟨O38, x36, x37, hA, hB, q7, q8, q9, f5, q12, q19, q110, f33, q111, q112, hl⟩ := hI
        obtain ⟨m5, hlt5, st5, h, hnext5, hdone5⟩ := Comp.loopN_succ hl; clear hl
        replace h : (colletlaw32_CoreRefuses_l5 x31 x_1 x10 x36 x37).run n = some st5 := h
        unfold colletlaw32_CoreRefuses_l5 at h
        refine wp_seq ?_
        refine' region [_] mixed hA (.cons ?z28_0 .nil) ?zok28 ?zgd28 ?zk28
        case z28_0 => intro a' w' hE hK hg; exact ok_lss (kn (hK 112 rfl) rfl q112) (kn (hK 111 rfl) rfl q111)
        case zok28 => kernel_rfl
        case zgd28 => kernel_rfl
        intro a32 w32 hA' hE HF
        replace q7 := kn (HF 7) rfl q7
        replace q8 := kn (HF 8) rfl q8
        replace q9 := kn (HF 9) rfl q9
        replace q12 := kn (HF 12) rfl q12
        replace q19 := kn (HF 19) rfl q19
        replace q110 := kn (HF 110) rfl q110
        replace q111 := kn (HF 111) rfl q111
        replace q112 := kn (HF 112) rfl q112
        have q113 := ksv (HF 113) rfl rfl rfl
        clear hA HF; have hA := hA'; clear hA'
        replace f5 := GR.v_ext _ f5 hE
        replace f33 := GR.v_ext _ f33 hE
        replace hB := Base.step hB hE hO; clear hE
        refine (li_nil ?_)
        refine (nx_then ?_)
        refine wp_seq ?_
        refine wp_cond_b q113 (fun hc => ?_) (fun hc => ?_)
        ·
          replace h := Comp.run_b_t hc h; clear hc
          refine wp_skip ?_
          refine (nx_then ?_)
          refine wp_seq ?_
          refine wp_block ?_
          refine wp_seq ?_
          obtain ⟨x39, hx39, h⟩ := Comp.run_bind h
          refine' region [SP.ptr (rInt .i64) O38 x39, SP.isv (.int .i64 x39), _] mixed hA (.cons ?z29_0 (.cons ?z29_1 (.cons ?z29_2 .nil))) ?zok29 ?zgd29 ?zk29
          case z29_0 => intro a' w' hE hK hg; exact okl_idx (r := (rInt .i64)) (O := O38) ty58 ty3 rfl (kn (hK 110 rfl) rfl q110) (rd_of (GR.v_ext _ f33 hE)) (kn (hK 112 rfl) rfl q112) hx39
          case z29_1 => intro a' w' hE hK hg; exact okl_ldr (rInt .i64) (fun _ => rfl) ty3 rfl rfl rfl (kspS (φ := SP.ptr (rInt .i64) O38 x39) (j := 0) (hK 114 rfl) rfl rfl rfl) (fun _ _ _ h => rInt_v.1 h)
          case z29_2 => intro a' w' hE hK hg; exact ok_assign (ksv (j := 1) (hK 115 rfl) rfl rfl rfl)
          case zok29 => kernel_rfl
          case zgd29 => kernel_rfl
          intro a33 w33 hA' hE HF
          replace q7 := kn (HF 7) rfl q7
          replace q8 := kn (HF 8) rfl q8
          replace q9 := kn (HF 9) rfl q9
          replace q12 := kn (HF 12) rfl q12
          replace q19 := kn (HF 19) rfl q19
          have q21 := ksv (HF 21) rfl rfl rfl
          replace q110 := kn (HF 110) rfl q110
          replace q111 := kn (HF 111) rfl q111
          replace q112 := kn (HF 112) rfl q112
          clear q113
          clear hA HF; have hA := hA'; clear hA'
          replace f5 := GR.v_ext _ f5 hE
          replace f33 := GR.v_ext _ f33 hE
          replace hB := Base.step hB hE hO; clear hE
          refine (li_nil ?_)
          refine (nx_then ?_)
          obtain ⟨x40, hx40, h⟩ := Comp.run_bind h
          refine' region [_, _, _, _, _, _, _, _, _, _, _] mixed hA (.cons ?z30_0 (.cons ?z30_1 (.cons ?z30_2 (.cons ?z30_3 (.cons ?z30_4 (.cons ?z30_5 (.cons ?z30_6 (.cons ?z30_7 (.cons ?z30_8 (.cons ?z30_9 (.cons ?z30_10 .nil))))))))))) ?zok30 ?zgd30 ?zk30
          case z30_0 => intro a' w' hE hK hg; exact ok_move (kn (hK 19 rfl) rfl q19)
          case z30_1 => intro a' w' hE hK hg; exact ok_move (ksv (j := 0) (hK 116 rfl) rfl rfl rfl)
          case z30_2 => intro a' w' hE hK hg; exact ok_move (kn (hK 8 rfl) rfl q8)
          case z30_3 => intro a' w' hE hK hg; exact okl_shl rfl (ksv (j := 2) (hK 118 rfl) rfl rfl hg) (run_nonneg (run_gdb hx40 hg))
          case z30_4 => intro a' w' hE hK hg; exact ok_sub (ksv (j := 3) (hK 119 rfl) rfl rfl hg) rfl
          case z30_5 => intro a' w' hE hK hg; exact ok_move (kn (hK 21 rfl) rfl q21)
          case z30_6 => intro a' w' hE hK hg; exact ok_sub (ksv (j := 4) (hK 120 rfl) rfl rfl hg) (ksv (j := 5) (hK 121 rfl) rfl rfl hg)
          case z30_7 => intro a' w' hE hK hg; exact ok_move (kn (hK 12 rfl) rfl q12)
          case z30_8 => intro a' w' hE hK hg; exact ok_eqlI (ksv (j := 6) (hK 122 rfl) rfl rfl hg) (ksv (j := 7) (hK 123 rfl) rfl rfl hg)
          case z30_9 => intro a' w' hE hK hg; exact ok_pick (ksv (j := 1) (hK 117 rfl) rfl rfl rfl) (fun _ => rfl) (fun hb => ksv (j := 8) (hK 124 rfl) rfl rfl (act_g1 rfl rfl hb))
          case z30_10 => intro a' w' hE hK hg; exact ok_assign (ksv (j := 9) (hK 125 rfl) rfl rfl rfl)
          case zok30 => kernel_rfl
          case zgd30 => kernel_rfl
          intro a34 w34 hA' hE HF
          replace q7 := kn (HF 7) rfl q7
          replace q8 := kn (HF 8) rfl q8
          replace q9 := kn (HF 9) rfl q9
          replace q12 := kn (HF 12) rfl q12
          have q19' := ksv (HF 19) rfl rfl rfl
          replace q19 := q19'; clear q19'
          replace q110 := kn (HF 110) rfl q110
          replace q111 := kn (HF 111) rfl q111
          replace q112 := kn (HF 112) rfl q112
          clear q21
          clear hA HF; have hA := hA'; clear hA'
          replace f5 := GR.v_ext _ f5 hE
          replace f33 := GR.v_ext _ f33 hE
          replace hB := Base.step hB hE hO; clear hE
          obtain ⟨x41, hx_, h⟩ := Comp.run_bind h; replace hx_ := Comp.run_pure hx_; rw [hx_] at q19; clear hx_
          refine (li_nil ?_)
          refine (nx_blk (nx_then ?_))
          refine' region [_, _] mixed hA (.cons ?z31_0 (.cons ?z31_1 .nil)) ?zok31 ?zgd31 ?zk31
          case z31_0 => intro a' w' hE hK hg; exact ok_add (kn (hK 112 rfl) rfl q112) rfl
          case z31_1 => intro a' w' hE hK hg; exact ok_move (ksv (j := 0) (hK 126 rfl) rfl rfl rfl)
          case zok31 => kernel_rfl
          case zgd31 => kernel_rfl
          intro a35 w35 hA' hE HF
          replace q7 := kn (HF 7) rfl q7
          replace q8 := kn (HF 8) rfl q8
          replace q9 := kn (HF 9) rfl q9
          replace q12 := kn (HF 12) rfl q12
          replace q19 := kn (HF 19) rfl q19
          replace q110 := kn (HF 110) rfl q110
          replace q111 := kn (HF 111) rfl q111
          have q112' := ksv (HF 112) rfl rfl rfl
          replace q112 := q112'; clear q112'
          clear hA HF; have hA := hA'; clear hA'
          replace f5 := GR.v_ext _ f5 hE
          replace f33 := GR.v_ext _ f33 hE
          replace hB := Base.step hB hE hO; clear hE
          refine (li_nil ?_)
          refine (nx_then ?_)
          have h := hnext5 _ (Comp.run_pure h).symm
          refine ⟨m5, hlt5, ?_⟩
          exact ⟨_, _, _, hA, hB, q7, q8, q9, f5, q12, q19, q110, f33, q111, q112, h⟩
        ·
          replace h := Comp.run_b_f hc h; clear hc
          refine wp_exit ?_
          refine (ex_then (ex_then (ex_same ?_)))
          have hd_ := hdone5 _ (Comp.run_pure h).symm; clear h
          subst hd_; have h := hk5; clear hk5; try dsimp only at h
          refine (nx_then ?_)
          exact ⟨_, _, hA, hB, q7, q8, q9, f5, q12, q19, h⟩
      intro a36 w36 hI
      clear hA hB h q7 q8 q9 q12 q17 q19 f33 f5
      obtain ⟨O45, x44, hA, hB, q7, q8, q9, f5, q12, q19, h⟩ := hI
      unfold colletlaw32_CoreRefuses_j4 at h
      refine wp_seq ?_
      obtain ⟨x46, hx46, h⟩ := Comp.run_bind h
      refine' region [_, _, SP.ptr rBool O45 x46, SP.isv (.bool x46), _] mixed hA (.cons ?z32_0 (.cons ?z32_1 (.cons ?z32_2 (.cons ?z32_3 (.cons ?z32_4 .nil))))) ?zok32 ?zgd32 ?zk32
      case z32_0 => intro a' w' hE hK hg; exact ok_move (kn (hK 9 rfl) rfl q9)
      case z32_1 => intro a' w' hE hK hg; exact ok_move (kn (hK 12 rfl) rfl q12)
      case z32_2 => intro a' w' hE hK hg; exact okl_idx (r := rBool) (O := O45) ty71 ty4 rfl (ksv (j := 0) (hK 127 rfl) rfl rfl rfl) (rd_of (GR.v_ext _ f5 hE)) (ksv (j := 1) (hK 128 rfl) rfl rfl rfl) hx46
      case z32_3 => intro a' w' hE hK hg; exact okl_ldr rBool (fun _ => rfl) ty4 rfl rfl rfl (kspS (φ := SP.ptr rBool O45 x46) (j := 2) (hK 129 rfl) rfl rfl rfl) (fun _ _ _ h => rBool_v.1 h)
      case z32_4 => intro a' w' hE hK hg; exact ok_assign (ksv (j := 3) (hK 130 rfl) rfl rfl rfl)
      case zok32 => kernel_rfl
      case zgd32 => kernel_rfl
      intro a37 w37 hA' hE HF
      replace q7 := kn (HF 7) rfl q7
      replace q8 := kn (HF 8) rfl q8
      replace q9 := kn (HF 9) rfl q9
      replace q12 := kn (HF 12) rfl q12
      replace q19 := kn (HF 19) rfl q19
      have q22 := ksv (HF 22) rfl rfl rfl
      clear hA HF; have hA := hA'; clear hA'
      replace f5 := GR.v_ext _ f5 hE
      replace hB := Base.step hB hE hO; clear hE
      refine (li_nil ?_)
      refine (nx_then ?_)
      refine seq_join (fun a w => ∃ (O58 : Tags) (x57 : Bool), a.fit 160 ∧ Base (Fr w0) O w0 O58 w ∧ a.get 7 = .bool x1 ∧ a.get 19 = .bool x44 ∧ a.get 22 = .bool x57 ∧ (colletlaw32_CoreRefuses_j6 x1 x44 x57).run n = some y) ?_ ?_
      ·
        refine wp_seq ?_
        refine' region [_, _] mixed hA (.cons ?z33_0 (.cons ?z33_1 .nil)) ?zok33 ?zgd33 ?zk33
        case z33_0 => intro a' w' hE hK hg; exact ok_move (kn (hK 8 rfl) rfl q8)
        case z33_1 => intro a' w' hE hK hg; exact ok_move rfl
        case zok33 => kernel_rfl
        case zgd33 => kernel_rfl
        intro a38 w38 hA' hE HF
        replace q7 := kn (HF 7) rfl q7
        replace q9 := kn (HF 9) rfl q9
        replace q12 := kn (HF 12) rfl q12
        replace q19 := kn (HF 19) rfl q19
        replace q22 := kn (HF 22) rfl q22
        have q131 := ksv (HF 131) rfl rfl rfl
        have q132 := ksv (HF 132) rfl rfl rfl
        clear q8
        clear hA HF; have hA := hA'; clear hA'
        replace f5 := GR.v_ext _ f5 hE
        replace hB := Base.step hB hE hO; clear hE
        refine (li_nil ?_)
        refine (nx_then ?_)
        refine wp_block ?_
        obtain ⟨e7, he7, hk7⟩ := Comp.run_bind h; clear h
        refine loop_m (fun m a w => ∃ (O49 : Tags) (x47 : Bool) (x48 : Int), a.fit 160 ∧ Base (Fr w0) O w0 O49 w ∧ a.get 7 = .bool x1 ∧ a.get 9 = u4 ∧ (rSl rBool).v O49 w u4 x3 ∧ a.get 12 = .int .i64 x10 ∧ a.get 19 = .bool x44 ∧ a.get 22 = .bool x47 ∧ a.get 131 = .int .i64 (Int.tmod (IntKind.wrap .i64 x_1) 7) ∧ a.get 132 = .int .i64 x48 ∧ Comp.loopN (fun s => colletlaw32_CoreRefuses_l7 x_1 x10 x3 s.1 s.2) n m (x47, x48) = some e7) (m := n) ?st7 ?_
        case st7 =>
          exact ⟨_, _, _, hA, hB, q7, q9, f5, q12, q19, q22, q131, q132, Comp.run_loop he7⟩
        intro m_ a39 w39 hI
        clear hA hB he7 q7 q9 q12 q19 q22 q131 q132 f5
        obtain ⟨O49, x47, x48, hA, hB, q7, q9, f5, q12, q19, q22, q131, q132, hl⟩ := hI
        obtain ⟨m7, hlt7, st7, h, hnext7, hdone7⟩ := Comp.loopN_succ hl; clear hl
        replace h : (colletlaw32_CoreRefuses_l7 x_1 x10 x3 x47 x48).run n = some st7 := h
        unfold colletlaw32_CoreRefuses_l7 at h
        refine wp_seq ?_
        refine' region [_] mixed hA (.cons ?z34_0 .nil) ?zok34 ?zgd34 ?zk34
        case z34_0 => intro a' w' hE hK hg; exact ok_lss (kn (hK 132 rfl) rfl q132) (kn (hK 131 rfl) rfl q131)
        case zok34 => kernel_rfl
        case zgd34 => kernel_rfl
        intro a40 w40 hA' hE HF
        replace q7 := kn (HF 7) rfl q7
        replace q9 := kn (HF 9) rfl q9
        replace q12 := kn (HF 12) rfl q12
        replace q19 := kn (HF 19) rfl q19
        replace q22 := kn (HF 22) rfl q22
        replace q131 := kn (HF 131) rfl q131
        replace q132 := kn (HF 132) rfl q132
        have q133 := ksv (HF 133) rfl rfl rfl
        clear hA HF; have hA := hA'; clear hA'
        replace f5 := GR.v_ext _ f5 hE
        replace hB := Base.step hB hE hO; clear hE
        obtain ⟨x50, hx_, h⟩ := Comp.run_bind h; replace hx_ := Comp.run_pure hx_; rw [hx_] at q133; clear hx_
        refine (li_nil ?_)
        refine (nx_then ?_)
        refine wp_seq ?_
        refine wp_cond_b q133 (fun hc => ?_) (fun hc => ?_)
        ·
          replace h := Comp.run_b_t hc h; clear hc
          refine wp_skip ?_
          refine (nx_then ?_)
          refine wp_seq ?_
          refine wp_block ?_
          refine wp_seq ?_
          refine' region [_, _] mixed hA (.cons ?z35_0 (.cons ?z35_1 .nil)) ?zok35 ?zgd35 ?zk35
          case z35_0 => intro a' w' hE hK hg; exact ok_move (kn (hK 132 rfl) rfl q132)
          case z35_1 => intro a' w' hE hK hg; exact ok_assign (ksv (j := 0) (hK 134 rfl) rfl rfl rfl)
          case zok35 => kernel_rfl
          case zgd35 => kernel_rfl
          intro a41 w41 hA' hE HF
          replace q7 := kn (HF 7) rfl q7
          replace q9 := kn (HF 9) rfl q9
          replace q12 := kn (HF 12) rfl q12
          replace q19 := kn (HF 19) rfl q19
          replace q22 := kn (HF 22) rfl q22
          have q23 := ksv (HF 23) rfl rfl rfl
          replace q131 := kn (HF 131) rfl q131
          replace q132 := kn (HF 132) rfl q132
          clear q133
          clear hA HF; have hA := hA'; clear hA'
          replace f5 := GR.v_ext _ f5 hE
          replace hB := Base.step hB hE hO; clear hE
          refine (li_nil ?_)
          refine (nx_then ?_)
          obtain ⟨x51, hx51, h⟩ := Comp.run_bind h
          obtain ⟨x52, hx52, h⟩ := Comp.run_bind h
          obtain ⟨x53, hx53, h⟩ := Comp.run_bind h
          refine' region [_, _, _, _, _, _, _, _, _, _, _, _, _, SP.ptr rBool O49 x53, SP.isv (.bool x53), _, _, _, _] mixed hA (.cons ?z36_0 (.cons ?z36_1 (.cons ?z36_2 (.cons ?z36_3 (.cons ?z36_4 (.cons ?z36_5 (.cons ?z36_6 (.cons ?z36_7 (.cons ?z36_8 (.cons ?z36_9 (.cons ?z36_10 (.cons ?z36_11 (.cons ?z36_12 (.cons ?z36_13 (.cons ?z36_14 (.cons ?z36_15 (.cons ?z36_16 (.cons ?z36_17 (.cons ?z36_18 .nil))))))))))))))))))) ?zok36 ?zgd36 ?zk36
          case z36_0 => intro a' w' hE hK hg; exact ok_move (kn (hK 22 rfl) rfl q22)
          case z36_1 => intro a' w' hE hK hg; exact ok_move (ksv (j := 0) (hK 135 rfl) rfl rfl rfl)
          case z36_2 => intro a' w' hE hK hg; exact ok_move (kn (hK 12 rfl) rfl q12)
          case z36_3 => intro a' w' hE hK hg; exact ok_move (kn (hK 23 rfl) rfl q23)
          case z36_4 => intro a' w' hE hK hg; exact okl_shr (ksv (j := 2) (hK 137 rfl) rfl rfl hg) (ksv (j := 3) (hK 138 rfl) rfl rfl hg) (run_nonneg (run_gdb hx51 hg))
          case z36_5 => intro a' w' hE hK hg; exact okb_and (ksv (j := 4) (hK 139 rfl) rfl rfl hg) rfl
          case z36_6 => intro a' w' hE hK hg; exact ok_eqlI (ksv (j := 5) (hK 140 rfl) rfl rfl hg) rfl
          case z36_7 => intro a' w' hE hK hg; exact ok_move (ksv (j := 6) (hK 141 rfl) rfl rfl hg)
          case z36_8 => intro a' w' hE hK hg; exact ok_move (kn (hK 9 rfl) rfl q9)
          case z36_9 => intro a' w' hE hK hg; exact ok_move (kn (hK 12 rfl) rfl q12)
          case z36_10 => intro a' w' hE hK hg; exact ok_move (kn (hK 23 rfl) rfl q23)
          case z36_11 => intro a' w' hE hK hg; exact okl_shl rfl (ksv (j := 10) (hK 145 rfl) rfl rfl hg) (run_nonneg (run_gdb hx52 hg))
          case z36_12 => intro a' w' hE hK hg; exact okb_or (ksv (j := 9) (hK 144 rfl) rfl rfl hg) (ksv (j := 11) (hK 146 rfl) rfl rfl hg)
          case z36_13 => intro a' w' hE hK hg; exact okl_idx (r := rBool) (O := O49) ty71 ty4 rfl (ksv (j := 8) (hK 143 rfl) rfl rfl hg) (rd_of (GR.v_ext _ f5 hE)) (ksv (j := 12) (hK 147 rfl) rfl rfl hg) (run_gdb hx53 hg)
          case z36_14 => intro a' w' hE hK hg; exact okl_ldr rBool (fun _ => rfl) ty4 rfl rfl rfl (kspS (φ := SP.ptr rBool O49 x53) (j := 13) (hK 148 rfl) rfl rfl hg) (fun _ _ _ h => rBool_v.1 h)
          case z36_15 => intro a' w' hE hK hg; exact ok_not (ksv (j := 14) (hK 149 rfl) rfl rfl hg)
          case z36_16 => intro a' w' hE hK hg; exact ok_pick (ksv (j := 7) (hK 142 rfl) rfl rfl hg) (fun _ => rfl) (fun hb => ksv (j := 15) (hK 150 rfl) rfl rfl (act_g1 rfl hg hb))
          case z36_17 => intro a' w' hE hK hg; exact ok_pick (ksv (j := 1) (hK 136 rfl) rfl rfl rfl) (fun hb => ksv (j := 16) (hK 151 rfl) rfl rfl (act_g1 rfl rfl hb)) (fun _ => rfl)
          case z36_18 => intro a' w' hE hK hg; exact ok_assign (ksv (j := 17) (hK 152 rfl) rfl rfl rfl)
          case zok36 => kernel_rfl
          case zgd36 => kernel_rfl
          intro a42 w42 hA' hE HF
          replace q7 := kn (HF 7) rfl q7
          replace q9 := kn (HF 9) rfl q9
          replace q12 := kn (HF 12) rfl q12
          replace q19 := kn (HF 19) rfl q19
          have q22' := ksv (HF 22) rfl rfl rfl
          replace q22 := q22'; clear q22'
          replace q131 := kn (HF 131) rfl q131
          replace q132 := kn (HF 132) rfl q132
          clear q23
          clear hA HF; have hA := hA'; clear hA'
          replace f5 := GR.v_ext _ f5 hE
          replace hB := Base.step hB hE hO; clear hE
          obtain ⟨x54, hx_, h⟩ := Comp.run_bind h; replace hx_ := Comp.run_pure hx_; rw [hx_] at q22; clear hx_
          refine (li_nil ?_)
          refine (nx_blk (nx_then ?_))
          refine' region [_, _] mixed hA (.cons ?z37_0 (.cons ?z37_1 .nil)) ?zok37 ?zgd37 ?zk37
          case z37_0 => intro a' w' hE hK hg; exact ok_add (kn (hK 132 rfl) rfl q132) rfl
          case z37_1 => intro a' w' hE hK hg; exact ok_move (ksv (j := 0) (hK 153 rfl) rfl rfl rfl)
          case zok37 => kernel_rfl
          case zgd37 => kernel_rfl
          intro a43 w43 hA' hE HF
          replace q7 := kn (HF 7) rfl q7
          replace q9 := kn (HF 9) rfl q9
          replace q12 := kn (HF 12) rfl q12
          replace q19 := kn (HF 19) rfl q19
          replace q22 := kn (HF 22) rfl q22
          replace q131 := kn (HF 131) rfl q131
          have q132' := ksv (HF 132) rfl rfl rfl
          replace q132 := q132'; clear q132'
          clear hA HF; have hA := hA'; clear hA'
          replace f5 := GR.v_ext _ f5 hE
          replace hB := Base.step hB hE hO; clear hE
          refine (li_nil ?_)
          refine (nx_then ?_)
          have h := hnext7 _ (Comp.run_pure h).symm
          refine ⟨m7, hlt7, ?_⟩
          exact ⟨_, _, _, hA, hB, q7, q9, f5, q12, q19, q22, q131, q132, h⟩
        ·
          replace h := Comp.run_b_f hc h; clear hc
          refine wp_exit ?_
          refine (ex_then (ex_then (ex_same ?_)))
          have hd_ := hdone7 _ (Comp.run_pure h).symm; clear h
          subst hd_; have h := hk7; clear hk7; try dsimp only at h
          refine (nx_then ?_)
          exact ⟨_, _, hA, hB, q7, q19, q22, h⟩
      intro a44 w44 hI
      clear hA hB h q7 q8 q9 q12 q19 q22 f5
      obtain ⟨O58, x57, hA, hB, q7, q19, q22, h⟩ := hI
      unfold colletlaw32_CoreRefuses_j6 at h
      refine wp_seq ?_
      refine' region [_, _, _, _, _, _, _] mixed hA (.cons ?z38_0 (.cons ?z38_1 (.cons ?z38_2 (.cons ?z38_3 (.cons ?z38_4 (.cons ?z38_5 (.cons ?z38_6 .nil))))))) ?zok38 ?zgd38 ?zk38
      case z38_0 => intro a' w' hE hK hg; exact ok_move (kn (hK 7 rfl) rfl q7)
      case z38_1 => intro a' w' hE hK hg; exact ok_move (ksv (j := 0) (hK 154 rfl) rfl rfl rfl)
      case z38_2 => intro a' w' hE hK hg; exact ok_move (kn (hK 19 rfl) rfl q19)
      case z38_3 => intro a' w' hE hK hg; exact ok_move (kn (hK 22 rfl) rfl q22)
      case z38_4 => intro a' w' hE hK hg; exact ok_eqlB ty4 (ksv (j := 2) (hK 156 rfl) rfl rfl hg) (ksv (j := 3) (hK 157 rfl) rfl rfl hg)
      case z38_5 => intro a' w' hE hK hg; exact ok_pick (ksv (j := 1) (hK 155 rfl) rfl rfl rfl) (fun hb => ksv (j := 4) (hK 158 rfl) rfl rfl (act_g1 rfl rfl hb)) (fun _ => rfl)
      case z38_6 => intro a' w' hE hK hg; exact ok_assign (ksv (j := 5) (hK 159 rfl) rfl rfl rfl)
      case zok38 => kernel_rfl
      case zgd38 => kernel_rfl
      intro a45 w45 hA' hE HF
      have q6 := ksv (HF 6) rfl rfl rfl
      clear q7
      clear q19
      clear q22
      clear hA HF; have hA := hA'; clear hA'
      replace hB := Base.step hB hE hO; clear hE
      obtain ⟨x59, hx_, h⟩ := Comp.run_bind h; replace hx_ := Comp.run_pure hx_; rw [hx_] at q6; clear hx_
      refine (li_nil ?_)
      refine (nx_then ?_)
      refine (wp_ret ?_)
      have h := Comp.run_pure h; subst h
      exact retPure Try.results12 hA q6 hB.ext rfl

theorem ok_colletlaw32_CoreLeasts_f1 {O : Tags} {w0 : World} (hO : OkO O w0) {x_0 : Int} {n : Nat} {y : Int} (h : (colletlaw32_CoreLeasts_f1 x_0).run n = some y) : Pure Try.prog 52 #[.int .i64 x_0] w0 (SP.isv (.int .i64 y)).holds := by
  unfold colletlaw32_CoreLeasts_f1 at h
  refine pure_of_wp Try.func52 rfl 13 Try.ntmps52 (by simp) fun a0 hA hs0 => ?_
  have q0 := hs0 0 _ rfl
  clear hs0
  have hB : Base (Fr w0) O w0 O w0 := Base.start hO
  refine wp_seq ?_
  refine' region [_] mixed hA (.cons ?z1_0 .nil) ?zok1 ?zgd1 ?zk1
  case z1_0 => intro a' w' hE hK hg; exact ok_assign rfl
  case zok1 => kernel_rfl
  case zgd1 => kernel_rfl
  intro a1 w1 hA' hE HF
  replace q0 := kn (HF 0) rfl q0
  clear hA HF; have hA := hA'; clear hA'
  replace hB := Base.step hB hE hO; clear hE
  refine (li_nil ?_)
  refine (nx_then ?_)
  refine wp_seq ?_
  refine' region [_] mixed hA (.cons ?z2_0 .nil) ?zok2 ?zgd2 ?zk2
  case z2_0 => intro a' w' hE hK hg; exact ok_assign rfl
  case zok2 => kernel_rfl
  case zgd2 => kernel_rfl
  intro a2 w2 hA' hE HF
  replace q0 := kn (HF 0) rfl q0
  have q3 := ksv (HF 3) rfl rfl rfl
  clear hA HF; have hA := hA'; clear hA'
  replace hB := Base.step hB hE hO; clear hE
  refine (li_nil ?_)
  refine (nx_then ?_)
  refine seq_join (fun a w => ∃ (O8 : Tags) (x7 : Int), a.fit 13 ∧ Base (Fr w0) O w0 O8 w ∧ a.get 3 = .int .i64 x7 ∧ (colletlaw32_CoreLeasts_f1_j1 x7).run n = some y) ?_ ?_
  ·
    refine wp_block ?_
    obtain ⟨e2, he2, hk2⟩ := Comp.run_bind h; clear h
    refine loop_m (fun m a w => ∃ (O3 : Tags) (x1 : Int) (x2 : Int), a.fit 13 ∧ Base (Fr w0) O w0 O3 w ∧ a.get 0 = .int .i64 x1 ∧ a.get 3 = .int .i64 x2 ∧ Comp.loopN (fun s => colletlaw32_CoreLeasts_f1_l2 s.1 s.2) n m (x1, x2) = some e2) (m := n) ?st2 ?_
    case st2 =>
      exact ⟨_, _, _, hA, hB, q0, q3, Comp.run_loop he2⟩
    intro m_ a3 w3 hI
    clear hA hB he2 q0 q3
    obtain ⟨O3, x1, x2, hA, hB, q0, q3, hl⟩ := hI
    obtain ⟨m2, hlt2, st2, h, hnext2, hdone2⟩ := Comp.loopN_succ hl; clear hl
    replace h : (colletlaw32_CoreLeasts_f1_l2 x1 x2).run n = some st2 := h
    unfold colletlaw32_CoreLeasts_f1_l2 at h
    refine wp_seq ?_
    refine wp_seq ?_
    refine' region [_, _] mixed hA (.cons ?z3_0 (.cons ?z3_1 .nil)) ?zok3 ?zgd3 ?zk3
    case z3_0 => intro a' w' hE hK hg; exact ok_move (kn (hK 0 rfl) rfl q0)
    case z3_1 => intro a' w' hE hK hg; exact ok_neqI (ksv (j := 0) (hK 4 rfl) rfl rfl rfl) rfl
    case zok3 => kernel_rfl
    case zgd3 => kernel_rfl
    intro a4 w4 hA' hE HF
    replace q0 := kn (HF 0) rfl q0
    replace q3 := kn (HF 3) rfl q3
    have q5 := ksv (HF 5) rfl rfl rfl
    clear hA HF; have hA := hA'; clear hA'
    replace hB := Base.step hB hE hO; clear hE
    refine (li_nil ?_)
    refine (nx_then ?_)
    refine wp_cond_b q5 (fun hc => ?_) (fun hc => ?_)
    ·
      replace h := Comp.run_b_t hc h; clear hc
      refine wp_skip ?_
      refine (nx_then ?_)
      refine wp_seq ?_
      refine wp_block ?_
      refine' region [_, _, _] mixed hA (.cons ?z4_0 (.cons ?z4_1 (.cons ?z4_2 .nil))) ?zok4 ?zgd4 ?zk4
      case z4_0 => intro a' w' hE hK hg; exact ok_move (kn (hK 3 rfl) rfl q3)
      case z4_1 => intro a' w' hE hK hg; exact ok_add (ksv (j := 0) (hK 10 rfl) rfl rfl rfl) rfl
      case z4_2 => intro a' w' hE hK hg; exact ok_assign (ksv (j := 1) (hK 11 rfl) rfl rfl rfl)
      case zok4 => kernel_rfl
      case zgd4 => kernel_rfl
      intro a5 w5 hA' hE HF
      replace q0 := kn (HF 0) rfl q0
      have q3' := ksv (HF 3) rfl rfl rfl
      replace q3 := q3'; clear q3'
      clear q5
      clear hA HF; have hA := hA'; clear hA'
      replace hB := Base.step hB hE hO; clear hE
      refine (li_nil ?_)
      refine (nx_blk (nx_then ?_))
      refine' region [_, _, _, _, _] mixed hA (.cons ?z5_0 (.cons ?z5_1 (.cons ?z5_2 (.cons ?z5_3 (.cons ?z5_4 .nil))))) ?zok5 ?zgd5 ?zk5
      case z5_0 => intro a' w' hE hK hg; exact ok_move (kn (hK 0 rfl) rfl q0)
      case z5_1 => intro a' w' hE hK hg; exact ok_move (kn (hK 0 rfl) rfl q0)
      case z5_2 => intro a' w' hE hK hg; exact ok_sub (ksv (j := 1) (hK 7 rfl) rfl rfl rfl) rfl
      case z5_3 => intro a' w' hE hK hg; exact okb_and (ksv (j := 0) (hK 6 rfl) rfl rfl rfl) (ksv (j := 2) (hK 8 rfl) rfl rfl rfl)
      case z5_4 => intro a' w' hE hK hg; exact ok_assign (ksv (j := 3) (hK 9 rfl) rfl rfl rfl)
      case zok5 => kernel_rfl
      case zgd5 => kernel_rfl
      intro a6 w6 hA' hE HF
      have q0' := ksv (HF 0) rfl rfl rfl
      replace q0 := q0'; clear q0'
      replace q3 := kn (HF 3) rfl q3
      clear hA HF; have hA := hA'; clear hA'
      replace hB := Base.step hB hE hO; clear hE
      obtain ⟨x4, hx_, h⟩ := Comp.run_bind h; replace hx_ := Comp.run_pure hx_; rw [hx_] at q0; clear hx_
      refine (li_nil ?_)
      refine (nx_then ?_)
      have h := hnext2 _ (Comp.run_pure h).symm
      refine ⟨m2, hlt2, ?_⟩
      exact ⟨_, _, _, hA, hB, q0, q3, h⟩
    ·
      replace h := Comp.run_b_f hc h; clear hc
      refine wp_exit ?_
      refine (ex_then (ex_then (ex_same ?_)))
      have hd_ := hdone2 _ (Comp.run_pure h).symm; clear h
      subst hd_; have h := hk2; clear hk2; try dsimp only at h
      refine (nx_then ?_)
      exact ⟨_, _, hA, hB, q3, h⟩
  intro a7 w7 hI
  clear hA hB h q0 q3
  obtain ⟨O8, x7, hA, hB, q3, h⟩ := hI
  unfold colletlaw32_CoreLeasts_f1_j1 at h
  refine wp_seq ?_
  refine' region [_, _] mixed hA (.cons ?z6_0 (.cons ?z6_1 .nil)) ?zok6 ?zgd6 ?zk6
  case z6_0 => intro a' w' hE hK hg; exact ok_move (kn (hK 3 rfl) rfl q3)
  case z6_1 => intro a' w' hE hK hg; exact ok_assign (ksv (j := 0) (hK 12 rfl) rfl rfl rfl)
  case zok6 => kernel_rfl
  case zgd6 => kernel_rfl
  intro a8 w8 hA' hE HF
  have q2 := ksv (HF 2) rfl rfl rfl
  clear q3
  clear hA HF; have hA := hA'; clear hA'
  replace hB := Base.step hB hE hO; clear hE
  refine (li_nil ?_)
  refine (nx_then ?_)
  refine (wp_ret ?_)
  have h := Comp.run_pure h; subst h
  exact retPure Try.results52 hA q2 hB.ext rfl

end Go.Proofs.Ytkbipbfncbopnaa
