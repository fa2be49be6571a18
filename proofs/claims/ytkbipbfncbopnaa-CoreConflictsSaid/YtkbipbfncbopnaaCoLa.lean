/- The lifting of the program's functions (printed by wip/lift). No statement of the program stands here. -/
import Derived.Test.YtkbipbfncbopnaaCoFa
import Derived.Test.YtkbipbfncbopnaaProg
import Derived.Test.YtkbipbfncbopnaaShelf
namespace Go.Proofs.Ytkbipbfncbopnaa
open Go Go.RowKit Go.Eng Go.Lift Go.F
set_option linter.unusedVariables false
set_option linter.unusedSimpArgs false
set_option maxRecDepth 100000
theorem mixed : Try.prog.follows .mixedOrders = true := by kernel_rfl
theorem ty3 : Ty Try.prog 3 (.int .i64) (.int .i64 0) 1 8 := ⟨by kernel_rfl, by kernel_rfl⟩
theorem ty4 : Ty Try.prog 4 .bool (.bool false) 1 1 := ⟨by kernel_rfl, by kernel_rfl⟩
theorem ty5 : Ty Try.prog 5 (.int .u8) (.int .u8 0) 1 1 := ⟨by kernel_rfl, by kernel_rfl⟩
theorem ty9 : Ty Try.prog 9 .string (.string ⟨#[]⟩) 1 16 := ⟨by kernel_rfl, by kernel_rfl⟩
theorem ty22 : Ty Try.prog 22 (.slice 58) (.slice none 0 0) 1 24 := ⟨by kernel_rfl, by kernel_rfl⟩
theorem ty58 : Ty Try.prog 58 (.slice 3) (.slice none 0 0) 1 24 := ⟨by kernel_rfl, by kernel_rfl⟩
theorem ty70 : Ty Try.prog 70 (.int .u16) (.int .u16 0) 1 2 := ⟨by kernel_rfl, by kernel_rfl⟩
theorem ty71 : Ty Try.prog 71 (.slice 4) (.slice none 0 0) 1 24 := ⟨by kernel_rfl, by kernel_rfl⟩
theorem ty73 : Ty Try.prog 73 (.slice 71) (.slice none 0 0) 1 24 := ⟨by kernel_rfl, by kernel_rfl⟩
theorem ty77 : Ty Try.prog 77 (.func #[3] #[4] false) (.nilFunc) 1 8 := ⟨by kernel_rfl, by kernel_rfl⟩
theorem ty117 : Ty Try.prog 117 (.int .u64) (.int .u64 0) 1 8 := ⟨by kernel_rfl, by kernel_rfl⟩
theorem ty122 : Ty Try.prog 122 (.int .u64) (.int .u64 0) 1 8 := ⟨by kernel_rfl, by kernel_rfl⟩
theorem ty123 : Ty Try.prog 123 (.int .u32) (.int .u32 0) 1 4 := ⟨by kernel_rfl, by kernel_rfl⟩
theorem fn37 : FnOk Try.prog 37 := ⟨_, Try.func37, rfl, by kernel_rfl⟩
theorem fn38 : FnOk Try.prog 38 := ⟨_, Try.func38, rfl, by kernel_rfl⟩
theorem fn39 : FnOk Try.prog 39 := ⟨_, Try.func39, rfl, by kernel_rfl⟩
theorem fn40 : FnOk Try.prog 40 := ⟨_, Try.func40, rfl, by kernel_rfl⟩
theorem fn41 : FnOk Try.prog 41 := ⟨_, Try.func41, rfl, by kernel_rfl⟩
theorem fn42 : FnOk Try.prog 42 := ⟨_, Try.func42, rfl, by kernel_rfl⟩
theorem fn43 : FnOk Try.prog 43 := ⟨_, Try.func43, rfl, by kernel_rfl⟩
theorem fn44 : FnOk Try.prog 44 := ⟨_, Try.func44, rfl, by kernel_rfl⟩
theorem fn45 : FnOk Try.prog 45 := ⟨_, Try.func45, rfl, by kernel_rfl⟩
theorem fn46 : FnOk Try.prog 46 := ⟨_, Try.func46, rfl, by kernel_rfl⟩
theorem fn47 : FnOk Try.prog 47 := ⟨_, Try.func47, rfl, by kernel_rfl⟩
theorem fn48 : FnOk Try.prog 48 := ⟨_, Try.func48, rfl, by kernel_rfl⟩
theorem fn49 : FnOk Try.prog 49 := ⟨_, Try.func49, rfl, by kernel_rfl⟩
theorem fn50 : FnOk Try.prog 50 := ⟨_, Try.func50, rfl, by kernel_rfl⟩
theorem fn51 : FnOk Try.prog 51 := ⟨_, Try.func51, rfl, by kernel_rfl⟩
theorem fn52 : FnOk Try.prog 52 := ⟨_, Try.func52, rfl, by kernel_rfl⟩
theorem fn76 : FnOk Try.prog 76 := ⟨_, Try.func76, rfl, by kernel_rfl⟩
theorem fn77 : FnOk Try.prog 77 := ⟨_, Try.func77, rfl, by kernel_rfl⟩
theorem fn78 : FnOk Try.prog 78 := ⟨_, Try.func78, rfl, by kernel_rfl⟩
theorem fn79 : FnOk Try.prog 79 := ⟨_, Try.func79, rfl, by kernel_rfl⟩
theorem fn80 : FnOk Try.prog 80 := ⟨_, Try.func80, rfl, by kernel_rfl⟩
theorem fn81 : FnOk Try.prog 81 := ⟨_, Try.func81, rfl, by kernel_rfl⟩
theorem fn82 : FnOk Try.prog 82 := ⟨_, Try.func82, rfl, by kernel_rfl⟩
theorem fn83 : FnOk Try.prog 83 := ⟨_, Try.func83, rfl, by kernel_rfl⟩
theorem fn84 : FnOk Try.prog 84 := ⟨_, Try.func84, rfl, by kernel_rfl⟩
theorem fn85 : FnOk Try.prog 85 := ⟨_, Try.func85, rfl, by kernel_rfl⟩
theorem fn86 : FnOk Try.prog 86 := ⟨_, Try.func86, rfl, by kernel_rfl⟩
theorem fn87 : FnOk Try.prog 87 := ⟨_, Try.func87, rfl, by kernel_rfl⟩
theorem fn88 : FnOk Try.prog 88 := ⟨_, Try.func88, rfl, by kernel_rfl⟩
theorem fn89 : FnOk Try.prog 89 := ⟨_, Try.func89, rfl, by kernel_rfl⟩
theorem fn90 : FnOk Try.prog 90 := ⟨_, Try.func90, rfl, by kernel_rfl⟩
theorem fn91 : FnOk Try.prog 91 := ⟨_, Try.func91, rfl, by kernel_rfl⟩
theorem fn92 : FnOk Try.prog 92 := ⟨_, Try.func92, rfl, by kernel_rfl⟩
theorem fn93 : FnOk Try.prog 93 := ⟨_, Try.func93, rfl, by kernel_rfl⟩
theorem fn121 : FnOk Try.prog 121 := ⟨_, Try.func121, rfl, by kernel_rfl⟩
theorem fn122 : FnOk Try.prog 122 := ⟨_, Try.func122, rfl, by kernel_rfl⟩
theorem fn124 : FnOk Try.prog 124 := ⟨_, Try.func124, rfl, by kernel_rfl⟩
theorem ok_slices_Clone_int_int {O : Tags} {w0 : World} (hO : OkO O w0) {v_0 : Value} {x_0 : List Int} (h_0 : (rSl (rInt .i64)).v O w0 v_0 x_0) {n : Nat} {y : (List Int)} (h : (slices_Clone_int_int x_0).run n = some y) : Pure Try.prog 77 #[v_0] w0 (SP.ownr (rInt .i64) 3 (w0.heap.size) O y).holds := by
  unfold slices_Clone_int_int at h
  refine pure_of_wp Try.func77 rfl 8 Try.ntmps77 (by simp) fun a0 hA hs0 => ?_
  have q0 := hs0 0 _ rfl
  clear hs0
  have hB : Base (Fr w0) O w0 O w0 := Base.start hO
  refine wp_seq ?_
  refine' region [_] mixed hA (.cons ?z1_0 .nil) ?zok1 ?zgd1 ?zk1
  case z1_0 => intro a' w' hE hK hg; exact ok_assign rfl
  case zok1 => kernel_rfl
  case zgd1 => kernel_rfl
  intro a1 w1 hA' hE HF
  replace q0 := kn (HF 0) rfl q0
  clear hA HF; have hA := hA'; clear hA'
  replace h_0 := GR.v_ext _ h_0 hE
  replace hB := Base.step hB hE hO; clear hE
  refine (li_nil ?_)
  refine (nx_then ?_)
  refine wp_seq ?_
  refine wp_seq ?_
  refine' region [_, _] mixed hA (.cons ?z2_0 (.cons ?z2_1 .nil)) ?zok2 ?zgd2 ?zk2
  case z2_0 => intro a' w' hE hK hg; exact ok_move (kn (hK 0 rfl) rfl q0)
  case z2_1 => intro a' w' hE hK hg; exact okl_eqlNil ty58 (ksv (j := 0) (hK 3 rfl) rfl rfl rfl) (rd_of (GR.v_ext _ h_0 hE))
  case zok2 => kernel_rfl
  case zgd2 => kernel_rfl
  intro a2 w2 hA' hE HF
  replace q0 := kn (HF 0) rfl q0
  have q4 := ksv (HF 4) rfl rfl rfl
  clear hA HF; have hA := hA'; clear hA'
  replace h_0 := GR.v_ext _ h_0 hE
  replace hB := Base.step hB hE hO; clear hE
  refine (li_nil ?_)
  refine (nx_then ?_)
  refine wp_cond_b q4 (fun hc => ?_) (fun hc => ?_)
  ·
    have hnil := isNil_nil hc (rd_of h_0); subst hnil; replace h := clone_nil h
    refine wp_seq ?_
    refine' region [_] mixed hA (.cons ?z3_0 .nil) ?zok3 ?zgd3 ?zk3
    case z3_0 => intro a' w' hE hK hg; exact ok_assign rfl
    case zok3 => kernel_rfl
    case zgd3 => kernel_rfl
    intro a3 w3 hA' hE HF
    have q2 := ksv (HF 2) rfl rfl rfl
    clear q0
    clear q4
    clear hA HF; have hA := hA'; clear hA'
    replace h_0 := GR.v_ext _ h_0 hE
    replace hB := Base.step hB hE hO; clear hE
    refine (li_nil ?_)
    refine (nx_then ?_)
    refine (wp_ret (rt_then ?_))
    have h := Comp.run_pure h; subst h
    exact retPure Try.results77 hA q2 hB.ext (OwnR.nil _ _ _ _ _)
  ·
    clear hc
    refine wp_skip ?_
    refine (nx_then ?_)
    refine wp_seq ?_
    refine' regionT [] hA .nil ?zok4 ?zgd4 ?zk4
    case zok4 => kernel_rfl
    case zgd4 => kernel_rfl
    intro a4 w4 hA' hE HF
    replace q0 := kn (HF 0) rfl q0
    clear q4
    clear hA HF; have hA := hA'; clear hA'
    replace h_0 := GR.v_ext _ h_0 hE
    replace hB := Base.step hB hE hO; clear hE
    refine l_ok (φ := SP.ownr (rInt .i64) 3 w4.heap.size O []) hO hB (by exact okl_buildSlice (r := (rInt .i64)) (fun _ => rfl) rfl hB.ok ty58 ty3 (Nat.le_refl _) parts_nil trivial rfl (by decide)) rfl fun u1 w5 hE hB' f2 => ?_
    clear hB'; obtain ⟨O3, hB', hX, f4⟩ := ownNew hO hB hE f2 rfl 1 (by decide)
    clear hB f2; have hB := hB'; clear hB'
    replace h_0 := GR.kx _ h_0 hX (by decide)
    clear hX hE
    refine put_cont hA (by decide) fun a6 hA' q_ hfr => ?_
    clear hA; have hA := hA'; clear hA'
    replace q0 := (hfr 0 rfl).trans q0
    have q5 := q_; clear q_ hfr
    refine l_ok (φ := SP.isv (v_0)) hO hB (by exact ok_move q0) rfl fun u_ w7 hE hB' hv_ => ?_
    replace hv_ := Eq.symm hv_; subst hv_; clear hB; have hB := hB'; clear hB'
    replace h_0 := GR.v_ext _ h_0 hE
    replace f4 := f4.ext hE
    clear hE
    refine put_cont hA (by decide) fun a8 hA' q_ hfr => ?_
    clear hA; have hA := hA'; clear hA'
    replace q0 := (hfr 0 rfl).trans q0
    replace q5 := (hfr 5 rfl).trans q5
    have q6 := q_; clear q_ hfr
    obtain ⟨x5, hx5, h⟩ := Comp.run_bind h
    refine l_append (r := (rInt .i64)) (fun _ => rfl) rfl ty58 ty3 rfl (by decide) hO hB (okB_fr hB) q5 f4 q6 (rd_of h_0) hx5 (by decide) fun u6 w9 O7 f8 hB' hX => ?_
    clear hB; have hB := hB'; clear hB'
    clear f4
    replace h_0 := GR.kx _ h_0 hX (by decide)
    clear hX
    refine put_cont hA (by decide) fun a10 hA' q_ hfr => ?_
    clear hA; have hA := hA'; clear hA'
    replace q5 := (hfr 5 rfl).trans q5
    replace q6 := (hfr 6 rfl).trans q6
    have q7 := q_; clear q_ hfr
    refine l_ok (φ := SP.isv (u6)) hO hB (by exact ok_assign q7) rfl fun u_ w11 hE hB' hv_ => ?_
    replace hv_ := Eq.symm hv_; subst hv_; clear hB; have hB := hB'; clear hB'
    replace f8 := f8.ext hE
    clear hE
    refine put_cont hA (by decide) fun a12 hA' q_ hfr => ?_
    clear hA; have hA := hA'; clear hA'
    replace q7 := (hfr 7 rfl).trans q7
    have q2 := q_; clear q_ hfr
    refine (li_nil ?_)
    refine (nx_then ?_)
    refine (wp_ret ?_)
    have h := Comp.run_pure h; subst h
    exact retPure Try.results77 hA q2 hB.ext (OwnL.res f8 (by decide) hB.zero)

theorem ok_core_Minimal {O : Tags} {w0 : World} (hO : OkO O w0) {v_0 : Value} {x_0 : List Int} (h_0 : (rSl (rInt .i64)).v O w0 v_0 x_0) {n : Nat} {y : (List Int)} (h : (core_Minimal x_0).run n = some y) : Pure Try.prog 42 #[v_0] w0 (SP.ownr (rInt .i64) 3 (w0.heap.size) O y).holds := by
  unfold core_Minimal at h
  refine pure_of_wp Try.func42 rfl 43 Try.ntmps42 (by simp) fun a0 hA hs0 => ?_
  have q0 := hs0 0 _ rfl
  clear hs0
  have hB : Base (Fr w0) O w0 O w0 := Base.start hO
  refine wp_seq ?_
  refine' region [_] mixed hA (.cons ?z1_0 .nil) ?zok1 ?zgd1 ?zk1
  case z1_0 => intro a' w' hE hK hg; exact ok_assign rfl
  case zok1 => kernel_rfl
  case zgd1 => kernel_rfl
  intro a1 w1 hA' hE HF
  replace q0 := kn (HF 0) rfl q0
  clear hA HF; have hA := hA'; clear hA'
  replace h_0 := GR.v_ext _ h_0 hE
  replace hB := Base.step hB hE hO; clear hE
  refine (li_nil ?_)
  refine (nx_then ?_)
  refine wp_scope_straight ?_
  refine wp_seq ?_
  refine' regionT [_] hA (.cons ?z2_0 .nil) ?zok2 ?zgd2 ?zk2
  case z2_0 => intro a' w' hE hK hg; exact ok_move (kn (hK 0 rfl) rfl q0)
  case zok2 => kernel_rfl
  case zgd2 => kernel_rfl
  intro a2 w2 hA' hE HF
  replace q0 := kn (HF 0) rfl q0
  have q8 := ksv (HF 8) rfl rfl rfl
  clear hA HF; have hA := hA'; clear hA'
  replace h_0 := GR.v_ext _ h_0 hE
  replace hB := Base.step hB hE hO; clear hE
  obtain ⟨x1, hx1, h⟩ := Comp.run_bind h
  refine l_ok (φ := SP.ownr (rInt .i64) 3 w2.heap.size O x1) hO hB (by have c_ := ok_slices_Clone_int_int hB.ok h_0 hx1; exact ok_weak (ok_call1 fn77 q8 c_) (fun _ _ _ h => h)) rfl fun u2 w3 hE hB' f3 => ?_
  clear hB'; obtain ⟨O4, hB', hX, f5⟩ := ownNew hO hB hE f3 rfl 1 (by decide)
  clear hB f3; have hB := hB'; clear hB'
  replace h_0 := GR.kx _ h_0 hX (by decide)
  clear hX hE
  refine put_cont hA (by decide) fun a4 hA' q_ hfr => ?_
  clear hA; have hA := hA'; clear hA'
  replace q0 := (hfr 0 rfl).trans q0
  replace q8 := (hfr 8 rfl).trans q8
  have q9 := q_; clear q_ hfr
  refine l_ok (φ := SP.isv (u2)) hO hB (by exact ok_assign q9) rfl fun u_ w5 hE hB' hv_ => ?_
  replace hv_ := Eq.symm hv_; subst hv_; clear hB; have hB := hB'; clear hB'
  replace h_0 := GR.v_ext _ h_0 hE
  replace f5 := f5.ext hE
  clear hE
  refine put_cont hA (by decide) fun a6 hA' q_ hfr => ?_
  clear hA; have hA := hA'; clear hA'
  replace q9 := (hfr 9 rfl).trans q9
  clear q0
  have q0 := q_; clear q_ hfr
  refine (li_nil ?_)
  refine (nx_then ?_)
  refine wp_seq ?_
  refine' regionT [_] hA (.cons ?z3_0 .nil) ?zok3 ?zgd3 ?zk3
  case z3_0 => intro a' w' hE hK hg; exact ok_move (kn (hK 0 rfl) rfl q0)
  case zok3 => kernel_rfl
  case zgd3 => kernel_rfl
  intro a7 w7 hA' hE HF
  replace q0 := kn (HF 0) rfl q0
  have q10 := ksv (HF 10) rfl rfl rfl
  clear hA HF; have hA := hA'; clear hA'
  replace f5 := f5.ext hE
  replace hB := Base.step hB hE hO; clear hE
  obtain ⟨x6, hx6, h⟩ := Comp.run_bind h
  refine l_io (r := (rInt .i64)) (E := 3) (k := 1) hO hB (okB_fr hB) fn78 (map1 q10) (m_sort Try.slices_Sort_int Try.slices_Sort_int_none hB.ok (OwnL.arg f5 (by decide)) hx6) f5 (by decide) fun u8 u7 w8 O9 f10 hB' hX hps => ?_
  clear hB; have hB := hB'; clear hB'
  clear f5
  replace hps : _ = _ := hps; subst hps
  clear hX
  refine put_cont hA (by decide) fun a9 hA' q_ hfr => ?_
  clear hA; have hA := hA'; clear hA'
  replace q0 := (hfr 0 rfl).trans q0
  replace q10 := (hfr 10 rfl).trans q10
  have q11 := q_; clear q_ hfr
  refine (li_nil ?_)
  refine (nx_then ?_)
  refine wp_seq ?_
  refine' regionT [_] hA (.cons ?z4_0 .nil) ?zok4 ?zgd4 ?zk4
  case z4_0 => intro a' w' hE hK hg; exact ok_move (kn (hK 0 rfl) rfl q0)
  case zok4 => kernel_rfl
  case zgd4 => kernel_rfl
  intro a10 w10 hA' hE HF
  replace q0 := kn (HF 0) rfl q0
  have q12 := ksv (HF 12) rfl rfl rfl
  clear hA HF; have hA := hA'; clear hA'
  replace f10 := f10.ext hE
  replace hB := Base.step hB hE hO; clear hE
  obtain ⟨x11, hx11, h⟩ := Comp.run_bind h
  refine l_io (r := (rInt .i64)) (E := 3) (k := 1) hO hB (okB_fr hB) fn79 (map1 q12) (m_compact Try.slices_Compact_int Try.slices_Compact_int_empty hB.ok (OwnL.arg f10 (by decide)) hx11) f10 (by decide) fun u13 u12 w11 O14 f15 hB' hX hps => ?_
  clear hB; have hB := hB'; clear hB'
  clear f10
  replace hps : _ = _ := hps; subst hps
  clear hX
  refine put_cont hA (by decide) fun a12 hA' q_ hfr => ?_
  clear hA; have hA := hA'; clear hA'
  replace q0 := (hfr 0 rfl).trans q0
  replace q12 := (hfr 12 rfl).trans q12
  have q13 := q_; clear q_ hfr
  refine l_ok (φ := SP.isv (u13)) hO hB (by exact ok_assign q13) rfl fun u_ w13 hE hB' hv_ => ?_
  replace hv_ := Eq.symm hv_; subst hv_; clear hB; have hB := hB'; clear hB'
  replace f15 := f15.ext hE
  clear hE
  refine put_cont hA (by decide) fun a14 hA' q_ hfr => ?_
  clear hA; have hA := hA'; clear hA'
  replace q13 := (hfr 13 rfl).trans q13
  clear q0
  have q0 := q_; clear q_ hfr
  refine (li_nil ?_)
  refine (nx_then ?_)
  refine wp_seq ?_
  refine' region [_] mixed hA (.cons ?z5_0 .nil) ?zok5 ?zgd5 ?zk5
  case z5_0 => intro a' w' hE hK hg; exact ok_assign rfl
  case zok5 => kernel_rfl
  case zgd5 => kernel_rfl
  intro a15 w15 hA' hE HF
  replace q0 := kn (HF 0) rfl q0
  have q3 := ksv (HF 3) rfl rfl rfl
  clear hA HF; have hA := hA'; clear hA'
  replace f15 := f15.ext hE
  replace hB := Base.step hB hE hO; clear hE
  refine (li_nil ?_)
  refine (nx_then ?_)
  refine wp_seq ?_
  refine wp_label ?_
  refine (nx_then ?_)
  refine seq_join (fun a w => ∃ (O42 : Tags) (x39 : List Int) (u40 : Value), a.fit 43 ∧ Base (Fr w0) O w0 O42 w ∧ a.get 3 = u40 ∧ OwnL 2 (rInt .i64) 3 (Fr w0) O42 w u40 x39 ∧ (core_Minimal_j1 x39).run n = some y) ?_ ?_
  ·
    refine wp_seq ?_
    refine' region [_, _, _] mixed hA (.cons ?z6_0 (.cons ?z6_1 (.cons ?z6_2 .nil))) ?zok6 ?zgd6 ?zk6
    case z6_0 => intro a' w' hE hK hg; exact ok_move (kn (hK 0 rfl) rfl q0)
    case z6_1 => intro a' w' hE hK hg; exact okl_len (r := (rInt .i64)) ty58 (ksv (j := 0) (hK 14 rfl) rfl rfl rfl) (OwnL.rd (OwnL.ext f15 hE))
    case z6_2 => intro a' w' hE hK hg; exact ok_move rfl
    case zok6 => kernel_rfl
    case zgd6 => kernel_rfl
    intro a16 w16 hA' hE HF
    replace q0 := kn (HF 0) rfl q0
    replace q3 := kn (HF 3) rfl q3
    have q14 := ksv (HF 14) rfl rfl rfl
    have q15 := ksv (HF 15) rfl rfl rfl
    have q16 := ksv (HF 16) rfl rfl rfl
    clear hA HF; have hA := hA'; clear hA'
    replace f15 := f15.ext hE
    replace hB := Base.step hB hE hO; clear hE
    refine (li_nil ?_)
    refine (nx_then ?_)
    refine wp_block ?_
    obtain ⟨e2, he2, hk2⟩ := Comp.run_bind h; clear h
    refine loop_m (fun m a w => ∃ (O20 : Tags) (x16 : List Int) (x19 : Int) (u17 : Value), a.fit 43 ∧ Base (Fr w0) O w0 O20 w ∧ a.get 0 = u13 ∧ OwnL 1 (rInt .i64) 3 (Fr w0) O20 w u13 x11 ∧ a.get 3 = u17 ∧ OwnL 2 (rInt .i64) 3 (Fr w0) O20 w u17 x16 ∧ a.get 14 = u13 ∧ a.get 15 = .int .i64 (x11.length : Int) ∧ a.get 16 = .int .i64 x19 ∧ Comp.loopN (fun s => core_Minimal_l2 x11 s.1 s.2) n m (x16, x19) = some e2) (m := n) ?st2 ?_
    case st2 =>
      exact ⟨_, _, _, _, hA, hB, q0, f15, q3, (OwnL.nil _ _ _ _ _ _), q14, q15, q16, Comp.run_loop he2⟩
    intro m_ a17 w17 hI
    clear hA hB he2 q0 q3 q14 q15 q16 f15
    obtain ⟨O20, x16, x19, u17, hA, hB, q0, f15, q3, f18, q14, q15, q16, hl⟩ := hI
    obtain ⟨m2, hlt2, st2, h, hnext2, hdone2⟩ := Comp.loopN_succ hl; clear hl
    replace h : (core_Minimal_l2 x11 x16 x19).run n = some st2 := h
    unfold core_Minimal_l2 at h
    refine wp_seq ?_
    refine' region [_] mixed hA (.cons ?z7_0 .nil) ?zok7 ?zgd7 ?zk7
    case z7_0 => intro a' w' hE hK hg; exact ok_lss (kn (hK 16 rfl) rfl q16) (kn (hK 15 rfl) rfl q15)
    case zok7 => kernel_rfl
    case zgd7 => kernel_rfl
    intro a18 w18 hA' hE HF
    replace q0 := kn (HF 0) rfl q0
    replace q3 := kn (HF 3) rfl q3
    replace q14 := kn (HF 14) rfl q14
    replace q15 := kn (HF 15) rfl q15
    replace q16 := kn (HF 16) rfl q16
    have q17 := ksv (HF 17) rfl rfl rfl
    clear hA HF; have hA := hA'; clear hA'
    replace f15 := f15.ext hE
    replace f18 := f18.ext hE
    replace hB := Base.step hB hE hO; clear hE
    refine (li_nil ?_)
    refine (nx_then ?_)
    refine wp_seq ?_
    refine wp_cond_b q17 (fun hc => ?_) (fun hc => ?_)
    ·
      replace h := Comp.run_b_t hc h; clear hc
      refine wp_skip ?_
      refine (nx_then ?_)
      refine seq_join (fun a w => ∃ (O36 : Tags) (x26 : List Int) (u27 : Value), a.fit 43 ∧ Base (Fr w0) O w0 O36 w ∧ a.get 0 = u13 ∧ OwnL 1 (rInt .i64) 3 (Fr w0) O36 w u13 x11 ∧ a.get 3 = u27 ∧ OwnL 2 (rInt .i64) 3 (Fr w0) O36 w u27 x26 ∧ a.get 14 = u13 ∧ a.get 15 = .int .i64 (x11.length : Int) ∧ a.get 16 = .int .i64 x19 ∧ (core_Minimal_j3 x19 x26).run n = some st2) ?_ ?_
      ·
        refine wp_block ?_
        refine wp_seq ?_
        obtain ⟨x21, hx21, h⟩ := Comp.run_bind h
        refine' region [SP.ptr (rInt .i64) O20 x21, SP.isv (.int .i64 x21), _] mixed hA (.cons ?z8_0 (.cons ?z8_1 (.cons ?z8_2 .nil))) ?zok8 ?zgd8 ?zk8
        case z8_0 => intro a' w' hE hK hg; exact okl_idx (r := (rInt .i64)) (O := O20) ty58 ty3 rfl (kn (hK 14 rfl) rfl q14) (OwnL.rd (OwnL.ext f15 hE)) (kn (hK 16 rfl) rfl q16) hx21
        case z8_1 => intro a' w' hE hK hg; exact okl_ldr (rInt .i64) (fun _ => rfl) ty3 rfl rfl rfl (kspS (φ := SP.ptr (rInt .i64) O20 x21) (j := 0) (hK 18 rfl) rfl rfl rfl) (fun _ _ _ h => rInt_v.1 h)
        case z8_2 => intro a' w' hE hK hg; exact ok_assign (ksv (j := 1) (hK 19 rfl) rfl rfl rfl)
        case zok8 => kernel_rfl
        case zgd8 => kernel_rfl
        intro a19 w19 hA' hE HF
        replace q0 := kn (HF 0) rfl q0
        replace q3 := kn (HF 3) rfl q3
        have q5 := ksv (HF 5) rfl rfl rfl
        replace q14 := kn (HF 14) rfl q14
        replace q15 := kn (HF 15) rfl q15
        replace q16 := kn (HF 16) rfl q16
        clear q17
        clear hA HF; have hA := hA'; clear hA'
        replace f15 := f15.ext hE
        replace f18 := f18.ext hE
        replace hB := Base.step hB hE hO; clear hE
        refine (li_nil ?_)
        refine (nx_then ?_)
        refine seq_join (fun a w => ∃ (O29 : Tags), a.fit 43 ∧ Base (Fr w0) O w0 O29 w ∧ a.get 0 = u13 ∧ OwnL 1 (rInt .i64) 3 (Fr w0) O29 w u13 x11 ∧ a.get 3 = u17 ∧ OwnL 2 (rInt .i64) 3 (Fr w0) O29 w u17 x16 ∧ a.get 5 = .int .i64 x21 ∧ a.get 14 = u13 ∧ a.get 15 = .int .i64 (x11.length : Int) ∧ a.get 16 = .int .i64 x19 ∧ (core_Minimal_j4 x16 x21 x19 ).run n = some st2) ?_ ?_
        ·
          refine wp_seq ?_
          refine' region [_, _, _] mixed hA (.cons ?z9_0 (.cons ?z9_1 (.cons ?z9_2 .nil))) ?zok9 ?zgd9 ?zk9
          case z9_0 => intro a' w' hE hK hg; exact ok_move (kn (hK 0 rfl) rfl q0)
          case z9_1 => intro a' w' hE hK hg; exact okl_len (r := (rInt .i64)) ty58 (ksv (j := 0) (hK 20 rfl) rfl rfl rfl) (OwnL.rd (OwnL.ext f15 hE))
          case z9_2 => intro a' w' hE hK hg; exact ok_move rfl
          case zok9 => kernel_rfl
          case zgd9 => kernel_rfl
          intro a20 w20 hA' hE HF
          replace q0 := kn (HF 0) rfl q0
          replace q3 := kn (HF 3) rfl q3
          replace q5 := kn (HF 5) rfl q5
          replace q14 := kn (HF 14) rfl q14
          replace q15 := kn (HF 15) rfl q15
          replace q16 := kn (HF 16) rfl q16
          have q20 := ksv (HF 20) rfl rfl rfl
          have q21 := ksv (HF 21) rfl rfl rfl
          have q22 := ksv (HF 22) rfl rfl rfl
          clear hA HF; have hA := hA'; clear hA'
          replace f15 := f15.ext hE
          replace f18 := f18.ext hE
          replace hB := Base.step hB hE hO; clear hE
          refine (li_nil ?_)
          refine (nx_then ?_)
          refine wp_block ?_
          obtain ⟨e5, he5, hk5⟩ := Comp.run_bind h; clear h
          refine loop_m (fun m a w => ∃ (O23 : Tags) (x22 : Int), a.fit 43 ∧ Base (Fr w0) O w0 O23 w ∧ a.get 0 = u13 ∧ OwnL 1 (rInt .i64) 3 (Fr w0) O23 w u13 x11 ∧ a.get 3 = u17 ∧ OwnL 2 (rInt .i64) 3 (Fr w0) O23 w u17 x16 ∧ a.get 5 = .int .i64 x21 ∧ a.get 14 = u13 ∧ a.get 15 = .int .i64 (x11.length : Int) ∧ a.get 16 = .int .i64 x19 ∧ a.get 20 = u13 ∧ a.get 21 = .int .i64 (x11.length : Int) ∧ a.get 22 = .int .i64 x22 ∧ Comp.loopN (fun s => core_Minimal_l5 x11 x21 s) n m x22 = some e5) (m := n) ?st5 ?_
          case st5 =>
            exact ⟨_, _, hA, hB, q0, f15, q3, f18, q5, q14, q15, q16, q20, q21, q22, Comp.run_loop he5⟩
          intro m_ a21 w21 hI
          clear hA hB he5 q0 q3 q5 q14 q15 q16 q20 q21 q22 f15 f18
          obtain ⟨O23, x22, hA, hB, q0, f15, q3, f18, q5, q14, q15, q16, q20, q21, q22, hl⟩ := hI
          obtain ⟨m5, hlt5, st5, h, hnext5, hdone5⟩ := Comp.loopN_succ hl; clear hl
          replace h : (core_Minimal_l5 x11 x21 x22).run n = some st5 := h
          unfold core_Minimal_l5 at h
          refine wp_seq ?_
          refine' region [_] mixed hA (.cons ?z10_0 .nil) ?zok10 ?zgd10 ?zk10
          case z10_0 => intro a' w' hE hK hg; exact ok_lss (kn (hK 22 rfl) rfl q22) (kn (hK 21 rfl) rfl q21)
          case zok10 => kernel_rfl
          case zgd10 => kernel_rfl
          intro a22 w22 hA' hE HF
          replace q0 := kn (HF 0) rfl q0
          replace q3 := kn (HF 3) rfl q3
          replace q5 := kn (HF 5) rfl q5
          replace q14 := kn (HF 14) rfl q14
          replace q15 := kn (HF 15) rfl q15
          replace q16 := kn (HF 16) rfl q16
          replace q20 := kn (HF 20) rfl q20
          replace q21 := kn (HF 21) rfl q21
          replace q22 := kn (HF 22) rfl q22
          have q23 := ksv (HF 23) rfl rfl rfl
          clear hA HF; have hA := hA'; clear hA'
          replace f15 := f15.ext hE
          replace f18 := f18.ext hE
          replace hB := Base.step hB hE hO; clear hE
          refine (li_nil ?_)
          refine (nx_then ?_)
          refine wp_seq ?_
          refine wp_cond_b q23 (fun hc => ?_) (fun hc => ?_)
          ·
            replace h := Comp.run_b_t hc h; clear hc
            refine wp_skip ?_
            refine (nx_then ?_)
            refine wp_seq ?_
            refine wp_block ?_
            refine wp_seq ?_
            obtain ⟨x24, hx24, h⟩ := Comp.run_bind h
            refine' region [SP.ptr (rInt .i64) O23 x24, SP.isv (.int .i64 x24), _] mixed hA (.cons ?z11_0 (.cons ?z11_1 (.cons ?z11_2 .nil))) ?zok11 ?zgd11 ?zk11
            case z11_0 => intro a' w' hE hK hg; exact okl_idx (r := (rInt .i64)) (O := O23) ty58 ty3 rfl (kn (hK 20 rfl) rfl q20) (OwnL.rd (OwnL.ext f15 hE)) (kn (hK 22 rfl) rfl q22) hx24
            case z11_1 => intro a' w' hE hK hg; exact okl_ldr (rInt .i64) (fun _ => rfl) ty3 rfl rfl rfl (kspS (φ := SP.ptr (rInt .i64) O23 x24) (j := 0) (hK 24 rfl) rfl rfl rfl) (fun _ _ _ h => rInt_v.1 h)
            case z11_2 => intro a' w' hE hK hg; exact ok_assign (ksv (j := 1) (hK 25 rfl) rfl rfl rfl)
            case zok11 => kernel_rfl
            case zgd11 => kernel_rfl
            intro a23 w23 hA' hE HF
            replace q0 := kn (HF 0) rfl q0
            replace q3 := kn (HF 3) rfl q3
            replace q5 := kn (HF 5) rfl q5
            have q7 := ksv (HF 7) rfl rfl rfl
            replace q14 := kn (HF 14) rfl q14
            replace q15 := kn (HF 15) rfl q15
            replace q16 := kn (HF 16) rfl q16
            replace q20 := kn (HF 20) rfl q20
            replace q21 := kn (HF 21) rfl q21
            replace q22 := kn (HF 22) rfl q22
            clear q23
            clear hA HF; have hA := hA'; clear hA'
            replace f15 := f15.ext hE
            replace f18 := f18.ext hE
            replace hB := Base.step hB hE hO; clear hE
            refine (li_nil ?_)
            refine (nx_then ?_)
            refine wp_seq ?_
            refine' region [_, _, _, _, _, _, _, _, _, _] mixed hA (.cons ?z12_0 (.cons ?z12_1 (.cons ?z12_2 (.cons ?z12_3 (.cons ?z12_4 (.cons ?z12_5 (.cons ?z12_6 (.cons ?z12_7 (.cons ?z12_8 (.cons ?z12_9 .nil)))))))))) ?zok12 ?zgd12 ?zk12
            case z12_0 => intro a' w' hE hK hg; exact ok_move (kn (hK 7 rfl) rfl q7)
            case z12_1 => intro a' w' hE hK hg; exact ok_move (kn (hK 5 rfl) rfl q5)
            case z12_2 => intro a' w' hE hK hg; exact ok_neqI (ksv (j := 0) (hK 26 rfl) rfl rfl rfl) (ksv (j := 1) (hK 27 rfl) rfl rfl rfl)
            case z12_3 => intro a' w' hE hK hg; exact ok_move (ksv (j := 2) (hK 28 rfl) rfl rfl rfl)
            case z12_4 => intro a' w' hE hK hg; exact ok_move (kn (hK 5 rfl) rfl q5)
            case z12_5 => intro a' w' hE hK hg; exact ok_move (kn (hK 7 rfl) rfl q7)
            case z12_6 => intro a' w' hE hK hg; exact okb_and (ksv (j := 4) (hK 30 rfl) rfl rfl hg) (ksv (j := 5) (hK 31 rfl) rfl rfl hg)
            case z12_7 => intro a' w' hE hK hg; exact ok_move (kn (hK 7 rfl) rfl q7)
            case z12_8 => intro a' w' hE hK hg; exact ok_eqlI (ksv (j := 6) (hK 32 rfl) rfl rfl hg) (ksv (j := 7) (hK 33 rfl) rfl rfl hg)
            case z12_9 => intro a' w' hE hK hg; exact ok_pick (ksv (j := 3) (hK 29 rfl) rfl rfl rfl) (fun hb => ksv (j := 8) (hK 34 rfl) rfl rfl (act_g1 rfl rfl hb)) (fun _ => rfl)
            case zok12 => kernel_rfl
            case zgd12 => kernel_rfl
            intro a24 w24 hA' hE HF
            replace q0 := kn (HF 0) rfl q0
            replace q3 := kn (HF 3) rfl q3
            replace q5 := kn (HF 5) rfl q5
            replace q14 := kn (HF 14) rfl q14
            replace q15 := kn (HF 15) rfl q15
            replace q16 := kn (HF 16) rfl q16
            replace q20 := kn (HF 20) rfl q20
            replace q21 := kn (HF 21) rfl q21
            replace q22 := kn (HF 22) rfl q22
            have q35 := ksv (HF 35) rfl rfl rfl
            clear q7
            clear hA HF; have hA := hA'; clear hA'
            replace f15 := f15.ext hE
            replace f18 := f18.ext hE
            replace hB := Base.step hB hE hO; clear hE
            obtain ⟨x25, hx_, h⟩ := Comp.run_bind h; replace hx_ := Comp.run_pure hx_; rw [hx_] at q35; clear hx_
            refine (li_nil ?_)
            refine (nx_then ?_)
            refine wp_cond_b q35 (fun hc => ?_) (fun hc => ?_)
            ·
              replace h := Comp.run_b_t hc h; clear hc
              refine wp_exit ?_
              refine (ex_other rfl (ex_then (ex_then (ex_other rfl (ex_then (ex_same ?_))))))
              have hd_ := hdone5 _ (Comp.run_pure h).symm; clear h
              subst hd_; have h := hk5; clear hk5; try dsimp only at h
              refine (nx_then ?_)
              exact ⟨_, _, _, hA, hB, q0, f15, q3, f18, q14, q15, q16, h⟩
            ·
              replace h := Comp.run_b_f hc h; clear hc
              refine wp_skip ?_
              refine (nx_blk (nx_then ?_))
              refine' region [_, _] mixed hA (.cons ?z13_0 (.cons ?z13_1 .nil)) ?zok13 ?zgd13 ?zk13
              case z13_0 => intro a' w' hE hK hg; exact ok_add (kn (hK 22 rfl) rfl q22) rfl
              case z13_1 => intro a' w' hE hK hg; exact ok_move (ksv (j := 0) (hK 36 rfl) rfl rfl rfl)
              case zok13 => kernel_rfl
              case zgd13 => kernel_rfl
              intro a25 w25 hA' hE HF
              replace q0 := kn (HF 0) rfl q0
              replace q3 := kn (HF 3) rfl q3
              replace q5 := kn (HF 5) rfl q5
              replace q14 := kn (HF 14) rfl q14
              replace q15 := kn (HF 15) rfl q15
              replace q16 := kn (HF 16) rfl q16
              replace q20 := kn (HF 20) rfl q20
              replace q21 := kn (HF 21) rfl q21
              have q22' := ksv (HF 22) rfl rfl rfl
              replace q22 := q22'; clear q22'
              clear q35
              clear hA HF; have hA := hA'; clear hA'
              replace f15 := f15.ext hE
              replace f18 := f18.ext hE
              replace hB := Base.step hB hE hO; clear hE
              refine (li_nil ?_)
              refine (nx_then ?_)
              have h := hnext5 _ (Comp.run_pure h).symm
              refine ⟨m5, hlt5, ?_⟩
              exact ⟨_, _, hA, hB, q0, f15, q3, f18, q5, q14, q15, q16, q20, q21, q22, h⟩
          ·
            replace h := Comp.run_b_f hc h; clear hc
            refine wp_exit ?_
            refine (ex_then (ex_then (ex_same ?_)))
            have hd_ := hdone5 _ (Comp.run_pure h).symm; clear h
            subst hd_; have h := hk5; clear hk5; try dsimp only at h
            refine (nx_then ?_)
            exact ⟨_, hA, hB, q0, f15, q3, f18, q5, q14, q15, q16, h⟩
        intro a26 w26 hI
        clear hA hB h q0 q3 q5 q14 q15 q16 f15 f18
        obtain ⟨O29, hA, hB, q0, f15, q3, f18, q5, q14, q15, q16, h⟩ := hI
        unfold core_Minimal_j4 at h
        refine' regionT [_, _, SP.vl (rSl (rInt .i64)) O29 [x21]] hA (.cons ?z14_0 (.cons ?z14_1 (.cons ?z14_2 .nil))) ?zok14 ?zgd14 ?zk14
        case z14_0 => intro a' w' hE hK hg; exact ok_move (kn (hK 3 rfl) rfl q3)
        case z14_1 => intro a' w' hE hK hg; exact ok_move (kn (hK 5 rfl) rfl q5)
        case z14_2 => intro a' w' hE hK hg; exact okl_buildSliceV (r := (rInt .i64)) (fun _ => rfl) rfl (OkO.ext hB.ok hE) ty58 ty3 (parts_cons (ksv (j := 1) (hK 38 rfl) rfl rfl rfl) parts_nil) ⟨(by first | exact rInt_v.2 rfl | exact rBool_v.2 rfl | exact rStr_v.2 rfl | exact rC_v.2 rfl | exact ⟨_, rfl, rfl⟩), trivial⟩ rfl (by decide)
        case zok14 => kernel_rfl
        case zgd14 => kernel_rfl
        intro a27 w27 hA' hE HF
        replace q0 := kn (HF 0) rfl q0
        replace q3 := kn (HF 3) rfl q3
        replace q14 := kn (HF 14) rfl q14
        replace q15 := kn (HF 15) rfl q15
        replace q16 := kn (HF 16) rfl q16
        have q37 := ksv (HF 37) rfl rfl rfl
        have f31 := ksp (HF 39) rfl rfl rfl
        obtain ⟨u30, q39'⟩ : ∃ u, a27.get 39 = u := ⟨_, rfl⟩
        rw [q39'] at f31
        have q39 := q39'; clear q39'
        clear q5
        clear hA HF; have hA := hA'; clear hA'
        replace f15 := f15.ext hE
        replace f18 := f18.ext hE
        replace hB := Base.step hB hE hO; clear hE
        obtain ⟨x32, hx32, h⟩ := Comp.run_bind h
        refine l_append (r := (rInt .i64)) (fun _ => rfl) rfl ty58 ty3 rfl (by decide) hO hB (okB_fr hB) q37 f18 q39 (rd_of f31) hx32 (by decide) fun u33 w28 O34 f35 hB' hX => ?_
        clear hB; have hB := hB'; clear hB'
        clear f18
        replace f15 := f15.kx hX (by decide) (by decide)
        replace f31 := GR.kx _ f31 hX (by decide)
        clear hX
        refine put_cont hA (by decide) fun a29 hA' q_ hfr => ?_
        clear hA; have hA := hA'; clear hA'
        replace q0 := (hfr 0 rfl).trans q0
        replace q3 := (hfr 3 rfl).trans q3
        replace q14 := (hfr 14 rfl).trans q14
        replace q15 := (hfr 15 rfl).trans q15
        replace q16 := (hfr 16 rfl).trans q16
        replace q37 := (hfr 37 rfl).trans q37
        replace q39 := (hfr 39 rfl).trans q39
        have q40 := q_; clear q_ hfr
        refine l_ok (φ := SP.isv (u33)) hO hB (by exact ok_assign q40) rfl fun u_ w30 hE hB' hv_ => ?_
        replace hv_ := Eq.symm hv_; subst hv_; clear hB; have hB := hB'; clear hB'
        replace f15 := f15.ext hE
        replace f35 := f35.ext hE
        clear hE
        refine put_cont hA (by decide) fun a31 hA' q_ hfr => ?_
        clear hA; have hA := hA'; clear hA'
        replace q0 := (hfr 0 rfl).trans q0
        replace q14 := (hfr 14 rfl).trans q14
        replace q15 := (hfr 15 rfl).trans q15
        replace q16 := (hfr 16 rfl).trans q16
        replace q40 := (hfr 40 rfl).trans q40
        clear q3
        have q3 := q_; clear q_ hfr
        refine (li_nil ?_)
        refine (nx_blk (nx_then ?_))
        exact ⟨_, _, _, hA, hB, q0, f15, q3, f35, q14, q15, q16, h⟩
      intro a32 w32 hI
      clear hA hB h q0 q3 q14 q15 q16 q17 f15 f18
      obtain ⟨O36, x26, u27, hA, hB, q0, f15, q3, f28, q14, q15, q16, h⟩ := hI
      unfold core_Minimal_j3 at h
      refine' region [_, _] mixed hA (.cons ?z15_0 (.cons ?z15_1 .nil)) ?zok15 ?zgd15 ?zk15
      case z15_0 => intro a' w' hE hK hg; exact ok_add (kn (hK 16 rfl) rfl q16) rfl
      case z15_1 => intro a' w' hE hK hg; exact ok_move (ksv (j := 0) (hK 41 rfl) rfl rfl rfl)
      case zok15 => kernel_rfl
      case zgd15 => kernel_rfl
      intro a33 w33 hA' hE HF
      replace q0 := kn (HF 0) rfl q0
      replace q3 := kn (HF 3) rfl q3
      replace q14 := kn (HF 14) rfl q14
      replace q15 := kn (HF 15) rfl q15
      have q16' := ksv (HF 16) rfl rfl rfl
      replace q16 := q16'; clear q16'
      clear hA HF; have hA := hA'; clear hA'
      replace f15 := f15.ext hE
      replace f28 := f28.ext hE
      replace hB := Base.step hB hE hO; clear hE
      refine (li_nil ?_)
      refine (nx_then ?_)
      have h := hnext2 _ (Comp.run_pure h).symm
      refine ⟨m2, hlt2, ?_⟩
      exact ⟨_, _, _, _, hA, hB, q0, f15, q3, f28, q14, q15, q16, h⟩
    ·
      replace h := Comp.run_b_f hc h; clear hc
      refine wp_exit ?_
      refine (ex_then (ex_then (ex_same ?_)))
      have hd_ := hdone2 _ (Comp.run_pure h).symm; clear h
      subst hd_; have h := hk2; clear hk2; try dsimp only at h
      refine (nx_then ?_)
      exact ⟨_, _, _, hA, hB, q3, f18, h⟩
  intro a34 w34 hI
  clear hA hB h q0 q3 f15
  obtain ⟨O42, x39, u40, hA, hB, q3, f41, h⟩ := hI
  unfold core_Minimal_j1 at h
  refine wp_seq ?_
  refine' region [_, _] mixed hA (.cons ?z16_0 (.cons ?z16_1 .nil)) ?zok16 ?zgd16 ?zk16
  case z16_0 => intro a' w' hE hK hg; exact ok_move (kn (hK 3 rfl) rfl q3)
  case z16_1 => intro a' w' hE hK hg; exact ok_assign (ksv (j := 0) (hK 42 rfl) rfl rfl rfl)
  case zok16 => kernel_rfl
  case zgd16 => kernel_rfl
  intro a35 w35 hA' hE HF
  have q2 := ksv (HF 2) rfl rfl rfl
  clear q3
  clear hA HF; have hA := hA'; clear hA'
  replace f41 := f41.ext hE
  replace hB := Base.step hB hE hO; clear hE
  refine (li_nil ?_)
  refine (nx_then ?_)
  refine (wp_ret (rt_sc ?_))
  have h := Comp.run_pure h; subst h
  exact retPure Try.results42 hA q2 hB.ext (OwnL.res f41 (by decide) hB.zero)

theorem ok_colletref32_Same {O : Tags} {w0 : World} (hO : OkO O w0) {v_0 : Value} {x_0 : List Int} (h_0 : (rSl (rInt .i64)).v O w0 v_0 x_0) {v_1 : Value} {x_1 : List Int} (h_1 : (rSl (rInt .i64)).v O w0 v_1 x_1) {n : Nat} {y : Bool} (h : (colletref32_Same x_0 x_1).run n = some y) : Pure Try.prog 41 #[v_0, v_1] w0 (SP.isv (.bool y)).holds := by
  unfold colletref32_Same at h
  refine pure_of_wp Try.func41 rfl 26 Try.ntmps41 (by simp) fun a0 hA hs0 => ?_
  have q0 := hs0 0 _ rfl
  have q1 := hs0 1 _ rfl
  clear hs0
  have hB : Base (Fr w0) O w0 O w0 := Base.start hO
  refine wp_seq ?_
  refine' region [_] mixed hA (.cons ?z1_0 .nil) ?zok1 ?zgd1 ?zk1
  case z1_0 => intro a' w' hE hK hg; exact ok_assign rfl
  case zok1 => kernel_rfl
  case zgd1 => kernel_rfl
  intro a1 w1 hA' hE HF
  replace q0 := kn (HF 0) rfl q0
  replace q1 := kn (HF 1) rfl q1
  clear hA HF; have hA := hA'; clear hA'
  replace h_0 := GR.v_ext _ h_0 hE
  replace h_1 := GR.v_ext _ h_1 hE
  replace hB := Base.step hB hE hO; clear hE
  refine (li_nil ?_)
  refine (nx_then ?_)
  refine wp_seq ?_
  refine wp_seq ?_
  refine' region [_, _, _, _, _] mixed hA (.cons ?z2_0 (.cons ?z2_1 (.cons ?z2_2 (.cons ?z2_3 (.cons ?z2_4 .nil))))) ?zok2 ?zgd2 ?zk2
  case z2_0 => intro a' w' hE hK hg; exact ok_move (kn (hK 0 rfl) rfl q0)
  case z2_1 => intro a' w' hE hK hg; exact okl_len (r := (rInt .i64)) ty58 (ksv (j := 0) (hK 6 rfl) rfl rfl rfl) (rd_of (GR.v_ext _ h_0 hE))
  case z2_2 => intro a' w' hE hK hg; exact ok_move (kn (hK 1 rfl) rfl q1)
  case z2_3 => intro a' w' hE hK hg; exact okl_len (r := (rInt .i64)) ty58 (ksv (j := 2) (hK 8 rfl) rfl rfl rfl) (rd_of (GR.v_ext _ h_1 hE))
  case z2_4 => intro a' w' hE hK hg; exact ok_neqI (ksv (j := 1) (hK 7 rfl) rfl rfl rfl) (ksv (j := 3) (hK 9 rfl) rfl rfl rfl)
  case zok2 => kernel_rfl
  case zgd2 => kernel_rfl
  intro a2 w2 hA' hE HF
  replace q0 := kn (HF 0) rfl q0
  replace q1 := kn (HF 1) rfl q1
  have q10 := ksv (HF 10) rfl rfl rfl
  clear hA HF; have hA := hA'; clear hA'
  replace h_0 := GR.v_ext _ h_0 hE
  replace h_1 := GR.v_ext _ h_1 hE
  replace hB := Base.step hB hE hO; clear hE
  obtain ⟨x1, hx_, h⟩ := Comp.run_bind h; replace hx_ := Comp.run_pure hx_; rw [hx_] at q10; clear hx_
  refine (li_nil ?_)
  refine (nx_then ?_)
  refine wp_cond_b q10 (fun hc => ?_) (fun hc => ?_)
  ·
    replace h := Comp.run_b_t hc h; clear hc
    refine wp_seq ?_
    refine' region [_] mixed hA (.cons ?z3_0 .nil) ?zok3 ?zgd3 ?zk3
    case z3_0 => intro a' w' hE hK hg; exact ok_assign rfl
    case zok3 => kernel_rfl
    case zgd3 => kernel_rfl
    intro a3 w3 hA' hE HF
    have q4 := ksv (HF 4) rfl rfl rfl
    clear q0
    clear q1
    clear q10
    clear hA HF; have hA := hA'; clear hA'
    replace h_0 := GR.v_ext _ h_0 hE
    replace h_1 := GR.v_ext _ h_1 hE
    replace hB := Base.step hB hE hO; clear hE
    refine (li_nil ?_)
    refine (nx_then ?_)
    refine (wp_ret (rt_then ?_))
    have h := Comp.run_pure h; subst h
    exact retPure Try.results41 hA q4 hB.ext rfl
  ·
    replace h := Comp.run_b_f hc h; clear hc
    refine wp_skip ?_
    refine (nx_then ?_)
    refine seq_join (fun a w => ∃ (O7 : Tags), a.fit 26 ∧ Base (Fr w0) O w0 O7 w ∧ (colletref32_Same_j1 ).run n = some y) ?_ ?_
    ·
      refine wp_seq ?_
      refine' region [_] mixed hA (.cons ?z4_0 .nil) ?zok4 ?zgd4 ?zk4
      case z4_0 => intro a' w' hE hK hg; exact ok_assign rfl
      case zok4 => kernel_rfl
      case zgd4 => kernel_rfl
      intro a4 w4 hA' hE HF
      replace q0 := kn (HF 0) rfl q0
      replace q1 := kn (HF 1) rfl q1
      have q5 := ksv (HF 5) rfl rfl rfl
      clear q10
      clear hA HF; have hA := hA'; clear hA'
      replace h_0 := GR.v_ext _ h_0 hE
      replace h_1 := GR.v_ext _ h_1 hE
      replace hB := Base.step hB hE hO; clear hE
      refine (li_nil ?_)
      refine (nx_then ?_)
      refine wp_block ?_
      obtain ⟨e2, he2, hk2⟩ := Comp.run_bind h; clear h
      refine loop_m (fun m a w => ∃ (O3 : Tags) (x2 : Int), a.fit 26 ∧ Base (Fr w0) O w0 O3 w ∧ a.get 0 = v_0 ∧ (rSl (rInt .i64)).v O3 w v_0 x_0 ∧ a.get 1 = v_1 ∧ (rSl (rInt .i64)).v O3 w v_1 x_1 ∧ a.get 5 = .int .i64 x2 ∧ Comp.loopN (fun s => colletref32_Same_l2 x_0 x_1 s) n m x2 = some e2) (m := n) ?st2 ?_
      case st2 =>
        exact ⟨_, _, hA, hB, q0, h_0, q1, h_1, q5, Comp.run_loop he2⟩
      intro m_ a5 w5 hI
      clear hA hB he2 q0 q1 q5 h_0 h_1
      obtain ⟨O3, x2, hA, hB, q0, h_0, q1, h_1, q5, hl⟩ := hI
      obtain ⟨m2, hlt2, st2, h, hnext2, hdone2⟩ := Comp.loopN_succ hl; clear hl
      replace h : (colletref32_Same_l2 x_0 x_1 x2).run n = some st2 := h
      unfold colletref32_Same_l2 at h
      refine wp_seq ?_
      refine wp_seq ?_
      refine' region [_, _, _, _] mixed hA (.cons ?z5_0 (.cons ?z5_1 (.cons ?z5_2 (.cons ?z5_3 .nil)))) ?zok5 ?zgd5 ?zk5
      case z5_0 => intro a' w' hE hK hg; exact ok_move (kn (hK 5 rfl) rfl q5)
      case z5_1 => intro a' w' hE hK hg; exact ok_move (kn (hK 0 rfl) rfl q0)
      case z5_2 => intro a' w' hE hK hg; exact okl_len (r := (rInt .i64)) ty58 (ksv (j := 1) (hK 12 rfl) rfl rfl rfl) (rd_of (GR.v_ext _ h_0 hE))
      case z5_3 => intro a' w' hE hK hg; exact ok_lss (ksv (j := 0) (hK 11 rfl) rfl rfl rfl) (ksv (j := 2) (hK 13 rfl) rfl rfl rfl)
      case zok5 => kernel_rfl
      case zgd5 => kernel_rfl
      intro a6 w6 hA' hE HF
      replace q0 := kn (HF 0) rfl q0
      replace q1 := kn (HF 1) rfl q1
      replace q5 := kn (HF 5) rfl q5
      have q14 := ksv (HF 14) rfl rfl rfl
      clear hA HF; have hA := hA'; clear hA'
      replace h_0 := GR.v_ext _ h_0 hE
      replace h_1 := GR.v_ext _ h_1 hE
      replace hB := Base.step hB hE hO; clear hE
      refine (li_nil ?_)
      refine (nx_then ?_)
      refine wp_cond_b q14 (fun hc => ?_) (fun hc => ?_)
      ·
        replace h := Comp.run_b_t hc h; clear hc
        refine wp_skip ?_
        refine (nx_then ?_)
        refine wp_seq ?_
        refine wp_block ?_
        refine wp_seq ?_
        obtain ⟨x4, hx4, h⟩ := Comp.run_bind h
        obtain ⟨x5, hx5, h⟩ := Comp.run_bind h
        refine' region [_, _, SP.ptr (rInt .i64) O3 x4, SP.isv (.int .i64 x4), _, _, SP.ptr (rInt .i64) O3 x5, SP.isv (.int .i64 x5), _] mixed hA (.cons ?z6_0 (.cons ?z6_1 (.cons ?z6_2 (.cons ?z6_3 (.cons ?z6_4 (.cons ?z6_5 (.cons ?z6_6 (.cons ?z6_7 (.cons ?z6_8 .nil))))))))) ?zok6 ?zgd6 ?zk6
        case z6_0 => intro a' w' hE hK hg; exact ok_move (kn (hK 0 rfl) rfl q0)
        case z6_1 => intro a' w' hE hK hg; exact ok_move (kn (hK 5 rfl) rfl q5)
        case z6_2 => intro a' w' hE hK hg; exact okl_idx (r := (rInt .i64)) (O := O3) ty58 ty3 rfl (ksv (j := 0) (hK 17 rfl) rfl rfl rfl) (rd_of (GR.v_ext _ h_0 hE)) (ksv (j := 1) (hK 18 rfl) rfl rfl rfl) hx4
        case z6_3 => intro a' w' hE hK hg; exact okl_ldr (rInt .i64) (fun _ => rfl) ty3 rfl rfl rfl (kspS (φ := SP.ptr (rInt .i64) O3 x4) (j := 2) (hK 19 rfl) rfl rfl rfl) (fun _ _ _ h => rInt_v.1 h)
        case z6_4 => intro a' w' hE hK hg; exact ok_move (kn (hK 1 rfl) rfl q1)
        case z6_5 => intro a' w' hE hK hg; exact ok_move (kn (hK 5 rfl) rfl q5)
        case z6_6 => intro a' w' hE hK hg; exact okl_idx (r := (rInt .i64)) (O := O3) ty58 ty3 rfl (ksv (j := 4) (hK 21 rfl) rfl rfl rfl) (rd_of (GR.v_ext _ h_1 hE)) (ksv (j := 5) (hK 22 rfl) rfl rfl rfl) hx5
        case z6_7 => intro a' w' hE hK hg; exact okl_ldr (rInt .i64) (fun _ => rfl) ty3 rfl rfl rfl (kspS (φ := SP.ptr (rInt .i64) O3 x5) (j := 6) (hK 23 rfl) rfl rfl rfl) (fun _ _ _ h => rInt_v.1 h)
        case z6_8 => intro a' w' hE hK hg; exact ok_neqI (ksv (j := 3) (hK 20 rfl) rfl rfl rfl) (ksv (j := 7) (hK 24 rfl) rfl rfl rfl)
        case zok6 => kernel_rfl
        case zgd6 => kernel_rfl
        intro a7 w7 hA' hE HF
        replace q0 := kn (HF 0) rfl q0
        replace q1 := kn (HF 1) rfl q1
        replace q5 := kn (HF 5) rfl q5
        have q25 := ksv (HF 25) rfl rfl rfl
        clear q14
        clear hA HF; have hA := hA'; clear hA'
        replace h_0 := GR.v_ext _ h_0 hE
        replace h_1 := GR.v_ext _ h_1 hE
        replace hB := Base.step hB hE hO; clear hE
        refine (li_nil ?_)
        refine (nx_then ?_)
        refine wp_cond_b q25 (fun hc => ?_) (fun hc => ?_)
        ·
          replace h := Comp.run_b_t hc h; clear hc
          refine wp_seq ?_
          refine' region [_] mixed hA (.cons ?z7_0 .nil) ?zok7 ?zgd7 ?zk7
          case z7_0 => intro a' w' hE hK hg; exact ok_assign rfl
          case zok7 => kernel_rfl
          case zgd7 => kernel_rfl
          intro a8 w8 hA' hE HF
          have q4 := ksv (HF 4) rfl rfl rfl
          clear q0
          clear q1
          clear q5
          clear q25
          clear hA HF; have hA := hA'; clear hA'
          replace h_0 := GR.v_ext _ h_0 hE
          replace h_1 := GR.v_ext _ h_1 hE
          replace hB := Base.step hB hE hO; clear hE
          refine (li_nil ?_)
          refine (nx_then ?_)
          refine (wp_ret (rt_blk (rt_then (rt_then (rt_blk (rt_then ?_))))))
          have hd_ := hdone2 _ (Comp.run_pure h).symm; clear h
          subst hd_; have h := hk2; clear hk2; try dsimp only at h
          have h := Comp.run_pure h; subst h
          exact retPure Try.results41 hA q4 hB.ext rfl
        ·
          replace h := Comp.run_b_f hc h; clear hc
          refine wp_skip ?_
          refine (nx_blk (nx_then ?_))
          refine' region [_, _, _] mixed hA (.cons ?z8_0 (.cons ?z8_1 (.cons ?z8_2 .nil))) ?zok8 ?zgd8 ?zk8
          case z8_0 => intro a' w' hE hK hg; exact ok_move (kn (hK 5 rfl) rfl q5)
          case z8_1 => intro a' w' hE hK hg; exact ok_add (ksv (j := 0) (hK 15 rfl) rfl rfl rfl) rfl
          case z8_2 => intro a' w' hE hK hg; exact ok_assign (ksv (j := 1) (hK 16 rfl) rfl rfl rfl)
          case zok8 => kernel_rfl
          case zgd8 => kernel_rfl
          intro a9 w9 hA' hE HF
          replace q0 := kn (HF 0) rfl q0
          replace q1 := kn (HF 1) rfl q1
          have q5' := ksv (HF 5) rfl rfl rfl
          replace q5 := q5'; clear q5'
          clear q25
          clear hA HF; have hA := hA'; clear hA'
          replace h_0 := GR.v_ext _ h_0 hE
          replace h_1 := GR.v_ext _ h_1 hE
          replace hB := Base.step hB hE hO; clear hE
          refine (li_nil ?_)
          refine (nx_then ?_)
          have h := hnext2 _ (Comp.run_pure h).symm
          refine ⟨m2, hlt2, ?_⟩
          exact ⟨_, _, hA, hB, q0, h_0, q1, h_1, q5, h⟩
      ·
        replace h := Comp.run_b_f hc h; clear hc
        refine wp_exit ?_
        refine (ex_then (ex_then (ex_same ?_)))
        have hd_ := hdone2 _ (Comp.run_pure h).symm; clear h
        subst hd_; have h := hk2; clear hk2; try dsimp only at h
        refine (nx_then ?_)
        exact ⟨_, hA, hB, h⟩
    intro a10 w10 hI
    clear hA hB h q0 q1 q10 h_0 h_1
    obtain ⟨O7, hA, hB, h⟩ := hI
    unfold colletref32_Same_j1 at h
    refine wp_seq ?_
    refine' region [_] mixed hA (.cons ?z9_0 .nil) ?zok9 ?zgd9 ?zk9
    case z9_0 => intro a' w' hE hK hg; exact ok_assign rfl
    case zok9 => kernel_rfl
    case zgd9 => kernel_rfl
    intro a11 w11 hA' hE HF
    have q4 := ksv (HF 4) rfl rfl rfl
    clear hA HF; have hA := hA'; clear hA'
    replace hB := Base.step hB hE hO; clear hE
    refine (li_nil ?_)
    refine (nx_then ?_)
    refine (wp_ret ?_)
    have h := Comp.run_pure h; subst h
    exact retPure Try.results41 hA q4 hB.ext rfl

theorem ok_core_Hitting_f1 {O : Tags} {w0 : World} (hO : OkO O w0) {x_0 : Int} {v_1 : Value} {x_1 : Int} (h_1 : (rBox (rInt .i64)).v O w0 v_1 x_1) {n : Nat} {y : Bool} (h : (core_Hitting_f1 x_0 x_1).run n = some y) : Pure Try.prog 86 #[.int .i64 x_0, v_1] w0 (SP.isv (.bool y)).holds := by
  unfold core_Hitting_f1 at h
  refine pure_of_wp Try.func86 rfl 12 Try.ntmps86 (by simp) fun a0 hA hs0 => ?_
  have q0 := hs0 0 _ rfl
  have q1 := hs0 1 _ rfl
  clear hs0
  have hB : Base (Fr w0) O w0 O w0 := Base.start hO
  refine wp_seq ?_
  refine' region [_] mixed hA (.cons ?z1_0 .nil) ?zok1 ?zgd1 ?zk1
  case z1_0 => intro a' w' hE hK hg; exact ok_assign rfl
  case zok1 => kernel_rfl
  case zgd1 => kernel_rfl
  intro a1 w1 hA' hE HF
  replace q0 := kn (HF 0) rfl q0
  replace q1 := kn (HF 1) rfl q1
  clear hA HF; have hA := hA'; clear hA'
  replace h_1 := GR.v_ext _ h_1 hE
  replace hB := Base.step hB hE hO; clear hE
  refine (li_nil ?_)
  refine (nx_then ?_)
  refine wp_seq ?_
  obtain ⟨x1, hx1, h⟩ := Comp.run_bind h
  refine' region [_, _, _, _, SP.isv (.int .i64 x_1), _, _, _, _] mixed hA (.cons ?z2_0 (.cons ?z2_1 (.cons ?z2_2 (.cons ?z2_3 (.cons ?z2_4 (.cons ?z2_5 (.cons ?z2_6 (.cons ?z2_7 (.cons ?z2_8 .nil))))))))) ?zok2 ?zgd2 ?zk2
  case z2_0 => intro a' w' hE hK hg; exact ok_move (kn (hK 0 rfl) rfl q0)
  case z2_1 => intro a' w' hE hK hg; exact ok_lss (ksv (j := 0) (hK 4 rfl) rfl rfl rfl) rfl
  case z2_2 => intro a' w' hE hK hg; exact ok_move (ksv (j := 1) (hK 5 rfl) rfl rfl rfl)
  case z2_3 => intro a' w' hE hK hg; exact ok_move (kn (hK 0 rfl) rfl q0)
  case z2_4 => intro a' w' hE hK hg; exact okl_ldr (rInt .i64) (fun _ => rfl) ty3 rfl rfl (kn (hK 1 rfl) rfl q1) (ptr_of_box (fun _ => rfl) (GR.v_ext _ h_1 hE)) (fun _ _ _ h => rInt_v.1 h)
  case z2_5 => intro a' w' hE hK hg; exact okl_shl rfl (ksv (j := 4) (hK 8 rfl) rfl rfl hg) (run_nonneg (run_gdb hx1 hg))
  case z2_6 => intro a' w' hE hK hg; exact ok_geq (ksv (j := 3) (hK 7 rfl) rfl rfl hg) (ksv (j := 5) (hK 9 rfl) rfl rfl hg)
  case z2_7 => intro a' w' hE hK hg; exact ok_pick (ksv (j := 2) (hK 6 rfl) rfl rfl rfl) (fun _ => rfl) (fun hb => ksv (j := 6) (hK 10 rfl) rfl rfl (act_g1 rfl rfl hb))
  case z2_8 => intro a' w' hE hK hg; exact ok_assign (ksv (j := 7) (hK 11 rfl) rfl rfl rfl)
  case zok2 => kernel_rfl
  case zgd2 => kernel_rfl
  intro a2 w2 hA' hE HF
  have q3 := ksv (HF 3) rfl rfl rfl
  clear q0
  clear q1
  clear hA HF; have hA := hA'; clear hA'
  replace h_1 := GR.v_ext _ h_1 hE
  replace hB := Base.step hB hE hO; clear hE
  obtain ⟨x2, hx_, h⟩ := Comp.run_bind h; replace hx_ := Comp.run_pure hx_; rw [hx_] at q3; clear hx_
  refine (li_nil ?_)
  refine (nx_then ?_)
  refine (wp_ret ?_)
  have h := Comp.run_pure h; subst h
  exact retPure Try.results86 hA q3 hB.ext rfl

theorem ok_slices_IndexFunc_int_int {O : Tags} {w0 : World} (hO : OkO O w0) {v_0 : Value} {x_0 : List Int} (h_0 : (rSl (rInt .i64)).v O w0 v_0 x_0) {v_1 : Value} {x_1 : Int → Comp Bool} (h_1 : (rF1 Try.prog (rInt .i64) (RS.c (fun x => .bool x))).v O w0 v_1 x_1) {n : Nat} {y : Int} (h : (slices_IndexFunc_int_int x_0 x_1).run n = some y) : Pure Try.prog 122 #[v_0, v_1] w0 (SP.isv (.int .i64 y)).holds := by
  unfold slices_IndexFunc_int_int at h
  refine pure_of_wp Try.func122 rfl 19 Try.ntmps122 (by simp) fun a0 hA hs0 => ?_
  have q0 := hs0 0 _ rfl
  have q1 := hs0 1 _ rfl
  clear hs0
  have hB : Base (Fr w0) O w0 O w0 := Base.start hO
  refine wp_seq ?_
  refine' region [_] mixed hA (.cons ?z1_0 .nil) ?zok1 ?zgd1 ?zk1
  case z1_0 => intro a' w' hE hK hg; exact ok_assign rfl
  case zok1 => kernel_rfl
  case zgd1 => kernel_rfl
  intro a1 w1 hA' hE HF
  replace q0 := kn (HF 0) rfl q0
  replace q1 := kn (HF 1) rfl q1
  clear hA HF; have hA := hA'; clear hA'
  replace h_0 := GR.v_ext _ h_0 hE
  replace h_1 := GR.v_ext _ h_1 hE
  replace hB := Base.step hB hE hO; clear hE
  refine (li_nil ?_)
  refine (nx_then ?_)
  refine seq_join (fun a w => ∃ (O6 : Tags), a.fit 19 ∧ Base (Fr w0) O w0 O6 w ∧ (slices_IndexFunc_int_int_j1 ).run n = some y) ?_ ?_
  ·
    refine wp_seq ?_
    refine' region [_, _, _] mixed hA (.cons ?z2_0 (.cons ?z2_1 (.cons ?z2_2 .nil))) ?zok2 ?zgd2 ?zk2
    case z2_0 => intro a' w' hE hK hg; exact ok_move (kn (hK 0 rfl) rfl q0)
    case z2_1 => intro a' w' hE hK hg; exact okl_len (r := (rInt .i64)) ty58 (ksv (j := 0) (hK 6 rfl) rfl rfl rfl) (rd_of (GR.v_ext _ h_0 hE))
    case z2_2 => intro a' w' hE hK hg; exact ok_move rfl
    case zok2 => kernel_rfl
    case zgd2 => kernel_rfl
    intro a2 w2 hA' hE HF
    replace q0 := kn (HF 0) rfl q0
    replace q1 := kn (HF 1) rfl q1
    have q7 := ksv (HF 7) rfl rfl rfl
    have q8 := ksv (HF 8) rfl rfl rfl
    clear hA HF; have hA := hA'; clear hA'
    replace h_0 := GR.v_ext _ h_0 hE
    replace h_1 := GR.v_ext _ h_1 hE
    replace hB := Base.step hB hE hO; clear hE
    refine (li_nil ?_)
    refine (nx_then ?_)
    refine wp_block ?_
    obtain ⟨e2, he2, hk2⟩ := Comp.run_bind h; clear h
    refine loop_m (fun m a w => ∃ (O2 : Tags) (x1 : Int), a.fit 19 ∧ Base (Fr w0) O w0 O2 w ∧ a.get 0 = v_0 ∧ (rSl (rInt .i64)).v O2 w v_0 x_0 ∧ a.get 1 = v_1 ∧ (rF1 Try.prog (rInt .i64) (RS.c (fun x => .bool x))).v O2 w v_1 x_1 ∧ a.get 7 = .int .i64 (x_0.length : Int) ∧ a.get 8 = .int .i64 x1 ∧ Comp.loopN (fun s => slices_IndexFunc_int_int_l2 x_0 x_1 s) n m x1 = some e2) (m := n) ?st2 ?_
    case st2 =>
      exact ⟨_, _, hA, hB, q0, h_0, q1, h_1, q7, q8, Comp.run_loop he2⟩
    intro m_ a3 w3 hI
    clear hA hB he2 q0 q1 q7 q8 h_0 h_1
    obtain ⟨O2, x1, hA, hB, q0, h_0, q1, h_1, q7, q8, hl⟩ := hI
    obtain ⟨m2, hlt2, st2, h, hnext2, hdone2⟩ := Comp.loopN_succ hl; clear hl
    replace h : (slices_IndexFunc_int_int_l2 x_0 x_1 x1).run n = some st2 := h
    unfold slices_IndexFunc_int_int_l2 at h
    refine wp_seq ?_
    refine' region [_] mixed hA (.cons ?z3_0 .nil) ?zok3 ?zgd3 ?zk3
    case z3_0 => intro a' w' hE hK hg; exact ok_lss (kn (hK 8 rfl) rfl q8) (kn (hK 7 rfl) rfl q7)
    case zok3 => kernel_rfl
    case zgd3 => kernel_rfl
    intro a4 w4 hA' hE HF
    replace q0 := kn (HF 0) rfl q0
    replace q1 := kn (HF 1) rfl q1
    replace q7 := kn (HF 7) rfl q7
    replace q8 := kn (HF 8) rfl q8
    have q9 := ksv (HF 9) rfl rfl rfl
    clear hA HF; have hA := hA'; clear hA'
    replace h_0 := GR.v_ext _ h_0 hE
    replace h_1 := GR.v_ext _ h_1 hE
    replace hB := Base.step hB hE hO; clear hE
    refine (li_nil ?_)
    refine (nx_then ?_)
    refine wp_seq ?_
    refine wp_cond_b q9 (fun hc => ?_) (fun hc => ?_)
    ·
      replace h := Comp.run_b_t hc h; clear hc
      refine wp_skip ?_
      refine (nx_then ?_)
      refine wp_seq ?_
      refine wp_block ?_
      refine wp_seq ?_
      refine' region [_, _] mixed hA (.cons ?z4_0 (.cons ?z4_1 .nil)) ?zok4 ?zgd4 ?zk4
      case z4_0 => intro a' w' hE hK hg; exact ok_move (kn (hK 8 rfl) rfl q8)
      case z4_1 => intro a' w' hE hK hg; exact ok_assign (ksv (j := 0) (hK 10 rfl) rfl rfl rfl)
      case zok4 => kernel_rfl
      case zgd4 => kernel_rfl
      intro a5 w5 hA' hE HF
      replace q0 := kn (HF 0) rfl q0
      replace q1 := kn (HF 1) rfl q1
      have q5 := ksv (HF 5) rfl rfl rfl
      replace q7 := kn (HF 7) rfl q7
      replace q8 := kn (HF 8) rfl q8
      clear q9
      clear hA HF; have hA := hA'; clear hA'
      replace h_0 := GR.v_ext _ h_0 hE
      replace h_1 := GR.v_ext _ h_1 hE
      replace hB := Base.step hB hE hO; clear hE
      refine (li_nil ?_)
      refine (nx_then ?_)
      refine wp_seq ?_
      obtain ⟨x3, hx3, h⟩ := Comp.run_bind h
      obtain ⟨x4, hx4, h⟩ := Comp.run_bind h
      refine' region [_, _, _, SP.ptr (rInt .i64) O2 x3, SP.isv (.int .i64 x3), SP.isv (.bool x4)] mixed hA (.cons ?z5_0 (.cons ?z5_1 (.cons ?z5_2 (.cons ?z5_3 (.cons ?z5_4 (.cons ?z5_5 .nil)))))) ?zok5 ?zgd5 ?zk5
      case z5_0 => intro a' w' hE hK hg; exact ok_move (kn (hK 1 rfl) rfl q1)
      case z5_1 => intro a' w' hE hK hg; exact ok_move (kn (hK 0 rfl) rfl q0)
      case z5_2 => intro a' w' hE hK hg; exact ok_move (kn (hK 5 rfl) rfl q5)
      case z5_3 => intro a' w' hE hK hg; exact okl_idx (r := (rInt .i64)) (O := O2) ty58 ty3 rfl (ksv (j := 1) (hK 12 rfl) rfl rfl rfl) (rd_of (GR.v_ext _ h_0 hE)) (ksv (j := 2) (hK 13 rfl) rfl rfl rfl) hx3
      case z5_4 => intro a' w' hE hK hg; exact okl_ldr (rInt .i64) (fun _ => rfl) ty3 rfl rfl rfl (kspS (φ := SP.ptr (rInt .i64) O2 x3) (j := 3) (hK 14 rfl) rfl rfl rfl) (fun _ _ _ h => rInt_v.1 h)
      case z5_5 => intro a' w' hE hK hg; exact okl_callv1 (R := (RS.c (fun x => .bool x))) (ksv (j := 0) (hK 11 rfl) rfl rfl rfl) (show ((rF1 Try.prog (rInt .i64) (RS.c (fun x => .bool x)))).v O2 _ _ _ from (GR.v_ext _ h_1 hE)) (OkO.ext hB.ok hE) (ksv (j := 4) (hK 15 rfl) rfl rfl rfl) (by first | exact rInt_v.2 rfl | exact rBool_v.2 rfl | exact rStr_v.2 rfl | exact rC_v.2 rfl | exact ⟨_, rfl, rfl⟩) hx4
      case zok5 => kernel_rfl
      case zgd5 => kernel_rfl
      intro a6 w6 hA' hE HF
      replace q0 := kn (HF 0) rfl q0
      replace q1 := kn (HF 1) rfl q1
      replace q5 := kn (HF 5) rfl q5
      replace q7 := kn (HF 7) rfl q7
      replace q8 := kn (HF 8) rfl q8
      have q16 := ksv (HF 16) rfl rfl rfl
      clear hA HF; have hA := hA'; clear hA'
      replace h_0 := GR.v_ext _ h_0 hE
      replace h_1 := GR.v_ext _ h_1 hE
      replace hB := Base.step hB hE hO; clear hE
      refine (li_nil ?_)
      refine (nx_then ?_)
      refine wp_cond_b q16 (fun hc => ?_) (fun hc => ?_)
      ·
        replace h := Comp.run_b_t hc h; clear hc
        refine wp_seq ?_
        refine' region [_, _] mixed hA (.cons ?z6_0 (.cons ?z6_1 .nil)) ?zok6 ?zgd6 ?zk6
        case z6_0 => intro a' w' hE hK hg; exact ok_move (kn (hK 5 rfl) rfl q5)
        case z6_1 => intro a' w' hE hK hg; exact ok_assign (ksv (j := 0) (hK 17 rfl) rfl rfl rfl)
        case zok6 => kernel_rfl
        case zgd6 => kernel_rfl
        intro a7 w7 hA' hE HF
        have q4 := ksv (HF 4) rfl rfl rfl
        clear q0
        clear q1
        clear q5
        clear q7
        clear q8
        clear q16
        clear hA HF; have hA := hA'; clear hA'
        replace h_0 := GR.v_ext _ h_0 hE
        replace h_1 := GR.v_ext _ h_1 hE
        replace hB := Base.step hB hE hO; clear hE
        refine (li_nil ?_)
        refine (nx_then ?_)
        refine (wp_ret (rt_blk (rt_then (rt_then (rt_blk (rt_then ?_))))))
        have hd_ := hdone2 _ (Comp.run_pure h).symm; clear h
        subst hd_; have h := hk2; clear hk2; try dsimp only at h
        have h := Comp.run_pure h; subst h
        exact retPure Try.results122 hA q4 hB.ext rfl
      ·
        replace h := Comp.run_b_f hc h; clear hc
        refine wp_skip ?_
        refine (nx_blk (nx_then ?_))
        refine' region [_, _] mixed hA (.cons ?z7_0 (.cons ?z7_1 .nil)) ?zok7 ?zgd7 ?zk7
        case z7_0 => intro a' w' hE hK hg; exact ok_add (kn (hK 8 rfl) rfl q8) rfl
        case z7_1 => intro a' w' hE hK hg; exact ok_move (ksv (j := 0) (hK 18 rfl) rfl rfl rfl)
        case zok7 => kernel_rfl
        case zgd7 => kernel_rfl
        intro a8 w8 hA' hE HF
        replace q0 := kn (HF 0) rfl q0
        replace q1 := kn (HF 1) rfl q1
        replace q7 := kn (HF 7) rfl q7
        have q8' := ksv (HF 8) rfl rfl rfl
        replace q8 := q8'; clear q8'
        clear q5
        clear q16
        clear hA HF; have hA := hA'; clear hA'
        replace h_0 := GR.v_ext _ h_0 hE
        replace h_1 := GR.v_ext _ h_1 hE
        replace hB := Base.step hB hE hO; clear hE
        refine (li_nil ?_)
        refine (nx_then ?_)
        have h := hnext2 _ (Comp.run_pure h).symm
        refine ⟨m2, hlt2, ?_⟩
        exact ⟨_, _, hA, hB, q0, h_0, q1, h_1, q7, q8, h⟩
    ·
      replace h := Comp.run_b_f hc h; clear hc
      refine wp_exit ?_
      refine (ex_then (ex_then (ex_same ?_)))
      have hd_ := hdone2 _ (Comp.run_pure h).symm; clear h
      subst hd_; have h := hk2; clear hk2; try dsimp only at h
      refine (nx_then ?_)
      exact ⟨_, hA, hB, h⟩
  intro a9 w9 hI
  clear hA hB h q0 q1 h_0 h_1
  obtain ⟨O6, hA, hB, h⟩ := hI
  unfold slices_IndexFunc_int_int_j1 at h
  refine wp_seq ?_
  refine' region [_] mixed hA (.cons ?z8_0 .nil) ?zok8 ?zgd8 ?zk8
  case z8_0 => intro a' w' hE hK hg; exact ok_assign rfl
  case zok8 => kernel_rfl
  case zgd8 => kernel_rfl
  intro a10 w10 hA' hE HF
  have q4 := ksv (HF 4) rfl rfl rfl
  clear hA HF; have hA := hA'; clear hA'
  replace hB := Base.step hB hE hO; clear hE
  refine (li_nil ?_)
  refine (nx_then ?_)
  refine (wp_ret ?_)
  have h := Comp.run_pure h; subst h
  exact retPure Try.results122 hA q4 hB.ext rfl

theorem ok_slices_ContainsFunc_int_int {O : Tags} {w0 : World} (hO : OkO O w0) {v_0 : Value} {x_0 : List Int} (h_0 : (rSl (rInt .i64)).v O w0 v_0 x_0) {v_1 : Value} {x_1 : Int → Comp Bool} (h_1 : (rF1 Try.prog (rInt .i64) (RS.c (fun x => .bool x))).v O w0 v_1 x_1) {n : Nat} {y : Bool} (h : (slices_ContainsFunc_int_int x_0 x_1).run n = some y) : Pure Try.prog 87 #[v_0, v_1] w0 (SP.isv (.bool y)).holds := by
  unfold slices_ContainsFunc_int_int at h
  refine pure_of_wp Try.func87 rfl 9 Try.ntmps87 (by simp) fun a0 hA hs0 => ?_
  have q0 := hs0 0 _ rfl
  have q1 := hs0 1 _ rfl
  clear hs0
  have hB : Base (Fr w0) O w0 O w0 := Base.start hO
  refine wp_seq ?_
  refine' region [_] mixed hA (.cons ?z1_0 .nil) ?zok1 ?zgd1 ?zk1
  case z1_0 => intro a' w' hE hK hg; exact ok_assign rfl
  case zok1 => kernel_rfl
  case zgd1 => kernel_rfl
  intro a1 w1 hA' hE HF
  replace q0 := kn (HF 0) rfl q0
  replace q1 := kn (HF 1) rfl q1
  clear hA HF; have hA := hA'; clear hA'
  replace h_0 := GR.v_ext _ h_0 hE
  replace h_1 := GR.v_ext _ h_1 hE
  replace hB := Base.step hB hE hO; clear hE
  refine (li_nil ?_)
  refine (nx_then ?_)
  refine wp_seq ?_
  obtain ⟨x1, hx1, h⟩ := Comp.run_bind h
  refine' region [_, _, SP.isv (.int .i64 x1), _, _] mixed hA (.cons ?z2_0 (.cons ?z2_1 (.cons ?z2_2 (.cons ?z2_3 (.cons ?z2_4 .nil))))) ?zok2 ?zgd2 ?zk2
  case z2_0 => intro a' w' hE hK hg; exact ok_move (kn (hK 0 rfl) rfl q0)
  case z2_1 => intro a' w' hE hK hg; exact ok_move (kn (hK 1 rfl) rfl q1)
  case z2_2 => intro a' w' hE hK hg; have c_ := ok_slices_IndexFunc_int_int (OkO.ext hB.ok hE) (GR.v_ext _ h_0 hE) (GR.v_ext _ h_1 hE) hx1; exact ok_call2 fn122 (ksv (j := 0) (hK 5 rfl) rfl rfl rfl) (ksv (j := 1) (hK 6 rfl) rfl rfl rfl) c_
  case z2_3 => intro a' w' hE hK hg; exact ok_geq (ksv (j := 2) (hK 7 rfl) rfl rfl rfl) rfl
  case z2_4 => intro a' w' hE hK hg; exact ok_assign (ksv (j := 3) (hK 8 rfl) rfl rfl rfl)
  case zok2 => kernel_rfl
  case zgd2 => kernel_rfl
  intro a2 w2 hA' hE HF
  have q4 := ksv (HF 4) rfl rfl rfl
  clear q0
  clear q1
  clear hA HF; have hA := hA'; clear hA'
  replace h_0 := GR.v_ext _ h_0 hE
  replace h_1 := GR.v_ext _ h_1 hE
  replace hB := Base.step hB hE hO; clear hE
  refine (li_nil ?_)
  refine (nx_then ?_)
  refine (wp_ret ?_)
  have h := Comp.run_pure h; subst h
  exact retPure Try.results87 hA q4 hB.ext rfl

theorem ok_core_Hitting {O : Tags} {w0 : World} (hO : OkO O w0) {v_0 : Value} {x_0 : List Int} (h_0 : (rSl (rInt .i64)).v O w0 v_0 x_0) {x_1 : Int} {n : Nat} {y : ((List Int) × Int)} (h : (core_Hitting x_0 x_1).run n = some y) : Pure Try.prog 46 #[v_0, .int .i64 x_1] w0 (SP.tup2 (SP.ownr (rInt .i64) 3 (w0.heap.size) O y.1) (SP.isv (.int .i64 y.2))).holds := by
  unfold core_Hitting at h
  refine pure_of_wp Try.func46 rfl 67 Try.ntmps46 (by simp) fun a0 hA hs0 => ?_
  have q0 := hs0 0 _ rfl
  have q1 := hs0 1 _ rfl
  clear hs0
  have hB : Base (Fr w0) O w0 O w0 := Base.start hO
  refine wp_seq ?_
  refine' region [SP.vl (rBox (rInt .i64)) O x_1, _, _] mixed hA (.cons ?z1_0 (.cons ?z1_1 (.cons ?z1_2 .nil))) ?zok1 ?zgd1 ?zk1
  case z1_0 => intro a' w' hE hK hg; exact okl_boxV (r := (rInt .i64)) (fun _ => rfl) (OkO.ext hB.ok hE) (kn (hK 1 rfl) rfl q1) (by first | exact rInt_v.2 rfl | exact rBool_v.2 rfl | exact rStr_v.2 rfl | exact rC_v.2 rfl | exact ⟨_, rfl, rfl⟩)
  case z1_1 => intro a' w' hE hK hg; exact ok_assign rfl
  case z1_2 => intro a' w' hE hK hg; exact ok_assign rfl
  case zok1 => kernel_rfl
  case zgd1 => kernel_rfl
  intro a1 w1 hA' hE HF
  replace q0 := kn (HF 0) rfl q0
  have f2 := ksp (HF 3) rfl rfl rfl
  obtain ⟨u1, q3'⟩ : ∃ u, a1.get 3 = u := ⟨_, rfl⟩
  rw [q3'] at f2
  have q3 := q3'; clear q3'
  clear q1
  clear hA HF; have hA := hA'; clear hA'
  replace h_0 := GR.v_ext _ h_0 hE
  replace hB := Base.step hB hE hO; clear hE
  refine (li_nil ?_)
  refine (nx_then ?_)
  refine wp_seq ?_
  refine wp_seq ?_
  refine' region [SP.isv (.int .i64 x_1), _, _, SP.isv (.int .i64 x_1), _, _] mixed hA (.cons ?z2_0 (.cons ?z2_1 (.cons ?z2_2 (.cons ?z2_3 (.cons ?z2_4 (.cons ?z2_5 .nil)))))) ?zok2 ?zgd2 ?zk2
  case z2_0 => intro a' w' hE hK hg; exact okl_ldr (rInt .i64) (fun _ => rfl) ty3 rfl rfl (kn (hK 3 rfl) rfl q3) (ptr_of_box (fun _ => rfl) (GR.v_ext _ f2 hE)) (fun _ _ _ h => rInt_v.1 h)
  case z2_1 => intro a' w' hE hK hg; exact ok_lss (ksv (j := 0) (hK 14 rfl) rfl rfl rfl) rfl
  case z2_2 => intro a' w' hE hK hg; exact ok_move (ksv (j := 1) (hK 15 rfl) rfl rfl rfl)
  case z2_3 => intro a' w' hE hK hg; exact okl_ldr (rInt .i64) (fun _ => rfl) ty3 rfl rfl (kn (hK 3 rfl) rfl q3) (ptr_of_box (fun _ => rfl) (GR.v_ext _ f2 hE)) (fun _ _ _ h => rInt_v.1 h)
  case z2_4 => intro a' w' hE hK hg; exact ok_gtr (ksv (j := 3) (hK 17 rfl) rfl rfl hg) rfl
  case z2_5 => intro a' w' hE hK hg; exact ok_pick (ksv (j := 2) (hK 16 rfl) rfl rfl rfl) (fun _ => rfl) (fun hb => ksv (j := 4) (hK 18 rfl) rfl rfl (act_g1 rfl rfl hb))
  case zok2 => kernel_rfl
  case zgd2 => kernel_rfl
  intro a2 w2 hA' hE HF
  replace q0 := kn (HF 0) rfl q0
  replace q3 := kn (HF 3) rfl q3
  have q19 := ksv (HF 19) rfl rfl rfl
  clear hA HF; have hA := hA'; clear hA'
  replace h_0 := GR.v_ext _ h_0 hE
  replace f2 := GR.v_ext _ f2 hE
  replace hB := Base.step hB hE hO; clear hE
  obtain ⟨x3, hx_, h⟩ := Comp.run_bind h; replace hx_ := Comp.run_pure hx_; rw [hx_] at q19; clear hx_
  refine (li_nil ?_)
  refine (nx_then ?_)
  refine wp_cond_b q19 (fun hc => ?_) (fun hc => ?_)
  ·
    replace h := Comp.run_b_t hc h; clear hc
    refine wp_seq ?_
    refine' region [_, _] mixed hA (.cons ?z3_0 (.cons ?z3_1 .nil)) ?zok3 ?zgd3 ?zk3
    case z3_0 => intro a' w' hE hK hg; exact ok_assign rfl
    case z3_1 => intro a' w' hE hK hg; exact ok_assign rfl
    case zok3 => kernel_rfl
    case zgd3 => kernel_rfl
    intro a3 w3 hA' hE HF
    have q4 := ksv (HF 4) rfl rfl rfl
    have q5 := ksv (HF 5) rfl rfl rfl
    clear q0
    clear q3
    clear q19
    clear hA HF; have hA := hA'; clear hA'
    replace h_0 := GR.v_ext _ h_0 hE
    replace f2 := GR.v_ext _ f2 hE
    replace hB := Base.step hB hE hO; clear hE
    refine (li_nil ?_)
    refine (nx_then ?_)
    refine (wp_ret (rt_then ?_))
    have h := Comp.run_pure h; subst h
    exact retPure2 Try.results46 hA q4 q5 hB.ext ⟨_, _, rfl, (OwnR.nil _ _ _ _ _), rfl⟩
  ·
    replace h := Comp.run_b_f hc h; clear hc
    refine wp_skip ?_
    refine (nx_then ?_)
    refine wp_seq ?_
    refine' region [SP.isv (.func (.func 86) #[] #[u1]), _] mixed hA (.cons ?z4_0 (.cons ?z4_1 .nil)) ?zok4 ?zgd4 ?zk4
    case z4_0 => intro a' w' hE hK hg; exact ok_makeFunc map0 (map1 (kn (hK 3 rfl) rfl q3))
    case z4_1 => intro a' w' hE hK hg; exact ok_assign (ksv (j := 0) (hK 20 rfl) rfl rfl rfl)
    case zok4 => kernel_rfl
    case zgd4 => kernel_rfl
    intro a4 w4 hA' hE HF
    replace q0 := kn (HF 0) rfl q0
    replace q3 := kn (HF 3) rfl q3
    have q6 := ksv (HF 6) rfl rfl rfl
    clear q19
    clear hA HF; have hA := hA'; clear hA'
    replace h_0 := GR.v_ext _ h_0 hE
    replace f2 := GR.v_ext _ f2 hE
    replace hB := Base.step hB hE hO; clear hE
    have f4 : (rF1 Try.prog (rInt .i64) (RS.c (fun x => .bool x))).v O w4 (.func (.func 86) #[] #[u1]) (fun z0 => core_Hitting_f1 z0 x_1) := rF1_v.2 ⟨rfl, fun O' w' hO' hk v_0 x_0 hv_0 n_ y_ hy_ => by obtain rfl := rInt_v.1 hv_0; exact callV_func fn86 (ok_core_Hitting_f1 hO'  (GR.v_mono _ f2 hk) hy_)⟩
    refine (li_nil ?_)
    refine (nx_then ?_)
    refine wp_seq ?_
    refine wp_seq ?_
    obtain ⟨x5, hx5, h⟩ := Comp.run_bind h
    refine' region [_, _, SP.isv (.bool x5)] mixed hA (.cons ?z5_0 (.cons ?z5_1 (.cons ?z5_2 .nil))) ?zok5 ?zgd5 ?zk5
    case z5_0 => intro a' w' hE hK hg; exact ok_move (kn (hK 0 rfl) rfl q0)
    case z5_1 => intro a' w' hE hK hg; exact ok_move (kn (hK 6 rfl) rfl q6)
    case z5_2 => intro a' w' hE hK hg; have c_ := ok_slices_ContainsFunc_int_int (OkO.ext hB.ok hE) (GR.v_ext _ h_0 hE) (GR.v_ext _ f4 hE) hx5; exact ok_call2 fn87 (ksv (j := 0) (hK 21 rfl) rfl rfl rfl) (ksv (j := 1) (hK 22 rfl) rfl rfl rfl) c_
    case zok5 => kernel_rfl
    case zgd5 => kernel_rfl
    intro a5 w5 hA' hE HF
    replace q0 := kn (HF 0) rfl q0
    replace q3 := kn (HF 3) rfl q3
    have q23 := ksv (HF 23) rfl rfl rfl
    clear q6
    clear hA HF; have hA := hA'; clear hA'
    replace h_0 := GR.v_ext _ h_0 hE
    replace f2 := GR.v_ext _ f2 hE
    replace f4 := GR.v_ext _ f4 hE
    replace hB := Base.step hB hE hO; clear hE
    refine (li_nil ?_)
    refine (nx_then ?_)
    refine wp_cond_b q23 (fun hc => ?_) (fun hc => ?_)
    ·
      replace h := Comp.run_b_t hc h; clear hc
      refine wp_seq ?_
      refine' region [_, _] mixed hA (.cons ?z6_0 (.cons ?z6_1 .nil)) ?zok6 ?zgd6 ?zk6
      case z6_0 => intro a' w' hE hK hg; exact ok_assign rfl
      case z6_1 => intro a' w' hE hK hg; exact ok_assign rfl
      case zok6 => kernel_rfl
      case zgd6 => kernel_rfl
      intro a6 w6 hA' hE HF
      have q4 := ksv (HF 4) rfl rfl rfl
      have q5 := ksv (HF 5) rfl rfl rfl
      clear q0
      clear q3
      clear q23
      clear hA HF; have hA := hA'; clear hA'
      replace h_0 := GR.v_ext _ h_0 hE
      replace f2 := GR.v_ext _ f2 hE
      replace hB := Base.step hB hE hO; clear hE
      refine (li_nil ?_)
      refine (nx_then ?_)
      refine (wp_ret (rt_then ?_))
      have h := Comp.run_pure h; subst h
      exact retPure2 Try.results46 hA q4 q5 hB.ext ⟨_, _, rfl, (OwnR.nil _ _ _ _ _), rfl⟩
    ·
      replace h := Comp.run_b_f hc h; clear hc
      refine wp_skip ?_
      refine (nx_then ?_)
      refine wp_seq ?_
      refine' regionT [] hA .nil ?zok7 ?zgd7 ?zk7
      case zok7 => kernel_rfl
      case zgd7 => kernel_rfl
      intro a7 w7 hA' hE HF
      replace q0 := kn (HF 0) rfl q0
      replace q3 := kn (HF 3) rfl q3
      clear q23
      clear hA HF; have hA := hA'; clear hA'
      replace h_0 := GR.v_ext _ h_0 hE
      replace f2 := GR.v_ext _ f2 hE
      replace hB := Base.step hB hE hO; clear hE
      refine l_ok (φ := SP.ownr (rInt .i64) 3 w7.heap.size O [0]) hO hB (by exact okl_buildSlice (r := (rInt .i64)) (fun _ => rfl) rfl hB.ok ty58 ty3 (Nat.le_refl _) (parts_cons rfl parts_nil) ⟨(by first | exact rInt_v.2 rfl | exact rBool_v.2 rfl | exact rStr_v.2 rfl | exact rC_v.2 rfl | exact ⟨_, rfl, rfl⟩), trivial⟩ rfl (by decide)) rfl fun u6 w8 hE hB' f7 => ?_
      clear hB'; obtain ⟨O8, hB', hX, f9⟩ := ownNew hO hB hE f7 rfl 1 (by decide)
      clear hB f7; have hB := hB'; clear hB'
      replace h_0 := GR.kx _ h_0 hX (by decide)
      replace f2 := GR.kx _ f2 hX (by decide)
      clear hX hE
      refine put_cont hA (by decide) fun a9 hA' q_ hfr => ?_
      clear hA; have hA := hA'; clear hA'
      replace q0 := (hfr 0 rfl).trans q0
      replace q3 := (hfr 3 rfl).trans q3
      have q24 := q_; clear q_ hfr
      refine l_ok (φ := SP.isv (u6)) hO hB (by exact ok_assign q24) rfl fun u_ w10 hE hB' hv_ => ?_
      replace hv_ := Eq.symm hv_; subst hv_; clear hB; have hB := hB'; clear hB'
      replace h_0 := GR.v_ext _ h_0 hE
      replace f2 := GR.v_ext _ f2 hE
      replace f9 := f9.ext hE
      clear hE
      refine put_cont hA (by decide) fun a11 hA' q_ hfr => ?_
      clear hA; have hA := hA'; clear hA'
      replace q0 := (hfr 0 rfl).trans q0
      replace q3 := (hfr 3 rfl).trans q3
      replace q24 := (hfr 24 rfl).trans q24
      have q7 := q_; clear q_ hfr
      refine (li_nil ?_)
      refine (nx_then ?_)
      refine seq_join (fun a w => ∃ (O74 : Tags) (x71 : List Int) (u72 : Value), a.fit 67 ∧ Base (Fr w0) O w0 O74 w ∧ a.get 7 = u72 ∧ OwnL 2 (rInt .i64) 3 (Fr w0) O74 w u72 x71 ∧ (core_Hitting_j1 x71).run n = some y) ?_ ?_
      ·
        refine wp_seq ?_
        refine' region [_, _, _] mixed hA (.cons ?z8_0 (.cons ?z8_1 (.cons ?z8_2 .nil))) ?zok8 ?zgd8 ?zk8
        case z8_0 => intro a' w' hE hK hg; exact ok_move (kn (hK 0 rfl) rfl q0)
        case z8_1 => intro a' w' hE hK hg; exact okl_len (r := (rInt .i64)) ty58 (ksv (j := 0) (hK 25 rfl) rfl rfl rfl) (rd_of (GR.v_ext _ h_0 hE))
        case z8_2 => intro a' w' hE hK hg; exact ok_move rfl
        case zok8 => kernel_rfl
        case zgd8 => kernel_rfl
        intro a12 w12 hA' hE HF
        replace q3 := kn (HF 3) rfl q3
        replace q7 := kn (HF 7) rfl q7
        have q25 := ksv (HF 25) rfl rfl rfl
        have q26 := ksv (HF 26) rfl rfl rfl
        have q27 := ksv (HF 27) rfl rfl rfl
        clear q0
        clear hA HF; have hA := hA'; clear hA'
        replace h_0 := GR.v_ext _ h_0 hE
        replace f2 := GR.v_ext _ f2 hE
        replace f9 := f9.ext hE
        replace hB := Base.step hB hE hO; clear hE
        refine (li_nil ?_)
        refine (nx_then ?_)
        refine wp_block ?_
        obtain ⟨O14, hB', hX, f15⟩ := retagL (okB_fr hB) hB f9 2 (by decide) (by decide)
        clear f9 hB; have hB := hB'; clear hB'
        replace f2 := GR.kx _ f2 hX (by decide)
        replace h_0 := GR.kx _ h_0 hX (by decide)
        clear hX
        obtain ⟨e2, he2, hk2⟩ := Comp.run_bind h; clear h
        refine loop_m (fun m a w => ∃ (O16 : Tags) (x10 : List Int) (x13 : Int) (u11 : Value), a.fit 67 ∧ Base (Fr w0) O w0 O16 w ∧ a.get 3 = u1 ∧ (rBox (rInt .i64)).v O16 w u1 x_1 ∧ a.get 7 = u11 ∧ OwnL 2 (rInt .i64) 3 (Fr w0) O16 w u11 x10 ∧ a.get 25 = v_0 ∧ (rSl (rInt .i64)).v O16 w v_0 x_0 ∧ a.get 26 = .int .i64 (x_0.length : Int) ∧ a.get 27 = .int .i64 x13 ∧ Comp.loopN (fun s => core_Hitting_l2 x_0 x_1 s.1 s.2) n m (x10, x13) = some e2) (m := n) ?st2 ?_
        case st2 =>
          exact ⟨_, _, _, _, hA, hB, q3, f2, q7, f15, q25, h_0, q26, q27, Comp.run_loop he2⟩
        intro m_ a13 w13 hI
        clear hA hB he2 q3 q7 q25 q26 q27 f15 f2 h_0
        obtain ⟨O16, x10, x13, u11, hA, hB, q3, f2, q7, f12, q25, h_0, q26, q27, hl⟩ := hI
        obtain ⟨m2, hlt2, st2, h, hnext2, hdone2⟩ := Comp.loopN_succ hl; clear hl
        replace h : (core_Hitting_l2 x_0 x_1 x10 x13).run n = some st2 := h
        unfold core_Hitting_l2 at h
        refine wp_seq ?_
        refine' region [_] mixed hA (.cons ?z9_0 .nil) ?zok9 ?zgd9 ?zk9
        case z9_0 => intro a' w' hE hK hg; exact ok_lss (kn (hK 27 rfl) rfl q27) (kn (hK 26 rfl) rfl q26)
        case zok9 => kernel_rfl
        case zgd9 => kernel_rfl
        intro a14 w14 hA' hE HF
        replace q3 := kn (HF 3) rfl q3
        replace q7 := kn (HF 7) rfl q7
        replace q25 := kn (HF 25) rfl q25
        replace q26 := kn (HF 26) rfl q26
        replace q27 := kn (HF 27) rfl q27
        have q28 := ksv (HF 28) rfl rfl rfl
        clear hA HF; have hA := hA'; clear hA'
        replace f2 := GR.v_ext _ f2 hE
        replace f12 := f12.ext hE
        replace h_0 := GR.v_ext _ h_0 hE
        replace hB := Base.step hB hE hO; clear hE
        refine (li_nil ?_)
        refine (nx_then ?_)
        refine wp_seq ?_
        refine wp_cond_b q28 (fun hc => ?_) (fun hc => ?_)
        ·
          replace h := Comp.run_b_t hc h; clear hc
          refine wp_skip ?_
          refine (nx_then ?_)
          refine wp_seq ?_
          refine wp_block ?_
          refine wp_seq ?_
          obtain ⟨x17, hx17, h⟩ := Comp.run_bind h
          refine' region [SP.ptr (rInt .i64) O16 x17, SP.isv (.int .i64 x17), _] mixed hA (.cons ?z10_0 (.cons ?z10_1 (.cons ?z10_2 .nil))) ?zok10 ?zgd10 ?zk10
          case z10_0 => intro a' w' hE hK hg; exact okl_idx (r := (rInt .i64)) (O := O16) ty58 ty3 rfl (kn (hK 25 rfl) rfl q25) (rd_of (GR.v_ext _ h_0 hE)) (kn (hK 27 rfl) rfl q27) hx17
          case z10_1 => intro a' w' hE hK hg; exact okl_ldr (rInt .i64) (fun _ => rfl) ty3 rfl rfl rfl (kspS (φ := SP.ptr (rInt .i64) O16 x17) (j := 0) (hK 29 rfl) rfl rfl rfl) (fun _ _ _ h => rInt_v.1 h)
          case z10_2 => intro a' w' hE hK hg; exact ok_assign (ksv (j := 1) (hK 30 rfl) rfl rfl rfl)
          case zok10 => kernel_rfl
          case zgd10 => kernel_rfl
          intro a15 w15 hA' hE HF
          replace q3 := kn (HF 3) rfl q3
          replace q7 := kn (HF 7) rfl q7
          have q9 := ksv (HF 9) rfl rfl rfl
          replace q25 := kn (HF 25) rfl q25
          replace q26 := kn (HF 26) rfl q26
          replace q27 := kn (HF 27) rfl q27
          clear q28
          clear hA HF; have hA := hA'; clear hA'
          replace f2 := GR.v_ext _ f2 hE
          replace f12 := f12.ext hE
          replace h_0 := GR.v_ext _ h_0 hE
          replace hB := Base.step hB hE hO; clear hE
          refine (li_nil ?_)
          refine (nx_then ?_)
          refine wp_seq ?_
          refine' region [_] mixed hA (.cons ?z11_0 .nil) ?zok11 ?zgd11 ?zk11
          case z11_0 => intro a' w' hE hK hg; exact ok_assign rfl
          case zok11 => kernel_rfl
          case zgd11 => kernel_rfl
          intro a16 w16 hA' hE HF
          replace q3 := kn (HF 3) rfl q3
          replace q7 := kn (HF 7) rfl q7
          replace q9 := kn (HF 9) rfl q9
          have q10 := ksv (HF 10) rfl rfl rfl
          replace q25 := kn (HF 25) rfl q25
          replace q26 := kn (HF 26) rfl q26
          replace q27 := kn (HF 27) rfl q27
          clear hA HF; have hA := hA'; clear hA'
          replace f2 := GR.v_ext _ f2 hE
          replace f12 := f12.ext hE
          replace h_0 := GR.v_ext _ h_0 hE
          replace hB := Base.step hB hE hO; clear hE
          refine (li_nil ?_)
          refine (nx_then ?_)
          refine seq_join (fun a w => ∃ (O61 : Tags) (x56 : List Int) (u57 : Value), a.fit 67 ∧ Base (Fr w0) O w0 O61 w ∧ a.get 3 = u1 ∧ (rBox (rInt .i64)).v O61 w u1 x_1 ∧ a.get 10 = u57 ∧ (rSl (rInt .i64)).v O61 w u57 x56 ∧ a.get 25 = v_0 ∧ (rSl (rInt .i64)).v O61 w v_0 x_0 ∧ a.get 26 = .int .i64 (x_0.length : Int) ∧ a.get 27 = .int .i64 x13 ∧ (core_Hitting_j3 x13 x56).run n = some st2) ?_ ?_
          ·
            refine wp_seq ?_
            refine' region [_, _, _] mixed hA (.cons ?z12_0 (.cons ?z12_1 (.cons ?z12_2 .nil))) ?zok12 ?zgd12 ?zk12
            case z12_0 => intro a' w' hE hK hg; exact ok_move (kn (hK 7 rfl) rfl q7)
            case z12_1 => intro a' w' hE hK hg; exact okl_len (r := (rInt .i64)) ty58 (ksv (j := 0) (hK 31 rfl) rfl rfl rfl) (OwnL.rd (OwnL.ext f12 hE))
            case z12_2 => intro a' w' hE hK hg; exact ok_move rfl
            case zok12 => kernel_rfl
            case zgd12 => kernel_rfl
            intro a17 w17 hA' hE HF
            replace q3 := kn (HF 3) rfl q3
            replace q9 := kn (HF 9) rfl q9
            replace q10 := kn (HF 10) rfl q10
            replace q25 := kn (HF 25) rfl q25
            replace q26 := kn (HF 26) rfl q26
            replace q27 := kn (HF 27) rfl q27
            have q31 := ksv (HF 31) rfl rfl rfl
            have q32 := ksv (HF 32) rfl rfl rfl
            have q33 := ksv (HF 33) rfl rfl rfl
            clear q7
            clear hA HF; have hA := hA'; clear hA'
            replace f2 := GR.v_ext _ f2 hE
            replace f12 := f12.ext hE
            replace h_0 := GR.v_ext _ h_0 hE
            replace hB := Base.step hB hE hO; clear hE
            refine (li_nil ?_)
            refine (nx_then ?_)
            refine wp_block ?_
            obtain ⟨e4, he4, hk4⟩ := Comp.run_bind h; clear h
            refine loop_m (fun m a w => ∃ (O22 : Tags) (x18 : List Int) (x21 : Int) (u19 : Value), a.fit 67 ∧ Base (Fr w0) O w0 O22 w ∧ a.get 3 = u1 ∧ (rBox (rInt .i64)).v O22 w u1 x_1 ∧ a.get 9 = .int .i64 x17 ∧ a.get 10 = u19 ∧ OwnL 3 (rInt .i64) 3 (Fr w0) O22 w u19 x18 ∧ a.get 25 = v_0 ∧ (rSl (rInt .i64)).v O22 w v_0 x_0 ∧ a.get 26 = .int .i64 (x_0.length : Int) ∧ a.get 27 = .int .i64 x13 ∧ a.get 31 = u11 ∧ OwnL 2 (rInt .i64) 3 (Fr w0) O22 w u11 x10 ∧ a.get 32 = .int .i64 (x10.length : Int) ∧ a.get 33 = .int .i64 x21 ∧ Comp.loopN (fun s => core_Hitting_l4 x10 x17 x_1 s.1 s.2) n m (x18, x21) = some e4) (m := n) ?st4 ?_
            case st4 =>
              exact ⟨_, _, _, _, hA, hB, q3, f2, q9, q10, (OwnL.nil _ _ _ _ _ _), q25, h_0, q26, q27, q31, f12, q32, q33, Comp.run_loop he4⟩
            intro m_ a18 w18 hI
            clear hA hB he4 q3 q9 q10 q25 q26 q27 q31 q32 q33 f12 f2 h_0
            obtain ⟨O22, x18, x21, u19, hA, hB, q3, f2, q9, q10, f20, q25, h_0, q26, q27, q31, f12, q32, q33, hl⟩ := hI
            obtain ⟨m4, hlt4, st4, h, hnext4, hdone4⟩ := Comp.loopN_succ hl; clear hl
            replace h : (core_Hitting_l4 x10 x17 x_1 x18 x21).run n = some st4 := h
            unfold core_Hitting_l4 at h
            refine wp_seq ?_
            refine' region [_] mixed hA (.cons ?z13_0 .nil) ?zok13 ?zgd13 ?zk13
            case z13_0 => intro a' w' hE hK hg; exact ok_lss (kn (hK 33 rfl) rfl q33) (kn (hK 32 rfl) rfl q32)
            case zok13 => kernel_rfl
            case zgd13 => kernel_rfl
            intro a19 w19 hA' hE HF
            replace q3 := kn (HF 3) rfl q3
            replace q9 := kn (HF 9) rfl q9
            replace q10 := kn (HF 10) rfl q10
            replace q25 := kn (HF 25) rfl q25
            replace q26 := kn (HF 26) rfl q26
            replace q27 := kn (HF 27) rfl q27
            replace q31 := kn (HF 31) rfl q31
            replace q32 := kn (HF 32) rfl q32
            replace q33 := kn (HF 33) rfl q33
            have q34 := ksv (HF 34) rfl rfl rfl
            clear hA HF; have hA := hA'; clear hA'
            replace f2 := GR.v_ext _ f2 hE
            replace f20 := f20.ext hE
            replace h_0 := GR.v_ext _ h_0 hE
            replace f12 := f12.ext hE
            replace hB := Base.step hB hE hO; clear hE
            refine (li_nil ?_)
            refine (nx_then ?_)
            refine wp_seq ?_
            refine wp_cond_b q34 (fun hc => ?_) (fun hc => ?_)
            ·
              replace h := Comp.run_b_t hc h; clear hc
              refine wp_skip ?_
              refine (nx_then ?_)
              refine seq_join (fun a w => ∃ (O53 : Tags) (x30 : List Int) (u31 : Value), a.fit 67 ∧ Base (Fr w0) O w0 O53 w ∧ a.get 3 = u1 ∧ (rBox (rInt .i64)).v O53 w u1 x_1 ∧ a.get 9 = .int .i64 x17 ∧ a.get 10 = u31 ∧ OwnL 3 (rInt .i64) 3 (Fr w0) O53 w u31 x30 ∧ a.get 25 = v_0 ∧ (rSl (rInt .i64)).v O53 w v_0 x_0 ∧ a.get 26 = .int .i64 (x_0.length : Int) ∧ a.get 27 = .int .i64 x13 ∧ a.get 31 = u11 ∧ OwnL 2 (rInt .i64) 3 (Fr w0) O53 w u11 x10 ∧ a.get 32 = .int .i64 (x10.length : Int) ∧ a.get 33 = .int .i64 x21 ∧ (core_Hitting_j5 x21 x30).run n = some st4) ?_ ?_
              ·
                refine wp_block ?_
                refine wp_seq ?_
                obtain ⟨x23, hx23, h⟩ := Comp.run_bind h
                refine' region [SP.ptr (rInt .i64) O22 x23, SP.isv (.int .i64 x23), _] mixed hA (.cons ?z14_0 (.cons ?z14_1 (.cons ?z14_2 .nil))) ?zok14 ?zgd14 ?zk14
                case z14_0 => intro a' w' hE hK hg; exact okl_idx (r := (rInt .i64)) (O := O22) ty58 ty3 rfl (kn (hK 31 rfl) rfl q31) (OwnL.rd (OwnL.ext f12 hE)) (kn (hK 33 rfl) rfl q33) hx23
                case z14_1 => intro a' w' hE hK hg; exact okl_ldr (rInt .i64) (fun _ => rfl) ty3 rfl rfl rfl (kspS (φ := SP.ptr (rInt .i64) O22 x23) (j := 0) (hK 35 rfl) rfl rfl rfl) (fun _ _ _ h => rInt_v.1 h)
                case z14_2 => intro a' w' hE hK hg; exact ok_assign (ksv (j := 1) (hK 36 rfl) rfl rfl rfl)
                case zok14 => kernel_rfl
                case zgd14 => kernel_rfl
                intro a20 w20 hA' hE HF
                replace q3 := kn (HF 3) rfl q3
                replace q9 := kn (HF 9) rfl q9
                replace q10 := kn (HF 10) rfl q10
                have q12 := ksv (HF 12) rfl rfl rfl
                replace q25 := kn (HF 25) rfl q25
                replace q26 := kn (HF 26) rfl q26
                replace q27 := kn (HF 27) rfl q27
                replace q31 := kn (HF 31) rfl q31
                replace q32 := kn (HF 32) rfl q32
                replace q33 := kn (HF 33) rfl q33
                clear q34
                clear hA HF; have hA := hA'; clear hA'
                replace f2 := GR.v_ext _ f2 hE
                replace f20 := f20.ext hE
                replace h_0 := GR.v_ext _ h_0 hE
                replace f12 := f12.ext hE
                replace hB := Base.step hB hE hO; clear hE
                refine (li_nil ?_)
                refine (nx_then ?_)
                refine wp_seq ?_
                refine wp_seq ?_
                refine' region [_, _, _, _] mixed hA (.cons ?z15_0 (.cons ?z15_1 (.cons ?z15_2 (.cons ?z15_3 .nil)))) ?zok15 ?zgd15 ?zk15
                case z15_0 => intro a' w' hE hK hg; exact ok_move (kn (hK 12 rfl) rfl q12)
                case z15_1 => intro a' w' hE hK hg; exact ok_move (kn (hK 9 rfl) rfl q9)
                case z15_2 => intro a' w' hE hK hg; exact okb_and (ksv (j := 0) (hK 37 rfl) rfl rfl rfl) (ksv (j := 1) (hK 38 rfl) rfl rfl rfl)
                case z15_3 => intro a' w' hE hK hg; exact ok_neqI (ksv (j := 2) (hK 39 rfl) rfl rfl rfl) rfl
                case zok15 => kernel_rfl
                case zgd15 => kernel_rfl
                intro a21 w21 hA' hE HF
                replace q3 := kn (HF 3) rfl q3
                replace q9 := kn (HF 9) rfl q9
                replace q10 := kn (HF 10) rfl q10
                replace q12 := kn (HF 12) rfl q12
                replace q25 := kn (HF 25) rfl q25
                replace q26 := kn (HF 26) rfl q26
                replace q27 := kn (HF 27) rfl q27
                replace q31 := kn (HF 31) rfl q31
                replace q32 := kn (HF 32) rfl q32
                replace q33 := kn (HF 33) rfl q33
                have q40 := ksv (HF 40) rfl rfl rfl
                clear hA HF; have hA := hA'; clear hA'
                replace f2 := GR.v_ext _ f2 hE
                replace f20 := f20.ext hE
                replace h_0 := GR.v_ext _ h_0 hE
                replace f12 := f12.ext hE
                replace hB := Base.step hB hE hO; clear hE
                refine (li_nil ?_)
                refine (nx_then ?_)
                refine wp_cond_b q40 (fun hc => ?_) (fun hc => ?_)
                ·
                  replace h := Comp.run_b_t hc h; clear hc
                  refine wp_seq ?_
                  refine' regionT [_, _, SP.vl (rSl (rInt .i64)) O22 [x23]] hA (.cons ?z16_0 (.cons ?z16_1 (.cons ?z16_2 .nil))) ?zok16 ?zgd16 ?zk16
                  case z16_0 => intro a' w' hE hK hg; exact ok_move (kn (hK 10 rfl) rfl q10)
                  case z16_1 => intro a' w' hE hK hg; exact ok_move (kn (hK 12 rfl) rfl q12)
                  case z16_2 => intro a' w' hE hK hg; exact okl_buildSliceV (r := (rInt .i64)) (fun _ => rfl) rfl (OkO.ext hB.ok hE) ty58 ty3 (parts_cons (ksv (j := 1) (hK 42 rfl) rfl rfl rfl) parts_nil) ⟨(by first | exact rInt_v.2 rfl | exact rBool_v.2 rfl | exact rStr_v.2 rfl | exact rC_v.2 rfl | exact ⟨_, rfl, rfl⟩), trivial⟩ rfl (by decide)
                  case zok16 => kernel_rfl
                  case zgd16 => kernel_rfl
                  intro a22 w22 hA' hE HF
                  replace q3 := kn (HF 3) rfl q3
                  replace q9 := kn (HF 9) rfl q9
                  replace q10 := kn (HF 10) rfl q10
                  replace q25 := kn (HF 25) rfl q25
                  replace q26 := kn (HF 26) rfl q26
                  replace q27 := kn (HF 27) rfl q27
                  replace q31 := kn (HF 31) rfl q31
                  replace q32 := kn (HF 32) rfl q32
                  replace q33 := kn (HF 33) rfl q33
                  have q41 := ksv (HF 41) rfl rfl rfl
                  have f25 := ksp (HF 43) rfl rfl rfl
                  obtain ⟨u24, q43'⟩ : ∃ u, a22.get 43 = u := ⟨_, rfl⟩
                  rw [q43'] at f25
                  have q43 := q43'; clear q43'
                  clear q12
                  clear q40
                  clear hA HF; have hA := hA'; clear hA'
                  replace f2 := GR.v_ext _ f2 hE
                  replace f20 := f20.ext hE
                  replace h_0 := GR.v_ext _ h_0 hE
                  replace f12 := f12.ext hE
                  replace hB := Base.step hB hE hO; clear hE
                  obtain ⟨x26, hx26, h⟩ := Comp.run_bind h
                  refine l_append (r := (rInt .i64)) (fun _ => rfl) rfl ty58 ty3 rfl (by decide) hO hB (okB_fr hB) q41 f20 q43 (rd_of f25) hx26 (by decide) fun u27 w23 O28 f29 hB' hX => ?_
                  clear hB; have hB := hB'; clear hB'
                  clear f20
                  replace f2 := GR.kx _ f2 hX (by decide)
                  replace h_0 := GR.kx _ h_0 hX (by decide)
                  replace f12 := f12.kx hX (by decide) (by decide)
                  replace f25 := GR.kx _ f25 hX (by decide)
                  clear hX
                  refine put_cont hA (by decide) fun a24 hA' q_ hfr => ?_
                  clear hA; have hA := hA'; clear hA'
                  replace q3 := (hfr 3 rfl).trans q3
                  replace q9 := (hfr 9 rfl).trans q9
                  replace q10 := (hfr 10 rfl).trans q10
                  replace q25 := (hfr 25 rfl).trans q25
                  replace q26 := (hfr 26 rfl).trans q26
                  replace q27 := (hfr 27 rfl).trans q27
                  replace q31 := (hfr 31 rfl).trans q31
                  replace q32 := (hfr 32 rfl).trans q32
                  replace q33 := (hfr 33 rfl).trans q33
                  replace q41 := (hfr 41 rfl).trans q41
                  replace q43 := (hfr 43 rfl).trans q43
                  have q44 := q_; clear q_ hfr
                  refine l_ok (φ := SP.isv (u27)) hO hB (by exact ok_assign q44) rfl fun u_ w25 hE hB' hv_ => ?_
                  replace hv_ := Eq.symm hv_; subst hv_; clear hB; have hB := hB'; clear hB'
                  replace f2 := GR.v_ext _ f2 hE
                  replace h_0 := GR.v_ext _ h_0 hE
                  replace f12 := f12.ext hE
                  replace f29 := f29.ext hE
                  clear hE
                  refine put_cont hA (by decide) fun a26 hA' q_ hfr => ?_
                  clear hA; have hA := hA'; clear hA'
                  replace q3 := (hfr 3 rfl).trans q3
                  replace q9 := (hfr 9 rfl).trans q9
                  replace q25 := (hfr 25 rfl).trans q25
                  replace q26 := (hfr 26 rfl).trans q26
                  replace q27 := (hfr 27 rfl).trans q27
                  replace q31 := (hfr 31 rfl).trans q31
                  replace q32 := (hfr 32 rfl).trans q32
                  replace q33 := (hfr 33 rfl).trans q33
                  replace q44 := (hfr 44 rfl).trans q44
                  clear q10
                  have q10 := q_; clear q_ hfr
                  refine (li_nil ?_)
                  refine (nx_then ?_)
                  refine wp_exit ?_
                  refine (ex_then (ex_same ?_))
                  refine (nx_then ?_)
                  exact ⟨_, _, _, hA, hB, q3, f2, q9, q10, f29, q25, h_0, q26, q27, q31, f12, q32, q33, h⟩
                ·
                  replace h := Comp.run_b_f hc h; clear hc
                  refine wp_skip ?_
                  refine (nx_then ?_)
                  refine wp_seq ?_
                  refine' region [SP.isv (.int .i64 x_1), _] mixed hA (.cons ?z17_0 (.cons ?z17_1 .nil)) ?zok17 ?zgd17 ?zk17
                  case z17_0 => intro a' w' hE hK hg; exact okl_ldr (rInt .i64) (fun _ => rfl) ty3 rfl rfl (kn (hK 3 rfl) rfl q3) (ptr_of_box (fun _ => rfl) (GR.v_ext _ f2 hE)) (fun _ _ _ h => rInt_v.1 h)
                  case z17_1 => intro a' w' hE hK hg; exact ok_move rfl
                  case zok17 => kernel_rfl
                  case zgd17 => kernel_rfl
                  intro a27 w27 hA' hE HF
                  replace q3 := kn (HF 3) rfl q3
                  replace q9 := kn (HF 9) rfl q9
                  replace q10 := kn (HF 10) rfl q10
                  replace q12 := kn (HF 12) rfl q12
                  replace q25 := kn (HF 25) rfl q25
                  replace q26 := kn (HF 26) rfl q26
                  replace q27 := kn (HF 27) rfl q27
                  replace q31 := kn (HF 31) rfl q31
                  replace q32 := kn (HF 32) rfl q32
                  replace q33 := kn (HF 33) rfl q33
                  have q45 := ksv (HF 45) rfl rfl rfl
                  have q46 := ksv (HF 46) rfl rfl rfl
                  clear q40
                  clear hA HF; have hA := hA'; clear hA'
                  replace f2 := GR.v_ext _ f2 hE
                  replace f20 := f20.ext hE
                  replace h_0 := GR.v_ext _ h_0 hE
                  replace f12 := f12.ext hE
                  replace hB := Base.step hB hE hO; clear hE
                  refine (li_nil ?_)
                  refine (nx_then ?_)
                  refine wp_block ?_
                  obtain ⟨e6, he6, hk6⟩ := Comp.run_bind h; clear h
                  refine loop_m (fun m a w => ∃ (O37 : Tags) (x33 : List Int) (x36 : Int) (u34 : Value), a.fit 67 ∧ Base (Fr w0) O w0 O37 w ∧ a.get 3 = u1 ∧ (rBox (rInt .i64)).v O37 w u1 x_1 ∧ a.get 9 = .int .i64 x17 ∧ a.get 10 = u34 ∧ OwnL 3 (rInt .i64) 3 (Fr w0) O37 w u34 x33 ∧ a.get 12 = .int .i64 x23 ∧ a.get 25 = v_0 ∧ (rSl (rInt .i64)).v O37 w v_0 x_0 ∧ a.get 26 = .int .i64 (x_0.length : Int) ∧ a.get 27 = .int .i64 x13 ∧ a.get 31 = u11 ∧ OwnL 2 (rInt .i64) 3 (Fr w0) O37 w u11 x10 ∧ a.get 32 = .int .i64 (x10.length : Int) ∧ a.get 33 = .int .i64 x21 ∧ a.get 45 = .int .i64 x_1 ∧ a.get 46 = .int .i64 x36 ∧ Comp.loopN (fun s => core_Hitting_l6 x_1 x17 x23 s.1 s.2) n m (x33, x36) = some e6) (m := n) ?st6 ?_
                  case st6 =>
                    exact ⟨_, _, _, _, hA, hB, q3, f2, q9, q10, f20, q12, q25, h_0, q26, q27, q31, f12, q32, q33, q45, q46, Comp.run_loop he6⟩
                  intro m_ a28 w28 hI
                  clear hA hB he6 q3 q9 q10 q12 q25 q26 q27 q31 q32 q33 q45 q46 f12 f2 f20 h_0
                  obtain ⟨O37, x33, x36, u34, hA, hB, q3, f2, q9, q10, f35, q12, q25, h_0, q26, q27, q31, f12, q32, q33, q45, q46, hl⟩ := hI
                  obtain ⟨m6, hlt6, st6, h, hnext6, hdone6⟩ := Comp.loopN_succ hl; clear hl
                  replace h : (core_Hitting_l6 x_1 x17 x23 x33 x36).run n = some st6 := h
                  unfold core_Hitting_l6 at h
                  refine wp_seq ?_
                  refine' region [_] mixed hA (.cons ?z18_0 .nil) ?zok18 ?zgd18 ?zk18
                  case z18_0 => intro a' w' hE hK hg; exact ok_lss (kn (hK 46 rfl) rfl q46) (kn (hK 45 rfl) rfl q45)
                  case zok18 => kernel_rfl
                  case zgd18 => kernel_rfl
                  intro a29 w29 hA' hE HF
                  replace q3 := kn (HF 3) rfl q3
                  replace q9 := kn (HF 9) rfl q9
                  replace q10 := kn (HF 10) rfl q10
                  replace q12 := kn (HF 12) rfl q12
                  replace q25 := kn (HF 25) rfl q25
                  replace q26 := kn (HF 26) rfl q26
                  replace q27 := kn (HF 27) rfl q27
                  replace q31 := kn (HF 31) rfl q31
                  replace q32 := kn (HF 32) rfl q32
                  replace q33 := kn (HF 33) rfl q33
                  replace q45 := kn (HF 45) rfl q45
                  replace q46 := kn (HF 46) rfl q46
                  have q47 := ksv (HF 47) rfl rfl rfl
                  clear hA HF; have hA := hA'; clear hA'
                  replace f2 := GR.v_ext _ f2 hE
                  replace f35 := f35.ext hE
                  replace h_0 := GR.v_ext _ h_0 hE
                  replace f12 := f12.ext hE
                  replace hB := Base.step hB hE hO; clear hE
                  refine (li_nil ?_)
                  refine (nx_then ?_)
                  refine wp_seq ?_
                  refine wp_cond_b q47 (fun hc => ?_) (fun hc => ?_)
                  ·
                    replace h := Comp.run_b_t hc h; clear hc
                    refine wp_skip ?_
                    refine (nx_then ?_)
                    refine seq_join (fun a w => ∃ (O50 : Tags) (x47 : List Int) (u48 : Value), a.fit 67 ∧ Base (Fr w0) O w0 O50 w ∧ a.get 3 = u1 ∧ (rBox (rInt .i64)).v O50 w u1 x_1 ∧ a.get 9 = .int .i64 x17 ∧ a.get 10 = u48 ∧ OwnL 3 (rInt .i64) 3 (Fr w0) O50 w u48 x47 ∧ a.get 12 = .int .i64 x23 ∧ a.get 25 = v_0 ∧ (rSl (rInt .i64)).v O50 w v_0 x_0 ∧ a.get 26 = .int .i64 (x_0.length : Int) ∧ a.get 27 = .int .i64 x13 ∧ a.get 31 = u11 ∧ OwnL 2 (rInt .i64) 3 (Fr w0) O50 w u11 x10 ∧ a.get 32 = .int .i64 (x10.length : Int) ∧ a.get 33 = .int .i64 x21 ∧ a.get 45 = .int .i64 x_1 ∧ a.get 46 = .int .i64 x36 ∧ (core_Hitting_j7 x36 x47).run n = some st6) ?_ ?_
                    ·
                      refine wp_block ?_
                      refine wp_seq ?_
                      refine' region [_, _] mixed hA (.cons ?z19_0 (.cons ?z19_1 .nil)) ?zok19 ?zgd19 ?zk19
                      case z19_0 => intro a' w' hE hK hg; exact ok_move (kn (hK 46 rfl) rfl q46)
                      case z19_1 => intro a' w' hE hK hg; exact ok_assign (ksv (j := 0) (hK 48 rfl) rfl rfl rfl)
                      case zok19 => kernel_rfl
                      case zgd19 => kernel_rfl
                      intro a30 w30 hA' hE HF
                      replace q3 := kn (HF 3) rfl q3
                      replace q9 := kn (HF 9) rfl q9
                      replace q10 := kn (HF 10) rfl q10
                      replace q12 := kn (HF 12) rfl q12
                      have q13 := ksv (HF 13) rfl rfl rfl
                      replace q25 := kn (HF 25) rfl q25
                      replace q26 := kn (HF 26) rfl q26
                      replace q27 := kn (HF 27) rfl q27
                      replace q31 := kn (HF 31) rfl q31
                      replace q32 := kn (HF 32) rfl q32
                      replace q33 := kn (HF 33) rfl q33
                      replace q45 := kn (HF 45) rfl q45
                      replace q46 := kn (HF 46) rfl q46
                      clear q47
                      clear hA HF; have hA := hA'; clear hA'
                      replace f2 := GR.v_ext _ f2 hE
                      replace f35 := f35.ext hE
                      replace h_0 := GR.v_ext _ h_0 hE
                      replace f12 := f12.ext hE
                      replace hB := Base.step hB hE hO; clear hE
                      refine (li_nil ?_)
                      refine (nx_then ?_)
                      refine wp_seq ?_
                      obtain ⟨x38, hx38, h⟩ := Comp.run_bind h
                      refine' region [_, _, _, _, _] mixed hA (.cons ?z20_0 (.cons ?z20_1 (.cons ?z20_2 (.cons ?z20_3 (.cons ?z20_4 .nil))))) ?zok20 ?zgd20 ?zk20
                      case z20_0 => intro a' w' hE hK hg; exact ok_move (kn (hK 9 rfl) rfl q9)
                      case z20_1 => intro a' w' hE hK hg; exact ok_move (kn (hK 13 rfl) rfl q13)
                      case z20_2 => intro a' w' hE hK hg; exact okl_shr (ksv (j := 0) (hK 49 rfl) rfl rfl rfl) (ksv (j := 1) (hK 50 rfl) rfl rfl rfl) (run_nonneg hx38)
                      case z20_3 => intro a' w' hE hK hg; exact okb_and (ksv (j := 2) (hK 51 rfl) rfl rfl rfl) rfl
                      case z20_4 => intro a' w' hE hK hg; exact ok_eqlI (ksv (j := 3) (hK 52 rfl) rfl rfl rfl) rfl
                      case zok20 => kernel_rfl
                      case zgd20 => kernel_rfl
                      intro a31 w31 hA' hE HF
                      replace q3 := kn (HF 3) rfl q3
                      replace q9 := kn (HF 9) rfl q9
                      replace q10 := kn (HF 10) rfl q10
                      replace q12 := kn (HF 12) rfl q12
                      replace q13 := kn (HF 13) rfl q13
                      replace q25 := kn (HF 25) rfl q25
                      replace q26 := kn (HF 26) rfl q26
                      replace q27 := kn (HF 27) rfl q27
                      replace q31 := kn (HF 31) rfl q31
                      replace q32 := kn (HF 32) rfl q32
                      replace q33 := kn (HF 33) rfl q33
                      replace q45 := kn (HF 45) rfl q45
                      replace q46 := kn (HF 46) rfl q46
                      have q53 := ksv (HF 53) rfl rfl rfl
                      clear hA HF; have hA := hA'; clear hA'
                      replace f2 := GR.v_ext _ f2 hE
                      replace f35 := f35.ext hE
                      replace h_0 := GR.v_ext _ h_0 hE
                      replace f12 := f12.ext hE
                      replace hB := Base.step hB hE hO; clear hE
                      obtain ⟨x39, hx_, h⟩ := Comp.run_bind h; replace hx_ := Comp.run_pure hx_; rw [hx_] at q53; clear hx_
                      refine (li_nil ?_)
                      refine (nx_then ?_)
                      refine wp_cond_b q53 (fun hc => ?_) (fun hc => ?_)
                      ·
                        replace h := Comp.run_b_t hc h; clear hc
                        obtain ⟨x40, hx40, h⟩ := Comp.run_bind h
                        refine' regionT [_, _, _, _, _, SP.vl (rSl (rInt .i64)) O37 [(orB .i64 x23 (shlF .i64 1 x36))]] hA (.cons ?z21_0 (.cons ?z21_1 (.cons ?z21_2 (.cons ?z21_3 (.cons ?z21_4 (.cons ?z21_5 .nil)))))) ?zok21 ?zgd21 ?zk21
                        case z21_0 => intro a' w' hE hK hg; exact ok_move (kn (hK 10 rfl) rfl q10)
                        case z21_1 => intro a' w' hE hK hg; exact ok_move (kn (hK 12 rfl) rfl q12)
                        case z21_2 => intro a' w' hE hK hg; exact ok_move (kn (hK 13 rfl) rfl q13)
                        case z21_3 => intro a' w' hE hK hg; exact okl_shl rfl (ksv (j := 2) (hK 56 rfl) rfl rfl rfl) (run_nonneg hx40)
                        case z21_4 => intro a' w' hE hK hg; exact okb_or (ksv (j := 1) (hK 55 rfl) rfl rfl rfl) (ksv (j := 3) (hK 57 rfl) rfl rfl rfl)
                        case z21_5 => intro a' w' hE hK hg; exact okl_buildSliceV (r := (rInt .i64)) (fun _ => rfl) rfl (OkO.ext hB.ok hE) ty58 ty3 (parts_cons (ksv (j := 4) (hK 58 rfl) rfl rfl rfl) parts_nil) ⟨(by first | exact rInt_v.2 rfl | exact rBool_v.2 rfl | exact rStr_v.2 rfl | exact rC_v.2 rfl | exact ⟨_, rfl, rfl⟩), trivial⟩ rfl (by decide)
                        case zok21 => kernel_rfl
                        case zgd21 => kernel_rfl
                        intro a32 w32 hA' hE HF
                        replace q3 := kn (HF 3) rfl q3
                        replace q9 := kn (HF 9) rfl q9
                        replace q10 := kn (HF 10) rfl q10
                        replace q12 := kn (HF 12) rfl q12
                        replace q25 := kn (HF 25) rfl q25
                        replace q26 := kn (HF 26) rfl q26
                        replace q27 := kn (HF 27) rfl q27
                        replace q31 := kn (HF 31) rfl q31
                        replace q32 := kn (HF 32) rfl q32
                        replace q33 := kn (HF 33) rfl q33
                        replace q45 := kn (HF 45) rfl q45
                        replace q46 := kn (HF 46) rfl q46
                        have q54 := ksv (HF 54) rfl rfl rfl
                        have f42 := ksp (HF 59) rfl rfl rfl
                        obtain ⟨u41, q59'⟩ : ∃ u, a32.get 59 = u := ⟨_, rfl⟩
                        rw [q59'] at f42
                        have q59 := q59'; clear q59'
                        clear q13
                        clear q53
                        clear hA HF; have hA := hA'; clear hA'
                        replace f2 := GR.v_ext _ f2 hE
                        replace f35 := f35.ext hE
                        replace h_0 := GR.v_ext _ h_0 hE
                        replace f12 := f12.ext hE
                        replace hB := Base.step hB hE hO; clear hE
                        obtain ⟨x43, hx43, h⟩ := Comp.run_bind h
                        refine l_append (r := (rInt .i64)) (fun _ => rfl) rfl ty58 ty3 rfl (by decide) hO hB (okB_fr hB) q54 f35 q59 (rd_of f42) hx43 (by decide) fun u44 w33 O45 f46 hB' hX => ?_
                        clear hB; have hB := hB'; clear hB'
                        clear f35
                        replace f2 := GR.kx _ f2 hX (by decide)
                        replace h_0 := GR.kx _ h_0 hX (by decide)
                        replace f12 := f12.kx hX (by decide) (by decide)
                        replace f42 := GR.kx _ f42 hX (by decide)
                        clear hX
                        refine put_cont hA (by decide) fun a34 hA' q_ hfr => ?_
                        clear hA; have hA := hA'; clear hA'
                        replace q3 := (hfr 3 rfl).trans q3
                        replace q9 := (hfr 9 rfl).trans q9
                        replace q10 := (hfr 10 rfl).trans q10
                        replace q12 := (hfr 12 rfl).trans q12
                        replace q25 := (hfr 25 rfl).trans q25
                        replace q26 := (hfr 26 rfl).trans q26
                        replace q27 := (hfr 27 rfl).trans q27
                        replace q31 := (hfr 31 rfl).trans q31
                        replace q32 := (hfr 32 rfl).trans q32
                        replace q33 := (hfr 33 rfl).trans q33
                        replace q45 := (hfr 45 rfl).trans q45
                        replace q46 := (hfr 46 rfl).trans q46
                        replace q54 := (hfr 54 rfl).trans q54
                        replace q59 := (hfr 59 rfl).trans q59
                        have q60 := q_; clear q_ hfr
                        refine l_ok (φ := SP.isv (u44)) hO hB (by exact ok_assign q60) rfl fun u_ w35 hE hB' hv_ => ?_
                        replace hv_ := Eq.symm hv_; subst hv_; clear hB; have hB := hB'; clear hB'
                        replace f2 := GR.v_ext _ f2 hE
                        replace h_0 := GR.v_ext _ h_0 hE
                        replace f12 := f12.ext hE
                        replace f46 := f46.ext hE
                        clear hE
                        refine put_cont hA (by decide) fun a36 hA' q_ hfr => ?_
                        clear hA; have hA := hA'; clear hA'
                        replace q3 := (hfr 3 rfl).trans q3
                        replace q9 := (hfr 9 rfl).trans q9
                        replace q12 := (hfr 12 rfl).trans q12
                        replace q25 := (hfr 25 rfl).trans q25
                        replace q26 := (hfr 26 rfl).trans q26
                        replace q27 := (hfr 27 rfl).trans q27
                        replace q31 := (hfr 31 rfl).trans q31
                        replace q32 := (hfr 32 rfl).trans q32
                        replace q33 := (hfr 33 rfl).trans q33
                        replace q45 := (hfr 45 rfl).trans q45
                        replace q46 := (hfr 46 rfl).trans q46
                        replace q60 := (hfr 60 rfl).trans q60
                        clear q10
                        have q10 := q_; clear q_ hfr
                        refine (li_nil ?_)
                        refine (nx_blk (nx_then ?_))
                        exact ⟨_, _, _, hA, hB, q3, f2, q9, q10, f46, q12, q25, h_0, q26, q27, q31, f12, q32, q33, q45, q46, h⟩
                      ·
                        replace h := Comp.run_b_f hc h; clear hc
                        refine wp_skip ?_
                        refine (nx_blk (nx_then ?_))
                        exact ⟨_, _, _, hA, hB, q3, f2, q9, q10, f35, q12, q25, h_0, q26, q27, q31, f12, q32, q33, q45, q46, h⟩
                    intro a37 w37 hI
                    clear hA hB h q3 q9 q10 q12 q25 q26 q27 q31 q32 q33 q45 q46 q47 f12 f2 f35 h_0
                    obtain ⟨O50, x47, u48, hA, hB, q3, f2, q9, q10, f49, q12, q25, h_0, q26, q27, q31, f12, q32, q33, q45, q46, h⟩ := hI
                    unfold core_Hitting_j7 at h
                    refine' region [_, _] mixed hA (.cons ?z22_0 (.cons ?z22_1 .nil)) ?zok22 ?zgd22 ?zk22
                    case z22_0 => intro a' w' hE hK hg; exact ok_add (kn (hK 46 rfl) rfl q46) rfl
                    case z22_1 => intro a' w' hE hK hg; exact ok_move (ksv (j := 0) (hK 61 rfl) rfl rfl rfl)
                    case zok22 => kernel_rfl
                    case zgd22 => kernel_rfl
                    intro a38 w38 hA' hE HF
                    replace q3 := kn (HF 3) rfl q3
                    replace q9 := kn (HF 9) rfl q9
                    replace q10 := kn (HF 10) rfl q10
                    replace q12 := kn (HF 12) rfl q12
                    replace q25 := kn (HF 25) rfl q25
                    replace q26 := kn (HF 26) rfl q26
                    replace q27 := kn (HF 27) rfl q27
                    replace q31 := kn (HF 31) rfl q31
                    replace q32 := kn (HF 32) rfl q32
                    replace q33 := kn (HF 33) rfl q33
                    replace q45 := kn (HF 45) rfl q45
                    have q46' := ksv (HF 46) rfl rfl rfl
                    replace q46 := q46'; clear q46'
                    clear hA HF; have hA := hA'; clear hA'
                    replace f2 := GR.v_ext _ f2 hE
                    replace f49 := f49.ext hE
                    replace h_0 := GR.v_ext _ h_0 hE
                    replace f12 := f12.ext hE
                    replace hB := Base.step hB hE hO; clear hE
                    refine (li_nil ?_)
                    refine (nx_then ?_)
                    have h := hnext6 _ (Comp.run_pure h).symm
                    refine ⟨m6, hlt6, ?_⟩
                    exact ⟨_, _, _, _, hA, hB, q3, f2, q9, q10, f49, q12, q25, h_0, q26, q27, q31, f12, q32, q33, q45, q46, h⟩
                  ·
                    replace h := Comp.run_b_f hc h; clear hc
                    refine wp_exit ?_
                    refine (ex_then (ex_then (ex_same ?_)))
                    have hd_ := hdone6 _ (Comp.run_pure h).symm; clear h
                    subst hd_; have h := hk6; clear hk6; try dsimp only at h
                    refine (nx_blk (nx_then ?_))
                    exact ⟨_, _, _, hA, hB, q3, f2, q9, q10, f35, q25, h_0, q26, q27, q31, f12, q32, q33, h⟩
              intro a39 w39 hI
              clear hA hB h q3 q9 q10 q25 q26 q27 q31 q32 q33 q34 f12 f2 f20 h_0
              obtain ⟨O53, x30, u31, hA, hB, q3, f2, q9, q10, f32, q25, h_0, q26, q27, q31, f12, q32, q33, h⟩ := hI
              unfold core_Hitting_j5 at h
              refine' region [_, _] mixed hA (.cons ?z23_0 (.cons ?z23_1 .nil)) ?zok23 ?zgd23 ?zk23
              case z23_0 => intro a' w' hE hK hg; exact ok_add (kn (hK 33 rfl) rfl q33) rfl
              case z23_1 => intro a' w' hE hK hg; exact ok_move (ksv (j := 0) (hK 62 rfl) rfl rfl rfl)
              case zok23 => kernel_rfl
              case zgd23 => kernel_rfl
              intro a40 w40 hA' hE HF
              replace q3 := kn (HF 3) rfl q3
              replace q9 := kn (HF 9) rfl q9
              replace q10 := kn (HF 10) rfl q10
              replace q25 := kn (HF 25) rfl q25
              replace q26 := kn (HF 26) rfl q26
              replace q27 := kn (HF 27) rfl q27
              replace q31 := kn (HF 31) rfl q31
              replace q32 := kn (HF 32) rfl q32
              have q33' := ksv (HF 33) rfl rfl rfl
              replace q33 := q33'; clear q33'
              clear hA HF; have hA := hA'; clear hA'
              replace f2 := GR.v_ext _ f2 hE
              replace f32 := f32.ext hE
              replace h_0 := GR.v_ext _ h_0 hE
              replace f12 := f12.ext hE
              replace hB := Base.step hB hE hO; clear hE
              refine (li_nil ?_)
              refine (nx_then ?_)
              have h := hnext4 _ (Comp.run_pure h).symm
              refine ⟨m4, hlt4, ?_⟩
              exact ⟨_, _, _, _, hA, hB, q3, f2, q9, q10, f32, q25, h_0, q26, q27, q31, f12, q32, q33, h⟩
            ·
              replace h := Comp.run_b_f hc h; clear hc
              refine wp_exit ?_
              refine (ex_then (ex_then (ex_same ?_)))
              have hd_ := hdone4 _ (Comp.run_pure h).symm; clear h
              subst hd_; have h := hk4; clear hk4; try dsimp only at h
              refine (nx_then ?_)
              obtain ⟨O59, hB', hX, f60⟩ := freezeL hO hB f20 (by decide)
              clear f20 hB; have hB := hB'; clear hB'
              replace f2 := GR.kx _ f2 hX (by decide)
              replace h_0 := GR.kx _ h_0 hX (by decide)
              replace f12 := f12.kx hX (by decide) (by decide)
              clear hX
              exact ⟨_, _, _, hA, hB, q3, f2, q10, f60, q25, h_0, q26, q27, h⟩
          intro a41 w41 hI
          clear hA hB h q3 q7 q9 q10 q25 q26 q27 f12 f2 h_0
          obtain ⟨O61, x56, u57, hA, hB, q3, f2, q10, f58, q25, h_0, q26, q27, h⟩ := hI
          unfold core_Hitting_j3 at h
          refine' regionT [_] hA (.cons ?z24_0 .nil) ?zok24 ?zgd24 ?zk24
          case z24_0 => intro a' w' hE hK hg; exact ok_move (kn (hK 10 rfl) rfl q10)
          case zok24 => kernel_rfl
          case zgd24 => kernel_rfl
          intro a42 w42 hA' hE HF
          replace q3 := kn (HF 3) rfl q3
          replace q25 := kn (HF 25) rfl q25
          replace q26 := kn (HF 26) rfl q26
          replace q27 := kn (HF 27) rfl q27
          have q63 := ksv (HF 63) rfl rfl rfl
          clear q10
          clear hA HF; have hA := hA'; clear hA'
          replace f2 := GR.v_ext _ f2 hE
          replace f58 := GR.v_ext _ f58 hE
          replace h_0 := GR.v_ext _ h_0 hE
          replace hB := Base.step hB hE hO; clear hE
          obtain ⟨x62, hx62, h⟩ := Comp.run_bind h
          refine l_ok (φ := SP.ownr (rInt .i64) 3 w42.heap.size O61 x62) hO hB (by have c_ := ok_core_Minimal hB.ok f58 hx62; exact ok_weak (ok_call1 fn42 q63 c_) (fun _ _ _ h => h)) rfl fun u63 w43 hE hB' f64 => ?_
          clear hB'; obtain ⟨O65, hB', hX, f66⟩ := ownNew hO hB hE f64 rfl 4 (by decide)
          clear hB f64; have hB := hB'; clear hB'
          replace f2 := GR.kx _ f2 hX (by decide)
          replace h_0 := GR.kx _ h_0 hX (by decide)
          replace f58 := GR.kx _ f58 hX (by decide)
          clear hX hE
          refine put_cont hA (by decide) fun a44 hA' q_ hfr => ?_
          clear hA; have hA := hA'; clear hA'
          replace q3 := (hfr 3 rfl).trans q3
          replace q25 := (hfr 25 rfl).trans q25
          replace q26 := (hfr 26 rfl).trans q26
          replace q27 := (hfr 27 rfl).trans q27
          replace q63 := (hfr 63 rfl).trans q63
          have q64 := q_; clear q_ hfr
          refine l_ok (φ := SP.isv (u63)) hO hB (by exact ok_assign q64) rfl fun u_ w45 hE hB' hv_ => ?_
          replace hv_ := Eq.symm hv_; subst hv_; clear hB; have hB := hB'; clear hB'
          replace f2 := GR.v_ext _ f2 hE
          replace h_0 := GR.v_ext _ h_0 hE
          replace f66 := f66.ext hE
          clear hE
          refine put_cont hA (by decide) fun a46 hA' q_ hfr => ?_
          clear hA; have hA := hA'; clear hA'
          replace q3 := (hfr 3 rfl).trans q3
          replace q25 := (hfr 25 rfl).trans q25
          replace q26 := (hfr 26 rfl).trans q26
          replace q27 := (hfr 27 rfl).trans q27
          replace q64 := (hfr 64 rfl).trans q64
          have q7 := q_; clear q_ hfr
          refine (li_nil ?_)
          refine (nx_blk (nx_then ?_))
          refine' region [_, _] mixed hA (.cons ?z25_0 (.cons ?z25_1 .nil)) ?zok25 ?zgd25 ?zk25
          case z25_0 => intro a' w' hE hK hg; exact ok_add (kn (hK 27 rfl) rfl q27) rfl
          case z25_1 => intro a' w' hE hK hg; exact ok_move (ksv (j := 0) (hK 65 rfl) rfl rfl rfl)
          case zok25 => kernel_rfl
          case zgd25 => kernel_rfl
          intro a47 w47 hA' hE HF
          replace q3 := kn (HF 3) rfl q3
          replace q7 := kn (HF 7) rfl q7
          replace q25 := kn (HF 25) rfl q25
          replace q26 := kn (HF 26) rfl q26
          have q27' := ksv (HF 27) rfl rfl rfl
          replace q27 := q27'; clear q27'
          clear hA HF; have hA := hA'; clear hA'
          replace f2 := GR.v_ext _ f2 hE
          replace h_0 := GR.v_ext _ h_0 hE
          replace f66 := f66.ext hE
          replace hB := Base.step hB hE hO; clear hE
          refine (li_nil ?_)
          refine (nx_then ?_)
          obtain ⟨O67, hB', hX, f68⟩ := retagL (okB_fr hB) hB f66 2 (by decide) (by decide)
          clear f66 hB; have hB := hB'; clear hB'
          replace f2 := GR.kx _ f2 hX (by decide)
          replace h_0 := GR.kx _ h_0 hX (by decide)
          clear hX
          have h := hnext2 _ (Comp.run_pure h).symm
          refine ⟨m2, hlt2, ?_⟩
          exact ⟨_, _, _, _, hA, hB, q3, f2, q7, f68, q25, h_0, q26, q27, h⟩
        ·
          replace h := Comp.run_b_f hc h; clear hc
          refine wp_exit ?_
          refine (ex_then (ex_then (ex_same ?_)))
          have hd_ := hdone2 _ (Comp.run_pure h).symm; clear h
          subst hd_; have h := hk2; clear hk2; try dsimp only at h
          refine (nx_then ?_)
          exact ⟨_, _, _, hA, hB, q7, f12, h⟩
      intro a48 w48 hI
      clear hA hB h q0 q3 q7 f2 f9 h_0
      obtain ⟨O74, x71, u72, hA, hB, q7, f73, h⟩ := hI
      unfold core_Hitting_j1 at h
      refine wp_seq ?_
      refine' region [_, _, _] mixed hA (.cons ?z26_0 (.cons ?z26_1 (.cons ?z26_2 .nil))) ?zok26 ?zgd26 ?zk26
      case z26_0 => intro a' w' hE hK hg; exact ok_move (kn (hK 7 rfl) rfl q7)
      case z26_1 => intro a' w' hE hK hg; exact ok_assign (ksv (j := 0) (hK 66 rfl) rfl rfl rfl)
      case z26_2 => intro a' w' hE hK hg; exact ok_assign rfl
      case zok26 => kernel_rfl
      case zgd26 => kernel_rfl
      intro a49 w49 hA' hE HF
      have q4 := ksv (HF 4) rfl rfl rfl
      have q5 := ksv (HF 5) rfl rfl rfl
      clear q7
      clear hA HF; have hA := hA'; clear hA'
      replace f73 := f73.ext hE
      replace hB := Base.step hB hE hO; clear hE
      refine (li_nil ?_)
      refine (nx_then ?_)
      refine (wp_ret ?_)
      have h := Comp.run_pure h; subst h
      exact retPure2 Try.results46 hA q4 q5 hB.ext ⟨_, _, rfl, (OwnL.res f73 (by decide) hB.zero), rfl⟩

theorem ok_colletlaw32_hits {O : Tags} {w0 : World} (hO : OkO O w0) {v_0 : Value} {x_0 : List Int} (h_0 : (rSl (rInt .i64)).v O w0 v_0 x_0) {x_1 : Int} {v_2 : Value} {x_2 : List Int} (h_2 : (rSl (rInt .i64)).v O w0 v_2 x_2) {n : Nat} {y : Bool} (h : (colletlaw32_hits x_0 x_1 x_2).run n = some y) : Pure Try.prog 76 #[v_0, .int .i64 x_1, v_2] w0 (SP.isv (.bool y)).holds := by
  unfold colletlaw32_hits at h
  refine pure_of_wp Try.func76 rfl 22 Try.ntmps76 (by simp) fun a0 hA hs0 => ?_
  have q0 := hs0 0 _ rfl
  have q1 := hs0 1 _ rfl
  have q2 := hs0 2 _ rfl
  clear hs0
  have hB : Base (Fr w0) O w0 O w0 := Base.start hO
  refine wp_seq ?_
  refine' region [_] mixed hA (.cons ?z1_0 .nil) ?zok1 ?zgd1 ?zk1
  case z1_0 => intro a' w' hE hK hg; exact ok_assign rfl
  case zok1 => kernel_rfl
  case zgd1 => kernel_rfl
  intro a1 w1 hA' hE HF
  replace q0 := kn (HF 0) rfl q0
  replace q1 := kn (HF 1) rfl q1
  replace q2 := kn (HF 2) rfl q2
  clear hA HF; have hA := hA'; clear hA'
  replace h_0 := GR.v_ext _ h_0 hE
  replace h_2 := GR.v_ext _ h_2 hE
  replace hB := Base.step hB hE hO; clear hE
  refine (li_nil ?_)
  refine (nx_then ?_)
  refine wp_seq ?_
  obtain ⟨x1, hx1, h⟩ := Comp.run_bind h
  refine' region [_, _, SP.tup2 (SP.vl (rSl (rInt .i64)) O x1.1) (SP.isv (.int .i64 x1.2)), SP.tup2 (SP.vl (rSl (rInt .i64)) O x1.1) (SP.isv (.int .i64 x1.2)), SP.vl (rSl (rInt .i64)) O x1.1, SP.isv (.int .i64 x1.2), SP.vl (rSl (rInt .i64)) O x1.1, _] mixed hA (.cons ?z2_0 (.cons ?z2_1 (.cons ?z2_2 (.cons ?z2_3 (.cons ?z2_4 (.cons ?z2_5 (.cons ?z2_6 (.cons ?z2_7 .nil)))))))) ?zok2 ?zgd2 ?zk2
  case z2_0 => intro a' w' hE hK hg; exact ok_move (kn (hK 0 rfl) rfl q0)
  case z2_1 => intro a' w' hE hK hg; exact ok_move (kn (hK 1 rfl) rfl q1)
  case z2_2 => intro a' w' hE hK hg; have c_ := ok_core_Hitting (OkO.ext hB.ok hE) (GR.v_ext _ h_0 hE) hx1; exact ok_weak (ok_call2 fn46 (ksv (j := 0) (hK 10 rfl) rfl rfl rfl) (ksv (j := 1) (hK 11 rfl) rfl rfl rfl) c_) (fun _ _ _ ⟨a_, b_, e0_, h0_, h1_⟩ => ⟨a_, b_, e0_, (fun h => (OwnR.val h (fun g hg => (OkO.ext hB.ok hE) g (OwnR.ge h g hg).1))) h0_, h1_⟩)
  case z2_3 => intro a' w' hE hK hg; exact ok_move_pr (φ := SP.tup2 (SP.vl (rSl (rInt .i64)) O x1.1) (SP.isv (.int .i64 x1.2))) (kspS (φ := SP.tup2 (SP.vl (rSl (rInt .i64)) O x1.1) (SP.isv (.int .i64 x1.2))) (j := 2) (hK 12 rfl) rfl rfl rfl)
  case z2_4 => intro a' w' hE hK hg; exact okl_ext0 (kspS (φ := SP.tup2 (SP.vl (rSl (rInt .i64)) O x1.1) (SP.isv (.int .i64 x1.2))) (j := 3) (hK 9 rfl) rfl rfl rfl)
  case z2_5 => intro a' w' hE hK hg; exact okl_ext1 (kspS (φ := SP.tup2 (SP.vl (rSl (rInt .i64)) O x1.1) (SP.isv (.int .i64 x1.2))) (j := 3) (hK 9 rfl) rfl rfl rfl)
  case z2_6 => intro a' w' hE hK hg; exact ok_assign_pr (φ := SP.vl (rSl (rInt .i64)) O x1.1) (kspS (φ := SP.vl (rSl (rInt .i64)) O x1.1) (j := 4) (hK 13 rfl) rfl rfl rfl)
  case z2_7 => intro a' w' hE hK hg; exact ok_assign (ksv (j := 5) (hK 14 rfl) rfl rfl rfl)
  case zok2 => kernel_rfl
  case zgd2 => kernel_rfl
  intro a2 w2 hA' hE HF
  replace q2 := kn (HF 2) rfl q2
  have f3 := ksp (HF 7) rfl rfl rfl
  obtain ⟨u2, q7'⟩ : ∃ u, a2.get 7 = u := ⟨_, rfl⟩
  rw [q7'] at f3
  have q7 := q7'; clear q7'
  have q8 := ksv (HF 8) rfl rfl rfl
  clear q0
  clear q1
  clear hA HF; have hA := hA'; clear hA'
  replace h_0 := GR.v_ext _ h_0 hE
  replace h_2 := GR.v_ext _ h_2 hE
  replace hB := Base.step hB hE hO; clear hE
  refine (li_nil ?_)
  refine (nx_then ?_)
  refine wp_seq ?_
  obtain ⟨x4, hx4, h⟩ := Comp.run_bind h
  refine' region [_, _, _, _, _, SP.isv (.bool x4), _, _] mixed hA (.cons ?z3_0 (.cons ?z3_1 (.cons ?z3_2 (.cons ?z3_3 (.cons ?z3_4 (.cons ?z3_5 (.cons ?z3_6 (.cons ?z3_7 .nil)))))))) ?zok3 ?zgd3 ?zk3
  case z3_0 => intro a' w' hE hK hg; exact ok_move (kn (hK 8 rfl) rfl q8)
  case z3_1 => intro a' w' hE hK hg; exact ok_eqlI (ksv (j := 0) (hK 15 rfl) rfl rfl rfl) rfl
  case z3_2 => intro a' w' hE hK hg; exact ok_move (ksv (j := 1) (hK 16 rfl) rfl rfl rfl)
  case z3_3 => intro a' w' hE hK hg; exact ok_move (kn (hK 7 rfl) rfl q7)
  case z3_4 => intro a' w' hE hK hg; exact ok_move (kn (hK 2 rfl) rfl q2)
  case z3_5 => intro a' w' hE hK hg; have c_ := ok_colletref32_Same (OkO.ext hB.ok hE) (GR.v_ext _ f3 hE) (GR.v_ext _ h_2 hE) (run_gdb hx4 hg); exact ok_call2 fn41 (ksv (j := 3) (hK 18 rfl) rfl rfl hg) (ksv (j := 4) (hK 19 rfl) rfl rfl hg) c_
  case z3_6 => intro a' w' hE hK hg; exact ok_pick (ksv (j := 2) (hK 17 rfl) rfl rfl rfl) (fun hb => ksv (j := 5) (hK 20 rfl) rfl rfl (act_g1 rfl rfl hb)) (fun _ => rfl)
  case z3_7 => intro a' w' hE hK hg; exact ok_assign (ksv (j := 6) (hK 21 rfl) rfl rfl rfl)
  case zok3 => kernel_rfl
  case zgd3 => kernel_rfl
  intro a3 w3 hA' hE HF
  have q6 := ksv (HF 6) rfl rfl rfl
  clear q2
  clear q7
  clear q8
  clear hA HF; have hA := hA'; clear hA'
  replace h_2 := GR.v_ext _ h_2 hE
  replace f3 := GR.v_ext _ f3 hE
  replace hB := Base.step hB hE hO; clear hE
  obtain ⟨x5, hx_, h⟩ := Comp.run_bind h; replace hx_ := Comp.run_pure hx_; rw [hx_] at q6; clear hx_
  refine (li_nil ?_)
  refine (nx_then ?_)
  refine (wp_ret ?_)
  have h := Comp.run_pure h; subst h
  exact retPure Try.results76 hA q6 hB.ext rfl

theorem ok_math_bits_Len32 {O : Tags} {w0 : World} (hO : OkO O w0) {x_0 : Int} {n : Nat} {y : Int} (h : (math_bits_Len32 x_0).run n = some y) : Pure Try.prog 123 #[.int .u32 x_0] w0 (SP.isv (.int .i64 y)).holds := by
  unfold math_bits_Len32 at h
  refine pure_of_wp Try.func123 rfl 19 Try.ntmps123 (by simp) fun a0 hA hs0 => ?_
  have q0 := hs0 0 _ rfl
  clear hs0
  have hB : Base (Fr w0) O w0 O w0 := Base.start hO
  refine wp_seq ?_
  refine' region [_] mixed hA (.cons ?z1_0 .nil) ?zok1 ?zgd1 ?zk1
  case z1_0 => intro a' w' hE hK hg; exact ok_assign rfl
  case zok1 => kernel_rfl
  case zgd1 => kernel_rfl
  intro a1 w1 hA' hE HF
  replace q0 := kn (HF 0) rfl q0
  have q2 := ksv (HF 2) rfl rfl rfl
  clear hA HF; have hA := hA'; clear hA'
  replace hB := Base.step hB hE hO; clear hE
  refine (li_nil ?_)
  refine (nx_then ?_)
  refine seq_join (fun a w => ∃ (O3 : Tags) (x1 : Int) (x2 : Int), a.fit 19 ∧ Base (Fr w0) O w0 O3 w ∧ a.get 0 = .int .u32 x1 ∧ a.get 2 = .int .i64 x2 ∧ (math_bits_Len32_j1 x1 x2).run n = some y) ?_ ?_
  ·
    refine wp_seq ?_
    refine' region [_, _] mixed hA (.cons ?z2_0 (.cons ?z2_1 .nil)) ?zok2 ?zgd2 ?zk2
    case z2_0 => intro a' w' hE hK hg; exact ok_move (kn (hK 0 rfl) rfl q0)
    case z2_1 => intro a' w' hE hK hg; exact ok_geq (ksv (j := 0) (hK 3 rfl) rfl rfl rfl) rfl
    case zok2 => kernel_rfl
    case zgd2 => kernel_rfl
    intro a2 w2 hA' hE HF
    replace q0 := kn (HF 0) rfl q0
    replace q2 := kn (HF 2) rfl q2
    have q4 := ksv (HF 4) rfl rfl rfl
    clear hA HF; have hA := hA'; clear hA'
    replace hB := Base.step hB hE hO; clear hE
    refine (li_nil ?_)
    refine (nx_then ?_)
    refine wp_cond_b q4 (fun hc => ?_) (fun hc => ?_)
    ·
      replace h := Comp.run_b_t hc h; clear hc
      refine wp_seq ?_
      refine' region [_, _, _] mixed hA (.cons ?z3_0 (.cons ?z3_1 (.cons ?z3_2 .nil))) ?zok3 ?zgd3 ?zk3
      case z3_0 => intro a' w' hE hK hg; exact ok_move (kn (hK 0 rfl) rfl q0)
      case z3_1 => intro a' w' hE hK hg; exact okl_shr (ksv (j := 0) (hK 5 rfl) rfl rfl rfl) rfl (by decide)
      case z3_2 => intro a' w' hE hK hg; exact ok_assign (ksv (j := 1) (hK 6 rfl) rfl rfl rfl)
      case zok3 => kernel_rfl
      case zgd3 => kernel_rfl
      intro a3 w3 hA' hE HF
      have q0' := ksv (HF 0) rfl rfl rfl
      replace q0 := q0'; clear q0'
      clear q2
      clear q4
      clear hA HF; have hA := hA'; clear hA'
      replace hB := Base.step hB hE hO; clear hE
      refine (li_nil ?_)
      refine (nx_then ?_)
      refine' region [_] mixed hA (.cons ?z4_0 .nil) ?zok4 ?zgd4 ?zk4
      case z4_0 => intro a' w' hE hK hg; exact ok_assign rfl
      case zok4 => kernel_rfl
      case zgd4 => kernel_rfl
      intro a4 w4 hA' hE HF
      replace q0 := kn (HF 0) rfl q0
      have q2 := ksv (HF 2) rfl rfl rfl
      clear hA HF; have hA := hA'; clear hA'
      replace hB := Base.step hB hE hO; clear hE
      refine (li_nil ?_)
      refine (nx_then ?_)
      exact ⟨_, _, _, hA, hB, q0, q2, h⟩
    ·
      replace h := Comp.run_b_f hc h; clear hc
      refine wp_skip ?_
      refine (nx_then ?_)
      exact ⟨_, _, _, hA, hB, q0, q2, h⟩
  intro a5 w5 hI
  clear hA hB h q0 q2
  obtain ⟨O3, x1, x2, hA, hB, q0, q2, h⟩ := hI
  unfold math_bits_Len32_j1 at h
  refine seq_join (fun a w => ∃ (O6 : Tags) (x4 : Int) (x5 : Int), a.fit 19 ∧ Base (Fr w0) O w0 O6 w ∧ a.get 0 = .int .u32 x4 ∧ a.get 2 = .int .i64 x5 ∧ (math_bits_Len32_j2 x4 x5).run n = some y) ?_ ?_
  ·
    refine wp_seq ?_
    refine' region [_, _] mixed hA (.cons ?z5_0 (.cons ?z5_1 .nil)) ?zok5 ?zgd5 ?zk5
    case z5_0 => intro a' w' hE hK hg; exact ok_move (kn (hK 0 rfl) rfl q0)
    case z5_1 => intro a' w' hE hK hg; exact ok_geq (ksv (j := 0) (hK 7 rfl) rfl rfl rfl) rfl
    case zok5 => kernel_rfl
    case zgd5 => kernel_rfl
    intro a6 w6 hA' hE HF
    replace q0 := kn (HF 0) rfl q0
    replace q2 := kn (HF 2) rfl q2
    have q8 := ksv (HF 8) rfl rfl rfl
    clear hA HF; have hA := hA'; clear hA'
    replace hB := Base.step hB hE hO; clear hE
    refine (li_nil ?_)
    refine (nx_then ?_)
    refine wp_cond_b q8 (fun hc => ?_) (fun hc => ?_)
    ·
      replace h := Comp.run_b_t hc h; clear hc
      refine wp_seq ?_
      refine' region [_, _, _] mixed hA (.cons ?z6_0 (.cons ?z6_1 (.cons ?z6_2 .nil))) ?zok6 ?zgd6 ?zk6
      case z6_0 => intro a' w' hE hK hg; exact ok_move (kn (hK 0 rfl) rfl q0)
      case z6_1 => intro a' w' hE hK hg; exact okl_shr (ksv (j := 0) (hK 9 rfl) rfl rfl rfl) rfl (by decide)
      case z6_2 => intro a' w' hE hK hg; exact ok_assign (ksv (j := 1) (hK 10 rfl) rfl rfl rfl)
      case zok6 => kernel_rfl
      case zgd6 => kernel_rfl
      intro a7 w7 hA' hE HF
      have q0' := ksv (HF 0) rfl rfl rfl
      replace q0 := q0'; clear q0'
      replace q2 := kn (HF 2) rfl q2
      clear q8
      clear hA HF; have hA := hA'; clear hA'
      replace hB := Base.step hB hE hO; clear hE
      refine (li_nil ?_)
      refine (nx_then ?_)
      refine' region [_, _, _] mixed hA (.cons ?z7_0 (.cons ?z7_1 (.cons ?z7_2 .nil))) ?zok7 ?zgd7 ?zk7
      case z7_0 => intro a' w' hE hK hg; exact ok_move (kn (hK 2 rfl) rfl q2)
      case z7_1 => intro a' w' hE hK hg; exact ok_add (ksv (j := 0) (hK 11 rfl) rfl rfl rfl) rfl
      case z7_2 => intro a' w' hE hK hg; exact ok_assign (ksv (j := 1) (hK 12 rfl) rfl rfl rfl)
      case zok7 => kernel_rfl
      case zgd7 => kernel_rfl
      intro a8 w8 hA' hE HF
      replace q0 := kn (HF 0) rfl q0
      have q2' := ksv (HF 2) rfl rfl rfl
      replace q2 := q2'; clear q2'
      clear hA HF; have hA := hA'; clear hA'
      replace hB := Base.step hB hE hO; clear hE
      refine (li_nil ?_)
      refine (nx_then ?_)
      exact ⟨_, _, _, hA, hB, q0, q2, h⟩
    ·
      replace h := Comp.run_b_f hc h; clear hc
      refine wp_skip ?_
      refine (nx_then ?_)
      exact ⟨_, _, _, hA, hB, q0, q2, h⟩
  intro a9 w9 hI
  clear hA hB h q0 q2
  obtain ⟨O6, x4, x5, hA, hB, q0, q2, h⟩ := hI
  unfold math_bits_Len32_j2 at h
  refine wp_seq ?_
  obtain ⟨x7, hx7, h⟩ := Comp.run_bind h
  refine' region [_, _, _, SP.isv (.int .u8 x7), _, _, _] mixed hA (.cons ?z8_0 (.cons ?z8_1 (.cons ?z8_2 (.cons ?z8_3 (.cons ?z8_4 (.cons ?z8_5 (.cons ?z8_6 .nil))))))) ?zok8 ?zgd8 ?zk8
  case z8_0 => intro a' w' hE hK hg; exact ok_move (kn (hK 2 rfl) rfl q2)
  case z8_1 => intro a' w' hE hK hg; exact ok_move (kn (hK 0 rfl) rfl q0)
  case z8_2 => intro a' w' hE hK hg; exact ok_convI ty123 ty5 (ksv (j := 1) (hK 14 rfl) rfl rfl rfl)
  case z8_3 => intro a' w' hE hK hg; exact okl_indexS ty9 rfl (ksv (j := 2) (hK 15 rfl) rfl rfl rfl) hx7
  case z8_4 => intro a' w' hE hK hg; exact ok_convI ty5 ty3 (ksv (j := 3) (hK 16 rfl) rfl rfl rfl)
  case z8_5 => intro a' w' hE hK hg; exact ok_add (ksv (j := 0) (hK 13 rfl) rfl rfl rfl) (ksv (j := 4) (hK 17 rfl) rfl rfl rfl)
  case z8_6 => intro a' w' hE hK hg; exact ok_assign (ksv (j := 5) (hK 18 rfl) rfl rfl rfl)
  case zok8 => kernel_rfl
  case zgd8 => kernel_rfl
  intro a10 w10 hA' hE HF
  have q2' := ksv (HF 2) rfl rfl rfl
  replace q2 := q2'; clear q2'
  clear q0
  clear hA HF; have hA := hA'; clear hA'
  replace hB := Base.step hB hE hO; clear hE
  obtain ⟨x8, hx_, h⟩ := Comp.run_bind h; replace hx_ := Comp.run_pure hx_; rw [hx_] at q2; clear hx_
  refine (li_nil ?_)
  refine (nx_then ?_)
  refine (wp_ret ?_)
  have h := Comp.run_pure h; subst h
  exact retPure Try.results123 hA q2 hB.ext rfl

theorem ok_math_bits_Len64 {O : Tags} {w0 : World} (hO : OkO O w0) {x_0 : Int} {n : Nat} {y : Int} (h : (math_bits_Len64 x_0).run n = some y) : Pure Try.prog 124 #[.int .u64 x_0] w0 (SP.isv (.int .i64 y)).holds := by
  unfold math_bits_Len64 at h
  refine pure_of_wp Try.func124 rfl 25 Try.ntmps124 (by simp) fun a0 hA hs0 => ?_
  have q0 := hs0 0 _ rfl
  clear hs0
  have hB : Base (Fr w0) O w0 O w0 := Base.start hO
  refine wp_seq ?_
  refine' region [_] mixed hA (.cons ?z1_0 .nil) ?zok1 ?zgd1 ?zk1
  case z1_0 => intro a' w' hE hK hg; exact ok_assign rfl
  case zok1 => kernel_rfl
  case zgd1 => kernel_rfl
  intro a1 w1 hA' hE HF
  replace q0 := kn (HF 0) rfl q0
  have q2 := ksv (HF 2) rfl rfl rfl
  clear hA HF; have hA := hA'; clear hA'
  replace hB := Base.step hB hE hO; clear hE
  refine (li_nil ?_)
  refine (nx_then ?_)
  refine seq_join (fun a w => ∃ (O3 : Tags) (x1 : Int) (x2 : Int), a.fit 25 ∧ Base (Fr w0) O w0 O3 w ∧ a.get 0 = .int .u64 x1 ∧ a.get 2 = .int .i64 x2 ∧ (math_bits_Len64_j1 x1 x2).run n = some y) ?_ ?_
  ·
    refine wp_seq ?_
    refine' region [_, _] mixed hA (.cons ?z2_0 (.cons ?z2_1 .nil)) ?zok2 ?zgd2 ?zk2
    case z2_0 => intro a' w' hE hK hg; exact ok_move (kn (hK 0 rfl) rfl q0)
    case z2_1 => intro a' w' hE hK hg; exact ok_geq (ksv (j := 0) (hK 3 rfl) rfl rfl rfl) rfl
    case zok2 => kernel_rfl
    case zgd2 => kernel_rfl
    intro a2 w2 hA' hE HF
    replace q0 := kn (HF 0) rfl q0
    replace q2 := kn (HF 2) rfl q2
    have q4 := ksv (HF 4) rfl rfl rfl
    clear hA HF; have hA := hA'; clear hA'
    replace hB := Base.step hB hE hO; clear hE
    refine (li_nil ?_)
    refine (nx_then ?_)
    refine wp_cond_b q4 (fun hc => ?_) (fun hc => ?_)
    ·
      replace h := Comp.run_b_t hc h; clear hc
      refine wp_seq ?_
      refine' region [_, _, _] mixed hA (.cons ?z3_0 (.cons ?z3_1 (.cons ?z3_2 .nil))) ?zok3 ?zgd3 ?zk3
      case z3_0 => intro a' w' hE hK hg; exact ok_move (kn (hK 0 rfl) rfl q0)
      case z3_1 => intro a' w' hE hK hg; exact okl_shr (ksv (j := 0) (hK 5 rfl) rfl rfl rfl) rfl (by decide)
      case z3_2 => intro a' w' hE hK hg; exact ok_assign (ksv (j := 1) (hK 6 rfl) rfl rfl rfl)
      case zok3 => kernel_rfl
      case zgd3 => kernel_rfl
      intro a3 w3 hA' hE HF
      have q0' := ksv (HF 0) rfl rfl rfl
      replace q0 := q0'; clear q0'
      clear q2
      clear q4
      clear hA HF; have hA := hA'; clear hA'
      replace hB := Base.step hB hE hO; clear hE
      refine (li_nil ?_)
      refine (nx_then ?_)
      refine' region [_] mixed hA (.cons ?z4_0 .nil) ?zok4 ?zgd4 ?zk4
      case z4_0 => intro a' w' hE hK hg; exact ok_assign rfl
      case zok4 => kernel_rfl
      case zgd4 => kernel_rfl
      intro a4 w4 hA' hE HF
      replace q0 := kn (HF 0) rfl q0
      have q2 := ksv (HF 2) rfl rfl rfl
      clear hA HF; have hA := hA'; clear hA'
      replace hB := Base.step hB hE hO; clear hE
      refine (li_nil ?_)
      refine (nx_then ?_)
      exact ⟨_, _, _, hA, hB, q0, q2, h⟩
    ·
      replace h := Comp.run_b_f hc h; clear hc
      refine wp_skip ?_
      refine (nx_then ?_)
      exact ⟨_, _, _, hA, hB, q0, q2, h⟩
  intro a5 w5 hI
  clear hA hB h q0 q2
  obtain ⟨O3, x1, x2, hA, hB, q0, q2, h⟩ := hI
  unfold math_bits_Len64_j1 at h
  refine seq_join (fun a w => ∃ (O6 : Tags) (x4 : Int) (x5 : Int), a.fit 25 ∧ Base (Fr w0) O w0 O6 w ∧ a.get 0 = .int .u64 x4 ∧ a.get 2 = .int .i64 x5 ∧ (math_bits_Len64_j2 x4 x5).run n = some y) ?_ ?_
  ·
    refine wp_seq ?_
    refine' region [_, _] mixed hA (.cons ?z5_0 (.cons ?z5_1 .nil)) ?zok5 ?zgd5 ?zk5
    case z5_0 => intro a' w' hE hK hg; exact ok_move (kn (hK 0 rfl) rfl q0)
    case z5_1 => intro a' w' hE hK hg; exact ok_geq (ksv (j := 0) (hK 7 rfl) rfl rfl rfl) rfl
    case zok5 => kernel_rfl
    case zgd5 => kernel_rfl
    intro a6 w6 hA' hE HF
    replace q0 := kn (HF 0) rfl q0
    replace q2 := kn (HF 2) rfl q2
    have q8 := ksv (HF 8) rfl rfl rfl
    clear hA HF; have hA := hA'; clear hA'
    replace hB := Base.step hB hE hO; clear hE
    refine (li_nil ?_)
    refine (nx_then ?_)
    refine wp_cond_b q8 (fun hc => ?_) (fun hc => ?_)
    ·
      replace h := Comp.run_b_t hc h; clear hc
      refine wp_seq ?_
      refine' region [_, _, _] mixed hA (.cons ?z6_0 (.cons ?z6_1 (.cons ?z6_2 .nil))) ?zok6 ?zgd6 ?zk6
      case z6_0 => intro a' w' hE hK hg; exact ok_move (kn (hK 0 rfl) rfl q0)
      case z6_1 => intro a' w' hE hK hg; exact okl_shr (ksv (j := 0) (hK 9 rfl) rfl rfl rfl) rfl (by decide)
      case z6_2 => intro a' w' hE hK hg; exact ok_assign (ksv (j := 1) (hK 10 rfl) rfl rfl rfl)
      case zok6 => kernel_rfl
      case zgd6 => kernel_rfl
      intro a7 w7 hA' hE HF
      have q0' := ksv (HF 0) rfl rfl rfl
      replace q0 := q0'; clear q0'
      replace q2 := kn (HF 2) rfl q2
      clear q8
      clear hA HF; have hA := hA'; clear hA'
      replace hB := Base.step hB hE hO; clear hE
      refine (li_nil ?_)
      refine (nx_then ?_)
      refine' region [_, _, _] mixed hA (.cons ?z7_0 (.cons ?z7_1 (.cons ?z7_2 .nil))) ?zok7 ?zgd7 ?zk7
      case z7_0 => intro a' w' hE hK hg; exact ok_move (kn (hK 2 rfl) rfl q2)
      case z7_1 => intro a' w' hE hK hg; exact ok_add (ksv (j := 0) (hK 11 rfl) rfl rfl rfl) rfl
      case z7_2 => intro a' w' hE hK hg; exact ok_assign (ksv (j := 1) (hK 12 rfl) rfl rfl rfl)
      case zok7 => kernel_rfl
      case zgd7 => kernel_rfl
      intro a8 w8 hA' hE HF
      replace q0 := kn (HF 0) rfl q0
      have q2' := ksv (HF 2) rfl rfl rfl
      replace q2 := q2'; clear q2'
      clear hA HF; have hA := hA'; clear hA'
      replace hB := Base.step hB hE hO; clear hE
      refine (li_nil ?_)
      refine (nx_then ?_)
      exact ⟨_, _, _, hA, hB, q0, q2, h⟩
    ·
      replace h := Comp.run_b_f hc h; clear hc
      refine wp_skip ?_
      refine (nx_then ?_)
      exact ⟨_, _, _, hA, hB, q0, q2, h⟩
  intro a9 w9 hI
  clear hA hB h q0 q2
  obtain ⟨O6, x4, x5, hA, hB, q0, q2, h⟩ := hI
  unfold math_bits_Len64_j2 at h
  refine seq_join (fun a w => ∃ (O9 : Tags) (x7 : Int) (x8 : Int), a.fit 25 ∧ Base (Fr w0) O w0 O9 w ∧ a.get 0 = .int .u64 x7 ∧ a.get 2 = .int .i64 x8 ∧ (math_bits_Len64_j3 x7 x8).run n = some y) ?_ ?_
  ·
    refine wp_seq ?_
    refine' region [_, _] mixed hA (.cons ?z8_0 (.cons ?z8_1 .nil)) ?zok8 ?zgd8 ?zk8
    case z8_0 => intro a' w' hE hK hg; exact ok_move (kn (hK 0 rfl) rfl q0)
    case z8_1 => intro a' w' hE hK hg; exact ok_geq (ksv (j := 0) (hK 13 rfl) rfl rfl rfl) rfl
    case zok8 => kernel_rfl
    case zgd8 => kernel_rfl
    intro a10 w10 hA' hE HF
    replace q0 := kn (HF 0) rfl q0
    replace q2 := kn (HF 2) rfl q2
    have q14 := ksv (HF 14) rfl rfl rfl
    clear hA HF; have hA := hA'; clear hA'
    replace hB := Base.step hB hE hO; clear hE
    refine (li_nil ?_)
    refine (nx_then ?_)
    refine wp_cond_b q14 (fun hc => ?_) (fun hc => ?_)
    ·
      replace h := Comp.run_b_t hc h; clear hc
      refine wp_seq ?_
      refine' region [_, _, _] mixed hA (.cons ?z9_0 (.cons ?z9_1 (.cons ?z9_2 .nil))) ?zok9 ?zgd9 ?zk9
      case z9_0 => intro a' w' hE hK hg; exact ok_move (kn (hK 0 rfl) rfl q0)
      case z9_1 => intro a' w' hE hK hg; exact okl_shr (ksv (j := 0) (hK 15 rfl) rfl rfl rfl) rfl (by decide)
      case z9_2 => intro a' w' hE hK hg; exact ok_assign (ksv (j := 1) (hK 16 rfl) rfl rfl rfl)
      case zok9 => kernel_rfl
      case zgd9 => kernel_rfl
      intro a11 w11 hA' hE HF
      have q0' := ksv (HF 0) rfl rfl rfl
      replace q0 := q0'; clear q0'
      replace q2 := kn (HF 2) rfl q2
      clear q14
      clear hA HF; have hA := hA'; clear hA'
      replace hB := Base.step hB hE hO; clear hE
      refine (li_nil ?_)
      refine (nx_then ?_)
      refine' region [_, _, _] mixed hA (.cons ?z10_0 (.cons ?z10_1 (.cons ?z10_2 .nil))) ?zok10 ?zgd10 ?zk10
      case z10_0 => intro a' w' hE hK hg; exact ok_move (kn (hK 2 rfl) rfl q2)
      case z10_1 => intro a' w' hE hK hg; exact ok_add (ksv (j := 0) (hK 17 rfl) rfl rfl rfl) rfl
      case z10_2 => intro a' w' hE hK hg; exact ok_assign (ksv (j := 1) (hK 18 rfl) rfl rfl rfl)
      case zok10 => kernel_rfl
      case zgd10 => kernel_rfl
      intro a12 w12 hA' hE HF
      replace q0 := kn (HF 0) rfl q0
      have q2' := ksv (HF 2) rfl rfl rfl
      replace q2 := q2'; clear q2'
      clear hA HF; have hA := hA'; clear hA'
      replace hB := Base.step hB hE hO; clear hE
      refine (li_nil ?_)
      refine (nx_then ?_)
      exact ⟨_, _, _, hA, hB, q0, q2, h⟩
    ·
      replace h := Comp.run_b_f hc h; clear hc
      refine wp_skip ?_
      refine (nx_then ?_)
      exact ⟨_, _, _, hA, hB, q0, q2, h⟩
  intro a13 w13 hI
  clear hA hB h q0 q2
  obtain ⟨O9, x7, x8, hA, hB, q0, q2, h⟩ := hI
  unfold math_bits_Len64_j3 at h
  refine wp_seq ?_
  obtain ⟨x10, hx10, h⟩ := Comp.run_bind h
  refine' region [_, _, _, SP.isv (.int .u8 x10), _, _, _] mixed hA (.cons ?z11_0 (.cons ?z11_1 (.cons ?z11_2 (.cons ?z11_3 (.cons ?z11_4 (.cons ?z11_5 (.cons ?z11_6 .nil))))))) ?zok11 ?zgd11 ?zk11
  case z11_0 => intro a' w' hE hK hg; exact ok_move (kn (hK 2 rfl) rfl q2)
  case z11_1 => intro a' w' hE hK hg; exact ok_move (kn (hK 0 rfl) rfl q0)
  case z11_2 => intro a' w' hE hK hg; exact ok_convI ty122 ty5 (ksv (j := 1) (hK 20 rfl) rfl rfl rfl)
  case z11_3 => intro a' w' hE hK hg; exact okl_indexS ty9 rfl (ksv (j := 2) (hK 21 rfl) rfl rfl rfl) hx10
  case z11_4 => intro a' w' hE hK hg; exact ok_convI ty5 ty3 (ksv (j := 3) (hK 22 rfl) rfl rfl rfl)
  case z11_5 => intro a' w' hE hK hg; exact ok_add (ksv (j := 0) (hK 19 rfl) rfl rfl rfl) (ksv (j := 4) (hK 23 rfl) rfl rfl rfl)
  case z11_6 => intro a' w' hE hK hg; exact ok_assign (ksv (j := 5) (hK 24 rfl) rfl rfl rfl)
  case zok11 => kernel_rfl
  case zgd11 => kernel_rfl
  intro a14 w14 hA' hE HF
  have q2' := ksv (HF 2) rfl rfl rfl
  replace q2 := q2'; clear q2'
  clear q0
  clear hA HF; have hA := hA'; clear hA'
  replace hB := Base.step hB hE hO; clear hE
  obtain ⟨x11, hx_, h⟩ := Comp.run_bind h; replace hx_ := Comp.run_pure hx_; rw [hx_] at q2; clear hx_
  refine (li_nil ?_)
  refine (nx_then ?_)
  refine (wp_ret ?_)
  have h := Comp.run_pure h; subst h
  exact retPure Try.results124 hA q2 hB.ext rfl

theorem ok_math_bits_Len {O : Tags} {w0 : World} (hO : OkO O w0) {x_0 : Int} {n : Nat} {y : Int} (h : (math_bits_Len x_0).run n = some y) : Pure Try.prog 89 #[.int .u64 x_0] w0 (SP.isv (.int .i64 y)).holds := by
  unfold math_bits_Len at h
  refine pure_of_wp Try.func89 rfl 8 Try.ntmps89 (by simp) fun a0 hA hs0 => ?_
  have q0 := hs0 0 _ rfl
  clear hs0
  have hB : Base (Fr w0) O w0 O w0 := Base.start hO
  refine wp_seq ?_
  refine' region [_] mixed hA (.cons ?z1_0 .nil) ?zok1 ?zgd1 ?zk1
  case z1_0 => intro a' w' hE hK hg; exact ok_assign rfl
  case zok1 => kernel_rfl
  case zgd1 => kernel_rfl
  intro a1 w1 hA' hE HF
  replace q0 := kn (HF 0) rfl q0
  clear hA HF; have hA := hA'; clear hA'
  replace hB := Base.step hB hE hO; clear hE
  refine (li_nil ?_)
  refine (nx_then ?_)
  refine wp_seq ?_
  refine wp_cond_false rfl ?_
  refine wp_skip ?_
  refine (nx_then ?_)
  refine wp_seq ?_
  obtain ⟨x1, hx1, h⟩ := Comp.run_bind h
  refine' region [_, SP.isv (.int .i64 x1), _] mixed hA (.cons ?z2_0 (.cons ?z2_1 (.cons ?z2_2 .nil))) ?zok2 ?zgd2 ?zk2
  case z2_0 => intro a' w' hE hK hg; exact ok_move (kn (hK 0 rfl) rfl q0)
  case z2_1 => intro a' w' hE hK hg; have c_ := ok_math_bits_Len64 (OkO.ext hB.ok hE)  hx1; exact ok_call1 fn124 (ksv (j := 0) (hK 6 rfl) rfl rfl rfl) c_
  case z2_2 => intro a' w' hE hK hg; exact ok_assign (ksv (j := 1) (hK 7 rfl) rfl rfl rfl)
  case zok2 => kernel_rfl
  case zgd2 => kernel_rfl
  intro a2 w2 hA' hE HF
  have q2 := ksv (HF 2) rfl rfl rfl
  clear q0
  clear hA HF; have hA := hA'; clear hA'
  replace hB := Base.step hB hE hO; clear hE
  refine (li_nil ?_)
  refine (nx_then ?_)
  refine (wp_ret ?_)
  have h := Comp.run_pure h; subst h
  exact retPure Try.results89 hA q2 hB.ext rfl

theorem ok_core_Conflicts_f1 {O : Tags} {w0 : World} (hO : OkO O w0) {x_0 : Int} {v_1 : Value} {x_1 : Int} (h_1 : (rBox (rInt .i64)).v O w0 v_1 x_1) {v_2 : Value} {x_2 : List Bool} (h_2 : (rBox (rSl rBool)).v O w0 v_2 x_2) {n : Nat} {y : Bool} (h : (core_Conflicts_f1 x_0 x_1 x_2).run n = some y) : Pure Try.prog 90 #[.int .i64 x_0, v_1, v_2] w0 (SP.isv (.bool y)).holds := by
  unfold core_Conflicts_f1 at h
  refine pure_of_wp Try.func90 rfl 26 Try.ntmps90 (by simp) fun a0 hA hs0 => ?_
  have q0 := hs0 0 _ rfl
  have q1 := hs0 1 _ rfl
  have q2 := hs0 2 _ rfl
  clear hs0
  have hB : Base (Fr w0) O w0 O w0 := Base.start hO
  refine wp_seq ?_
  refine' region [_] mixed hA (.cons ?z1_0 .nil) ?zok1 ?zgd1 ?zk1
  case z1_0 => intro a' w' hE hK hg; exact ok_assign rfl
  case zok1 => kernel_rfl
  case zgd1 => kernel_rfl
  intro a1 w1 hA' hE HF
  replace q0 := kn (HF 0) rfl q0
  replace q1 := kn (HF 1) rfl q1
  replace q2 := kn (HF 2) rfl q2
  clear hA HF; have hA := hA'; clear hA'
  replace h_1 := GR.v_ext _ h_1 hE
  replace h_2 := GR.v_ext _ h_2 hE
  replace hB := Base.step hB hE hO; clear hE
  refine (li_nil ?_)
  refine (nx_then ?_)
  refine seq_join (fun a w => ∃ (O8 : Tags), a.fit 26 ∧ Base (Fr w0) O w0 O8 w ∧ (core_Conflicts_f1_j1 ).run n = some y) ?_ ?_
  ·
    refine wp_seq ?_
    refine' region [SP.isv (.int .i64 x_1), _] mixed hA (.cons ?z2_0 (.cons ?z2_1 .nil)) ?zok2 ?zgd2 ?zk2
    case z2_0 => intro a' w' hE hK hg; exact okl_ldr (rInt .i64) (fun _ => rfl) ty3 rfl rfl (kn (hK 1 rfl) rfl q1) (ptr_of_box (fun _ => rfl) (GR.v_ext _ h_1 hE)) (fun _ _ _ h => rInt_v.1 h)
    case z2_1 => intro a' w' hE hK hg; exact ok_move rfl
    case zok2 => kernel_rfl
    case zgd2 => kernel_rfl
    intro a2 w2 hA' hE HF
    replace q0 := kn (HF 0) rfl q0
    replace q2 := kn (HF 2) rfl q2
    have q6 := ksv (HF 6) rfl rfl rfl
    have q7 := ksv (HF 7) rfl rfl rfl
    clear q1
    clear hA HF; have hA := hA'; clear hA'
    replace h_1 := GR.v_ext _ h_1 hE
    replace h_2 := GR.v_ext _ h_2 hE
    replace hB := Base.step hB hE hO; clear hE
    refine (li_nil ?_)
    refine (nx_then ?_)
    refine wp_block ?_
    obtain ⟨e2, he2, hk2⟩ := Comp.run_bind h; clear h
    refine loop_m (fun m a w => ∃ (O2 : Tags) (x1 : Int), a.fit 26 ∧ Base (Fr w0) O w0 O2 w ∧ a.get 0 = .int .i64 x_0 ∧ a.get 2 = v_2 ∧ (rBox (rSl rBool)).v O2 w v_2 x_2 ∧ a.get 6 = .int .i64 x_1 ∧ a.get 7 = .int .i64 x1 ∧ Comp.loopN (fun s => core_Conflicts_f1_l2 x_1 x_0 x_2 s) n m x1 = some e2) (m := n) ?st2 ?_
    case st2 =>
      exact ⟨_, _, hA, hB, q0, q2, h_2, q6, q7, Comp.run_loop he2⟩
    intro m_ a3 w3 hI
    clear hA hB he2 q0 q2 q6 q7 h_2
    obtain ⟨O2, x1, hA, hB, q0, q2, h_2, q6, q7, hl⟩ := hI
    obtain ⟨m2, hlt2, st2, h, hnext2, hdone2⟩ := Comp.loopN_succ hl; clear hl
    replace h : (core_Conflicts_f1_l2 x_1 x_0 x_2 x1).run n = some st2 := h
    unfold core_Conflicts_f1_l2 at h
    refine wp_seq ?_
    refine' region [_] mixed hA (.cons ?z3_0 .nil) ?zok3 ?zgd3 ?zk3
    case z3_0 => intro a' w' hE hK hg; exact ok_lss (kn (hK 7 rfl) rfl q7) (kn (hK 6 rfl) rfl q6)
    case zok3 => kernel_rfl
    case zgd3 => kernel_rfl
    intro a4 w4 hA' hE HF
    replace q0 := kn (HF 0) rfl q0
    replace q2 := kn (HF 2) rfl q2
    replace q6 := kn (HF 6) rfl q6
    replace q7 := kn (HF 7) rfl q7
    have q8 := ksv (HF 8) rfl rfl rfl
    clear hA HF; have hA := hA'; clear hA'
    replace h_2 := GR.v_ext _ h_2 hE
    replace hB := Base.step hB hE hO; clear hE
    refine (li_nil ?_)
    refine (nx_then ?_)
    refine wp_seq ?_
    refine wp_cond_b q8 (fun hc => ?_) (fun hc => ?_)
    ·
      replace h := Comp.run_b_t hc h; clear hc
      refine wp_skip ?_
      refine (nx_then ?_)
      refine wp_seq ?_
      refine wp_block ?_
      refine wp_seq ?_
      refine' region [_, _] mixed hA (.cons ?z4_0 (.cons ?z4_1 .nil)) ?zok4 ?zgd4 ?zk4
      case z4_0 => intro a' w' hE hK hg; exact ok_move (kn (hK 7 rfl) rfl q7)
      case z4_1 => intro a' w' hE hK hg; exact ok_assign (ksv (j := 0) (hK 9 rfl) rfl rfl rfl)
      case zok4 => kernel_rfl
      case zgd4 => kernel_rfl
      intro a5 w5 hA' hE HF
      replace q0 := kn (HF 0) rfl q0
      replace q2 := kn (HF 2) rfl q2
      have q5 := ksv (HF 5) rfl rfl rfl
      replace q6 := kn (HF 6) rfl q6
      replace q7 := kn (HF 7) rfl q7
      clear q8
      clear hA HF; have hA := hA'; clear hA'
      replace h_2 := GR.v_ext _ h_2 hE
      replace hB := Base.step hB hE hO; clear hE
      refine (li_nil ?_)
      refine (nx_then ?_)
      refine wp_seq ?_
      obtain ⟨x3, hx3, h⟩ := Comp.run_bind h
      obtain ⟨x4, hx4, h⟩ := Comp.run_bind h
      obtain ⟨x5, hx5, h⟩ := Comp.run_bind h
      refine' region [_, _, _, _, _, _, SP.vl (rSl rBool) O2 x_2, _, _, _, _, SP.ptr rBool O2 x5, SP.isv (.bool x5), _, _] mixed hA (.cons ?z5_0 (.cons ?z5_1 (.cons ?z5_2 (.cons ?z5_3 (.cons ?z5_4 (.cons ?z5_5 (.cons ?z5_6 (.cons ?z5_7 (.cons ?z5_8 (.cons ?z5_9 (.cons ?z5_10 (.cons ?z5_11 (.cons ?z5_12 (.cons ?z5_13 (.cons ?z5_14 .nil))))))))))))))) ?zok5 ?zgd5 ?zk5
      case z5_0 => intro a' w' hE hK hg; exact ok_move (kn (hK 0 rfl) rfl q0)
      case z5_1 => intro a' w' hE hK hg; exact ok_move (kn (hK 5 rfl) rfl q5)
      case z5_2 => intro a' w' hE hK hg; exact okl_shr (ksv (j := 0) (hK 10 rfl) rfl rfl rfl) (ksv (j := 1) (hK 11 rfl) rfl rfl rfl) (run_nonneg hx3)
      case z5_3 => intro a' w' hE hK hg; exact okb_and (ksv (j := 2) (hK 12 rfl) rfl rfl rfl) rfl
      case z5_4 => intro a' w' hE hK hg; exact ok_eqlI (ksv (j := 3) (hK 13 rfl) rfl rfl rfl) rfl
      case z5_5 => intro a' w' hE hK hg; exact ok_move (ksv (j := 4) (hK 14 rfl) rfl rfl rfl)
      case z5_6 => intro a' w' hE hK hg; exact okl_ld (r := (rSl rBool)) (fun _ => rfl) ty71 rfl rfl (kn (hK 2 rfl) rfl q2) (ptr_of_box (fun _ => rfl) (GR.v_ext _ h_2 hE))
      case z5_7 => intro a' w' hE hK hg; exact ok_move (kn (hK 0 rfl) rfl q0)
      case z5_8 => intro a' w' hE hK hg; exact ok_move (kn (hK 5 rfl) rfl q5)
      case z5_9 => intro a' w' hE hK hg; exact okl_shl rfl (ksv (j := 8) (hK 18 rfl) rfl rfl hg) (run_nonneg (run_gdb hx4 hg))
      case z5_10 => intro a' w' hE hK hg; exact okb_andNot (ksv (j := 7) (hK 17 rfl) rfl rfl hg) (ksv (j := 9) (hK 19 rfl) rfl rfl hg)
      case z5_11 => intro a' w' hE hK hg; exact okl_idx (r := rBool) (O := O2) ty71 ty4 rfl rfl (rd_of (kspS (φ := SP.vl (rSl rBool) O2 x_2) (j := 6) (hK 16 rfl) rfl rfl hg)) (ksv (j := 10) (hK 20 rfl) rfl rfl hg) (run_gdb hx5 hg)
      case z5_12 => intro a' w' hE hK hg; exact okl_ldr rBool (fun _ => rfl) ty4 rfl rfl rfl (kspS (φ := SP.ptr rBool O2 x5) (j := 11) (hK 21 rfl) rfl rfl hg) (fun _ _ _ h => rBool_v.1 h)
      case z5_13 => intro a' w' hE hK hg; exact ok_not (ksv (j := 12) (hK 22 rfl) rfl rfl hg)
      case z5_14 => intro a' w' hE hK hg; exact ok_pick (ksv (j := 5) (hK 15 rfl) rfl rfl rfl) (fun hb => ksv (j := 13) (hK 23 rfl) rfl rfl (act_g1 rfl rfl hb)) (fun _ => rfl)
      case zok5 => kernel_rfl
      case zgd5 => kernel_rfl
      intro a6 w6 hA' hE HF
      replace q0 := kn (HF 0) rfl q0
      replace q2 := kn (HF 2) rfl q2
      replace q6 := kn (HF 6) rfl q6
      replace q7 := kn (HF 7) rfl q7
      have q24 := ksv (HF 24) rfl rfl rfl
      clear q5
      clear hA HF; have hA := hA'; clear hA'
      replace h_2 := GR.v_ext _ h_2 hE
      replace hB := Base.step hB hE hO; clear hE
      obtain ⟨x6, hx_, h⟩ := Comp.run_bind h; replace hx_ := Comp.run_pure hx_; rw [hx_] at q24; clear hx_
      refine (li_nil ?_)
      refine (nx_then ?_)
      refine wp_cond_b q24 (fun hc => ?_) (fun hc => ?_)
      ·
        replace h := Comp.run_b_t hc h; clear hc
        refine wp_seq ?_
        refine' region [_] mixed hA (.cons ?z6_0 .nil) ?zok6 ?zgd6 ?zk6
        case z6_0 => intro a' w' hE hK hg; exact ok_assign rfl
        case zok6 => kernel_rfl
        case zgd6 => kernel_rfl
        intro a7 w7 hA' hE HF
        have q4 := ksv (HF 4) rfl rfl rfl
        clear q0
        clear q2
        clear q6
        clear q7
        clear q24
        clear hA HF; have hA := hA'; clear hA'
        replace h_2 := GR.v_ext _ h_2 hE
        replace hB := Base.step hB hE hO; clear hE
        refine (li_nil ?_)
        refine (nx_then ?_)
        refine (wp_ret (rt_blk (rt_then (rt_then (rt_blk (rt_then ?_))))))
        have hd_ := hdone2 _ (Comp.run_pure h).symm; clear h
        subst hd_; have h := hk2; clear hk2; try dsimp only at h
        have h := Comp.run_pure h; subst h
        exact retPure Try.results90 hA q4 hB.ext rfl
      ·
        replace h := Comp.run_b_f hc h; clear hc
        refine wp_skip ?_
        refine (nx_blk (nx_then ?_))
        refine' region [_, _] mixed hA (.cons ?z7_0 (.cons ?z7_1 .nil)) ?zok7 ?zgd7 ?zk7
        case z7_0 => intro a' w' hE hK hg; exact ok_add (kn (hK 7 rfl) rfl q7) rfl
        case z7_1 => intro a' w' hE hK hg; exact ok_move (ksv (j := 0) (hK 25 rfl) rfl rfl rfl)
        case zok7 => kernel_rfl
        case zgd7 => kernel_rfl
        intro a8 w8 hA' hE HF
        replace q0 := kn (HF 0) rfl q0
        replace q2 := kn (HF 2) rfl q2
        replace q6 := kn (HF 6) rfl q6
        have q7' := ksv (HF 7) rfl rfl rfl
        replace q7 := q7'; clear q7'
        clear q24
        clear hA HF; have hA := hA'; clear hA'
        replace h_2 := GR.v_ext _ h_2 hE
        replace hB := Base.step hB hE hO; clear hE
        refine (li_nil ?_)
        refine (nx_then ?_)
        have h := hnext2 _ (Comp.run_pure h).symm
        refine ⟨m2, hlt2, ?_⟩
        exact ⟨_, _, hA, hB, q0, q2, h_2, q6, q7, h⟩
    ·
      replace h := Comp.run_b_f hc h; clear hc
      refine wp_exit ?_
      refine (ex_then (ex_then (ex_same ?_)))
      have hd_ := hdone2 _ (Comp.run_pure h).symm; clear h
      subst hd_; have h := hk2; clear hk2; try dsimp only at h
      refine (nx_then ?_)
      exact ⟨_, hA, hB, h⟩
  intro a9 w9 hI
  clear hA hB h q0 q1 q2 h_1 h_2
  obtain ⟨O8, hA, hB, h⟩ := hI
  unfold core_Conflicts_f1_j1 at h
  refine wp_seq ?_
  refine' region [_] mixed hA (.cons ?z8_0 .nil) ?zok8 ?zgd8 ?zk8
  case z8_0 => intro a' w' hE hK hg; exact ok_assign rfl
  case zok8 => kernel_rfl
  case zgd8 => kernel_rfl
  intro a10 w10 hA' hE HF
  have q4 := ksv (HF 4) rfl rfl rfl
  clear hA HF; have hA := hA'; clear hA'
  replace hB := Base.step hB hE hO; clear hE
  refine (li_nil ?_)
  refine (nx_then ?_)
  refine (wp_ret ?_)
  have h := Comp.run_pure h; subst h
  exact retPure Try.results90 hA q4 hB.ext rfl

theorem ok_core_Conflicts_f2 {O : Tags} {w0 : World} (hO : OkO O w0) {x_0 : Int} {v_1 : Value} {x_1 : List Bool} (h_1 : (rBox (rSl rBool)).v O w0 v_1 x_1) {v_2 : Value} {x_2 : Int → Comp Bool} (h_2 : (rBox (rF1 Try.prog (rInt .i64) (RS.c (fun x => .bool x)))).v O w0 v_2 x_2) {n : Nat} {y : Bool} (h : (core_Conflicts_f2 x_0 x_1 x_2).run n = some y) : Pure Try.prog 92 #[.int .i64 x_0, v_1, v_2] w0 (SP.isv (.bool y)).holds := by
  unfold core_Conflicts_f2 at h
  refine pure_of_wp Try.func92 rfl 15 Try.ntmps92 (by simp) fun a0 hA hs0 => ?_
  have q0 := hs0 0 _ rfl
  have q1 := hs0 1 _ rfl
  have q2 := hs0 2 _ rfl
  clear hs0
  have hB : Base (Fr w0) O w0 O w0 := Base.start hO
  refine wp_seq ?_
  refine' region [_] mixed hA (.cons ?z1_0 .nil) ?zok1 ?zgd1 ?zk1
  case z1_0 => intro a' w' hE hK hg; exact ok_assign rfl
  case zok1 => kernel_rfl
  case zgd1 => kernel_rfl
  intro a1 w1 hA' hE HF
  replace q0 := kn (HF 0) rfl q0
  replace q1 := kn (HF 1) rfl q1
  replace q2 := kn (HF 2) rfl q2
  clear hA HF; have hA := hA'; clear hA'
  replace h_1 := GR.v_ext _ h_1 hE
  replace h_2 := GR.v_ext _ h_2 hE
  replace hB := Base.step hB hE hO; clear hE
  refine (li_nil ?_)
  refine (nx_then ?_)
  refine wp_seq ?_
  obtain ⟨x1, hx1, h⟩ := Comp.run_bind h
  obtain ⟨x2, hx2, h⟩ := Comp.run_bind h
  refine' region [SP.vl (rSl rBool) O x_1, _, SP.ptr rBool O x1, SP.isv (.bool x1), _, SP.vl (rF1 Try.prog (rInt .i64) (RS.c (fun x => .bool x))) O x_2, _, SP.isv (.bool x2), _, _, _] mixed hA (.cons ?z2_0 (.cons ?z2_1 (.cons ?z2_2 (.cons ?z2_3 (.cons ?z2_4 (.cons ?z2_5 (.cons ?z2_6 (.cons ?z2_7 (.cons ?z2_8 (.cons ?z2_9 (.cons ?z2_10 .nil))))))))))) ?zok2 ?zgd2 ?zk2
  case z2_0 => intro a' w' hE hK hg; exact okl_ld (r := (rSl rBool)) (fun _ => rfl) ty71 rfl rfl (kn (hK 1 rfl) rfl q1) (ptr_of_box (fun _ => rfl) (GR.v_ext _ h_1 hE))
  case z2_1 => intro a' w' hE hK hg; exact ok_move (kn (hK 0 rfl) rfl q0)
  case z2_2 => intro a' w' hE hK hg; exact okl_idx (r := rBool) (O := O) ty71 ty4 rfl rfl (rd_of (kspS (φ := SP.vl (rSl rBool) O x_1) (j := 0) (hK 5 rfl) rfl rfl rfl)) (ksv (j := 1) (hK 6 rfl) rfl rfl rfl) hx1
  case z2_3 => intro a' w' hE hK hg; exact okl_ldr rBool (fun _ => rfl) ty4 rfl rfl rfl (kspS (φ := SP.ptr rBool O x1) (j := 2) (hK 7 rfl) rfl rfl rfl) (fun _ _ _ h => rBool_v.1 h)
  case z2_4 => intro a' w' hE hK hg; exact ok_move (ksv (j := 3) (hK 8 rfl) rfl rfl rfl)
  case z2_5 => intro a' w' hE hK hg; exact okl_ld (r := (rF1 Try.prog (rInt .i64) (RS.c (fun x => .bool x)))) (fun _ => rfl) ty77 rfl rfl (kn (hK 2 rfl) rfl q2) (ptr_of_box (fun _ => rfl) (GR.v_ext _ h_2 hE))
  case z2_6 => intro a' w' hE hK hg; exact ok_move (kn (hK 0 rfl) rfl q0)
  case z2_7 => intro a' w' hE hK hg; exact okl_callv1 (R := (RS.c (fun x => .bool x))) rfl (show ((rF1 Try.prog (rInt .i64) (RS.c (fun x => .bool x)))).v O _ _ _ from (kspS (φ := SP.vl (rF1 Try.prog (rInt .i64) (RS.c (fun x => .bool x))) O x_2) (j := 5) (hK 10 rfl) rfl rfl hg)) (OkO.ext hB.ok hE) (ksv (j := 6) (hK 11 rfl) rfl rfl hg) (by first | exact rInt_v.2 rfl | exact rBool_v.2 rfl | exact rStr_v.2 rfl | exact rC_v.2 rfl | exact ⟨_, rfl, rfl⟩) (run_gdb hx2 hg)
  case z2_8 => intro a' w' hE hK hg; exact ok_not (ksv (j := 7) (hK 12 rfl) rfl rfl hg)
  case z2_9 => intro a' w' hE hK hg; exact ok_pick (ksv (j := 4) (hK 9 rfl) rfl rfl rfl) (fun hb => ksv (j := 8) (hK 13 rfl) rfl rfl (act_g1 rfl rfl hb)) (fun _ => rfl)
  case z2_10 => intro a' w' hE hK hg; exact ok_assign (ksv (j := 9) (hK 14 rfl) rfl rfl rfl)
  case zok2 => kernel_rfl
  case zgd2 => kernel_rfl
  intro a2 w2 hA' hE HF
  have q4 := ksv (HF 4) rfl rfl rfl
  clear q0
  clear q1
  clear q2
  clear hA HF; have hA := hA'; clear hA'
  replace h_1 := GR.v_ext _ h_1 hE
  replace h_2 := GR.v_ext _ h_2 hE
  replace hB := Base.step hB hE hO; clear hE
  refine (li_nil ?_)
  refine (nx_then ?_)
  refine (wp_ret ?_)
  have h := Comp.run_pure h; subst h
  exact retPure Try.results92 hA q4 hB.ext rfl

theorem ok_core_only {O : Tags} {w0 : World} (hO : OkO O w0) {x_0 : Int} {v_1 : Value} {x_1 : Int → Comp Bool} (h_1 : (rF1 Try.prog (rInt .i64) (RS.c (fun x => .bool x))).v O w0 v_1 x_1) {n : Nat} {y : (List Int)} (h : (core_only x_0 x_1).run n = some y) : Pure Try.prog 91 #[.int .i64 x_0, v_1] w0 (SP.ownr (rInt .i64) 3 (w0.heap.size) O y).holds := by
  unfold core_only at h
  refine pure_of_wp Try.func91 rfl 20 Try.ntmps91 (by simp) fun a0 hA hs0 => ?_
  have q0 := hs0 0 _ rfl
  have q1 := hs0 1 _ rfl
  clear hs0
  have hB : Base (Fr w0) O w0 O w0 := Base.start hO
  refine wp_seq ?_
  refine' region [_] mixed hA (.cons ?z1_0 .nil) ?zok1 ?zgd1 ?zk1
  case z1_0 => intro a' w' hE hK hg; exact ok_assign rfl
  case zok1 => kernel_rfl
  case zgd1 => kernel_rfl
  intro a1 w1 hA' hE HF
  replace q0 := kn (HF 0) rfl q0
  replace q1 := kn (HF 1) rfl q1
  clear hA HF; have hA := hA'; clear hA'
  replace h_1 := GR.v_ext _ h_1 hE
  replace hB := Base.step hB hE hO; clear hE
  refine (li_nil ?_)
  refine (nx_then ?_)
  refine wp_seq ?_
  refine' region [_] mixed hA (.cons ?z2_0 .nil) ?zok2 ?zgd2 ?zk2
  case z2_0 => intro a' w' hE hK hg; exact ok_assign rfl
  case zok2 => kernel_rfl
  case zgd2 => kernel_rfl
  intro a2 w2 hA' hE HF
  replace q0 := kn (HF 0) rfl q0
  replace q1 := kn (HF 1) rfl q1
  have q5 := ksv (HF 5) rfl rfl rfl
  clear hA HF; have hA := hA'; clear hA'
  replace h_1 := GR.v_ext _ h_1 hE
  replace hB := Base.step hB hE hO; clear hE
  refine (li_nil ?_)
  refine (nx_then ?_)
  refine seq_join (fun a w => ∃ (O22 : Tags) (x19 : List Int) (u20 : Value), a.fit 20 ∧ Base (Fr w0) O w0 O22 w ∧ a.get 5 = u20 ∧ OwnL 1 (rInt .i64) 3 (Fr w0) O22 w u20 x19 ∧ (core_only_j1 x19).run n = some y) ?_ ?_
  ·
    refine wp_seq ?_
    refine' region [_, _] mixed hA (.cons ?z3_0 (.cons ?z3_1 .nil)) ?zok3 ?zgd3 ?zk3
    case z3_0 => intro a' w' hE hK hg; exact ok_move (kn (hK 0 rfl) rfl q0)
    case z3_1 => intro a' w' hE hK hg; exact ok_move rfl
    case zok3 => kernel_rfl
    case zgd3 => kernel_rfl
    intro a3 w3 hA' hE HF
    replace q1 := kn (HF 1) rfl q1
    replace q5 := kn (HF 5) rfl q5
    have q7 := ksv (HF 7) rfl rfl rfl
    have q8 := ksv (HF 8) rfl rfl rfl
    clear q0
    clear hA HF; have hA := hA'; clear hA'
    replace h_1 := GR.v_ext _ h_1 hE
    replace hB := Base.step hB hE hO; clear hE
    refine (li_nil ?_)
    refine (nx_then ?_)
    refine wp_block ?_
    obtain ⟨e2, he2, hk2⟩ := Comp.run_bind h; clear h
    refine loop_m (fun m a w => ∃ (O5 : Tags) (x1 : List Int) (x4 : Int) (u2 : Value), a.fit 20 ∧ Base (Fr w0) O w0 O5 w ∧ a.get 1 = v_1 ∧ (rF1 Try.prog (rInt .i64) (RS.c (fun x => .bool x))).v O5 w v_1 x_1 ∧ a.get 5 = u2 ∧ OwnL 1 (rInt .i64) 3 (Fr w0) O5 w u2 x1 ∧ a.get 7 = .int .i64 x_0 ∧ a.get 8 = .int .i64 x4 ∧ Comp.loopN (fun s => core_only_l2 x_0 x_1 s.1 s.2) n m (x1, x4) = some e2) (m := n) ?st2 ?_
    case st2 =>
      exact ⟨_, _, _, _, hA, hB, q1, h_1, q5, (OwnL.nil _ _ _ _ _ _), q7, q8, Comp.run_loop he2⟩
    intro m_ a4 w4 hI
    clear hA hB he2 q1 q5 q7 q8 h_1
    obtain ⟨O5, x1, x4, u2, hA, hB, q1, h_1, q5, f3, q7, q8, hl⟩ := hI
    obtain ⟨m2, hlt2, st2, h, hnext2, hdone2⟩ := Comp.loopN_succ hl; clear hl
    replace h : (core_only_l2 x_0 x_1 x1 x4).run n = some st2 := h
    unfold core_only_l2 at h
    refine wp_seq ?_
    refine' region [_] mixed hA (.cons ?z4_0 .nil) ?zok4 ?zgd4 ?zk4
    case z4_0 => intro a' w' hE hK hg; exact ok_lss (kn (hK 8 rfl) rfl q8) (kn (hK 7 rfl) rfl q7)
    case zok4 => kernel_rfl
    case zgd4 => kernel_rfl
    intro a5 w5 hA' hE HF
    replace q1 := kn (HF 1) rfl q1
    replace q5 := kn (HF 5) rfl q5
    replace q7 := kn (HF 7) rfl q7
    replace q8 := kn (HF 8) rfl q8
    have q9 := ksv (HF 9) rfl rfl rfl
    clear hA HF; have hA := hA'; clear hA'
    replace h_1 := GR.v_ext _ h_1 hE
    replace f3 := f3.ext hE
    replace hB := Base.step hB hE hO; clear hE
    refine (li_nil ?_)
    refine (nx_then ?_)
    refine wp_seq ?_
    refine wp_cond_b q9 (fun hc => ?_) (fun hc => ?_)
    ·
      replace h := Comp.run_b_t hc h; clear hc
      refine wp_skip ?_
      refine (nx_then ?_)
      refine seq_join (fun a w => ∃ (O16 : Tags) (x13 : List Int) (u14 : Value), a.fit 20 ∧ Base (Fr w0) O w0 O16 w ∧ a.get 1 = v_1 ∧ (rF1 Try.prog (rInt .i64) (RS.c (fun x => .bool x))).v O16 w v_1 x_1 ∧ a.get 5 = u14 ∧ OwnL 1 (rInt .i64) 3 (Fr w0) O16 w u14 x13 ∧ a.get 7 = .int .i64 x_0 ∧ a.get 8 = .int .i64 x4 ∧ (core_only_j3 x4 x13).run n = some st2) ?_ ?_
      ·
        refine wp_block ?_
        refine wp_seq ?_
        refine' region [_, _] mixed hA (.cons ?z5_0 (.cons ?z5_1 .nil)) ?zok5 ?zgd5 ?zk5
        case z5_0 => intro a' w' hE hK hg; exact ok_move (kn (hK 8 rfl) rfl q8)
        case z5_1 => intro a' w' hE hK hg; exact ok_assign (ksv (j := 0) (hK 10 rfl) rfl rfl rfl)
        case zok5 => kernel_rfl
        case zgd5 => kernel_rfl
        intro a6 w6 hA' hE HF
        replace q1 := kn (HF 1) rfl q1
        replace q5 := kn (HF 5) rfl q5
        have q6 := ksv (HF 6) rfl rfl rfl
        replace q7 := kn (HF 7) rfl q7
        replace q8 := kn (HF 8) rfl q8
        clear q9
        clear hA HF; have hA := hA'; clear hA'
        replace h_1 := GR.v_ext _ h_1 hE
        replace f3 := f3.ext hE
        replace hB := Base.step hB hE hO; clear hE
        refine (li_nil ?_)
        refine (nx_then ?_)
        refine wp_seq ?_
        obtain ⟨x6, hx6, h⟩ := Comp.run_bind h
        refine' region [_, _, SP.isv (.bool x6)] mixed hA (.cons ?z6_0 (.cons ?z6_1 (.cons ?z6_2 .nil))) ?zok6 ?zgd6 ?zk6
        case z6_0 => intro a' w' hE hK hg; exact ok_move (kn (hK 1 rfl) rfl q1)
        case z6_1 => intro a' w' hE hK hg; exact ok_move (kn (hK 6 rfl) rfl q6)
        case z6_2 => intro a' w' hE hK hg; exact okl_callv1 (R := (RS.c (fun x => .bool x))) (ksv (j := 0) (hK 11 rfl) rfl rfl rfl) (show ((rF1 Try.prog (rInt .i64) (RS.c (fun x => .bool x)))).v O5 _ _ _ from (GR.v_ext _ h_1 hE)) (OkO.ext hB.ok hE) (ksv (j := 1) (hK 12 rfl) rfl rfl rfl) (by first | exact rInt_v.2 rfl | exact rBool_v.2 rfl | exact rStr_v.2 rfl | exact rC_v.2 rfl | exact ⟨_, rfl, rfl⟩) hx6
        case zok6 => kernel_rfl
        case zgd6 => kernel_rfl
        intro a7 w7 hA' hE HF
        replace q1 := kn (HF 1) rfl q1
        replace q5 := kn (HF 5) rfl q5
        replace q6 := kn (HF 6) rfl q6
        replace q7 := kn (HF 7) rfl q7
        replace q8 := kn (HF 8) rfl q8
        have q13 := ksv (HF 13) rfl rfl rfl
        clear hA HF; have hA := hA'; clear hA'
        replace h_1 := GR.v_ext _ h_1 hE
        replace f3 := f3.ext hE
        replace hB := Base.step hB hE hO; clear hE
        refine (li_nil ?_)
        refine (nx_then ?_)
        refine wp_cond_b q13 (fun hc => ?_) (fun hc => ?_)
        ·
          replace h := Comp.run_b_t hc h; clear hc
          refine' regionT [_, _, SP.vl (rSl (rInt .i64)) O5 [x4]] hA (.cons ?z7_0 (.cons ?z7_1 (.cons ?z7_2 .nil))) ?zok7 ?zgd7 ?zk7
          case z7_0 => intro a' w' hE hK hg; exact ok_move (kn (hK 5 rfl) rfl q5)
          case z7_1 => intro a' w' hE hK hg; exact ok_move (kn (hK 6 rfl) rfl q6)
          case z7_2 => intro a' w' hE hK hg; exact okl_buildSliceV (r := (rInt .i64)) (fun _ => rfl) rfl (OkO.ext hB.ok hE) ty58 ty3 (parts_cons (ksv (j := 1) (hK 15 rfl) rfl rfl rfl) parts_nil) ⟨(by first | exact rInt_v.2 rfl | exact rBool_v.2 rfl | exact rStr_v.2 rfl | exact rC_v.2 rfl | exact ⟨_, rfl, rfl⟩), trivial⟩ rfl (by decide)
          case zok7 => kernel_rfl
          case zgd7 => kernel_rfl
          intro a8 w8 hA' hE HF
          replace q1 := kn (HF 1) rfl q1
          replace q5 := kn (HF 5) rfl q5
          replace q7 := kn (HF 7) rfl q7
          replace q8 := kn (HF 8) rfl q8
          have q14 := ksv (HF 14) rfl rfl rfl
          have f8 := ksp (HF 16) rfl rfl rfl
          obtain ⟨u7, q16'⟩ : ∃ u, a8.get 16 = u := ⟨_, rfl⟩
          rw [q16'] at f8
          have q16 := q16'; clear q16'
          clear q6
          clear q13
          clear hA HF; have hA := hA'; clear hA'
          replace h_1 := GR.v_ext _ h_1 hE
          replace f3 := f3.ext hE
          replace hB := Base.step hB hE hO; clear hE
          obtain ⟨x9, hx9, h⟩ := Comp.run_bind h
          refine l_append (r := (rInt .i64)) (fun _ => rfl) rfl ty58 ty3 rfl (by decide) hO hB (okB_fr hB) q14 f3 q16 (rd_of f8) hx9 (by decide) fun u10 w9 O11 f12 hB' hX => ?_
          clear hB; have hB := hB'; clear hB'
          clear f3
          replace h_1 := GR.kx _ h_1 hX (by decide)
          replace f8 := GR.kx _ f8 hX (by decide)
          clear hX
          refine put_cont hA (by decide) fun a10 hA' q_ hfr => ?_
          clear hA; have hA := hA'; clear hA'
          replace q1 := (hfr 1 rfl).trans q1
          replace q5 := (hfr 5 rfl).trans q5
          replace q7 := (hfr 7 rfl).trans q7
          replace q8 := (hfr 8 rfl).trans q8
          replace q14 := (hfr 14 rfl).trans q14
          replace q16 := (hfr 16 rfl).trans q16
          have q17 := q_; clear q_ hfr
          refine l_ok (φ := SP.isv (u10)) hO hB (by exact ok_assign q17) rfl fun u_ w11 hE hB' hv_ => ?_
          replace hv_ := Eq.symm hv_; subst hv_; clear hB; have hB := hB'; clear hB'
          replace h_1 := GR.v_ext _ h_1 hE
          replace f12 := f12.ext hE
          clear hE
          refine put_cont hA (by decide) fun a12 hA' q_ hfr => ?_
          clear hA; have hA := hA'; clear hA'
          replace q1 := (hfr 1 rfl).trans q1
          replace q7 := (hfr 7 rfl).trans q7
          replace q8 := (hfr 8 rfl).trans q8
          replace q17 := (hfr 17 rfl).trans q17
          clear q5
          have q5 := q_; clear q_ hfr
          refine (li_nil ?_)
          refine (nx_blk (nx_then ?_))
          exact ⟨_, _, _, hA, hB, q1, h_1, q5, f12, q7, q8, h⟩
        ·
          replace h := Comp.run_b_f hc h; clear hc
          refine wp_skip ?_
          refine (nx_blk (nx_then ?_))
          exact ⟨_, _, _, hA, hB, q1, h_1, q5, f3, q7, q8, h⟩
      intro a13 w13 hI
      clear hA hB h q1 q5 q7 q8 q9 f3 h_1
      obtain ⟨O16, x13, u14, hA, hB, q1, h_1, q5, f15, q7, q8, h⟩ := hI
      unfold core_only_j3 at h
      refine' region [_, _] mixed hA (.cons ?z8_0 (.cons ?z8_1 .nil)) ?zok8 ?zgd8 ?zk8
      case z8_0 => intro a' w' hE hK hg; exact ok_add (kn (hK 8 rfl) rfl q8) rfl
      case z8_1 => intro a' w' hE hK hg; exact ok_move (ksv (j := 0) (hK 18 rfl) rfl rfl rfl)
      case zok8 => kernel_rfl
      case zgd8 => kernel_rfl
      intro a14 w14 hA' hE HF
      replace q1 := kn (HF 1) rfl q1
      replace q5 := kn (HF 5) rfl q5
      replace q7 := kn (HF 7) rfl q7
      have q8' := ksv (HF 8) rfl rfl rfl
      replace q8 := q8'; clear q8'
      clear hA HF; have hA := hA'; clear hA'
      replace h_1 := GR.v_ext _ h_1 hE
      replace f15 := f15.ext hE
      replace hB := Base.step hB hE hO; clear hE
      refine (li_nil ?_)
      refine (nx_then ?_)
      have h := hnext2 _ (Comp.run_pure h).symm
      refine ⟨m2, hlt2, ?_⟩
      exact ⟨_, _, _, _, hA, hB, q1, h_1, q5, f15, q7, q8, h⟩
    ·
      replace h := Comp.run_b_f hc h; clear hc
      refine wp_exit ?_
      refine (ex_then (ex_then (ex_same ?_)))
      have hd_ := hdone2 _ (Comp.run_pure h).symm; clear h
      subst hd_; have h := hk2; clear hk2; try dsimp only at h
      refine (nx_then ?_)
      exact ⟨_, _, _, hA, hB, q5, f3, h⟩
  intro a15 w15 hI
  clear hA hB h q0 q1 q5 h_1
  obtain ⟨O22, x19, u20, hA, hB, q5, f21, h⟩ := hI
  unfold core_only_j1 at h
  refine wp_seq ?_
  refine' region [_, _] mixed hA (.cons ?z9_0 (.cons ?z9_1 .nil)) ?zok9 ?zgd9 ?zk9
  case z9_0 => intro a' w' hE hK hg; exact ok_move (kn (hK 5 rfl) rfl q5)
  case z9_1 => intro a' w' hE hK hg; exact ok_assign (ksv (j := 0) (hK 19 rfl) rfl rfl rfl)
  case zok9 => kernel_rfl
  case zgd9 => kernel_rfl
  intro a16 w16 hA' hE HF
  have q4 := ksv (HF 4) rfl rfl rfl
  clear q5
  clear hA HF; have hA := hA'; clear hA'
  replace f21 := f21.ext hE
  replace hB := Base.step hB hE hO; clear hE
  refine (li_nil ?_)
  refine (nx_then ?_)
  refine (wp_ret ?_)
  have h := Comp.run_pure h; subst h
  exact retPure Try.results91 hA q4 hB.ext (OwnL.res f21 (by decide) hB.zero)

theorem ok_core_Conflicts_f3 {O : Tags} {w0 : World} (hO : OkO O w0) {x_0 : Int} {v_1 : Value} {x_1 : List Bool} (h_1 : (rBox (rSl rBool)).v O w0 v_1 x_1) {v_2 : Value} {x_2 : Int → Comp Bool} (h_2 : (rBox (rF1 Try.prog (rInt .i64) (RS.c (fun x => .bool x)))).v O w0 v_2 x_2) {n : Nat} {y : Bool} (h : (core_Conflicts_f3 x_0 x_1 x_2).run n = some y) : Pure Try.prog 93 #[.int .i64 x_0, v_1, v_2] w0 (SP.isv (.bool y)).holds := by
  unfold core_Conflicts_f3 at h
  refine pure_of_wp Try.func93 rfl 15 Try.ntmps93 (by simp) fun a0 hA hs0 => ?_
  have q0 := hs0 0 _ rfl
  have q1 := hs0 1 _ rfl
  have q2 := hs0 2 _ rfl
  clear hs0
  have hB : Base (Fr w0) O w0 O w0 := Base.start hO
  refine wp_seq ?_
  refine' region [_] mixed hA (.cons ?z1_0 .nil) ?zok1 ?zgd1 ?zk1
  case z1_0 => intro a' w' hE hK hg; exact ok_assign rfl
  case zok1 => kernel_rfl
  case zgd1 => kernel_rfl
  intro a1 w1 hA' hE HF
  replace q0 := kn (HF 0) rfl q0
  replace q1 := kn (HF 1) rfl q1
  replace q2 := kn (HF 2) rfl q2
  clear hA HF; have hA := hA'; clear hA'
  replace h_1 := GR.v_ext _ h_1 hE
  replace h_2 := GR.v_ext _ h_2 hE
  replace hB := Base.step hB hE hO; clear hE
  refine (li_nil ?_)
  refine (nx_then ?_)
  refine wp_seq ?_
  obtain ⟨x1, hx1, h⟩ := Comp.run_bind h
  obtain ⟨x2, hx2, h⟩ := Comp.run_bind h
  refine' region [SP.vl (rSl rBool) O x_1, _, SP.ptr rBool O x1, SP.isv (.bool x1), _, _, SP.vl (rF1 Try.prog (rInt .i64) (RS.c (fun x => .bool x))) O x_2, _, SP.isv (.bool x2), _, _] mixed hA (.cons ?z2_0 (.cons ?z2_1 (.cons ?z2_2 (.cons ?z2_3 (.cons ?z2_4 (.cons ?z2_5 (.cons ?z2_6 (.cons ?z2_7 (.cons ?z2_8 (.cons ?z2_9 (.cons ?z2_10 .nil))))))))))) ?zok2 ?zgd2 ?zk2
  case z2_0 => intro a' w' hE hK hg; exact okl_ld (r := (rSl rBool)) (fun _ => rfl) ty71 rfl rfl (kn (hK 1 rfl) rfl q1) (ptr_of_box (fun _ => rfl) (GR.v_ext _ h_1 hE))
  case z2_1 => intro a' w' hE hK hg; exact ok_move (kn (hK 0 rfl) rfl q0)
  case z2_2 => intro a' w' hE hK hg; exact okl_idx (r := rBool) (O := O) ty71 ty4 rfl rfl (rd_of (kspS (φ := SP.vl (rSl rBool) O x_1) (j := 0) (hK 5 rfl) rfl rfl rfl)) (ksv (j := 1) (hK 6 rfl) rfl rfl rfl) hx1
  case z2_3 => intro a' w' hE hK hg; exact okl_ldr rBool (fun _ => rfl) ty4 rfl rfl rfl (kspS (φ := SP.ptr rBool O x1) (j := 2) (hK 7 rfl) rfl rfl rfl) (fun _ _ _ h => rBool_v.1 h)
  case z2_4 => intro a' w' hE hK hg; exact ok_not (ksv (j := 3) (hK 8 rfl) rfl rfl rfl)
  case z2_5 => intro a' w' hE hK hg; exact ok_move (ksv (j := 4) (hK 9 rfl) rfl rfl rfl)
  case z2_6 => intro a' w' hE hK hg; exact okl_ld (r := (rF1 Try.prog (rInt .i64) (RS.c (fun x => .bool x)))) (fun _ => rfl) ty77 rfl rfl (kn (hK 2 rfl) rfl q2) (ptr_of_box (fun _ => rfl) (GR.v_ext _ h_2 hE))
  case z2_7 => intro a' w' hE hK hg; exact ok_move (kn (hK 0 rfl) rfl q0)
  case z2_8 => intro a' w' hE hK hg; exact okl_callv1 (R := (RS.c (fun x => .bool x))) rfl (show ((rF1 Try.prog (rInt .i64) (RS.c (fun x => .bool x)))).v O _ _ _ from (kspS (φ := SP.vl (rF1 Try.prog (rInt .i64) (RS.c (fun x => .bool x))) O x_2) (j := 6) (hK 11 rfl) rfl rfl hg)) (OkO.ext hB.ok hE) (ksv (j := 7) (hK 12 rfl) rfl rfl hg) (by first | exact rInt_v.2 rfl | exact rBool_v.2 rfl | exact rStr_v.2 rfl | exact rC_v.2 rfl | exact ⟨_, rfl, rfl⟩) (run_gdb hx2 hg)
  case z2_9 => intro a' w' hE hK hg; exact ok_pick (ksv (j := 5) (hK 10 rfl) rfl rfl rfl) (fun hb => ksv (j := 8) (hK 13 rfl) rfl rfl (act_g1 rfl rfl hb)) (fun _ => rfl)
  case z2_10 => intro a' w' hE hK hg; exact ok_assign (ksv (j := 9) (hK 14 rfl) rfl rfl rfl)
  case zok2 => kernel_rfl
  case zgd2 => kernel_rfl
  intro a2 w2 hA' hE HF
  have q4 := ksv (HF 4) rfl rfl rfl
  clear q0
  clear q1
  clear q2
  clear hA HF; have hA := hA'; clear hA'
  replace h_1 := GR.v_ext _ h_1 hE
  replace h_2 := GR.v_ext _ h_2 hE
  replace hB := Base.step hB hE hO; clear hE
  refine (li_nil ?_)
  refine (nx_then ?_)
  refine (wp_ret ?_)
  have h := Comp.run_pure h; subst h
  exact retPure Try.results93 hA q4 hB.ext rfl

theorem ok_core_Conflicts {O : Tags} {w0 : World} (hO : OkO O w0) {v_0 : Value} {x_0 : List Bool} (h_0 : (rSl rBool).v O w0 v_0 x_0) {n : Nat} {y : ((List Int) × Int)} (h : (core_Conflicts x_0).run n = some y) : Pure Try.prog 49 #[v_0] w0 (SP.tup2 (SP.ownr (rInt .i64) 3 (w0.heap.size) O y.1) (SP.isv (.int .i64 y.2))).holds := by
  unfold core_Conflicts at h
  refine pure_of_wp Try.func49 rfl 38 Try.ntmps49 (by simp) fun a0 hA hs0 => ?_
  have q0 := hs0 0 _ rfl
  clear hs0
  have hB : Base (Fr w0) O w0 O w0 := Base.start hO
  refine wp_seq ?_
  refine' region [SP.vl (rBox (rSl rBool)) O x_0, _, _] mixed hA (.cons ?z1_0 (.cons ?z1_1 (.cons ?z1_2 .nil))) ?zok1 ?zgd1 ?zk1
  case z1_0 => intro a' w' hE hK hg; exact okl_boxV (r := (rSl rBool)) (fun _ => rfl) (OkO.ext hB.ok hE) (kn (hK 0 rfl) rfl q0) (GR.v_ext _ h_0 hE)
  case z1_1 => intro a' w' hE hK hg; exact ok_assign rfl
  case z1_2 => intro a' w' hE hK hg; exact ok_assign rfl
  case zok1 => kernel_rfl
  case zgd1 => kernel_rfl
  intro a1 w1 hA' hE HF
  have f2 := ksp (HF 1) rfl rfl rfl
  obtain ⟨u1, q1'⟩ : ∃ u, a1.get 1 = u := ⟨_, rfl⟩
  rw [q1'] at f2
  have q1 := q1'; clear q1'
  clear q0
  clear hA HF; have hA := hA'; clear hA'
  replace h_0 := GR.v_ext _ h_0 hE
  replace hB := Base.step hB hE hO; clear hE
  refine (li_nil ?_)
  refine (nx_then ?_)
  refine wp_seq ?_
  refine wp_seq ?_
  refine' region [SP.vl (rSl rBool) O x_0, _, _] mixed hA (.cons ?z2_0 (.cons ?z2_1 (.cons ?z2_2 .nil))) ?zok2 ?zgd2 ?zk2
  case z2_0 => intro a' w' hE hK hg; exact okl_ld (r := (rSl rBool)) (fun _ => rfl) ty71 rfl rfl (kn (hK 1 rfl) rfl q1) (ptr_of_box (fun _ => rfl) (GR.v_ext _ f2 hE))
  case z2_1 => intro a' w' hE hK hg; exact okl_len (r := rBool) ty71 rfl (rd_of (kspS (φ := SP.vl (rSl rBool) O x_0) (j := 0) (hK 7 rfl) rfl rfl rfl))
  case z2_2 => intro a' w' hE hK hg; exact ok_assign (ksv (j := 1) (hK 8 rfl) rfl rfl rfl)
  case zok2 => kernel_rfl
  case zgd2 => kernel_rfl
  intro a2 w2 hA' hE HF
  replace q1 := kn (HF 1) rfl q1
  have q4 := ksv (HF 4) rfl rfl rfl
  clear hA HF; have hA := hA'; clear hA'
  replace f2 := GR.v_ext _ f2 hE
  replace hB := Base.step hB hE hO; clear hE
  refine (li_nil ?_)
  refine (nx_then ?_)
  refine wp_block ?_
  refine wp_seq ?_
  refine' region [_, _, _] mixed hA (.cons ?z3_0 (.cons ?z3_1 (.cons ?z3_2 .nil))) ?zok3 ?zgd3 ?zk3
  case z3_0 => intro a' w' hE hK hg; exact ok_move (kn (hK 4 rfl) rfl q4)
  case z3_1 => intro a' w' hE hK hg; exact ok_gtr (ksv (j := 0) (hK 10 rfl) rfl rfl rfl) rfl
  case z3_2 => intro a' w' hE hK hg; exact ok_assign (ksv (j := 1) (hK 11 rfl) rfl rfl rfl)
  case zok3 => kernel_rfl
  case zgd3 => kernel_rfl
  intro a3 w3 hA' hE HF
  replace q1 := kn (HF 1) rfl q1
  replace q4 := kn (HF 4) rfl q4
  have q9 := ksv (HF 9) rfl rfl rfl
  clear hA HF; have hA := hA'; clear hA'
  replace f2 := GR.v_ext _ f2 hE
  replace hB := Base.step hB hE hO; clear hE
  refine (li_nil ?_)
  refine (nx_then ?_)
  refine wp_cond_b q9 (fun hc => ?_) (fun hc => ?_)
  ·
    replace h := Comp.run_b_t hc h; clear hc
    refine wp_seq ?_
    refine' region [_, _] mixed hA (.cons ?z4_0 (.cons ?z4_1 .nil)) ?zok4 ?zgd4 ?zk4
    case z4_0 => intro a' w' hE hK hg; exact ok_assign rfl
    case z4_1 => intro a' w' hE hK hg; exact ok_assign rfl
    case zok4 => kernel_rfl
    case zgd4 => kernel_rfl
    intro a4 w4 hA' hE HF
    have q2 := ksv (HF 2) rfl rfl rfl
    have q3 := ksv (HF 3) rfl rfl rfl
    clear q1
    clear q4
    clear q9
    clear hA HF; have hA := hA'; clear hA'
    replace f2 := GR.v_ext _ f2 hE
    replace hB := Base.step hB hE hO; clear hE
    refine (li_nil ?_)
    refine (nx_then ?_)
    refine (wp_ret (rt_blk (rt_then ?_)))
    have h := Comp.run_pure h; subst h
    exact retPure2 Try.results49 hA q2 q3 hB.ext ⟨_, _, rfl, (OwnR.nil _ _ _ _ _), rfl⟩
  ·
    replace h := Comp.run_b_f hc h; clear hc
    refine wp_seq ?_
    refine' region [_, _, _, _, _, _, _, _, _, _] mixed hA (.cons ?z5_0 (.cons ?z5_1 (.cons ?z5_2 (.cons ?z5_3 (.cons ?z5_4 (.cons ?z5_5 (.cons ?z5_6 (.cons ?z5_7 (.cons ?z5_8 (.cons ?z5_9 .nil)))))))))) ?zok5 ?zgd5 ?zk5
    case z5_0 => intro a' w' hE hK hg; exact ok_move (kn (hK 4 rfl) rfl q4)
    case z5_1 => intro a' w' hE hK hg; exact ok_eqlI (ksv (j := 0) (hK 13 rfl) rfl rfl rfl) rfl
    case z5_2 => intro a' w' hE hK hg; exact ok_move (ksv (j := 1) (hK 14 rfl) rfl rfl rfl)
    case z5_3 => intro a' w' hE hK hg; exact ok_move (kn (hK 4 rfl) rfl q4)
    case z5_4 => intro a' w' hE hK hg; exact ok_move (kn (hK 4 rfl) rfl q4)
    case z5_5 => intro a' w' hE hK hg; exact ok_sub (ksv (j := 4) (hK 17 rfl) rfl rfl hg) rfl
    case z5_6 => intro a' w' hE hK hg; exact okb_and (ksv (j := 3) (hK 16 rfl) rfl rfl hg) (ksv (j := 5) (hK 18 rfl) rfl rfl hg)
    case z5_7 => intro a' w' hE hK hg; exact ok_neqI (ksv (j := 6) (hK 19 rfl) rfl rfl hg) rfl
    case z5_8 => intro a' w' hE hK hg; exact ok_pick (ksv (j := 2) (hK 15 rfl) rfl rfl rfl) (fun _ => rfl) (fun hb => ksv (j := 7) (hK 20 rfl) rfl rfl (act_g1 rfl rfl hb))
    case z5_9 => intro a' w' hE hK hg; exact ok_assign (ksv (j := 8) (hK 21 rfl) rfl rfl rfl)
    case zok5 => kernel_rfl
    case zgd5 => kernel_rfl
    intro a5 w5 hA' hE HF
    replace q1 := kn (HF 1) rfl q1
    have q12 := ksv (HF 12) rfl rfl rfl
    clear q4
    clear q9
    clear hA HF; have hA := hA'; clear hA'
    replace f2 := GR.v_ext _ f2 hE
    replace hB := Base.step hB hE hO; clear hE
    obtain ⟨x3, hx_, h⟩ := Comp.run_bind h; replace hx_ := Comp.run_pure hx_; rw [hx_] at q12; clear hx_
    refine (li_nil ?_)
    refine (nx_then ?_)
    refine wp_cond_b q12 (fun hc => ?_) (fun hc => ?_)
    ·
      replace h := Comp.run_b_t hc h; clear hc
      refine wp_seq ?_
      refine' region [_, _] mixed hA (.cons ?z6_0 (.cons ?z6_1 .nil)) ?zok6 ?zgd6 ?zk6
      case z6_0 => intro a' w' hE hK hg; exact ok_assign rfl
      case z6_1 => intro a' w' hE hK hg; exact ok_assign rfl
      case zok6 => kernel_rfl
      case zgd6 => kernel_rfl
      intro a6 w6 hA' hE HF
      have q2 := ksv (HF 2) rfl rfl rfl
      have q3 := ksv (HF 3) rfl rfl rfl
      clear q1
      clear q12
      clear hA HF; have hA := hA'; clear hA'
      replace f2 := GR.v_ext _ f2 hE
      replace hB := Base.step hB hE hO; clear hE
      refine (li_nil ?_)
      refine (nx_then ?_)
      refine (wp_ret (rt_blk (rt_then ?_)))
      have h := Comp.run_pure h; subst h
      exact retPure2 Try.results49 hA q2 q3 hB.ext ⟨_, _, rfl, (OwnR.nil _ _ _ _ _), rfl⟩
    ·
      replace h := Comp.run_b_f hc h; clear hc
      refine wp_skip ?_
      refine (nx_blk (nx_then ?_))
      refine wp_seq ?_
      obtain ⟨x4, hx4, h⟩ := Comp.run_bind h
      refine' regionT [SP.vl (rSl rBool) O x_0, _, _, SP.isv (.int .i64 x4), _] hA (.cons ?z7_0 (.cons ?z7_1 (.cons ?z7_2 (.cons ?z7_3 (.cons ?z7_4 .nil))))) ?zok7 ?zgd7 ?zk7
      case z7_0 => intro a' w' hE hK hg; exact okl_ld (r := (rSl rBool)) (fun _ => rfl) ty71 rfl rfl (kn (hK 1 rfl) rfl q1) (ptr_of_box (fun _ => rfl) (GR.v_ext _ f2 hE))
      case z7_1 => intro a' w' hE hK hg; exact okl_len (r := rBool) ty71 rfl (rd_of (kspS (φ := SP.vl (rSl rBool) O x_0) (j := 0) (hK 22 rfl) rfl rfl rfl))
      case z7_2 => intro a' w' hE hK hg; exact ok_convI ty3 ty117 (ksv (j := 1) (hK 23 rfl) rfl rfl rfl)
      case z7_3 => intro a' w' hE hK hg; have c_ := ok_math_bits_Len (OkO.ext hB.ok hE)  hx4; exact ok_call1 fn89 (ksv (j := 2) (hK 24 rfl) rfl rfl rfl) c_
      case z7_4 => intro a' w' hE hK hg; exact ok_sub (ksv (j := 3) (hK 25 rfl) rfl rfl rfl) rfl
      case zok7 => kernel_rfl
      case zgd7 => kernel_rfl
      intro a7 w7 hA' hE HF
      replace q1 := kn (HF 1) rfl q1
      have q26 := ksv (HF 26) rfl rfl rfl
      clear q12
      clear hA HF; have hA := hA'; clear hA'
      replace f2 := GR.v_ext _ f2 hE
      replace hB := Base.step hB hE hO; clear hE
      refine l_ok (φ := SP.box w7.heap.size #[.int .i64 0] 3) hO hB (by exact ok_alloc (Nat.le_refl _) ty3) rfl fun u5 w8 hE hB' f6 => ?_
      clear hB'; obtain ⟨O7, b9, hB', hX, e_, f8⟩ := boxNew hO hB hE f6 1 (by decide)
      subst e_; clear hB f6; have hB := hB'; clear hB'
      replace f2 := GR.kx _ f2 hX (by decide)
      clear hX hE
      refine put_cont hA (by decide) fun a9 hA' q_ hfr => ?_
      clear hA; have hA := hA'; clear hA'
      replace q1 := (hfr 1 rfl).trans q1
      replace q26 := (hfr 26 rfl).trans q26
      have q5 := q_; clear q_ hfr
      refine l_store1 (cs' := #[.int .i64 (IntKind.wrap .i64 (x4 - 1))]) hO hB (okB_fr hB) ty3 q5 q26 rfl rfl f8 (by simp) rfl fun w10 f10 hB' hX => ?_
      clear hB f8; have hB := hB'; clear hB'
      replace f2 := GR.kx _ f2 hX (by decide)
      clear hX
      refine (li_nil ?_)
      refine (nx_then ?_)
      refine wp_seq ?_
      obtain ⟨O11, hB', hX, f12⟩ := freezeB (r := (rInt .i64)) (x := (IntKind.wrap .i64 (x4 - 1))) hO hB f10 (by decide) rfl
      clear f10 hB; have hB := hB'; clear hB'
      replace f2 := GR.kx _ f2 hX (by decide)
      clear hX
      refine' regionT [SP.isv (.func (.func 90) #[] #[.pointer (some ⟨b9, 0, none⟩), u1]), SP.box w10.heap.size #[.nilFunc] 77] hA (.cons ?z8_0 (.cons ?z8_1 .nil)) ?zok8 ?zgd8 ?zk8
      case z8_0 => intro a' w' hE hK hg; exact ok_makeFunc map0 (map2 (kn (hK 5 rfl) rfl q5) (kn (hK 1 rfl) rfl q1))
      case z8_1 => intro a' w' hE hK hg; exact ok_alloc hE.size ty77
      case zok8 => kernel_rfl
      case zgd8 => kernel_rfl
      intro a11 w11 hA' hE HF
      replace q1 := kn (HF 1) rfl q1
      have f14 := ksp (HF 6) rfl rfl rfl
      obtain ⟨u13, q6'⟩ : ∃ u, a11.get 6 = u := ⟨_, rfl⟩
      rw [q6'] at f14
      have q6 := q6'; clear q6'
      have q27 := ksv (HF 27) rfl rfl rfl
      clear q5
      clear hA HF; have hA := hA'; clear hA'
      obtain ⟨O15, b16, hB', hX, e_, f17⟩ := boxNew hO hB hE f14 2 (by decide)
      subst e_
      clear hB f14; have hB := hB'; clear hB'
      replace f2 := GR.kx _ f2 hX (by decide)
      replace f12 := GR.kx _ f12 hX (by decide)
      clear hX hE
      have f18 : (rF1 Try.prog (rInt .i64) (RS.c (fun x => .bool x))).v O15 w11 (.func (.func 90) #[] #[.pointer (some ⟨b9, 0, none⟩), u1]) (fun z0 => core_Conflicts_f1 z0 (IntKind.wrap .i64 (x4 - 1)) x_0) := rF1_v.2 ⟨rfl, fun O' w' hO' hk v_0 x_0 hv_0 n_ y_ hy_ => by obtain rfl := rInt_v.1 hv_0; exact callV_func fn90 (ok_core_Conflicts_f1 hO'  (GR.v_mono _ f12 hk) (GR.v_mono _ f2 hk) hy_)⟩
      refine l_store1 (cs' := #[.func (.func 90) #[] #[.pointer (some ⟨b9, 0, none⟩), u1]]) hO hB (okB_fr hB) ty77 q6 q27 (sl_cells f18 rfl rfl) (sl_one f18 rfl rfl) f17 (by simp) rfl fun w12 f19 hB' hX => ?_
      clear hB f17; have hB := hB'; clear hB'
      replace f2 := GR.kx _ f2 hX (by decide)
      replace f18 := GR.kx _ f18 hX (by decide)
      clear hX
      refine (li_nil ?_)
      refine (nx_then ?_)
      refine wp_seq ?_
      refine wp_seq ?_
      obtain ⟨O20, hB', hX, f21⟩ := freezeB (r := (rF1 Try.prog (rInt .i64) (RS.c (fun x => .bool x)))) (x := (fun z0 => core_Conflicts_f1 z0 (IntKind.wrap .i64 (x4 - 1)) x_0)) hO hB f19 (by decide) (rel_ofF (r := (rF1 Try.prog (rInt .i64) (RS.c (fun x => .bool x)))) f18 rfl rfl)
      clear f19 hB; have hB := hB'; clear hB'
      replace f2 := GR.kx _ f2 hX (by decide)
      replace f18 := GR.kx _ f18 hX (by decide)
      clear hX
      obtain ⟨x22, hx22, h⟩ := Comp.run_bind h
      refine' region [SP.vl (rSl rBool) O20 x_0, _, SP.isv (.func (.func 92) #[] #[u1, .pointer (some ⟨b16, 0, none⟩)]), SP.vl (rSl (rInt .i64)) O20 x22, _, _] mixed hA (.cons ?z9_0 (.cons ?z9_1 (.cons ?z9_2 (.cons ?z9_3 (.cons ?z9_4 (.cons ?z9_5 .nil)))))) ?zok9 ?zgd9 ?zk9
      case z9_0 => intro a' w' hE hK hg; exact okl_ld (r := (rSl rBool)) (fun _ => rfl) ty71 rfl rfl (kn (hK 1 rfl) rfl q1) (ptr_of_box (fun _ => rfl) (GR.v_ext _ f2 hE))
      case z9_1 => intro a' w' hE hK hg; exact okl_len (r := rBool) ty71 rfl (rd_of (kspS (φ := SP.vl (rSl rBool) O20 x_0) (j := 0) (hK 28 rfl) rfl rfl rfl))
      case z9_2 => intro a' w' hE hK hg; exact ok_makeFunc map0 (map2 (kn (hK 1 rfl) rfl q1) (kn (hK 6 rfl) rfl q6))
      case z9_3 => intro a' w' hE hK hg; have c_ := ok_core_only (OkO.ext hB.ok hE) (show (rF1 Try.prog (rInt .i64) (RS.c (fun x => .bool x))).v O20 _ (.func (.func 92) #[] #[u1, .pointer (some ⟨b16, 0, none⟩)]) (fun z0 => core_Conflicts_f2 z0 x_0 (fun z0 => core_Conflicts_f1 z0 (IntKind.wrap .i64 (x4 - 1)) x_0)) from rF1_v.2 ⟨rfl, fun O' w' hO' hk v_0 x_0 hv_0 n_ y_ hy_ => by obtain rfl := rInt_v.1 hv_0; exact callV_func fn92 (ok_core_Conflicts_f2 hO'  (GR.v_mono _ (GR.v_ext _ f2 hE) hk) (GR.v_mono _ (GR.v_ext _ f21 hE) hk) hy_)⟩) hx22; exact ok_weak (ok_call2 fn91 (ksv (j := 1) (hK 29 rfl) rfl rfl rfl) (ksv (j := 2) (hK 30 rfl) rfl rfl rfl) c_) (fun _ _ _ h => (OwnR.val h (fun g hg => (OkO.ext hB.ok hE) g (OwnR.ge h g hg).1)))
      case z9_4 => intro a' w' hE hK hg; exact okl_len (r := (rInt .i64)) ty58 rfl (rd_of (kspS (φ := SP.vl (rSl (rInt .i64)) O20 x22) (j := 3) (hK 31 rfl) rfl rfl rfl))
      case z9_5 => intro a' w' hE hK hg; exact ok_gtr (ksv (j := 4) (hK 32 rfl) rfl rfl rfl) rfl
      case zok9 => kernel_rfl
      case zgd9 => kernel_rfl
      intro a13 w13 hA' hE HF
      replace q1 := kn (HF 1) rfl q1
      replace q6 := kn (HF 6) rfl q6
      have q33 := ksv (HF 33) rfl rfl rfl
      clear hA HF; have hA := hA'; clear hA'
      replace f2 := GR.v_ext _ f2 hE
      replace f21 := GR.v_ext _ f21 hE
      replace hB := Base.step hB hE hO; clear hE
      refine (li_nil ?_)
      refine (nx_then ?_)
      refine wp_cond_b q33 (fun hc => ?_) (fun hc => ?_)
      ·
        replace h := Comp.run_b_t hc h; clear hc
        refine wp_seq ?_
        refine' region [_, _] mixed hA (.cons ?z10_0 (.cons ?z10_1 .nil)) ?zok10 ?zgd10 ?zk10
        case z10_0 => intro a' w' hE hK hg; exact ok_assign rfl
        case z10_1 => intro a' w' hE hK hg; exact ok_assign rfl
        case zok10 => kernel_rfl
        case zgd10 => kernel_rfl
        intro a14 w14 hA' hE HF
        have q2 := ksv (HF 2) rfl rfl rfl
        have q3 := ksv (HF 3) rfl rfl rfl
        clear q1
        clear q6
        clear q33
        clear hA HF; have hA := hA'; clear hA'
        replace f2 := GR.v_ext _ f2 hE
        replace f21 := GR.v_ext _ f21 hE
        replace hB := Base.step hB hE hO; clear hE
        refine (li_nil ?_)
        refine (nx_then ?_)
        refine (wp_ret (rt_then ?_))
        have h := Comp.run_pure h; subst h
        exact retPure2 Try.results49 hA q2 q3 hB.ext ⟨_, _, rfl, (OwnR.nil _ _ _ _ _), rfl⟩
      ·
        replace h := Comp.run_b_f hc h; clear hc
        refine wp_skip ?_
        refine (nx_then ?_)
        refine wp_seq ?_
        refine' regionT [SP.vl (rSl rBool) O20 x_0, _, SP.isv (.func (.func 93) #[] #[u1, .pointer (some ⟨b16, 0, none⟩)])] hA (.cons ?z11_0 (.cons ?z11_1 (.cons ?z11_2 .nil))) ?zok11 ?zgd11 ?zk11
        case z11_0 => intro a' w' hE hK hg; exact okl_ld (r := (rSl rBool)) (fun _ => rfl) ty71 rfl rfl (kn (hK 1 rfl) rfl q1) (ptr_of_box (fun _ => rfl) (GR.v_ext _ f2 hE))
        case z11_1 => intro a' w' hE hK hg; exact okl_len (r := rBool) ty71 rfl (rd_of (kspS (φ := SP.vl (rSl rBool) O20 x_0) (j := 0) (hK 34 rfl) rfl rfl rfl))
        case z11_2 => intro a' w' hE hK hg; exact ok_makeFunc map0 (map2 (kn (hK 1 rfl) rfl q1) (kn (hK 6 rfl) rfl q6))
        case zok11 => kernel_rfl
        case zgd11 => kernel_rfl
        intro a15 w15 hA' hE HF
        have q35 := ksv (HF 35) rfl rfl rfl
        have q36 := ksv (HF 36) rfl rfl rfl
        clear q1
        clear q6
        clear q33
        clear hA HF; have hA := hA'; clear hA'
        replace f2 := GR.v_ext _ f2 hE
        replace f21 := GR.v_ext _ f21 hE
        replace hB := Base.step hB hE hO; clear hE
        have f23 : (rF1 Try.prog (rInt .i64) (RS.c (fun x => .bool x))).v O20 w15 (.func (.func 93) #[] #[u1, .pointer (some ⟨b16, 0, none⟩)]) (fun z0 => core_Conflicts_f3 z0 x_0 (fun z0 => core_Conflicts_f1 z0 (IntKind.wrap .i64 (x4 - 1)) x_0)) := rF1_v.2 ⟨rfl, fun O' w' hO' hk v_0 x_0 hv_0 n_ y_ hy_ => by obtain rfl := rInt_v.1 hv_0; exact callV_func fn93 (ok_core_Conflicts_f3 hO'  (GR.v_mono _ f2 hk) (GR.v_mono _ f21 hk) hy_)⟩
        obtain ⟨x24, hx24, h⟩ := Comp.run_bind h
        refine l_ok (φ := SP.ownr (rInt .i64) 3 w15.heap.size O20 x24) hO hB (by have c_ := ok_core_only hB.ok f23 hx24; exact ok_weak (ok_call2 fn91 q35 q36 c_) (fun _ _ _ h => h)) rfl fun u25 w16 hE hB' f26 => ?_
        clear hB'; obtain ⟨O27, hB', hX, f28⟩ := ownNew hO hB hE f26 rfl 3 (by decide)
        clear hB f26; have hB := hB'; clear hB'
        replace f23 := GR.kx _ f23 hX (by decide)
        clear hX hE
        refine put_cont hA (by decide) fun a17 hA' q_ hfr => ?_
        clear hA; have hA := hA'; clear hA'
        replace q35 := (hfr 35 rfl).trans q35
        replace q36 := (hfr 36 rfl).trans q36
        have q37 := q_; clear q_ hfr
        refine l_ok (φ := SP.isv (u25)) hO hB (by exact ok_assign q37) rfl fun u_ w18 hE hB' hv_ => ?_
        replace hv_ := Eq.symm hv_; subst hv_; clear hB; have hB := hB'; clear hB'
        replace f28 := f28.ext hE
        clear hE
        refine put_cont hA (by decide) fun a19 hA' q_ hfr => ?_
        clear hA; have hA := hA'; clear hA'
        replace q37 := (hfr 37 rfl).trans q37
        have q2 := q_; clear q_ hfr
        refine l_ok (φ := SP.isv (.int .i64 0)) hO hB (by exact ok_assign rfl) rfl fun u_ w20 hE hB' hv_ => ?_
        replace hv_ := Eq.symm hv_; subst hv_; clear hB; have hB := hB'; clear hB'
        replace f28 := f28.ext hE
        clear hE
        refine put_cont hA (by decide) fun a21 hA' q_ hfr => ?_
        clear hA; have hA := hA'; clear hA'
        replace q2 := (hfr 2 rfl).trans q2
        have q3 := q_; clear q_ hfr
        refine (li_nil ?_)
        refine (nx_then ?_)
        refine (wp_ret ?_)
        have h := Comp.run_pure h; subst h
        exact retPure2 Try.results49 hA q2 q3 hB.ext ⟨_, _, rfl, (OwnL.res f28 (by decide) hB.zero), rfl⟩

theorem ok_slices_MinFunc_int_int {O : Tags} {w0 : World} (hO : OkO O w0) {v_0 : Value} {x_0 : List Int} (h_0 : (rSl (rInt .i64)).v O w0 v_0 x_0) {v_1 : Value} {x_1 : Int → Int → Comp Int} (h_1 : (rF2 Try.prog (rInt .i64) (rInt .i64) (RS.c (fun x => .int .i64 x))).v O w0 v_1 x_1) {n : Nat} {y : Int} (h : (slices_MinFunc_int_int x_0 x_1).run n = some y) : Pure Try.prog 82 #[v_0, v_1] w0 (SP.isv (.int .i64 y)).holds := by
  unfold slices_MinFunc_int_int at h
  refine pure_of_wp Try.func82 rfl 33 Try.ntmps82 (by simp) fun a0 hA hs0 => ?_
  have q0 := hs0 0 _ rfl
  have q1 := hs0 1 _ rfl
  clear hs0
  have hB : Base (Fr w0) O w0 O w0 := Base.start hO
  refine wp_seq ?_
  refine' region [_] mixed hA (.cons ?z1_0 .nil) ?zok1 ?zgd1 ?zk1
  case z1_0 => intro a' w' hE hK hg; exact ok_assign rfl
  case zok1 => kernel_rfl
  case zgd1 => kernel_rfl
  intro a1 w1 hA' hE HF
  replace q0 := kn (HF 0) rfl q0
  replace q1 := kn (HF 1) rfl q1
  clear hA HF; have hA := hA'; clear hA'
  replace h_0 := GR.v_ext _ h_0 hE
  replace h_1 := GR.v_ext _ h_1 hE
  replace hB := Base.step hB hE hO; clear hE
  refine (li_nil ?_)
  refine (nx_then ?_)
  refine seq_join (fun a w => ∃ (O1 : Tags), a.fit 33 ∧ Base (Fr w0) O w0 O1 w ∧ a.get 0 = v_0 ∧ (rSl (rInt .i64)).v O1 w v_0 x_0 ∧ a.get 1 = v_1 ∧ (rF2 Try.prog (rInt .i64) (rInt .i64) (RS.c (fun x => .int .i64 x))).v O1 w v_1 x_1 ∧ (slices_MinFunc_int_int_j1 x_0 x_1 ).run n = some y) ?_ ?_
  ·
    refine wp_seq ?_
    refine' region [_, _, _] mixed hA (.cons ?z2_0 (.cons ?z2_1 (.cons ?z2_2 .nil))) ?zok2 ?zgd2 ?zk2
    case z2_0 => intro a' w' hE hK hg; exact ok_move (kn (hK 0 rfl) rfl q0)
    case z2_1 => intro a' w' hE hK hg; exact okl_len (r := (rInt .i64)) ty58 (ksv (j := 0) (hK 7 rfl) rfl rfl rfl) (rd_of (GR.v_ext _ h_0 hE))
    case z2_2 => intro a' w' hE hK hg; exact ok_lss (ksv (j := 1) (hK 8 rfl) rfl rfl rfl) rfl
    case zok2 => kernel_rfl
    case zgd2 => kernel_rfl
    intro a2 w2 hA' hE HF
    replace q0 := kn (HF 0) rfl q0
    replace q1 := kn (HF 1) rfl q1
    have q9 := ksv (HF 9) rfl rfl rfl
    clear hA HF; have hA := hA'; clear hA'
    replace h_0 := GR.v_ext _ h_0 hE
    replace h_1 := GR.v_ext _ h_1 hE
    replace hB := Base.step hB hE hO; clear hE
    refine (li_nil ?_)
    refine (nx_then ?_)
    refine wp_cond_b q9 (fun hc => ?_) (fun hc => ?_)
    ·
      replace h := Comp.run_b_t hc h; clear hc
      cases h
    ·
      replace h := Comp.run_b_f hc h; clear hc
      refine wp_skip ?_
      refine (nx_then ?_)
      exact ⟨_, hA, hB, q0, h_0, q1, h_1, h⟩
  intro a3 w3 hI
  clear hA hB h q0 q1 h_0 h_1
  obtain ⟨O1, hA, hB, q0, h_0, q1, h_1, h⟩ := hI
  unfold slices_MinFunc_int_int_j1 at h
  refine wp_seq ?_
  obtain ⟨x2, hx2, h⟩ := Comp.run_bind h
  refine' region [_, SP.ptr (rInt .i64) O1 x2, SP.isv (.int .i64 x2), _] mixed hA (.cons ?z3_0 (.cons ?z3_1 (.cons ?z3_2 (.cons ?z3_3 .nil)))) ?zok3 ?zgd3 ?zk3
  case z3_0 => intro a' w' hE hK hg; exact ok_move (kn (hK 0 rfl) rfl q0)
  case z3_1 => intro a' w' hE hK hg; exact okl_idx (r := (rInt .i64)) (O := O1) ty58 ty3 rfl (ksv (j := 0) (hK 11 rfl) rfl rfl rfl) (rd_of (GR.v_ext _ h_0 hE)) rfl hx2
  case z3_2 => intro a' w' hE hK hg; exact okl_ldr (rInt .i64) (fun _ => rfl) ty3 rfl rfl rfl (kspS (φ := SP.ptr (rInt .i64) O1 x2) (j := 1) (hK 12 rfl) rfl rfl rfl) (fun _ _ _ h => rInt_v.1 h)
  case z3_3 => intro a' w' hE hK hg; exact ok_assign (ksv (j := 2) (hK 13 rfl) rfl rfl rfl)
  case zok3 => kernel_rfl
  case zgd3 => kernel_rfl
  intro a4 w4 hA' hE HF
  replace q0 := kn (HF 0) rfl q0
  replace q1 := kn (HF 1) rfl q1
  have q5 := ksv (HF 5) rfl rfl rfl
  clear hA HF; have hA := hA'; clear hA'
  replace h_0 := GR.v_ext _ h_0 hE
  replace h_1 := GR.v_ext _ h_1 hE
  replace hB := Base.step hB hE hO; clear hE
  refine (li_nil ?_)
  refine (nx_then ?_)
  refine seq_join (fun a w => ∃ (O14 : Tags) (x13 : Int), a.fit 33 ∧ Base (Fr w0) O w0 O14 w ∧ a.get 5 = .int .i64 x13 ∧ (slices_MinFunc_int_int_j2 x13).run n = some y) ?_ ?_
  ·
    refine wp_seq ?_
    refine' region [_] mixed hA (.cons ?z4_0 .nil) ?zok4 ?zgd4 ?zk4
    case z4_0 => intro a' w' hE hK hg; exact ok_assign rfl
    case zok4 => kernel_rfl
    case zgd4 => kernel_rfl
    intro a5 w5 hA' hE HF
    replace q0 := kn (HF 0) rfl q0
    replace q1 := kn (HF 1) rfl q1
    replace q5 := kn (HF 5) rfl q5
    have q6 := ksv (HF 6) rfl rfl rfl
    clear hA HF; have hA := hA'; clear hA'
    replace h_0 := GR.v_ext _ h_0 hE
    replace h_1 := GR.v_ext _ h_1 hE
    replace hB := Base.step hB hE hO; clear hE
    refine (li_nil ?_)
    refine (nx_then ?_)
    refine wp_block ?_
    obtain ⟨e3, he3, hk3⟩ := Comp.run_bind h; clear h
    refine loop_m (fun m a w => ∃ (O5 : Tags) (x3 : Int) (x4 : Int), a.fit 33 ∧ Base (Fr w0) O w0 O5 w ∧ a.get 0 = v_0 ∧ (rSl (rInt .i64)).v O5 w v_0 x_0 ∧ a.get 1 = v_1 ∧ (rF2 Try.prog (rInt .i64) (rInt .i64) (RS.c (fun x => .int .i64 x))).v O5 w v_1 x_1 ∧ a.get 5 = .int .i64 x3 ∧ a.get 6 = .int .i64 x4 ∧ Comp.loopN (fun s => slices_MinFunc_int_int_l3 x_0 x_1 s.1 s.2) n m (x3, x4) = some e3) (m := n) ?st3 ?_
    case st3 =>
      exact ⟨_, _, _, hA, hB, q0, h_0, q1, h_1, q5, q6, Comp.run_loop he3⟩
    intro m_ a6 w6 hI
    clear hA hB he3 q0 q1 q5 q6 h_0 h_1
    obtain ⟨O5, x3, x4, hA, hB, q0, h_0, q1, h_1, q5, q6, hl⟩ := hI
    obtain ⟨m3, hlt3, st3, h, hnext3, hdone3⟩ := Comp.loopN_succ hl; clear hl
    replace h : (slices_MinFunc_int_int_l3 x_0 x_1 x3 x4).run n = some st3 := h
    unfold slices_MinFunc_int_int_l3 at h
    refine wp_seq ?_
    refine wp_seq ?_
    refine' region [_, _, _, _] mixed hA (.cons ?z5_0 (.cons ?z5_1 (.cons ?z5_2 (.cons ?z5_3 .nil)))) ?zok5 ?zgd5 ?zk5
    case z5_0 => intro a' w' hE hK hg; exact ok_move (kn (hK 6 rfl) rfl q6)
    case z5_1 => intro a' w' hE hK hg; exact ok_move (kn (hK 0 rfl) rfl q0)
    case z5_2 => intro a' w' hE hK hg; exact okl_len (r := (rInt .i64)) ty58 (ksv (j := 1) (hK 15 rfl) rfl rfl rfl) (rd_of (GR.v_ext _ h_0 hE))
    case z5_3 => intro a' w' hE hK hg; exact ok_lss (ksv (j := 0) (hK 14 rfl) rfl rfl rfl) (ksv (j := 2) (hK 16 rfl) rfl rfl rfl)
    case zok5 => kernel_rfl
    case zgd5 => kernel_rfl
    intro a7 w7 hA' hE HF
    replace q0 := kn (HF 0) rfl q0
    replace q1 := kn (HF 1) rfl q1
    replace q5 := kn (HF 5) rfl q5
    replace q6 := kn (HF 6) rfl q6
    have q17 := ksv (HF 17) rfl rfl rfl
    clear hA HF; have hA := hA'; clear hA'
    replace h_0 := GR.v_ext _ h_0 hE
    replace h_1 := GR.v_ext _ h_1 hE
    replace hB := Base.step hB hE hO; clear hE
    refine (li_nil ?_)
    refine (nx_then ?_)
    refine wp_cond_b q17 (fun hc => ?_) (fun hc => ?_)
    ·
      replace h := Comp.run_b_t hc h; clear hc
      refine wp_skip ?_
      refine (nx_then ?_)
      refine seq_join (fun a w => ∃ (O10 : Tags) (x9 : Int), a.fit 33 ∧ Base (Fr w0) O w0 O10 w ∧ a.get 0 = v_0 ∧ (rSl (rInt .i64)).v O10 w v_0 x_0 ∧ a.get 1 = v_1 ∧ (rF2 Try.prog (rInt .i64) (rInt .i64) (RS.c (fun x => .int .i64 x))).v O10 w v_1 x_1 ∧ a.get 5 = .int .i64 x9 ∧ a.get 6 = .int .i64 x4 ∧ (slices_MinFunc_int_int_j4 x4 x9).run n = some st3) ?_ ?_
      ·
        refine wp_block ?_
        refine wp_seq ?_
        obtain ⟨x6, hx6, h⟩ := Comp.run_bind h
        obtain ⟨x7, hx7, h⟩ := Comp.run_bind h
        refine' region [_, _, _, SP.ptr (rInt .i64) O5 x6, SP.isv (.int .i64 x6), _, SP.isv (.int .i64 x7), _] mixed hA (.cons ?z6_0 (.cons ?z6_1 (.cons ?z6_2 (.cons ?z6_3 (.cons ?z6_4 (.cons ?z6_5 (.cons ?z6_6 (.cons ?z6_7 .nil)))))))) ?zok6 ?zgd6 ?zk6
        case z6_0 => intro a' w' hE hK hg; exact ok_move (kn (hK 1 rfl) rfl q1)
        case z6_1 => intro a' w' hE hK hg; exact ok_move (kn (hK 0 rfl) rfl q0)
        case z6_2 => intro a' w' hE hK hg; exact ok_move (kn (hK 6 rfl) rfl q6)
        case z6_3 => intro a' w' hE hK hg; exact okl_idx (r := (rInt .i64)) (O := O5) ty58 ty3 rfl (ksv (j := 1) (hK 21 rfl) rfl rfl rfl) (rd_of (GR.v_ext _ h_0 hE)) (ksv (j := 2) (hK 22 rfl) rfl rfl rfl) hx6
        case z6_4 => intro a' w' hE hK hg; exact okl_ldr (rInt .i64) (fun _ => rfl) ty3 rfl rfl rfl (kspS (φ := SP.ptr (rInt .i64) O5 x6) (j := 3) (hK 23 rfl) rfl rfl rfl) (fun _ _ _ h => rInt_v.1 h)
        case z6_5 => intro a' w' hE hK hg; exact ok_move (kn (hK 5 rfl) rfl q5)
        case z6_6 => intro a' w' hE hK hg; exact okl_callv2 (R := (RS.c (fun x => .int .i64 x))) (ksv (j := 0) (hK 20 rfl) rfl rfl rfl) (show ((rF2 Try.prog (rInt .i64) (rInt .i64) (RS.c (fun x => .int .i64 x)))).v O5 _ _ _ from (GR.v_ext _ h_1 hE)) (OkO.ext hB.ok hE) (ksv (j := 4) (hK 24 rfl) rfl rfl rfl) (ksv (j := 5) (hK 25 rfl) rfl rfl rfl) (by first | exact rInt_v.2 rfl | exact rBool_v.2 rfl | exact rStr_v.2 rfl | exact rC_v.2 rfl | exact ⟨_, rfl, rfl⟩) (by first | exact rInt_v.2 rfl | exact rBool_v.2 rfl | exact rStr_v.2 rfl | exact rC_v.2 rfl | exact ⟨_, rfl, rfl⟩) hx7
        case z6_7 => intro a' w' hE hK hg; exact ok_lss (ksv (j := 6) (hK 26 rfl) rfl rfl rfl) rfl
        case zok6 => kernel_rfl
        case zgd6 => kernel_rfl
        intro a8 w8 hA' hE HF
        replace q0 := kn (HF 0) rfl q0
        replace q1 := kn (HF 1) rfl q1
        replace q5 := kn (HF 5) rfl q5
        replace q6 := kn (HF 6) rfl q6
        have q27 := ksv (HF 27) rfl rfl rfl
        clear q17
        clear hA HF; have hA := hA'; clear hA'
        replace h_0 := GR.v_ext _ h_0 hE
        replace h_1 := GR.v_ext _ h_1 hE
        replace hB := Base.step hB hE hO; clear hE
        refine (li_nil ?_)
        refine (nx_then ?_)
        refine wp_cond_b q27 (fun hc => ?_) (fun hc => ?_)
        ·
          replace h := Comp.run_b_t hc h; clear hc
          obtain ⟨x8, hx8, h⟩ := Comp.run_bind h
          refine' region [_, _, SP.ptr (rInt .i64) O5 x8, SP.isv (.int .i64 x8), _] mixed hA (.cons ?z7_0 (.cons ?z7_1 (.cons ?z7_2 (.cons ?z7_3 (.cons ?z7_4 .nil))))) ?zok7 ?zgd7 ?zk7
          case z7_0 => intro a' w' hE hK hg; exact ok_move (kn (hK 0 rfl) rfl q0)
          case z7_1 => intro a' w' hE hK hg; exact ok_move (kn (hK 6 rfl) rfl q6)
          case z7_2 => intro a' w' hE hK hg; exact okl_idx (r := (rInt .i64)) (O := O5) ty58 ty3 rfl (ksv (j := 0) (hK 28 rfl) rfl rfl rfl) (rd_of (GR.v_ext _ h_0 hE)) (ksv (j := 1) (hK 29 rfl) rfl rfl rfl) hx8
          case z7_3 => intro a' w' hE hK hg; exact okl_ldr (rInt .i64) (fun _ => rfl) ty3 rfl rfl rfl (kspS (φ := SP.ptr (rInt .i64) O5 x8) (j := 2) (hK 30 rfl) rfl rfl rfl) (fun _ _ _ h => rInt_v.1 h)
          case z7_4 => intro a' w' hE hK hg; exact ok_assign (ksv (j := 3) (hK 31 rfl) rfl rfl rfl)
          case zok7 => kernel_rfl
          case zgd7 => kernel_rfl
          intro a9 w9 hA' hE HF
          replace q0 := kn (HF 0) rfl q0
          replace q1 := kn (HF 1) rfl q1
          have q5' := ksv (HF 5) rfl rfl rfl
          replace q5 := q5'; clear q5'
          replace q6 := kn (HF 6) rfl q6
          clear q27
          clear hA HF; have hA := hA'; clear hA'
          replace h_0 := GR.v_ext _ h_0 hE
          replace h_1 := GR.v_ext _ h_1 hE
          replace hB := Base.step hB hE hO; clear hE
          refine (li_nil ?_)
          refine (nx_blk (nx_then ?_))
          exact ⟨_, _, hA, hB, q0, h_0, q1, h_1, q5, q6, h⟩
        ·
          replace h := Comp.run_b_f hc h; clear hc
          refine wp_skip ?_
          refine (nx_blk (nx_then ?_))
          exact ⟨_, _, hA, hB, q0, h_0, q1, h_1, q5, q6, h⟩
      intro a10 w10 hI
      clear hA hB h q0 q1 q5 q6 q17 h_0 h_1
      obtain ⟨O10, x9, hA, hB, q0, h_0, q1, h_1, q5, q6, h⟩ := hI
      unfold slices_MinFunc_int_int_j4 at h
      refine' region [_, _, _] mixed hA (.cons ?z8_0 (.cons ?z8_1 (.cons ?z8_2 .nil))) ?zok8 ?zgd8 ?zk8
      case z8_0 => intro a' w' hE hK hg; exact ok_move (kn (hK 6 rfl) rfl q6)
      case z8_1 => intro a' w' hE hK hg; exact ok_add (ksv (j := 0) (hK 18 rfl) rfl rfl rfl) rfl
      case z8_2 => intro a' w' hE hK hg; exact ok_assign (ksv (j := 1) (hK 19 rfl) rfl rfl rfl)
      case zok8 => kernel_rfl
      case zgd8 => kernel_rfl
      intro a11 w11 hA' hE HF
      replace q0 := kn (HF 0) rfl q0
      replace q1 := kn (HF 1) rfl q1
      replace q5 := kn (HF 5) rfl q5
      have q6' := ksv (HF 6) rfl rfl rfl
      replace q6 := q6'; clear q6'
      clear hA HF; have hA := hA'; clear hA'
      replace h_0 := GR.v_ext _ h_0 hE
      replace h_1 := GR.v_ext _ h_1 hE
      replace hB := Base.step hB hE hO; clear hE
      refine (li_nil ?_)
      refine (nx_then ?_)
      have h := hnext3 _ (Comp.run_pure h).symm
      refine ⟨m3, hlt3, ?_⟩
      exact ⟨_, _, _, hA, hB, q0, h_0, q1, h_1, q5, q6, h⟩
    ·
      replace h := Comp.run_b_f hc h; clear hc
      refine wp_exit ?_
      refine (ex_then (ex_then (ex_same ?_)))
      have hd_ := hdone3 _ (Comp.run_pure h).symm; clear h
      subst hd_; have h := hk3; clear hk3; try dsimp only at h
      refine (nx_then ?_)
      exact ⟨_, _, hA, hB, q5, h⟩
  intro a12 w12 hI
  clear hA hB h q0 q1 q5 h_0 h_1
  obtain ⟨O14, x13, hA, hB, q5, h⟩ := hI
  unfold slices_MinFunc_int_int_j2 at h
  refine wp_seq ?_
  refine' region [_, _] mixed hA (.cons ?z9_0 (.cons ?z9_1 .nil)) ?zok9 ?zgd9 ?zk9
  case z9_0 => intro a' w' hE hK hg; exact ok_move (kn (hK 5 rfl) rfl q5)
  case z9_1 => intro a' w' hE hK hg; exact ok_assign (ksv (j := 0) (hK 32 rfl) rfl rfl rfl)
  case zok9 => kernel_rfl
  case zgd9 => kernel_rfl
  intro a13 w13 hA' hE HF
  have q4 := ksv (HF 4) rfl rfl rfl
  clear q5
  clear hA HF; have hA := hA'; clear hA'
  replace hB := Base.step hB hE hO; clear hE
  refine (li_nil ?_)
  refine (nx_then ?_)
  refine (wp_ret ?_)
  have h := Comp.run_pure h; subst h
  exact retPure Try.results82 hA q4 hB.ext rfl

theorem ok_math_bits_OnesCount64 {O : Tags} {w0 : World} (hO : OkO O w0) {x_0 : Int} {n : Nat} {y : Int} (h : (math_bits_OnesCount64 x_0).run n = some y) : Pure Try.prog 121 #[.int .u64 x_0] w0 (SP.isv (.int .i64 y)).holds := by
  unfold math_bits_OnesCount64 at h
  refine pure_of_wp Try.func121 rfl 35 Try.ntmps121 (by simp) fun a0 hA hs0 => ?_
  have q0 := hs0 0 _ rfl
  clear hs0
  have hB : Base (Fr w0) O w0 O w0 := Base.start hO
  refine wp_seq ?_
  refine' region [_] mixed hA (.cons ?z1_0 .nil) ?zok1 ?zgd1 ?zk1
  case z1_0 => intro a' w' hE hK hg; exact ok_assign rfl
  case zok1 => kernel_rfl
  case zgd1 => kernel_rfl
  intro a1 w1 hA' hE HF
  replace q0 := kn (HF 0) rfl q0
  clear hA HF; have hA := hA'; clear hA'
  replace hB := Base.step hB hE hO; clear hE
  refine (li_nil ?_)
  refine (nx_then ?_)
  refine wp_seq ?_
  refine' region [_, _, _, _, _, _, _] mixed hA (.cons ?z2_0 (.cons ?z2_1 (.cons ?z2_2 (.cons ?z2_3 (.cons ?z2_4 (.cons ?z2_5 (.cons ?z2_6 .nil))))))) ?zok2 ?zgd2 ?zk2
  case z2_0 => intro a' w' hE hK hg; exact ok_move (kn (hK 0 rfl) rfl q0)
  case z2_1 => intro a' w' hE hK hg; exact okl_shr (ksv (j := 0) (hK 3 rfl) rfl rfl rfl) rfl (by decide)
  case z2_2 => intro a' w' hE hK hg; exact okb_and (ksv (j := 1) (hK 4 rfl) rfl rfl rfl) rfl
  case z2_3 => intro a' w' hE hK hg; exact ok_move (kn (hK 0 rfl) rfl q0)
  case z2_4 => intro a' w' hE hK hg; exact okb_and (ksv (j := 3) (hK 6 rfl) rfl rfl rfl) rfl
  case z2_5 => intro a' w' hE hK hg; exact ok_add (ksv (j := 2) (hK 5 rfl) rfl rfl rfl) (ksv (j := 4) (hK 7 rfl) rfl rfl rfl)
  case z2_6 => intro a' w' hE hK hg; exact ok_assign (ksv (j := 5) (hK 8 rfl) rfl rfl rfl)
  case zok2 => kernel_rfl
  case zgd2 => kernel_rfl
  intro a2 w2 hA' hE HF
  have q0' := ksv (HF 0) rfl rfl rfl
  replace q0 := q0'; clear q0'
  clear hA HF; have hA := hA'; clear hA'
  replace hB := Base.step hB hE hO; clear hE
  obtain ⟨x1, hx_, h⟩ := Comp.run_bind h; replace hx_ := Comp.run_pure hx_; rw [hx_] at q0; clear hx_
  refine (li_nil ?_)
  refine (nx_then ?_)
  refine wp_seq ?_
  refine' region [_, _, _, _, _, _, _] mixed hA (.cons ?z3_0 (.cons ?z3_1 (.cons ?z3_2 (.cons ?z3_3 (.cons ?z3_4 (.cons ?z3_5 (.cons ?z3_6 .nil))))))) ?zok3 ?zgd3 ?zk3
  case z3_0 => intro a' w' hE hK hg; exact ok_move (kn (hK 0 rfl) rfl q0)
  case z3_1 => intro a' w' hE hK hg; exact okl_shr (ksv (j := 0) (hK 9 rfl) rfl rfl rfl) rfl (by decide)
  case z3_2 => intro a' w' hE hK hg; exact okb_and (ksv (j := 1) (hK 10 rfl) rfl rfl rfl) rfl
  case z3_3 => intro a' w' hE hK hg; exact ok_move (kn (hK 0 rfl) rfl q0)
  case z3_4 => intro a' w' hE hK hg; exact okb_and (ksv (j := 3) (hK 12 rfl) rfl rfl rfl) rfl
  case z3_5 => intro a' w' hE hK hg; exact ok_add (ksv (j := 2) (hK 11 rfl) rfl rfl rfl) (ksv (j := 4) (hK 13 rfl) rfl rfl rfl)
  case z3_6 => intro a' w' hE hK hg; exact ok_assign (ksv (j := 5) (hK 14 rfl) rfl rfl rfl)
  case zok3 => kernel_rfl
  case zgd3 => kernel_rfl
  intro a3 w3 hA' hE HF
  have q0' := ksv (HF 0) rfl rfl rfl
  replace q0 := q0'; clear q0'
  clear hA HF; have hA := hA'; clear hA'
  replace hB := Base.step hB hE hO; clear hE
  obtain ⟨x2, hx_, h⟩ := Comp.run_bind h; replace hx_ := Comp.run_pure hx_; rw [hx_] at q0; clear hx_
  refine (li_nil ?_)
  refine (nx_then ?_)
  refine wp_seq ?_
  refine' region [_, _, _, _, _, _] mixed hA (.cons ?z4_0 (.cons ?z4_1 (.cons ?z4_2 (.cons ?z4_3 (.cons ?z4_4 (.cons ?z4_5 .nil)))))) ?zok4 ?zgd4 ?zk4
  case z4_0 => intro a' w' hE hK hg; exact ok_move (kn (hK 0 rfl) rfl q0)
  case z4_1 => intro a' w' hE hK hg; exact okl_shr (ksv (j := 0) (hK 15 rfl) rfl rfl rfl) rfl (by decide)
  case z4_2 => intro a' w' hE hK hg; exact ok_move (kn (hK 0 rfl) rfl q0)
  case z4_3 => intro a' w' hE hK hg; exact ok_add (ksv (j := 1) (hK 16 rfl) rfl rfl rfl) (ksv (j := 2) (hK 17 rfl) rfl rfl rfl)
  case z4_4 => intro a' w' hE hK hg; exact okb_and (ksv (j := 3) (hK 18 rfl) rfl rfl rfl) rfl
  case z4_5 => intro a' w' hE hK hg; exact ok_assign (ksv (j := 4) (hK 19 rfl) rfl rfl rfl)
  case zok4 => kernel_rfl
  case zgd4 => kernel_rfl
  intro a4 w4 hA' hE HF
  have q0' := ksv (HF 0) rfl rfl rfl
  replace q0 := q0'; clear q0'
  clear hA HF; have hA := hA'; clear hA'
  replace hB := Base.step hB hE hO; clear hE
  obtain ⟨x3, hx_, h⟩ := Comp.run_bind h; replace hx_ := Comp.run_pure hx_; rw [hx_] at q0; clear hx_
  refine (li_nil ?_)
  refine (nx_then ?_)
  refine wp_seq ?_
  refine' region [_, _, _, _, _] mixed hA (.cons ?z5_0 (.cons ?z5_1 (.cons ?z5_2 (.cons ?z5_3 (.cons ?z5_4 .nil))))) ?zok5 ?zgd5 ?zk5
  case z5_0 => intro a' w' hE hK hg; exact ok_move (kn (hK 0 rfl) rfl q0)
  case z5_1 => intro a' w' hE hK hg; exact ok_move (kn (hK 0 rfl) rfl q0)
  case z5_2 => intro a' w' hE hK hg; exact okl_shr (ksv (j := 1) (hK 21 rfl) rfl rfl rfl) rfl (by decide)
  case z5_3 => intro a' w' hE hK hg; exact ok_add (ksv (j := 0) (hK 20 rfl) rfl rfl rfl) (ksv (j := 2) (hK 22 rfl) rfl rfl rfl)
  case z5_4 => intro a' w' hE hK hg; exact ok_assign (ksv (j := 3) (hK 23 rfl) rfl rfl rfl)
  case zok5 => kernel_rfl
  case zgd5 => kernel_rfl
  intro a5 w5 hA' hE HF
  have q0' := ksv (HF 0) rfl rfl rfl
  replace q0 := q0'; clear q0'
  clear hA HF; have hA := hA'; clear hA'
  replace hB := Base.step hB hE hO; clear hE
  obtain ⟨x4, hx_, h⟩ := Comp.run_bind h; replace hx_ := Comp.run_pure hx_; rw [hx_] at q0; clear hx_
  refine (li_nil ?_)
  refine (nx_then ?_)
  refine wp_seq ?_
  refine' region [_, _, _, _, _] mixed hA (.cons ?z6_0 (.cons ?z6_1 (.cons ?z6_2 (.cons ?z6_3 (.cons ?z6_4 .nil))))) ?zok6 ?zgd6 ?zk6
  case z6_0 => intro a' w' hE hK hg; exact ok_move (kn (hK 0 rfl) rfl q0)
  case z6_1 => intro a' w' hE hK hg; exact ok_move (kn (hK 0 rfl) rfl q0)
  case z6_2 => intro a' w' hE hK hg; exact okl_shr (ksv (j := 1) (hK 25 rfl) rfl rfl rfl) rfl (by decide)
  case z6_3 => intro a' w' hE hK hg; exact ok_add (ksv (j := 0) (hK 24 rfl) rfl rfl rfl) (ksv (j := 2) (hK 26 rfl) rfl rfl rfl)
  case z6_4 => intro a' w' hE hK hg; exact ok_assign (ksv (j := 3) (hK 27 rfl) rfl rfl rfl)
  case zok6 => kernel_rfl
  case zgd6 => kernel_rfl
  intro a6 w6 hA' hE HF
  have q0' := ksv (HF 0) rfl rfl rfl
  replace q0 := q0'; clear q0'
  clear hA HF; have hA := hA'; clear hA'
  replace hB := Base.step hB hE hO; clear hE
  obtain ⟨x5, hx_, h⟩ := Comp.run_bind h; replace hx_ := Comp.run_pure hx_; rw [hx_] at q0; clear hx_
  refine (li_nil ?_)
  refine (nx_then ?_)
  refine wp_seq ?_
  refine' region [_, _, _, _, _] mixed hA (.cons ?z7_0 (.cons ?z7_1 (.cons ?z7_2 (.cons ?z7_3 (.cons ?z7_4 .nil))))) ?zok7 ?zgd7 ?zk7
  case z7_0 => intro a' w' hE hK hg; exact ok_move (kn (hK 0 rfl) rfl q0)
  case z7_1 => intro a' w' hE hK hg; exact ok_move (kn (hK 0 rfl) rfl q0)
  case z7_2 => intro a' w' hE hK hg; exact okl_shr (ksv (j := 1) (hK 29 rfl) rfl rfl rfl) rfl (by decide)
  case z7_3 => intro a' w' hE hK hg; exact ok_add (ksv (j := 0) (hK 28 rfl) rfl rfl rfl) (ksv (j := 2) (hK 30 rfl) rfl rfl rfl)
  case z7_4 => intro a' w' hE hK hg; exact ok_assign (ksv (j := 3) (hK 31 rfl) rfl rfl rfl)
  case zok7 => kernel_rfl
  case zgd7 => kernel_rfl
  intro a7 w7 hA' hE HF
  have q0' := ksv (HF 0) rfl rfl rfl
  replace q0 := q0'; clear q0'
  clear hA HF; have hA := hA'; clear hA'
  replace hB := Base.step hB hE hO; clear hE
  obtain ⟨x6, hx_, h⟩ := Comp.run_bind h; replace hx_ := Comp.run_pure hx_; rw [hx_] at q0; clear hx_
  refine (li_nil ?_)
  refine (nx_then ?_)
  refine wp_seq ?_
  refine' region [_, _, _, _] mixed hA (.cons ?z8_0 (.cons ?z8_1 (.cons ?z8_2 (.cons ?z8_3 .nil)))) ?zok8 ?zgd8 ?zk8
  case z8_0 => intro a' w' hE hK hg; exact ok_move (kn (hK 0 rfl) rfl q0)
  case z8_1 => intro a' w' hE hK hg; exact ok_convI ty122 ty3 (ksv (j := 0) (hK 32 rfl) rfl rfl rfl)
  case z8_2 => intro a' w' hE hK hg; exact okb_and (ksv (j := 1) (hK 33 rfl) rfl rfl rfl) rfl
  case z8_3 => intro a' w' hE hK hg; exact ok_assign (ksv (j := 2) (hK 34 rfl) rfl rfl rfl)
  case zok8 => kernel_rfl
  case zgd8 => kernel_rfl
  intro a8 w8 hA' hE HF
  have q2 := ksv (HF 2) rfl rfl rfl
  clear q0
  clear hA HF; have hA := hA'; clear hA'
  replace hB := Base.step hB hE hO; clear hE
  refine (li_nil ?_)
  refine (nx_then ?_)
  refine (wp_ret ?_)
  have h := Comp.run_pure h; subst h
  exact retPure Try.results121 hA q2 hB.ext rfl

theorem ok_core_size {O : Tags} {w0 : World} (hO : OkO O w0) {x_0 : Int} {n : Nat} {y : Int} (h : (core_size x_0).run n = some y) : Pure Try.prog 84 #[.int .i64 x_0] w0 (SP.isv (.int .i64 y)).holds := by
  unfold core_size at h
  refine pure_of_wp Try.func84 rfl 6 Try.ntmps84 (by simp) fun a0 hA hs0 => ?_
  have q0 := hs0 0 _ rfl
  clear hs0
  have hB : Base (Fr w0) O w0 O w0 := Base.start hO
  refine wp_seq ?_
  refine' region [_] mixed hA (.cons ?z1_0 .nil) ?zok1 ?zgd1 ?zk1
  case z1_0 => intro a' w' hE hK hg; exact ok_assign rfl
  case zok1 => kernel_rfl
  case zgd1 => kernel_rfl
  intro a1 w1 hA' hE HF
  replace q0 := kn (HF 0) rfl q0
  clear hA HF; have hA := hA'; clear hA'
  replace hB := Base.step hB hE hO; clear hE
  refine (li_nil ?_)
  refine (nx_then ?_)
  refine wp_seq ?_
  obtain ⟨x1, hx1, h⟩ := Comp.run_bind h
  refine' region [_, _, SP.isv (.int .i64 x1), _] mixed hA (.cons ?z2_0 (.cons ?z2_1 (.cons ?z2_2 (.cons ?z2_3 .nil)))) ?zok2 ?zgd2 ?zk2
  case z2_0 => intro a' w' hE hK hg; exact ok_move (kn (hK 0 rfl) rfl q0)
  case z2_1 => intro a' w' hE hK hg; exact ok_convI ty3 ty122 (ksv (j := 0) (hK 3 rfl) rfl rfl rfl)
  case z2_2 => intro a' w' hE hK hg; have c_ := ok_math_bits_OnesCount64 (OkO.ext hB.ok hE)  hx1; exact ok_call1 fn121 (ksv (j := 1) (hK 4 rfl) rfl rfl rfl) c_
  case z2_3 => intro a' w' hE hK hg; exact ok_assign (ksv (j := 2) (hK 5 rfl) rfl rfl rfl)
  case zok2 => kernel_rfl
  case zgd2 => kernel_rfl
  intro a2 w2 hA' hE HF
  have q2 := ksv (HF 2) rfl rfl rfl
  clear q0
  clear hA HF; have hA := hA'; clear hA'
  replace hB := Base.step hB hE hO; clear hE
  refine (li_nil ?_)
  refine (nx_then ?_)
  refine (wp_ret ?_)
  have h := Comp.run_pure h; subst h
  exact retPure Try.results84 hA q2 hB.ext rfl

theorem ok_core_Least_f1 {O : Tags} {w0 : World} (hO : OkO O w0) {x_0 : Int} {x_1 : Int} {n : Nat} {y : Int} (h : (core_Least_f1 x_0 x_1).run n = some y) : Pure Try.prog 83 #[.int .i64 x_0, .int .i64 x_1] w0 (SP.isv (.int .i64 y)).holds := by
  unfold core_Least_f1 at h
  refine pure_of_wp Try.func83 rfl 10 Try.ntmps83 (by simp) fun a0 hA hs0 => ?_
  have q0 := hs0 0 _ rfl
  have q1 := hs0 1 _ rfl
  clear hs0
  have hB : Base (Fr w0) O w0 O w0 := Base.start hO
  refine wp_seq ?_
  refine' region [_] mixed hA (.cons ?z1_0 .nil) ?zok1 ?zgd1 ?zk1
  case z1_0 => intro a' w' hE hK hg; exact ok_assign rfl
  case zok1 => kernel_rfl
  case zgd1 => kernel_rfl
  intro a1 w1 hA' hE HF
  replace q0 := kn (HF 0) rfl q0
  replace q1 := kn (HF 1) rfl q1
  clear hA HF; have hA := hA'; clear hA'
  replace hB := Base.step hB hE hO; clear hE
  refine (li_nil ?_)
  refine (nx_then ?_)
  refine wp_seq ?_
  obtain ⟨x1, hx1, h⟩ := Comp.run_bind h
  obtain ⟨x2, hx2, h⟩ := Comp.run_bind h
  refine' region [_, SP.isv (.int .i64 x1), _, SP.isv (.int .i64 x2), _, _] mixed hA (.cons ?z2_0 (.cons ?z2_1 (.cons ?z2_2 (.cons ?z2_3 (.cons ?z2_4 (.cons ?z2_5 .nil)))))) ?zok2 ?zgd2 ?zk2
  case z2_0 => intro a' w' hE hK hg; exact ok_move (kn (hK 0 rfl) rfl q0)
  case z2_1 => intro a' w' hE hK hg; have c_ := ok_core_size (OkO.ext hB.ok hE)  hx1; exact ok_call1 fn84 (ksv (j := 0) (hK 5 rfl) rfl rfl rfl) c_
  case z2_2 => intro a' w' hE hK hg; exact ok_move (kn (hK 1 rfl) rfl q1)
  case z2_3 => intro a' w' hE hK hg; have c_ := ok_core_size (OkO.ext hB.ok hE)  hx2; exact ok_call1 fn84 (ksv (j := 2) (hK 7 rfl) rfl rfl rfl) c_
  case z2_4 => intro a' w' hE hK hg; exact ok_sub (ksv (j := 1) (hK 6 rfl) rfl rfl rfl) (ksv (j := 3) (hK 8 rfl) rfl rfl rfl)
  case z2_5 => intro a' w' hE hK hg; exact ok_assign (ksv (j := 4) (hK 9 rfl) rfl rfl rfl)
  case zok2 => kernel_rfl
  case zgd2 => kernel_rfl
  intro a2 w2 hA' hE HF
  have q4 := ksv (HF 4) rfl rfl rfl
  clear q0
  clear q1
  clear hA HF; have hA := hA'; clear hA'
  replace hB := Base.step hB hE hO; clear hE
  refine (li_nil ?_)
  refine (nx_then ?_)
  refine (wp_ret ?_)
  have h := Comp.run_pure h; subst h
  exact retPure Try.results83 hA q4 hB.ext rfl

theorem ok_core_Least {O : Tags} {w0 : World} (hO : OkO O w0) {v_0 : Value} {x_0 : List Int} (h_0 : (rSl (rInt .i64)).v O w0 v_0 x_0) {n : Nat} {y : (Int × Bool)} (h : (core_Least x_0).run n = some y) : Pure Try.prog 44 #[v_0] w0 (SP.tup2 (SP.isv (.int .i64 y.1)) (SP.isv (.bool y.2))).holds := by
  unfold core_Least at h
  refine pure_of_wp Try.func44 rfl 9 Try.ntmps44 (by simp) fun a0 hA hs0 => ?_
  have q0 := hs0 0 _ rfl
  clear hs0
  have hB : Base (Fr w0) O w0 O w0 := Base.start hO
  refine wp_seq ?_
  refine' region [_, _] mixed hA (.cons ?z1_0 (.cons ?z1_1 .nil)) ?zok1 ?zgd1 ?zk1
  case z1_0 => intro a' w' hE hK hg; exact ok_assign rfl
  case z1_1 => intro a' w' hE hK hg; exact ok_assign rfl
  case zok1 => kernel_rfl
  case zgd1 => kernel_rfl
  intro a1 w1 hA' hE HF
  replace q0 := kn (HF 0) rfl q0
  clear hA HF; have hA := hA'; clear hA'
  replace h_0 := GR.v_ext _ h_0 hE
  replace hB := Base.step hB hE hO; clear hE
  refine (li_nil ?_)
  refine (nx_then ?_)
  refine wp_seq ?_
  refine wp_seq ?_
  refine' region [_, _, _] mixed hA (.cons ?z2_0 (.cons ?z2_1 (.cons ?z2_2 .nil))) ?zok2 ?zgd2 ?zk2
  case z2_0 => intro a' w' hE hK hg; exact ok_move (kn (hK 0 rfl) rfl q0)
  case z2_1 => intro a' w' hE hK hg; exact okl_len (r := (rInt .i64)) ty58 (ksv (j := 0) (hK 4 rfl) rfl rfl rfl) (rd_of (GR.v_ext _ h_0 hE))
  case z2_2 => intro a' w' hE hK hg; exact ok_eqlI (ksv (j := 1) (hK 5 rfl) rfl rfl rfl) rfl
  case zok2 => kernel_rfl
  case zgd2 => kernel_rfl
  intro a2 w2 hA' hE HF
  replace q0 := kn (HF 0) rfl q0
  have q6 := ksv (HF 6) rfl rfl rfl
  clear hA HF; have hA := hA'; clear hA'
  replace h_0 := GR.v_ext _ h_0 hE
  replace hB := Base.step hB hE hO; clear hE
  refine (li_nil ?_)
  refine (nx_then ?_)
  refine wp_cond_b q6 (fun hc => ?_) (fun hc => ?_)
  ·
    replace h := Comp.run_b_t hc h; clear hc
    refine wp_seq ?_
    refine' region [_, _] mixed hA (.cons ?z3_0 (.cons ?z3_1 .nil)) ?zok3 ?zgd3 ?zk3
    case z3_0 => intro a' w' hE hK hg; exact ok_assign rfl
    case z3_1 => intro a' w' hE hK hg; exact ok_assign rfl
    case zok3 => kernel_rfl
    case zgd3 => kernel_rfl
    intro a3 w3 hA' hE HF
    have q2 := ksv (HF 2) rfl rfl rfl
    have q3 := ksv (HF 3) rfl rfl rfl
    clear q0
    clear q6
    clear hA HF; have hA := hA'; clear hA'
    replace h_0 := GR.v_ext _ h_0 hE
    replace hB := Base.step hB hE hO; clear hE
    refine (li_nil ?_)
    refine (nx_then ?_)
    refine (wp_ret (rt_then ?_))
    have h := Comp.run_pure h; subst h
    exact retPure2 Try.results44 hA q2 q3 hB.ext ⟨_, _, rfl, rfl, rfl⟩
  ·
    replace h := Comp.run_b_f hc h; clear hc
    refine wp_skip ?_
    refine (nx_then ?_)
    refine wp_seq ?_
    obtain ⟨x1, hx1, h⟩ := Comp.run_bind h
    refine' region [_, SP.isv (.int .i64 x1), _, _] mixed hA (.cons ?z4_0 (.cons ?z4_1 (.cons ?z4_2 (.cons ?z4_3 .nil)))) ?zok4 ?zgd4 ?zk4
    case z4_0 => intro a' w' hE hK hg; exact ok_move (kn (hK 0 rfl) rfl q0)
    case z4_1 => intro a' w' hE hK hg; have c_ := ok_slices_MinFunc_int_int (OkO.ext hB.ok hE) (GR.v_ext _ h_0 hE) (show (rF2 Try.prog (rInt .i64) (rInt .i64) (RS.c (fun x => .int .i64 x))).v O _ (.func (.func 83) #[] #[]) core_Least_f1 from rF2_v.2 ⟨rfl, fun O' w' hO' hk v_0 x_0 v_1 x_1 hv_0 hv_1 n_ y_ hy_ => by obtain rfl := rInt_v.1 hv_0; obtain rfl := rInt_v.1 hv_1; exact callV_func fn83 (ok_core_Least_f1 hO'   hy_)⟩) hx1; exact ok_call2 fn82 (ksv (j := 0) (hK 7 rfl) rfl rfl rfl) rfl c_
    case z4_2 => intro a' w' hE hK hg; exact ok_assign (ksv (j := 1) (hK 8 rfl) rfl rfl rfl)
    case z4_3 => intro a' w' hE hK hg; exact ok_assign rfl
    case zok4 => kernel_rfl
    case zgd4 => kernel_rfl
    intro a4 w4 hA' hE HF
    have q2 := ksv (HF 2) rfl rfl rfl
    have q3 := ksv (HF 3) rfl rfl rfl
    clear q0
    clear q6
    clear hA HF; have hA := hA'; clear hA'
    replace h_0 := GR.v_ext _ h_0 hE
    replace hB := Base.step hB hE hO; clear hE
    refine (li_nil ?_)
    refine (nx_then ?_)
    refine (wp_ret ?_)
    have h := Comp.run_pure h; subst h
    exact retPure2 Try.results44 hA q2 q3 hB.ext ⟨_, _, rfl, rfl, rfl⟩

end Go.Proofs.Ytkbipbfncbopnaa
