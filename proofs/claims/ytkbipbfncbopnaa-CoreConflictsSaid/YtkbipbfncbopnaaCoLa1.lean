/- The lifting of the program's functions, further part (printed by wip/lift). No statement of the program stands here. -/
import Derived.Test.YtkbipbfncbopnaaCoLa
namespace Go.Proofs.Ytkbipbfncbopnaa
open Go Go.RowKit Go.Eng Go.Lift Go.F
set_option linter.unusedVariables false
set_option linter.unusedSimpArgs false
set_option maxRecDepth 100000
theorem ok_colletlaw32_sanity {O : Tags} {w0 : World} (hO : OkO O w0)  {n : Nat} {y : Bool} (h : (colletlaw32_sanity).run n = some y) : Pure Try.prog 38 #[] w0 (SP.isv (.bool y)).holds := by
  unfold colletlaw32_sanity at h
  refine pure_of_wp Try.func38 rfl 119 Try.ntmps38 (by simp) fun a0 hA hs0 => ?_
  clear hs0
  have hB : Base (Fr w0) O w0 O w0 := Base.start hO
  refine wp_seq ?_
  refine' region [_] mixed hA (.cons ?z1_0 .nil) ?zok1 ?zgd1 ?zk1
  case z1_0 => intro a' w' hE hK hg; exact ok_assign rfl
  case zok1 => kernel_rfl
  case zgd1 => kernel_rfl
  intro a1 w1 hA' hE HF
  clear hA HF; have hA := hA'; clear hA'
  replace hB := Base.step hB hE hO; clear hE
  refine (li_nil ?_)
  refine (nx_then ?_)
  refine wp_seq ?_
  obtain ⟨x1, hx1, h⟩ := Comp.run_bind h
  obtain ⟨x2, hx2, h⟩ := Comp.run_bind h
  obtain ⟨x3, hx3, h⟩ := Comp.run_bind h
  obtain ⟨x4, hx4, h⟩ := Comp.run_bind h
  obtain ⟨x5, hx5, h⟩ := Comp.run_bind h
  refine' region [SP.vl (rSl (rInt .i64)) O [7, 3, 5, 3, 12], SP.vl (rSl (rInt .i64)) O x1, SP.vl (rSl (rInt .i64)) O [3, 5, 12], SP.isv (.bool x2), _, SP.vl (rSl (rInt .i64)) O [3, 5], SP.vl (rSl (rInt .i64)) O [1, 6], SP.isv (.bool x3), _, _, SP.vl (rSl (rInt .i64)) O [0], SP.isv (.bool x4), _, _, SP.vl (rSl (rInt .i64)) O [0], SP.isv (.bool x5), _, _] mixed hA (.cons ?z2_0 (.cons ?z2_1 (.cons ?z2_2 (.cons ?z2_3 (.cons ?z2_4 (.cons ?z2_5 (.cons ?z2_6 (.cons ?z2_7 (.cons ?z2_8 (.cons ?z2_9 (.cons ?z2_10 (.cons ?z2_11 (.cons ?z2_12 (.cons ?z2_13 (.cons ?z2_14 (.cons ?z2_15 (.cons ?z2_16 (.cons ?z2_17 .nil)))))))))))))))))) ?zok2 ?zgd2 ?zk2
  case z2_0 => intro a' w' hE hK hg; exact okl_buildSliceV (r := (rInt .i64)) (fun _ => rfl) rfl (OkO.ext hB.ok hE) ty58 ty3 (parts_cons rfl (parts_cons rfl (parts_cons rfl (parts_cons rfl (parts_cons rfl parts_nil))))) ⟨(by first | exact rInt_v.2 rfl | exact rBool_v.2 rfl | exact rStr_v.2 rfl | exact rC_v.2 rfl | exact ⟨_, rfl, rfl⟩), ⟨(by first | exact rInt_v.2 rfl | exact rBool_v.2 rfl | exact rStr_v.2 rfl | exact rC_v.2 rfl | exact ⟨_, rfl, rfl⟩), ⟨(by first | exact rInt_v.2 rfl | exact rBool_v.2 rfl | exact rStr_v.2 rfl | exact rC_v.2 rfl | exact ⟨_, rfl, rfl⟩), ⟨(by first | exact rInt_v.2 rfl | exact rBool_v.2 rfl | exact rStr_v.2 rfl | exact rC_v.2 rfl | exact ⟨_, rfl, rfl⟩), ⟨(by first | exact rInt_v.2 rfl | exact rBool_v.2 rfl | exact rStr_v.2 rfl | exact rC_v.2 rfl | exact ⟨_, rfl, rfl⟩), trivial⟩⟩⟩⟩⟩ rfl (by decide)
  case z2_1 => intro a' w' hE hK hg; have c_ := ok_core_Minimal (OkO.ext hB.ok hE) (kspS (φ := SP.vl (rSl (rInt .i64)) O [7, 3, 5, 3, 12]) (j := 0) (hK 18 rfl) rfl rfl rfl) hx1; exact ok_weak (ok_call1 fn42 rfl c_) (fun _ _ _ h => (OwnR.val h (fun g hg => (OkO.ext hB.ok hE) g (OwnR.ge h g hg).1)))
  case z2_2 => intro a' w' hE hK hg; exact okl_buildSliceV (r := (rInt .i64)) (fun _ => rfl) rfl (OkO.ext hB.ok hE) ty58 ty3 (parts_cons rfl (parts_cons rfl (parts_cons rfl parts_nil))) ⟨(by first | exact rInt_v.2 rfl | exact rBool_v.2 rfl | exact rStr_v.2 rfl | exact rC_v.2 rfl | exact ⟨_, rfl, rfl⟩), ⟨(by first | exact rInt_v.2 rfl | exact rBool_v.2 rfl | exact rStr_v.2 rfl | exact rC_v.2 rfl | exact ⟨_, rfl, rfl⟩), ⟨(by first | exact rInt_v.2 rfl | exact rBool_v.2 rfl | exact rStr_v.2 rfl | exact rC_v.2 rfl | exact ⟨_, rfl, rfl⟩), trivial⟩⟩⟩ rfl (by decide)
  case z2_3 => intro a' w' hE hK hg; have c_ := ok_colletref32_Same (OkO.ext hB.ok hE) (kspS (φ := SP.vl (rSl (rInt .i64)) O x1) (j := 1) (hK 19 rfl) rfl rfl rfl) (kspS (φ := SP.vl (rSl (rInt .i64)) O [3, 5, 12]) (j := 2) (hK 20 rfl) rfl rfl rfl) hx2; exact ok_call2 fn41 rfl rfl c_
  case z2_4 => intro a' w' hE hK hg; exact ok_move (ksv (j := 3) (hK 21 rfl) rfl rfl rfl)
  case z2_5 => intro a' w' hE hK hg; exact okl_buildSliceV (r := (rInt .i64)) (fun _ => rfl) rfl (OkO.ext hB.ok hE) ty58 ty3 (parts_cons rfl (parts_cons rfl parts_nil)) ⟨(by first | exact rInt_v.2 rfl | exact rBool_v.2 rfl | exact rStr_v.2 rfl | exact rC_v.2 rfl | exact ⟨_, rfl, rfl⟩), ⟨(by first | exact rInt_v.2 rfl | exact rBool_v.2 rfl | exact rStr_v.2 rfl | exact rC_v.2 rfl | exact ⟨_, rfl, rfl⟩), trivial⟩⟩ rfl (by decide)
  case z2_6 => intro a' w' hE hK hg; exact okl_buildSliceV (r := (rInt .i64)) (fun _ => rfl) rfl (OkO.ext hB.ok hE) ty58 ty3 (parts_cons rfl (parts_cons rfl parts_nil)) ⟨(by first | exact rInt_v.2 rfl | exact rBool_v.2 rfl | exact rStr_v.2 rfl | exact rC_v.2 rfl | exact ⟨_, rfl, rfl⟩), ⟨(by first | exact rInt_v.2 rfl | exact rBool_v.2 rfl | exact rStr_v.2 rfl | exact rC_v.2 rfl | exact ⟨_, rfl, rfl⟩), trivial⟩⟩ rfl (by decide)
  case z2_7 => intro a' w' hE hK hg; have c_ := ok_colletlaw32_hits (OkO.ext hB.ok hE) (kspS (φ := SP.vl (rSl (rInt .i64)) O [3, 5]) (j := 5) (hK 23 rfl) rfl rfl hg) (kspS (φ := SP.vl (rSl (rInt .i64)) O [1, 6]) (j := 6) (hK 24 rfl) rfl rfl hg) (run_gdb hx3 hg); exact ok_call3 fn76 rfl rfl rfl c_
  case z2_8 => intro a' w' hE hK hg; exact ok_pick (ksv (j := 4) (hK 22 rfl) rfl rfl rfl) (fun hb => ksv (j := 7) (hK 25 rfl) rfl rfl (act_g1 rfl rfl hb)) (fun _ => rfl)
  case z2_9 => intro a' w' hE hK hg; exact ok_move (ksv (j := 8) (hK 26 rfl) rfl rfl rfl)
  case z2_10 => intro a' w' hE hK hg; exact okl_buildSliceV (r := (rInt .i64)) (fun _ => rfl) rfl (OkO.ext hB.ok hE) ty58 ty3 (parts_cons rfl parts_nil) ⟨(by first | exact rInt_v.2 rfl | exact rBool_v.2 rfl | exact rStr_v.2 rfl | exact rC_v.2 rfl | exact ⟨_, rfl, rfl⟩), trivial⟩ rfl (by decide)
  case z2_11 => intro a' w' hE hK hg; have c_ := ok_colletlaw32_hits (OkO.ext hB.ok hE) (kspS (φ := SP.vl (rSl (rInt .i64)) O [0]) (j := 10) (hK 28 rfl) rfl rfl hg) (rSl_nil _ _ _ 0) (run_gdb hx4 hg); exact ok_call3 fn76 rfl rfl rfl c_
  case z2_12 => intro a' w' hE hK hg; exact ok_pick (ksv (j := 9) (hK 27 rfl) rfl rfl rfl) (fun hb => ksv (j := 11) (hK 29 rfl) rfl rfl (act_g1 rfl rfl hb)) (fun _ => rfl)
  case z2_13 => intro a' w' hE hK hg; exact ok_move (ksv (j := 12) (hK 30 rfl) rfl rfl rfl)
  case z2_14 => intro a' w' hE hK hg; exact okl_buildSliceV (r := (rInt .i64)) (fun _ => rfl) rfl (OkO.ext hB.ok hE) ty58 ty3 (parts_cons rfl parts_nil) ⟨(by first | exact rInt_v.2 rfl | exact rBool_v.2 rfl | exact rStr_v.2 rfl | exact rC_v.2 rfl | exact ⟨_, rfl, rfl⟩), trivial⟩ rfl (by decide)
  case z2_15 => intro a' w' hE hK hg; have c_ := ok_colletlaw32_hits (OkO.ext hB.ok hE) (rSl_nil _ _ _ 0) (kspS (φ := SP.vl (rSl (rInt .i64)) O [0]) (j := 14) (hK 32 rfl) rfl rfl hg) (run_gdb hx5 hg); exact ok_call3 fn76 rfl rfl rfl c_
  case z2_16 => intro a' w' hE hK hg; exact ok_pick (ksv (j := 13) (hK 31 rfl) rfl rfl rfl) (fun hb => ksv (j := 15) (hK 33 rfl) rfl rfl (act_g1 rfl rfl hb)) (fun _ => rfl)
  case z2_17 => intro a' w' hE hK hg; exact ok_assign (ksv (j := 16) (hK 34 rfl) rfl rfl rfl)
  case zok2 => kernel_rfl
  case zgd2 => kernel_rfl
  intro a2 w2 hA' hE HF
  have q1 := ksv (HF 1) rfl rfl rfl
  clear hA HF; have hA := hA'; clear hA'
  replace hB := Base.step hB hE hO; clear hE
  obtain ⟨x6, hx_, h⟩ := Comp.run_bind h; replace hx_ := Comp.run_pure hx_; rw [hx_] at q1; clear hx_
  refine (li_nil ?_)
  refine (nx_then ?_)
  refine wp_seq ?_
  obtain ⟨x7, hx7, h⟩ := Comp.run_bind h
  refine' region [SP.vl (rSl (rInt .i64)) O [8], SP.tup2 (SP.vl (rSl (rInt .i64)) O x7.1) (SP.isv (.int .i64 x7.2)), SP.tup2 (SP.vl (rSl (rInt .i64)) O x7.1) (SP.isv (.int .i64 x7.2)), SP.vl (rSl (rInt .i64)) O x7.1, SP.isv (.int .i64 x7.2), SP.vl (rSl (rInt .i64)) O x7.1, _] mixed hA (.cons ?z3_0 (.cons ?z3_1 (.cons ?z3_2 (.cons ?z3_3 (.cons ?z3_4 (.cons ?z3_5 (.cons ?z3_6 .nil))))))) ?zok3 ?zgd3 ?zk3
  case z3_0 => intro a' w' hE hK hg; exact okl_buildSliceV (r := (rInt .i64)) (fun _ => rfl) rfl (OkO.ext hB.ok hE) ty58 ty3 (parts_cons rfl parts_nil) ⟨(by first | exact rInt_v.2 rfl | exact rBool_v.2 rfl | exact rStr_v.2 rfl | exact rC_v.2 rfl | exact ⟨_, rfl, rfl⟩), trivial⟩ rfl (by decide)
  case z3_1 => intro a' w' hE hK hg; have c_ := ok_core_Hitting (OkO.ext hB.ok hE) (kspS (φ := SP.vl (rSl (rInt .i64)) O [8]) (j := 0) (hK 36 rfl) rfl rfl rfl) hx7; exact ok_weak (ok_call2 fn46 rfl rfl c_) (fun _ _ _ ⟨a_, b_, e0_, h0_, h1_⟩ => ⟨a_, b_, e0_, (fun h => (OwnR.val h (fun g hg => (OkO.ext hB.ok hE) g (OwnR.ge h g hg).1))) h0_, h1_⟩)
  case z3_2 => intro a' w' hE hK hg; exact ok_move_pr (φ := SP.tup2 (SP.vl (rSl (rInt .i64)) O x7.1) (SP.isv (.int .i64 x7.2))) (kspS (φ := SP.tup2 (SP.vl (rSl (rInt .i64)) O x7.1) (SP.isv (.int .i64 x7.2))) (j := 1) (hK 37 rfl) rfl rfl rfl)
  case z3_3 => intro a' w' hE hK hg; exact okl_ext0 (kspS (φ := SP.tup2 (SP.vl (rSl (rInt .i64)) O x7.1) (SP.isv (.int .i64 x7.2))) (j := 2) (hK 35 rfl) rfl rfl rfl)
  case z3_4 => intro a' w' hE hK hg; exact okl_ext1 (kspS (φ := SP.tup2 (SP.vl (rSl (rInt .i64)) O x7.1) (SP.isv (.int .i64 x7.2))) (j := 2) (hK 35 rfl) rfl rfl rfl)
  case z3_5 => intro a' w' hE hK hg; exact ok_assign_pr (φ := SP.vl (rSl (rInt .i64)) O x7.1) (kspS (φ := SP.vl (rSl (rInt .i64)) O x7.1) (j := 3) (hK 38 rfl) rfl rfl rfl)
  case z3_6 => intro a' w' hE hK hg; exact ok_assign (ksv (j := 4) (hK 39 rfl) rfl rfl rfl)
  case zok3 => kernel_rfl
  case zgd3 => kernel_rfl
  intro a3 w3 hA' hE HF
  replace q1 := kn (HF 1) rfl q1
  have q3 := ksv (HF 3) rfl rfl rfl
  clear hA HF; have hA := hA'; clear hA'
  replace hB := Base.step hB hE hO; clear hE
  refine (li_nil ?_)
  refine (nx_then ?_)
  refine wp_seq ?_
  obtain ⟨x8, hx8, h⟩ := Comp.run_bind h
  refine' region [SP.tup2 (SP.vl (rSl (rInt .i64)) O x8.1) (SP.isv (.int .i64 x8.2)), SP.tup2 (SP.vl (rSl (rInt .i64)) O x8.1) (SP.isv (.int .i64 x8.2)), SP.vl (rSl (rInt .i64)) O x8.1, SP.isv (.int .i64 x8.2), SP.vl (rSl (rInt .i64)) O x8.1, _] mixed hA (.cons ?z4_0 (.cons ?z4_1 (.cons ?z4_2 (.cons ?z4_3 (.cons ?z4_4 (.cons ?z4_5 .nil)))))) ?zok4 ?zgd4 ?zk4
  case z4_0 => intro a' w' hE hK hg; have c_ := ok_core_Hitting (OkO.ext hB.ok hE) (rSl_nil _ _ _ 0) hx8; exact ok_weak (ok_call2 fn46 rfl rfl c_) (fun _ _ _ ⟨a_, b_, e0_, h0_, h1_⟩ => ⟨a_, b_, e0_, (fun h => (OwnR.val h (fun g hg => (OkO.ext hB.ok hE) g (OwnR.ge h g hg).1))) h0_, h1_⟩)
  case z4_1 => intro a' w' hE hK hg; exact ok_move_pr (φ := SP.tup2 (SP.vl (rSl (rInt .i64)) O x8.1) (SP.isv (.int .i64 x8.2))) (kspS (φ := SP.tup2 (SP.vl (rSl (rInt .i64)) O x8.1) (SP.isv (.int .i64 x8.2))) (j := 0) (hK 41 rfl) rfl rfl rfl)
  case z4_2 => intro a' w' hE hK hg; exact okl_ext0 (kspS (φ := SP.tup2 (SP.vl (rSl (rInt .i64)) O x8.1) (SP.isv (.int .i64 x8.2))) (j := 1) (hK 40 rfl) rfl rfl rfl)
  case z4_3 => intro a' w' hE hK hg; exact okl_ext1 (kspS (φ := SP.tup2 (SP.vl (rSl (rInt .i64)) O x8.1) (SP.isv (.int .i64 x8.2))) (j := 1) (hK 40 rfl) rfl rfl rfl)
  case z4_4 => intro a' w' hE hK hg; exact ok_assign_pr (φ := SP.vl (rSl (rInt .i64)) O x8.1) (kspS (φ := SP.vl (rSl (rInt .i64)) O x8.1) (j := 2) (hK 42 rfl) rfl rfl rfl)
  case z4_5 => intro a' w' hE hK hg; exact ok_assign (ksv (j := 3) (hK 43 rfl) rfl rfl rfl)
  case zok4 => kernel_rfl
  case zgd4 => kernel_rfl
  intro a4 w4 hA' hE HF
  replace q1 := kn (HF 1) rfl q1
  replace q3 := kn (HF 3) rfl q3
  have q5 := ksv (HF 5) rfl rfl rfl
  clear hA HF; have hA := hA'; clear hA'
  replace hB := Base.step hB hE hO; clear hE
  refine (li_nil ?_)
  refine (nx_then ?_)
  refine wp_seq ?_
  obtain ⟨x9, hx9, h⟩ := Comp.run_bind h
  refine' region [SP.vl (rSl rBool) O [true, true, true, false, true, false, false, false], SP.tup2 (SP.vl (rSl (rInt .i64)) O x9.1) (SP.isv (.int .i64 x9.2)), SP.tup2 (SP.vl (rSl (rInt .i64)) O x9.1) (SP.isv (.int .i64 x9.2)), SP.vl (rSl (rInt .i64)) O x9.1, SP.isv (.int .i64 x9.2), SP.vl (rSl (rInt .i64)) O x9.1, _] mixed hA (.cons ?z5_0 (.cons ?z5_1 (.cons ?z5_2 (.cons ?z5_3 (.cons ?z5_4 (.cons ?z5_5 (.cons ?z5_6 .nil))))))) ?zok5 ?zgd5 ?zk5
  case z5_0 => intro a' w' hE hK hg; exact okl_buildSliceV (r := rBool) (fun _ => rfl) rfl (OkO.ext hB.ok hE) ty71 ty4 (parts_cons rfl (parts_cons rfl (parts_cons rfl (parts_cons rfl (parts_cons rfl (parts_cons rfl (parts_cons rfl (parts_cons rfl parts_nil)))))))) ⟨(by first | exact rInt_v.2 rfl | exact rBool_v.2 rfl | exact rStr_v.2 rfl | exact rC_v.2 rfl | exact ⟨_, rfl, rfl⟩), ⟨(by first | exact rInt_v.2 rfl | exact rBool_v.2 rfl | exact rStr_v.2 rfl | exact rC_v.2 rfl | exact ⟨_, rfl, rfl⟩), ⟨(by first | exact rInt_v.2 rfl | exact rBool_v.2 rfl | exact rStr_v.2 rfl | exact rC_v.2 rfl | exact ⟨_, rfl, rfl⟩), ⟨(by first | exact rInt_v.2 rfl | exact rBool_v.2 rfl | exact rStr_v.2 rfl | exact rC_v.2 rfl | exact ⟨_, rfl, rfl⟩), ⟨(by first | exact rInt_v.2 rfl | exact rBool_v.2 rfl | exact rStr_v.2 rfl | exact rC_v.2 rfl | exact ⟨_, rfl, rfl⟩), ⟨(by first | exact rInt_v.2 rfl | exact rBool_v.2 rfl | exact rStr_v.2 rfl | exact rC_v.2 rfl | exact ⟨_, rfl, rfl⟩), ⟨(by first | exact rInt_v.2 rfl | exact rBool_v.2 rfl | exact rStr_v.2 rfl | exact rC_v.2 rfl | exact ⟨_, rfl, rfl⟩), ⟨(by first | exact rInt_v.2 rfl | exact rBool_v.2 rfl | exact rStr_v.2 rfl | exact rC_v.2 rfl | exact ⟨_, rfl, rfl⟩), trivial⟩⟩⟩⟩⟩⟩⟩⟩ rfl (by decide)
  case z5_1 => intro a' w' hE hK hg; have c_ := ok_core_Conflicts (OkO.ext hB.ok hE) (kspS (φ := SP.vl (rSl rBool) O [true, true, true, false, true, false, false, false]) (j := 0) (hK 45 rfl) rfl rfl rfl) hx9; exact ok_weak (ok_call1 fn49 rfl c_) (fun _ _ _ ⟨a_, b_, e0_, h0_, h1_⟩ => ⟨a_, b_, e0_, (fun h => (OwnR.val h (fun g hg => (OkO.ext hB.ok hE) g (OwnR.ge h g hg).1))) h0_, h1_⟩)
  case z5_2 => intro a' w' hE hK hg; exact ok_move_pr (φ := SP.tup2 (SP.vl (rSl (rInt .i64)) O x9.1) (SP.isv (.int .i64 x9.2))) (kspS (φ := SP.tup2 (SP.vl (rSl (rInt .i64)) O x9.1) (SP.isv (.int .i64 x9.2))) (j := 1) (hK 46 rfl) rfl rfl rfl)
  case z5_3 => intro a' w' hE hK hg; exact okl_ext0 (kspS (φ := SP.tup2 (SP.vl (rSl (rInt .i64)) O x9.1) (SP.isv (.int .i64 x9.2))) (j := 2) (hK 44 rfl) rfl rfl rfl)
  case z5_4 => intro a' w' hE hK hg; exact okl_ext1 (kspS (φ := SP.tup2 (SP.vl (rSl (rInt .i64)) O x9.1) (SP.isv (.int .i64 x9.2))) (j := 2) (hK 44 rfl) rfl rfl rfl)
  case z5_5 => intro a' w' hE hK hg; exact ok_assign_pr (φ := SP.vl (rSl (rInt .i64)) O x9.1) (kspS (φ := SP.vl (rSl (rInt .i64)) O x9.1) (j := 3) (hK 47 rfl) rfl rfl rfl)
  case z5_6 => intro a' w' hE hK hg; exact ok_assign (ksv (j := 4) (hK 48 rfl) rfl rfl rfl)
  case zok5 => kernel_rfl
  case zgd5 => kernel_rfl
  intro a5 w5 hA' hE HF
  replace q1 := kn (HF 1) rfl q1
  replace q3 := kn (HF 3) rfl q3
  replace q5 := kn (HF 5) rfl q5
  have f11 := ksp (HF 6) rfl rfl rfl
  obtain ⟨u10, q6'⟩ : ∃ u, a5.get 6 = u := ⟨_, rfl⟩
  rw [q6'] at f11
  have q6 := q6'; clear q6'
  have q7 := ksv (HF 7) rfl rfl rfl
  clear hA HF; have hA := hA'; clear hA'
  replace hB := Base.step hB hE hO; clear hE
  refine (li_nil ?_)
  refine (nx_then ?_)
  refine wp_seq ?_
  obtain ⟨x12, hx12, h⟩ := Comp.run_bind h
  refine' region [SP.vl (rSl rBool) O [false], SP.tup2 (SP.vl (rSl (rInt .i64)) O x12.1) (SP.isv (.int .i64 x12.2)), SP.tup2 (SP.vl (rSl (rInt .i64)) O x12.1) (SP.isv (.int .i64 x12.2)), SP.vl (rSl (rInt .i64)) O x12.1, SP.isv (.int .i64 x12.2), SP.vl (rSl (rInt .i64)) O x12.1, _] mixed hA (.cons ?z6_0 (.cons ?z6_1 (.cons ?z6_2 (.cons ?z6_3 (.cons ?z6_4 (.cons ?z6_5 (.cons ?z6_6 .nil))))))) ?zok6 ?zgd6 ?zk6
  case z6_0 => intro a' w' hE hK hg; exact okl_buildSliceV (r := rBool) (fun _ => rfl) rfl (OkO.ext hB.ok hE) ty71 ty4 (parts_cons rfl parts_nil) ⟨(by first | exact rInt_v.2 rfl | exact rBool_v.2 rfl | exact rStr_v.2 rfl | exact rC_v.2 rfl | exact ⟨_, rfl, rfl⟩), trivial⟩ rfl (by decide)
  case z6_1 => intro a' w' hE hK hg; have c_ := ok_core_Conflicts (OkO.ext hB.ok hE) (kspS (φ := SP.vl (rSl rBool) O [false]) (j := 0) (hK 50 rfl) rfl rfl rfl) hx12; exact ok_weak (ok_call1 fn49 rfl c_) (fun _ _ _ ⟨a_, b_, e0_, h0_, h1_⟩ => ⟨a_, b_, e0_, (fun h => (OwnR.val h (fun g hg => (OkO.ext hB.ok hE) g (OwnR.ge h g hg).1))) h0_, h1_⟩)
  case z6_2 => intro a' w' hE hK hg; exact ok_move_pr (φ := SP.tup2 (SP.vl (rSl (rInt .i64)) O x12.1) (SP.isv (.int .i64 x12.2))) (kspS (φ := SP.tup2 (SP.vl (rSl (rInt .i64)) O x12.1) (SP.isv (.int .i64 x12.2))) (j := 1) (hK 51 rfl) rfl rfl rfl)
  case z6_3 => intro a' w' hE hK hg; exact okl_ext0 (kspS (φ := SP.tup2 (SP.vl (rSl (rInt .i64)) O x12.1) (SP.isv (.int .i64 x12.2))) (j := 2) (hK 49 rfl) rfl rfl rfl)
  case z6_4 => intro a' w' hE hK hg; exact okl_ext1 (kspS (φ := SP.tup2 (SP.vl (rSl (rInt .i64)) O x12.1) (SP.isv (.int .i64 x12.2))) (j := 2) (hK 49 rfl) rfl rfl rfl)
  case z6_5 => intro a' w' hE hK hg; exact ok_assign_pr (φ := SP.vl (rSl (rInt .i64)) O x12.1) (kspS (φ := SP.vl (rSl (rInt .i64)) O x12.1) (j := 3) (hK 52 rfl) rfl rfl rfl)
  case z6_6 => intro a' w' hE hK hg; exact ok_assign (ksv (j := 4) (hK 53 rfl) rfl rfl rfl)
  case zok6 => kernel_rfl
  case zgd6 => kernel_rfl
  intro a6 w6 hA' hE HF
  replace q1 := kn (HF 1) rfl q1
  replace q3 := kn (HF 3) rfl q3
  replace q5 := kn (HF 5) rfl q5
  replace q6 := kn (HF 6) rfl q6
  replace q7 := kn (HF 7) rfl q7
  have f14 := ksp (HF 8) rfl rfl rfl
  obtain ⟨u13, q8'⟩ : ∃ u, a6.get 8 = u := ⟨_, rfl⟩
  rw [q8'] at f14
  have q8 := q8'; clear q8'
  have q9 := ksv (HF 9) rfl rfl rfl
  clear hA HF; have hA := hA'; clear hA'
  replace f11 := GR.v_ext _ f11 hE
  replace hB := Base.step hB hE hO; clear hE
  refine (li_nil ?_)
  refine (nx_then ?_)
  refine wp_seq ?_
  obtain ⟨x15, hx15, h⟩ := Comp.run_bind h
  obtain ⟨x16, hx16, h⟩ := Comp.run_bind h
  refine' region [SP.vl (rSl rBool) O x15, SP.tup2 (SP.vl (rSl (rInt .i64)) O x16.1) (SP.isv (.int .i64 x16.2)), SP.tup2 (SP.vl (rSl (rInt .i64)) O x16.1) (SP.isv (.int .i64 x16.2)), SP.vl (rSl (rInt .i64)) O x16.1, SP.isv (.int .i64 x16.2), SP.vl (rSl (rInt .i64)) O x16.1, _] mixed hA (.cons ?z7_0 (.cons ?z7_1 (.cons ?z7_2 (.cons ?z7_3 (.cons ?z7_4 (.cons ?z7_5 (.cons ?z7_6 .nil))))))) ?zok7 ?zgd7 ?zk7
  case z7_0 => intro a' w' hE hK hg; exact ok_weak (okl_make (r := rBool) (B := w6.heap.size) rfl ty71 ty4 (by decide) rfl hE.size rfl rfl (fun _ _ => rBool_v.2 rfl) hx15) (fun _ _ _ h => OwnR.val h (fun g hg => hB.ok g (Nat.le_trans (Nat.le_refl _) (OwnR.ge h g hg).1)))
  case z7_1 => intro a' w' hE hK hg; have c_ := ok_core_Conflicts (OkO.ext hB.ok hE) (kspS (φ := SP.vl (rSl rBool) O x15) (j := 0) (hK 55 rfl) rfl rfl rfl) hx16; exact ok_weak (ok_call1 fn49 rfl c_) (fun _ _ _ ⟨a_, b_, e0_, h0_, h1_⟩ => ⟨a_, b_, e0_, (fun h => (OwnR.val h (fun g hg => (OkO.ext hB.ok hE) g (OwnR.ge h g hg).1))) h0_, h1_⟩)
  case z7_2 => intro a' w' hE hK hg; exact ok_move_pr (φ := SP.tup2 (SP.vl (rSl (rInt .i64)) O x16.1) (SP.isv (.int .i64 x16.2))) (kspS (φ := SP.tup2 (SP.vl (rSl (rInt .i64)) O x16.1) (SP.isv (.int .i64 x16.2))) (j := 1) (hK 56 rfl) rfl rfl rfl)
  case z7_3 => intro a' w' hE hK hg; exact okl_ext0 (kspS (φ := SP.tup2 (SP.vl (rSl (rInt .i64)) O x16.1) (SP.isv (.int .i64 x16.2))) (j := 2) (hK 54 rfl) rfl rfl rfl)
  case z7_4 => intro a' w' hE hK hg; exact okl_ext1 (kspS (φ := SP.tup2 (SP.vl (rSl (rInt .i64)) O x16.1) (SP.isv (.int .i64 x16.2))) (j := 2) (hK 54 rfl) rfl rfl rfl)
  case z7_5 => intro a' w' hE hK hg; exact ok_assign_pr (φ := SP.vl (rSl (rInt .i64)) O x16.1) (kspS (φ := SP.vl (rSl (rInt .i64)) O x16.1) (j := 3) (hK 57 rfl) rfl rfl rfl)
  case z7_6 => intro a' w' hE hK hg; exact ok_assign (ksv (j := 4) (hK 58 rfl) rfl rfl rfl)
  case zok7 => kernel_rfl
  case zgd7 => kernel_rfl
  intro a7 w7 hA' hE HF
  replace q1 := kn (HF 1) rfl q1
  replace q3 := kn (HF 3) rfl q3
  replace q5 := kn (HF 5) rfl q5
  replace q6 := kn (HF 6) rfl q6
  replace q7 := kn (HF 7) rfl q7
  replace q8 := kn (HF 8) rfl q8
  replace q9 := kn (HF 9) rfl q9
  have q11 := ksv (HF 11) rfl rfl rfl
  clear hA HF; have hA := hA'; clear hA'
  replace f11 := GR.v_ext _ f11 hE
  replace f14 := GR.v_ext _ f14 hE
  replace hB := Base.step hB hE hO; clear hE
  refine (li_nil ?_)
  refine (nx_then ?_)
  refine wp_seq ?_
  obtain ⟨x17, hx17, h⟩ := Comp.run_bind h
  refine' region [SP.vl (rSl rBool) O [false, true], SP.tup2 (SP.vl (rSl (rInt .i64)) O x17.1) (SP.isv (.int .i64 x17.2)), SP.tup2 (SP.vl (rSl (rInt .i64)) O x17.1) (SP.isv (.int .i64 x17.2)), SP.vl (rSl (rInt .i64)) O x17.1, SP.isv (.int .i64 x17.2), SP.vl (rSl (rInt .i64)) O x17.1, _] mixed hA (.cons ?z8_0 (.cons ?z8_1 (.cons ?z8_2 (.cons ?z8_3 (.cons ?z8_4 (.cons ?z8_5 (.cons ?z8_6 .nil))))))) ?zok8 ?zgd8 ?zk8
  case z8_0 => intro a' w' hE hK hg; exact okl_buildSliceV (r := rBool) (fun _ => rfl) rfl (OkO.ext hB.ok hE) ty71 ty4 (parts_cons rfl (parts_cons rfl parts_nil)) ⟨(by first | exact rInt_v.2 rfl | exact rBool_v.2 rfl | exact rStr_v.2 rfl | exact rC_v.2 rfl | exact ⟨_, rfl, rfl⟩), ⟨(by first | exact rInt_v.2 rfl | exact rBool_v.2 rfl | exact rStr_v.2 rfl | exact rC_v.2 rfl | exact ⟨_, rfl, rfl⟩), trivial⟩⟩ rfl (by decide)
  case z8_1 => intro a' w' hE hK hg; have c_ := ok_core_Conflicts (OkO.ext hB.ok hE) (kspS (φ := SP.vl (rSl rBool) O [false, true]) (j := 0) (hK 60 rfl) rfl rfl rfl) hx17; exact ok_weak (ok_call1 fn49 rfl c_) (fun _ _ _ ⟨a_, b_, e0_, h0_, h1_⟩ => ⟨a_, b_, e0_, (fun h => (OwnR.val h (fun g hg => (OkO.ext hB.ok hE) g (OwnR.ge h g hg).1))) h0_, h1_⟩)
  case z8_2 => intro a' w' hE hK hg; exact ok_move_pr (φ := SP.tup2 (SP.vl (rSl (rInt .i64)) O x17.1) (SP.isv (.int .i64 x17.2))) (kspS (φ := SP.tup2 (SP.vl (rSl (rInt .i64)) O x17.1) (SP.isv (.int .i64 x17.2))) (j := 1) (hK 61 rfl) rfl rfl rfl)
  case z8_3 => intro a' w' hE hK hg; exact okl_ext0 (kspS (φ := SP.tup2 (SP.vl (rSl (rInt .i64)) O x17.1) (SP.isv (.int .i64 x17.2))) (j := 2) (hK 59 rfl) rfl rfl rfl)
  case z8_4 => intro a' w' hE hK hg; exact okl_ext1 (kspS (φ := SP.tup2 (SP.vl (rSl (rInt .i64)) O x17.1) (SP.isv (.int .i64 x17.2))) (j := 2) (hK 59 rfl) rfl rfl rfl)
  case z8_5 => intro a' w' hE hK hg; exact ok_assign_pr (φ := SP.vl (rSl (rInt .i64)) O x17.1) (kspS (φ := SP.vl (rSl (rInt .i64)) O x17.1) (j := 3) (hK 62 rfl) rfl rfl rfl)
  case z8_6 => intro a' w' hE hK hg; exact ok_assign (ksv (j := 4) (hK 63 rfl) rfl rfl rfl)
  case zok8 => kernel_rfl
  case zgd8 => kernel_rfl
  intro a8 w8 hA' hE HF
  replace q1 := kn (HF 1) rfl q1
  replace q3 := kn (HF 3) rfl q3
  replace q5 := kn (HF 5) rfl q5
  replace q6 := kn (HF 6) rfl q6
  replace q7 := kn (HF 7) rfl q7
  replace q8 := kn (HF 8) rfl q8
  replace q9 := kn (HF 9) rfl q9
  replace q11 := kn (HF 11) rfl q11
  have q13 := ksv (HF 13) rfl rfl rfl
  clear hA HF; have hA := hA'; clear hA'
  replace f11 := GR.v_ext _ f11 hE
  replace f14 := GR.v_ext _ f14 hE
  replace hB := Base.step hB hE hO; clear hE
  refine (li_nil ?_)
  refine (nx_then ?_)
  refine wp_seq ?_
  obtain ⟨x18, hx18, h⟩ := Comp.run_bind h
  refine' region [SP.vl (rSl (rInt .i64)) O [7, 6, 3], SP.tup2 (SP.isv (.int .i64 x18.1)) (SP.isv (.bool x18.2)), SP.tup2 (SP.isv (.int .i64 x18.1)) (SP.isv (.bool x18.2)), SP.isv (.int .i64 x18.1), SP.isv (.bool x18.2), _, _] mixed hA (.cons ?z9_0 (.cons ?z9_1 (.cons ?z9_2 (.cons ?z9_3 (.cons ?z9_4 (.cons ?z9_5 (.cons ?z9_6 .nil))))))) ?zok9 ?zgd9 ?zk9
  case z9_0 => intro a' w' hE hK hg; exact okl_buildSliceV (r := (rInt .i64)) (fun _ => rfl) rfl (OkO.ext hB.ok hE) ty58 ty3 (parts_cons rfl (parts_cons rfl (parts_cons rfl parts_nil))) ⟨(by first | exact rInt_v.2 rfl | exact rBool_v.2 rfl | exact rStr_v.2 rfl | exact rC_v.2 rfl | exact ⟨_, rfl, rfl⟩), ⟨(by first | exact rInt_v.2 rfl | exact rBool_v.2 rfl | exact rStr_v.2 rfl | exact rC_v.2 rfl | exact ⟨_, rfl, rfl⟩), ⟨(by first | exact rInt_v.2 rfl | exact rBool_v.2 rfl | exact rStr_v.2 rfl | exact rC_v.2 rfl | exact ⟨_, rfl, rfl⟩), trivial⟩⟩⟩ rfl (by decide)
  case z9_1 => intro a' w' hE hK hg; have c_ := ok_core_Least (OkO.ext hB.ok hE) (kspS (φ := SP.vl (rSl (rInt .i64)) O [7, 6, 3]) (j := 0) (hK 65 rfl) rfl rfl rfl) hx18; exact ok_call1 fn44 rfl c_
  case z9_2 => intro a' w' hE hK hg; exact ok_move_pr (φ := SP.tup2 (SP.isv (.int .i64 x18.1)) (SP.isv (.bool x18.2))) (kspS (φ := SP.tup2 (SP.isv (.int .i64 x18.1)) (SP.isv (.bool x18.2))) (j := 1) (hK 66 rfl) rfl rfl rfl)
  case z9_3 => intro a' w' hE hK hg; exact okl_ext0 (kspS (φ := SP.tup2 (SP.isv (.int .i64 x18.1)) (SP.isv (.bool x18.2))) (j := 2) (hK 64 rfl) rfl rfl rfl)
  case z9_4 => intro a' w' hE hK hg; exact okl_ext1 (kspS (φ := SP.tup2 (SP.isv (.int .i64 x18.1)) (SP.isv (.bool x18.2))) (j := 2) (hK 64 rfl) rfl rfl rfl)
  case z9_5 => intro a' w' hE hK hg; exact ok_assign (ksv (j := 3) (hK 67 rfl) rfl rfl rfl)
  case z9_6 => intro a' w' hE hK hg; exact ok_assign (ksv (j := 4) (hK 68 rfl) rfl rfl rfl)
  case zok9 => kernel_rfl
  case zgd9 => kernel_rfl
  intro a9 w9 hA' hE HF
  replace q1 := kn (HF 1) rfl q1
  replace q3 := kn (HF 3) rfl q3
  replace q5 := kn (HF 5) rfl q5
  replace q6 := kn (HF 6) rfl q6
  replace q7 := kn (HF 7) rfl q7
  replace q8 := kn (HF 8) rfl q8
  replace q9 := kn (HF 9) rfl q9
  replace q11 := kn (HF 11) rfl q11
  replace q13 := kn (HF 13) rfl q13
  have q14 := ksv (HF 14) rfl rfl rfl
  have q15 := ksv (HF 15) rfl rfl rfl
  clear hA HF; have hA := hA'; clear hA'
  replace f11 := GR.v_ext _ f11 hE
  replace f14 := GR.v_ext _ f14 hE
  replace hB := Base.step hB hE hO; clear hE
  refine (li_nil ?_)
  refine (nx_then ?_)
  refine wp_seq ?_
  obtain ⟨x19, hx19, h⟩ := Comp.run_bind h
  refine' region [SP.tup2 (SP.isv (.int .i64 x19.1)) (SP.isv (.bool x19.2)), SP.tup2 (SP.isv (.int .i64 x19.1)) (SP.isv (.bool x19.2)), SP.isv (.int .i64 x19.1), SP.isv (.bool x19.2), _, _] mixed hA (.cons ?z10_0 (.cons ?z10_1 (.cons ?z10_2 (.cons ?z10_3 (.cons ?z10_4 (.cons ?z10_5 .nil)))))) ?zok10 ?zgd10 ?zk10
  case z10_0 => intro a' w' hE hK hg; have c_ := ok_core_Least (OkO.ext hB.ok hE) (rSl_nil _ _ _ 0) hx19; exact ok_call1 fn44 rfl c_
  case z10_1 => intro a' w' hE hK hg; exact ok_move_pr (φ := SP.tup2 (SP.isv (.int .i64 x19.1)) (SP.isv (.bool x19.2))) (kspS (φ := SP.tup2 (SP.isv (.int .i64 x19.1)) (SP.isv (.bool x19.2))) (j := 0) (hK 70 rfl) rfl rfl rfl)
  case z10_2 => intro a' w' hE hK hg; exact okl_ext0 (kspS (φ := SP.tup2 (SP.isv (.int .i64 x19.1)) (SP.isv (.bool x19.2))) (j := 1) (hK 69 rfl) rfl rfl rfl)
  case z10_3 => intro a' w' hE hK hg; exact okl_ext1 (kspS (φ := SP.tup2 (SP.isv (.int .i64 x19.1)) (SP.isv (.bool x19.2))) (j := 1) (hK 69 rfl) rfl rfl rfl)
  case z10_4 => intro a' w' hE hK hg; exact ok_assign (ksv (j := 2) (hK 71 rfl) rfl rfl rfl)
  case z10_5 => intro a' w' hE hK hg; exact ok_assign (ksv (j := 3) (hK 72 rfl) rfl rfl rfl)
  case zok10 => kernel_rfl
  case zgd10 => kernel_rfl
  intro a10 w10 hA' hE HF
  replace q1 := kn (HF 1) rfl q1
  replace q3 := kn (HF 3) rfl q3
  replace q5 := kn (HF 5) rfl q5
  replace q6 := kn (HF 6) rfl q6
  replace q7 := kn (HF 7) rfl q7
  replace q8 := kn (HF 8) rfl q8
  replace q9 := kn (HF 9) rfl q9
  replace q11 := kn (HF 11) rfl q11
  replace q13 := kn (HF 13) rfl q13
  replace q14 := kn (HF 14) rfl q14
  replace q15 := kn (HF 15) rfl q15
  have q17 := ksv (HF 17) rfl rfl rfl
  clear hA HF; have hA := hA'; clear hA'
  replace f11 := GR.v_ext _ f11 hE
  replace f14 := GR.v_ext _ f14 hE
  replace hB := Base.step hB hE hO; clear hE
  refine (li_nil ?_)
  refine (nx_then ?_)
  refine wp_seq ?_
  obtain ⟨x20, hx20, h⟩ := Comp.run_bind h
  obtain ⟨x21, hx21, h⟩ := Comp.run_bind h
  refine' region [_, _, _, _, _, _, _, _, _, _, _, _, _, _, _, _, _, _, _, SP.vl (rSl (rInt .i64)) O [3, 5, 6], SP.isv (.bool x20), _, _, _, SP.vl (rSl (rInt .i64)) O [0], SP.isv (.bool x21), _, _, _, _, _, _, _, _, _, _, _, _, _, _, _, _, _, _, _, _, _] mixed hA (.cons ?z11_0 (.cons ?z11_1 (.cons ?z11_2 (.cons ?z11_3 (.cons ?z11_4 (.cons ?z11_5 (.cons ?z11_6 (.cons ?z11_7 (.cons ?z11_8 (.cons ?z11_9 (.cons ?z11_10 (.cons ?z11_11 (.cons ?z11_12 (.cons ?z11_13 (.cons ?z11_14 (.cons ?z11_15 (.cons ?z11_16 (.cons ?z11_17 (.cons ?z11_18 (.cons ?z11_19 (.cons ?z11_20 (.cons ?z11_21 (.cons ?z11_22 (.cons ?z11_23 (.cons ?z11_24 (.cons ?z11_25 (.cons ?z11_26 (.cons ?z11_27 (.cons ?z11_28 (.cons ?z11_29 (.cons ?z11_30 (.cons ?z11_31 (.cons ?z11_32 (.cons ?z11_33 (.cons ?z11_34 (.cons ?z11_35 (.cons ?z11_36 (.cons ?z11_37 (.cons ?z11_38 (.cons ?z11_39 (.cons ?z11_40 (.cons ?z11_41 (.cons ?z11_42 (.cons ?z11_43 (.cons ?z11_44 (.cons ?z11_45 (.cons ?z11_46 .nil))))))))))))))))))))))))))))))))))))))))))))))) ?zok11 ?zgd11 ?zk11
  case z11_0 => intro a' w' hE hK hg; exact ok_move (kn (hK 1 rfl) rfl q1)
  case z11_1 => intro a' w' hE hK hg; exact ok_move (ksv (j := 0) (hK 73 rfl) rfl rfl rfl)
  case z11_2 => intro a' w' hE hK hg; exact ok_move (kn (hK 3 rfl) rfl q3)
  case z11_3 => intro a' w' hE hK hg; exact ok_eqlI (ksv (j := 2) (hK 75 rfl) rfl rfl hg) rfl
  case z11_4 => intro a' w' hE hK hg; exact ok_pick (ksv (j := 1) (hK 74 rfl) rfl rfl rfl) (fun hb => ksv (j := 3) (hK 76 rfl) rfl rfl (act_g1 rfl rfl hb)) (fun _ => rfl)
  case z11_5 => intro a' w' hE hK hg; exact ok_move (ksv (j := 4) (hK 77 rfl) rfl rfl rfl)
  case z11_6 => intro a' w' hE hK hg; exact ok_move (kn (hK 5 rfl) rfl q5)
  case z11_7 => intro a' w' hE hK hg; exact ok_eqlI (ksv (j := 6) (hK 79 rfl) rfl rfl hg) rfl
  case z11_8 => intro a' w' hE hK hg; exact ok_pick (ksv (j := 5) (hK 78 rfl) rfl rfl rfl) (fun hb => ksv (j := 7) (hK 80 rfl) rfl rfl (act_g1 rfl rfl hb)) (fun _ => rfl)
  case z11_9 => intro a' w' hE hK hg; exact ok_move (ksv (j := 8) (hK 81 rfl) rfl rfl rfl)
  case z11_10 => intro a' w' hE hK hg; exact ok_move (kn (hK 7 rfl) rfl q7)
  case z11_11 => intro a' w' hE hK hg; exact ok_eqlI (ksv (j := 10) (hK 83 rfl) rfl rfl hg) rfl
  case z11_12 => intro a' w' hE hK hg; exact ok_pick (ksv (j := 9) (hK 82 rfl) rfl rfl rfl) (fun hb => ksv (j := 11) (hK 84 rfl) rfl rfl (act_g1 rfl rfl hb)) (fun _ => rfl)
  case z11_13 => intro a' w' hE hK hg; exact ok_move (ksv (j := 12) (hK 85 rfl) rfl rfl rfl)
  case z11_14 => intro a' w' hE hK hg; exact ok_move (kn (hK 9 rfl) rfl q9)
  case z11_15 => intro a' w' hE hK hg; exact ok_eqlI (ksv (j := 14) (hK 87 rfl) rfl rfl hg) rfl
  case z11_16 => intro a' w' hE hK hg; exact ok_pick (ksv (j := 13) (hK 86 rfl) rfl rfl rfl) (fun hb => ksv (j := 15) (hK 88 rfl) rfl rfl (act_g1 rfl rfl hb)) (fun _ => rfl)
  case z11_17 => intro a' w' hE hK hg; exact ok_move (ksv (j := 16) (hK 89 rfl) rfl rfl rfl)
  case z11_18 => intro a' w' hE hK hg; exact ok_move (kn (hK 6 rfl) rfl q6)
  case z11_19 => intro a' w' hE hK hg; exact okl_buildSliceV (r := (rInt .i64)) (fun _ => rfl) rfl (OkO.ext hB.ok hE) ty58 ty3 (parts_cons rfl (parts_cons rfl (parts_cons rfl parts_nil))) ⟨(by first | exact rInt_v.2 rfl | exact rBool_v.2 rfl | exact rStr_v.2 rfl | exact rC_v.2 rfl | exact ⟨_, rfl, rfl⟩), ⟨(by first | exact rInt_v.2 rfl | exact rBool_v.2 rfl | exact rStr_v.2 rfl | exact rC_v.2 rfl | exact ⟨_, rfl, rfl⟩), ⟨(by first | exact rInt_v.2 rfl | exact rBool_v.2 rfl | exact rStr_v.2 rfl | exact rC_v.2 rfl | exact ⟨_, rfl, rfl⟩), trivial⟩⟩⟩ rfl (by decide)
  case z11_20 => intro a' w' hE hK hg; have c_ := ok_colletref32_Same (OkO.ext hB.ok hE) (GR.v_ext _ f11 hE) (kspS (φ := SP.vl (rSl (rInt .i64)) O [3, 5, 6]) (j := 19) (hK 92 rfl) rfl rfl hg) (run_gdb hx20 hg); exact ok_call2 fn41 (ksv (j := 18) (hK 91 rfl) rfl rfl hg) rfl c_
  case z11_21 => intro a' w' hE hK hg; exact ok_pick (ksv (j := 17) (hK 90 rfl) rfl rfl rfl) (fun hb => ksv (j := 20) (hK 93 rfl) rfl rfl (act_g1 rfl rfl hb)) (fun _ => rfl)
  case z11_22 => intro a' w' hE hK hg; exact ok_move (ksv (j := 21) (hK 94 rfl) rfl rfl rfl)
  case z11_23 => intro a' w' hE hK hg; exact ok_move (kn (hK 8 rfl) rfl q8)
  case z11_24 => intro a' w' hE hK hg; exact okl_buildSliceV (r := (rInt .i64)) (fun _ => rfl) rfl (OkO.ext hB.ok hE) ty58 ty3 (parts_cons rfl parts_nil) ⟨(by first | exact rInt_v.2 rfl | exact rBool_v.2 rfl | exact rStr_v.2 rfl | exact rC_v.2 rfl | exact ⟨_, rfl, rfl⟩), trivial⟩ rfl (by decide)
  case z11_25 => intro a' w' hE hK hg; have c_ := ok_colletref32_Same (OkO.ext hB.ok hE) (GR.v_ext _ f14 hE) (kspS (φ := SP.vl (rSl (rInt .i64)) O [0]) (j := 24) (hK 97 rfl) rfl rfl hg) (run_gdb hx21 hg); exact ok_call2 fn41 (ksv (j := 23) (hK 96 rfl) rfl rfl hg) rfl c_
  case z11_26 => intro a' w' hE hK hg; exact ok_pick (ksv (j := 22) (hK 95 rfl) rfl rfl rfl) (fun hb => ksv (j := 25) (hK 98 rfl) rfl rfl (act_g1 rfl rfl hb)) (fun _ => rfl)
  case z11_27 => intro a' w' hE hK hg; exact ok_move (ksv (j := 26) (hK 99 rfl) rfl rfl rfl)
  case z11_28 => intro a' w' hE hK hg; exact ok_move (kn (hK 11 rfl) rfl q11)
  case z11_29 => intro a' w' hE hK hg; exact ok_eqlI (ksv (j := 28) (hK 101 rfl) rfl rfl hg) rfl
  case z11_30 => intro a' w' hE hK hg; exact ok_pick (ksv (j := 27) (hK 100 rfl) rfl rfl rfl) (fun hb => ksv (j := 29) (hK 102 rfl) rfl rfl (act_g1 rfl rfl hb)) (fun _ => rfl)
  case z11_31 => intro a' w' hE hK hg; exact ok_move (ksv (j := 30) (hK 103 rfl) rfl rfl rfl)
  case z11_32 => intro a' w' hE hK hg; exact ok_move (kn (hK 13 rfl) rfl q13)
  case z11_33 => intro a' w' hE hK hg; exact ok_eqlI (ksv (j := 32) (hK 105 rfl) rfl rfl hg) rfl
  case z11_34 => intro a' w' hE hK hg; exact ok_pick (ksv (j := 31) (hK 104 rfl) rfl rfl rfl) (fun hb => ksv (j := 33) (hK 106 rfl) rfl rfl (act_g1 rfl rfl hb)) (fun _ => rfl)
  case z11_35 => intro a' w' hE hK hg; exact ok_move (ksv (j := 34) (hK 107 rfl) rfl rfl rfl)
  case z11_36 => intro a' w' hE hK hg; exact ok_move (kn (hK 15 rfl) rfl q15)
  case z11_37 => intro a' w' hE hK hg; exact ok_pick (ksv (j := 35) (hK 108 rfl) rfl rfl rfl) (fun hb => ksv (j := 36) (hK 109 rfl) rfl rfl (act_g1 rfl rfl hb)) (fun _ => rfl)
  case z11_38 => intro a' w' hE hK hg; exact ok_move (ksv (j := 37) (hK 110 rfl) rfl rfl rfl)
  case z11_39 => intro a' w' hE hK hg; exact ok_move (kn (hK 14 rfl) rfl q14)
  case z11_40 => intro a' w' hE hK hg; exact ok_eqlI (ksv (j := 39) (hK 112 rfl) rfl rfl hg) rfl
  case z11_41 => intro a' w' hE hK hg; exact ok_pick (ksv (j := 38) (hK 111 rfl) rfl rfl rfl) (fun hb => ksv (j := 40) (hK 113 rfl) rfl rfl (act_g1 rfl rfl hb)) (fun _ => rfl)
  case z11_42 => intro a' w' hE hK hg; exact ok_move (ksv (j := 41) (hK 114 rfl) rfl rfl rfl)
  case z11_43 => intro a' w' hE hK hg; exact ok_move (kn (hK 17 rfl) rfl q17)
  case z11_44 => intro a' w' hE hK hg; exact ok_not (ksv (j := 43) (hK 116 rfl) rfl rfl hg)
  case z11_45 => intro a' w' hE hK hg; exact ok_pick (ksv (j := 42) (hK 115 rfl) rfl rfl rfl) (fun hb => ksv (j := 44) (hK 117 rfl) rfl rfl (act_g1 rfl rfl hb)) (fun _ => rfl)
  case z11_46 => intro a' w' hE hK hg; exact ok_assign (ksv (j := 45) (hK 118 rfl) rfl rfl rfl)
  case zok11 => kernel_rfl
  case zgd11 => kernel_rfl
  intro a11 w11 hA' hE HF
  have q0 := ksv (HF 0) rfl rfl rfl
  clear q1
  clear q3
  clear q5
  clear q6
  clear q7
  clear q8
  clear q9
  clear q11
  clear q13
  clear q14
  clear q15
  clear q17
  clear hA HF; have hA := hA'; clear hA'
  replace f11 := GR.v_ext _ f11 hE
  replace f14 := GR.v_ext _ f14 hE
  replace hB := Base.step hB hE hO; clear hE
  obtain ⟨x22, hx_, h⟩ := Comp.run_bind h; replace hx_ := Comp.run_pure hx_; rw [hx_] at q0; clear hx_
  refine (li_nil ?_)
  refine (nx_then ?_)
  refine (wp_ret ?_)
  have h := Comp.run_pure h; subst h
  exact retPure Try.results38 hA q0 hB.ext rfl

theorem ok_colletlaw32_cut {O : Tags} {w0 : World} (hO : OkO O w0) {v_0 : Value} {x_0 : List Int} (h_0 : (rSl (rInt .i64)).v O w0 v_0 x_0) {n : Nat} {y : (List Int)} (h : (colletlaw32_cut x_0).run n = some y) : Pure Try.prog 39 #[v_0] w0 (SP.vl (rSl (rInt .i64)) O y).holds := by
  unfold colletlaw32_cut at h
  refine pure_of_wp Try.func39 rfl 8 Try.ntmps39 (by simp) fun a0 hA hs0 => ?_
  have q0 := hs0 0 _ rfl
  clear hs0
  have hB : Base (Fr w0) O w0 O w0 := Base.start hO
  refine wp_seq ?_
  refine' region [_] mixed hA (.cons ?z1_0 .nil) ?zok1 ?zgd1 ?zk1
  case z1_0 => intro a' w' hE hK hg; exact ok_assign rfl
  case zok1 => kernel_rfl
  case zgd1 => kernel_rfl
  intro a1 w1 hA' hE HF
  replace q0 := kn (HF 0) rfl q0
  clear hA HF; have hA := hA'; clear hA'
  replace h_0 := GR.v_ext _ h_0 hE
  replace hB := Base.step hB hE hO; clear hE
  refine (li_nil ?_)
  refine (nx_then ?_)
  refine wp_seq ?_
  obtain ⟨x1, hx1, h⟩ := Comp.run_bind h
  refine' region [_, _, _, _, SP.vl (rSl (rInt .i64)) O x1, SP.vl (rSl (rInt .i64)) O x1] mixed hA (.cons ?z2_0 (.cons ?z2_1 (.cons ?z2_2 (.cons ?z2_3 (.cons ?z2_4 (.cons ?z2_5 .nil)))))) ?zok2 ?zgd2 ?zk2
  case z2_0 => intro a' w' hE hK hg; exact ok_move (kn (hK 0 rfl) rfl q0)
  case z2_1 => intro a' w' hE hK hg; exact ok_move (kn (hK 0 rfl) rfl q0)
  case z2_2 => intro a' w' hE hK hg; exact okl_len (r := (rInt .i64)) ty58 (ksv (j := 1) (hK 4 rfl) rfl rfl rfl) (rd_of (GR.v_ext _ h_0 hE))
  case z2_3 => intro a' w' hE hK hg; exact ok_min (ksv (j := 2) (hK 5 rfl) rfl rfl rfl) rfl
  case z2_4 => intro a' w' hE hK hg; exact okl_slice_h (r := (rInt .i64)) ty58 ty3 rfl (ksv (j := 0) (hK 3 rfl) rfl rfl rfl) (GR.v_ext _ h_0 hE) (ksv (j := 3) (hK 6 rfl) rfl rfl rfl) hx1
  case z2_5 => intro a' w' hE hK hg; exact ok_assign_pr (φ := SP.vl (rSl (rInt .i64)) O x1) (kspS (φ := SP.vl (rSl (rInt .i64)) O x1) (j := 4) (hK 7 rfl) rfl rfl rfl)
  case zok2 => kernel_rfl
  case zgd2 => kernel_rfl
  intro a2 w2 hA' hE HF
  have f3 := ksp (HF 2) rfl rfl rfl
  obtain ⟨u2, q2'⟩ : ∃ u, a2.get 2 = u := ⟨_, rfl⟩
  rw [q2'] at f3
  have q2 := q2'; clear q2'
  clear q0
  clear hA HF; have hA := hA'; clear hA'
  replace h_0 := GR.v_ext _ h_0 hE
  replace hB := Base.step hB hE hO; clear hE
  refine (li_nil ?_)
  refine (nx_then ?_)
  refine (wp_ret ?_)
  have h := Comp.run_pure h; subst h
  exact retPure Try.results39 hA q2 hB.ext (hB.res (rSl (rInt .i64)) f3)

theorem ok_colletref01_Mod {O : Tags} {w0 : World} (hO : OkO O w0) {x_0 : Int} {x_1 : Int} {n : Nat} {y : Int} (h : (colletref01_Mod x_0 x_1).run n = some y) : Pure Try.prog 37 #[.int .i64 x_0, .int .i64 x_1] w0 (SP.isv (.int .i64 y)).holds := by
  unfold colletref01_Mod at h
  refine pure_of_wp Try.func37 rfl 14 Try.ntmps37 (by simp) fun a0 hA hs0 => ?_
  have q0 := hs0 0 _ rfl
  have q1 := hs0 1 _ rfl
  clear hs0
  have hB : Base (Fr w0) O w0 O w0 := Base.start hO
  refine wp_seq ?_
  refine' region [_] mixed hA (.cons ?z1_0 .nil) ?zok1 ?zgd1 ?zk1
  case z1_0 => intro a' w' hE hK hg; exact ok_assign rfl
  case zok1 => kernel_rfl
  case zgd1 => kernel_rfl
  intro a1 w1 hA' hE HF
  replace q0 := kn (HF 0) rfl q0
  replace q1 := kn (HF 1) rfl q1
  clear hA HF; have hA := hA'; clear hA'
  replace hB := Base.step hB hE hO; clear hE
  refine (li_nil ?_)
  refine (nx_then ?_)
  refine wp_seq ?_
  refine wp_seq ?_
  refine' region [_, _] mixed hA (.cons ?z2_0 (.cons ?z2_1 .nil)) ?zok2 ?zgd2 ?zk2
  case z2_0 => intro a' w' hE hK hg; exact ok_move (kn (hK 1 rfl) rfl q1)
  case z2_1 => intro a' w' hE hK hg; exact ok_lss (ksv (j := 0) (hK 5 rfl) rfl rfl rfl) rfl
  case zok2 => kernel_rfl
  case zgd2 => kernel_rfl
  intro a2 w2 hA' hE HF
  replace q0 := kn (HF 0) rfl q0
  replace q1 := kn (HF 1) rfl q1
  have q6 := ksv (HF 6) rfl rfl rfl
  clear hA HF; have hA := hA'; clear hA'
  replace hB := Base.step hB hE hO; clear hE
  refine (li_nil ?_)
  refine (nx_then ?_)
  refine wp_cond_b q6 (fun hc => ?_) (fun hc => ?_)
  ·
    replace h := Comp.run_b_t hc h; clear hc
    refine wp_seq ?_
    refine' region [_] mixed hA (.cons ?z3_0 .nil) ?zok3 ?zgd3 ?zk3
    case z3_0 => intro a' w' hE hK hg; exact ok_assign rfl
    case zok3 => kernel_rfl
    case zgd3 => kernel_rfl
    intro a3 w3 hA' hE HF
    have q4 := ksv (HF 4) rfl rfl rfl
    clear q0
    clear q1
    clear q6
    clear hA HF; have hA := hA'; clear hA'
    replace hB := Base.step hB hE hO; clear hE
    refine (li_nil ?_)
    refine (nx_then ?_)
    refine (wp_ret (rt_then ?_))
    have h := Comp.run_pure h; subst h
    exact retPure Try.results37 hA q4 hB.ext rfl
  ·
    replace h := Comp.run_b_f hc h; clear hc
    refine wp_skip ?_
    refine (nx_then ?_)
    refine wp_seq ?_
    obtain ⟨x1, hx1, h⟩ := Comp.run_bind h
    obtain ⟨x2, hx2, h⟩ := Comp.run_bind h
    refine' region [_, _, SP.isv (.int .i64 x1), _, _, _, SP.isv (.int .i64 x2), _] mixed hA (.cons ?z4_0 (.cons ?z4_1 (.cons ?z4_2 (.cons ?z4_3 (.cons ?z4_4 (.cons ?z4_5 (.cons ?z4_6 (.cons ?z4_7 .nil)))))))) ?zok4 ?zgd4 ?zk4
    case z4_0 => intro a' w' hE hK hg; exact ok_move (kn (hK 0 rfl) rfl q0)
    case z4_1 => intro a' w' hE hK hg; exact ok_move (kn (hK 1 rfl) rfl q1)
    case z4_2 => intro a' w' hE hK hg; exact ok_isv (ok_rem (ksv (j := 0) (hK 7 rfl) rfl rfl rfl) (ksv (j := 1) (hK 8 rfl) rfl rfl rfl) (run_rem hx1).1) (congrArg _ (run_rem hx1).2)
    case z4_3 => intro a' w' hE hK hg; exact ok_move (kn (hK 1 rfl) rfl q1)
    case z4_4 => intro a' w' hE hK hg; exact ok_add (ksv (j := 2) (hK 9 rfl) rfl rfl rfl) (ksv (j := 3) (hK 10 rfl) rfl rfl rfl)
    case z4_5 => intro a' w' hE hK hg; exact ok_move (kn (hK 1 rfl) rfl q1)
    case z4_6 => intro a' w' hE hK hg; exact ok_isv (ok_rem (ksv (j := 4) (hK 11 rfl) rfl rfl rfl) (ksv (j := 5) (hK 12 rfl) rfl rfl rfl) (run_rem hx2).1) (congrArg _ (run_rem hx2).2)
    case z4_7 => intro a' w' hE hK hg; exact ok_assign (ksv (j := 6) (hK 13 rfl) rfl rfl rfl)
    case zok4 => kernel_rfl
    case zgd4 => kernel_rfl
    intro a4 w4 hA' hE HF
    have q4 := ksv (HF 4) rfl rfl rfl
    clear q0
    clear q1
    clear q6
    clear hA HF; have hA := hA'; clear hA'
    replace hB := Base.step hB hE hO; clear hE
    refine (li_nil ?_)
    refine (nx_then ?_)
    refine (wp_ret ?_)
    have h := Comp.run_pure h; subst h
    exact retPure Try.results37 hA q4 hB.ext rfl

theorem ok_colletref32_Sets {O : Tags} {w0 : World} (hO : OkO O w0) {v_0 : Value} {x_0 : List Int} (h_0 : (rSl (rInt .i64)).v O w0 v_0 x_0) {x_1 : Int} {n : Nat} {y : (List Int)} (h : (colletref32_Sets x_0 x_1).run n = some y) : Pure Try.prog 40 #[v_0, .int .i64 x_1] w0 (SP.ownr (rInt .i64) 3 (w0.heap.size) O y).holds := by
  unfold colletref32_Sets at h
  refine pure_of_wp Try.func40 rfl 28 Try.ntmps40 (by simp) fun a0 hA hs0 => ?_
  have q0 := hs0 0 _ rfl
  have q1 := hs0 1 _ rfl
  clear hs0
  have hB : Base (Fr w0) O w0 O w0 := Base.start hO
  refine wp_seq ?_
  refine' region [_] mixed hA (.cons ?z1_0 .nil) ?zok1 ?zgd1 ?zk1
  case z1_0 => intro a' w' hE hK hg; exact ok_assign rfl
  case zok1 => kernel_rfl
  case zgd1 => kernel_rfl
  intro a1 w1 hA' hE HF
  replace q0 := kn (HF 0) rfl q0
  replace q1 := kn (HF 1) rfl q1
  clear hA HF; have hA := hA'; clear hA'
  replace h_0 := GR.v_ext _ h_0 hE
  replace hB := Base.step hB hE hO; clear hE
  refine (li_nil ?_)
  refine (nx_then ?_)
  refine wp_seq ?_
  refine' region [_] mixed hA (.cons ?z2_0 .nil) ?zok2 ?zgd2 ?zk2
  case z2_0 => intro a' w' hE hK hg; exact ok_assign rfl
  case zok2 => kernel_rfl
  case zgd2 => kernel_rfl
  intro a2 w2 hA' hE HF
  replace q0 := kn (HF 0) rfl q0
  replace q1 := kn (HF 1) rfl q1
  have q5 := ksv (HF 5) rfl rfl rfl
  clear hA HF; have hA := hA'; clear hA'
  replace h_0 := GR.v_ext _ h_0 hE
  replace hB := Base.step hB hE hO; clear hE
  refine (li_nil ?_)
  refine (nx_then ?_)
  refine seq_join (fun a w => ∃ (O21 : Tags) (x18 : List Int) (u19 : Value), a.fit 28 ∧ Base (Fr w0) O w0 O21 w ∧ a.get 5 = u19 ∧ OwnL 1 (rInt .i64) 3 (Fr w0) O21 w u19 x18 ∧ (colletref32_Sets_j1 x18).run n = some y) ?_ ?_
  ·
    refine wp_seq ?_
    refine' region [_] mixed hA (.cons ?z3_0 .nil) ?zok3 ?zgd3 ?zk3
    case z3_0 => intro a' w' hE hK hg; exact ok_assign rfl
    case zok3 => kernel_rfl
    case zgd3 => kernel_rfl
    intro a3 w3 hA' hE HF
    replace q0 := kn (HF 0) rfl q0
    replace q1 := kn (HF 1) rfl q1
    replace q5 := kn (HF 5) rfl q5
    have q6 := ksv (HF 6) rfl rfl rfl
    clear hA HF; have hA := hA'; clear hA'
    replace h_0 := GR.v_ext _ h_0 hE
    replace hB := Base.step hB hE hO; clear hE
    refine (li_nil ?_)
    refine (nx_then ?_)
    refine wp_block ?_
    obtain ⟨e2, he2, hk2⟩ := Comp.run_bind h; clear h
    refine loop_m (fun m a w => ∃ (O5 : Tags) (x1 : List Int) (x4 : Int) (u2 : Value), a.fit 28 ∧ Base (Fr w0) O w0 O5 w ∧ a.get 0 = v_0 ∧ (rSl (rInt .i64)).v O5 w v_0 x_0 ∧ a.get 1 = .int .i64 x_1 ∧ a.get 5 = u2 ∧ OwnL 1 (rInt .i64) 3 (Fr w0) O5 w u2 x1 ∧ a.get 6 = .int .i64 x4 ∧ Comp.loopN (fun s => colletref32_Sets_l2 x_0 x_1 s.1 s.2) n m (x1, x4) = some e2) (m := n) ?st2 ?_
    case st2 =>
      exact ⟨_, _, _, _, hA, hB, q0, h_0, q1, q5, (OwnL.nil _ _ _ _ _ _), q6, Comp.run_loop he2⟩
    intro m_ a4 w4 hI
    clear hA hB he2 q0 q1 q5 q6 h_0
    obtain ⟨O5, x1, x4, u2, hA, hB, q0, h_0, q1, q5, f3, q6, hl⟩ := hI
    obtain ⟨m2, hlt2, st2, h, hnext2, hdone2⟩ := Comp.loopN_succ hl; clear hl
    replace h : (colletref32_Sets_l2 x_0 x_1 x1 x4).run n = some st2 := h
    unfold colletref32_Sets_l2 at h
    refine wp_seq ?_
    refine wp_seq ?_
    refine' region [_, _, _, _, _, _, _, _] mixed hA (.cons ?z4_0 (.cons ?z4_1 (.cons ?z4_2 (.cons ?z4_3 (.cons ?z4_4 (.cons ?z4_5 (.cons ?z4_6 (.cons ?z4_7 .nil)))))))) ?zok4 ?zgd4 ?zk4
    case z4_0 => intro a' w' hE hK hg; exact ok_move (kn (hK 6 rfl) rfl q6)
    case z4_1 => intro a' w' hE hK hg; exact ok_move (kn (hK 0 rfl) rfl q0)
    case z4_2 => intro a' w' hE hK hg; exact okl_len (r := (rInt .i64)) ty58 (ksv (j := 1) (hK 8 rfl) rfl rfl rfl) (rd_of (GR.v_ext _ h_0 hE))
    case z4_3 => intro a' w' hE hK hg; exact ok_lss (ksv (j := 0) (hK 7 rfl) rfl rfl rfl) (ksv (j := 2) (hK 9 rfl) rfl rfl rfl)
    case z4_4 => intro a' w' hE hK hg; exact ok_move (ksv (j := 3) (hK 10 rfl) rfl rfl rfl)
    case z4_5 => intro a' w' hE hK hg; exact ok_move (kn (hK 6 rfl) rfl q6)
    case z4_6 => intro a' w' hE hK hg; exact ok_lss (ksv (j := 5) (hK 12 rfl) rfl rfl hg) rfl
    case z4_7 => intro a' w' hE hK hg; exact ok_pick (ksv (j := 4) (hK 11 rfl) rfl rfl rfl) (fun hb => ksv (j := 6) (hK 13 rfl) rfl rfl (act_g1 rfl rfl hb)) (fun _ => rfl)
    case zok4 => kernel_rfl
    case zgd4 => kernel_rfl
    intro a5 w5 hA' hE HF
    replace q0 := kn (HF 0) rfl q0
    replace q1 := kn (HF 1) rfl q1
    replace q5 := kn (HF 5) rfl q5
    replace q6 := kn (HF 6) rfl q6
    have q14 := ksv (HF 14) rfl rfl rfl
    clear hA HF; have hA := hA'; clear hA'
    replace h_0 := GR.v_ext _ h_0 hE
    replace f3 := f3.ext hE
    replace hB := Base.step hB hE hO; clear hE
    obtain ⟨x6, hx_, h⟩ := Comp.run_bind h; replace hx_ := Comp.run_pure hx_; rw [hx_] at q14; clear hx_
    refine (li_nil ?_)
    refine (nx_then ?_)
    refine wp_cond_b q14 (fun hc => ?_) (fun hc => ?_)
    ·
      replace h := Comp.run_b_t hc h; clear hc
      refine wp_skip ?_
      refine (nx_then ?_)
      refine wp_seq ?_
      refine wp_block ?_
      obtain ⟨x7, hx7, h⟩ := Comp.run_bind h
      obtain ⟨x8, hx8, h⟩ := Comp.run_bind h
      obtain ⟨x9, hx9, h⟩ := Comp.run_bind h
      refine' region [_, _, _, SP.ptr (rInt .i64) O5 x7, SP.isv (.int .i64 x7), _, _, SP.isv (.int .i64 x9), SP.vl (rSl (rInt .i64)) O5 [x9]] mixed hA (.cons ?z5_0 (.cons ?z5_1 (.cons ?z5_2 (.cons ?z5_3 (.cons ?z5_4 (.cons ?z5_5 (.cons ?z5_6 (.cons ?z5_7 (.cons ?z5_8 .nil))))))))) ?zok5 ?zgd5 ?zk5
      case z5_0 => intro a' w' hE hK hg; exact ok_move (kn (hK 5 rfl) rfl q5)
      case z5_1 => intro a' w' hE hK hg; exact ok_move (kn (hK 0 rfl) rfl q0)
      case z5_2 => intro a' w' hE hK hg; exact ok_move (kn (hK 6 rfl) rfl q6)
      case z5_3 => intro a' w' hE hK hg; exact okl_idx (r := (rInt .i64)) (O := O5) ty58 ty3 rfl (ksv (j := 1) (hK 18 rfl) rfl rfl rfl) (rd_of (GR.v_ext _ h_0 hE)) (ksv (j := 2) (hK 19 rfl) rfl rfl rfl) hx7
      case z5_4 => intro a' w' hE hK hg; exact okl_ldr (rInt .i64) (fun _ => rfl) ty3 rfl rfl rfl (kspS (φ := SP.ptr (rInt .i64) O5 x7) (j := 3) (hK 20 rfl) rfl rfl rfl) (fun _ _ _ h => rInt_v.1 h)
      case z5_5 => intro a' w' hE hK hg; exact ok_move (kn (hK 1 rfl) rfl q1)
      case z5_6 => intro a' w' hE hK hg; exact okl_shl rfl (ksv (j := 5) (hK 22 rfl) rfl rfl rfl) (run_nonneg hx8)
      case z5_7 => intro a' w' hE hK hg; have c_ := ok_colletref01_Mod (OkO.ext hB.ok hE)  hx9; exact ok_call2 fn37 (ksv (j := 4) (hK 21 rfl) rfl rfl rfl) (ksv (j := 6) (hK 23 rfl) rfl rfl rfl) c_
      case z5_8 => intro a' w' hE hK hg; exact okl_buildSliceV (r := (rInt .i64)) (fun _ => rfl) rfl (OkO.ext hB.ok hE) ty58 ty3 (parts_cons (ksv (j := 7) (hK 24 rfl) rfl rfl rfl) parts_nil) ⟨(by first | exact rInt_v.2 rfl | exact rBool_v.2 rfl | exact rStr_v.2 rfl | exact rC_v.2 rfl | exact ⟨_, rfl, rfl⟩), trivial⟩ rfl (by decide)
      case zok5 => kernel_rfl
      case zgd5 => kernel_rfl
      intro a6 w6 hA' hE HF
      replace q0 := kn (HF 0) rfl q0
      replace q1 := kn (HF 1) rfl q1
      replace q5 := kn (HF 5) rfl q5
      replace q6 := kn (HF 6) rfl q6
      have q17 := ksv (HF 17) rfl rfl rfl
      have f11 := ksp (HF 25) rfl rfl rfl
      obtain ⟨u10, q25'⟩ : ∃ u, a6.get 25 = u := ⟨_, rfl⟩
      rw [q25'] at f11
      have q25 := q25'; clear q25'
      clear q14
      clear hA HF; have hA := hA'; clear hA'
      replace h_0 := GR.v_ext _ h_0 hE
      replace f3 := f3.ext hE
      replace hB := Base.step hB hE hO; clear hE
      obtain ⟨x12, hx12, h⟩ := Comp.run_bind h
      refine l_append (r := (rInt .i64)) (fun _ => rfl) rfl ty58 ty3 rfl (by decide) hO hB (okB_fr hB) q17 f3 q25 (rd_of f11) hx12 (by decide) fun u13 w7 O14 f15 hB' hX => ?_
      clear hB; have hB := hB'; clear hB'
      clear f3
      replace h_0 := GR.kx _ h_0 hX (by decide)
      replace f11 := GR.kx _ f11 hX (by decide)
      clear hX
      refine put_cont hA (by decide) fun a8 hA' q_ hfr => ?_
      clear hA; have hA := hA'; clear hA'
      replace q0 := (hfr 0 rfl).trans q0
      replace q1 := (hfr 1 rfl).trans q1
      replace q5 := (hfr 5 rfl).trans q5
      replace q6 := (hfr 6 rfl).trans q6
      replace q17 := (hfr 17 rfl).trans q17
      replace q25 := (hfr 25 rfl).trans q25
      have q26 := q_; clear q_ hfr
      refine l_ok (φ := SP.isv (u13)) hO hB (by exact ok_assign q26) rfl fun u_ w9 hE hB' hv_ => ?_
      replace hv_ := Eq.symm hv_; subst hv_; clear hB; have hB := hB'; clear hB'
      replace h_0 := GR.v_ext _ h_0 hE
      replace f15 := f15.ext hE
      clear hE
      refine put_cont hA (by decide) fun a10 hA' q_ hfr => ?_
      clear hA; have hA := hA'; clear hA'
      replace q0 := (hfr 0 rfl).trans q0
      replace q1 := (hfr 1 rfl).trans q1
      replace q6 := (hfr 6 rfl).trans q6
      replace q26 := (hfr 26 rfl).trans q26
      clear q5
      have q5 := q_; clear q_ hfr
      refine (li_nil ?_)
      refine (nx_blk (nx_then ?_))
      refine' region [_, _, _] mixed hA (.cons ?z6_0 (.cons ?z6_1 (.cons ?z6_2 .nil))) ?zok6 ?zgd6 ?zk6
      case z6_0 => intro a' w' hE hK hg; exact ok_move (kn (hK 6 rfl) rfl q6)
      case z6_1 => intro a' w' hE hK hg; exact ok_add (ksv (j := 0) (hK 15 rfl) rfl rfl rfl) rfl
      case z6_2 => intro a' w' hE hK hg; exact ok_assign (ksv (j := 1) (hK 16 rfl) rfl rfl rfl)
      case zok6 => kernel_rfl
      case zgd6 => kernel_rfl
      intro a11 w11 hA' hE HF
      replace q0 := kn (HF 0) rfl q0
      replace q1 := kn (HF 1) rfl q1
      replace q5 := kn (HF 5) rfl q5
      have q6' := ksv (HF 6) rfl rfl rfl
      replace q6 := q6'; clear q6'
      clear hA HF; have hA := hA'; clear hA'
      replace h_0 := GR.v_ext _ h_0 hE
      replace f15 := f15.ext hE
      replace hB := Base.step hB hE hO; clear hE
      refine (li_nil ?_)
      refine (nx_then ?_)
      have h := hnext2 _ (Comp.run_pure h).symm
      refine ⟨m2, hlt2, ?_⟩
      exact ⟨_, _, _, _, hA, hB, q0, h_0, q1, q5, f15, q6, h⟩
    ·
      replace h := Comp.run_b_f hc h; clear hc
      refine wp_exit ?_
      refine (ex_then (ex_then (ex_same ?_)))
      have hd_ := hdone2 _ (Comp.run_pure h).symm; clear h
      subst hd_; have h := hk2; clear hk2; try dsimp only at h
      refine (nx_then ?_)
      exact ⟨_, _, _, hA, hB, q5, f3, h⟩
  intro a12 w12 hI
  clear hA hB h q0 q1 q5 h_0
  obtain ⟨O21, x18, u19, hA, hB, q5, f20, h⟩ := hI
  unfold colletref32_Sets_j1 at h
  refine wp_seq ?_
  refine' region [_, _] mixed hA (.cons ?z7_0 (.cons ?z7_1 .nil)) ?zok7 ?zgd7 ?zk7
  case z7_0 => intro a' w' hE hK hg; exact ok_move (kn (hK 5 rfl) rfl q5)
  case z7_1 => intro a' w' hE hK hg; exact ok_assign (ksv (j := 0) (hK 27 rfl) rfl rfl rfl)
  case zok7 => kernel_rfl
  case zgd7 => kernel_rfl
  intro a13 w13 hA' hE HF
  have q4 := ksv (HF 4) rfl rfl rfl
  clear q5
  clear hA HF; have hA := hA'; clear hA'
  replace f20 := f20.ext hE
  replace hB := Base.step hB hE hO; clear hE
  refine (li_nil ?_)
  refine (nx_then ?_)
  refine (wp_ret ?_)
  have h := Comp.run_pure h; subst h
  exact retPure Try.results40 hA q4 hB.ext (OwnL.res f20 (by decide) hB.zero)

theorem ok_colletref32_has {O : Tags} {w0 : World} (hO : OkO O w0) {x_0 : Int} {x_1 : Int} {n : Nat} {y : Bool} (h : (colletref32_has x_0 x_1).run n = some y) : Pure Try.prog 80 #[.int .i64 x_0, .int .i64 x_1] w0 (SP.isv (.bool y)).holds := by
  unfold colletref32_has at h
  refine pure_of_wp Try.func80 rfl 10 Try.ntmps80 (by simp) fun a0 hA hs0 => ?_
  have q0 := hs0 0 _ rfl
  have q1 := hs0 1 _ rfl
  clear hs0
  have hB : Base (Fr w0) O w0 O w0 := Base.start hO
  refine wp_seq ?_
  refine' region [_] mixed hA (.cons ?z1_0 .nil) ?zok1 ?zgd1 ?zk1
  case z1_0 => intro a' w' hE hK hg; exact ok_assign rfl
  case zok1 => kernel_rfl
  case zgd1 => kernel_rfl
  intro a1 w1 hA' hE HF
  replace q0 := kn (HF 0) rfl q0
  replace q1 := kn (HF 1) rfl q1
  clear hA HF; have hA := hA'; clear hA'
  replace hB := Base.step hB hE hO; clear hE
  refine (li_nil ?_)
  refine (nx_then ?_)
  refine wp_seq ?_
  refine' region [_, _, _, _, _, _] mixed hA (.cons ?z2_0 (.cons ?z2_1 (.cons ?z2_2 (.cons ?z2_3 (.cons ?z2_4 (.cons ?z2_5 .nil)))))) ?zok2 ?zgd2 ?zk2
  case z2_0 => intro a' w' hE hK hg; exact ok_move (kn (hK 0 rfl) rfl q0)
  case z2_1 => intro a' w' hE hK hg; exact ok_move (kn (hK 1 rfl) rfl q1)
  case z2_2 => intro a' w' hE hK hg; exact okb_and (ksv (j := 0) (hK 5 rfl) rfl rfl rfl) (ksv (j := 1) (hK 6 rfl) rfl rfl rfl)
  case z2_3 => intro a' w' hE hK hg; exact ok_move (kn (hK 1 rfl) rfl q1)
  case z2_4 => intro a' w' hE hK hg; exact ok_eqlI (ksv (j := 2) (hK 7 rfl) rfl rfl rfl) (ksv (j := 3) (hK 8 rfl) rfl rfl rfl)
  case z2_5 => intro a' w' hE hK hg; exact ok_assign (ksv (j := 4) (hK 9 rfl) rfl rfl rfl)
  case zok2 => kernel_rfl
  case zgd2 => kernel_rfl
  intro a2 w2 hA' hE HF
  have q4 := ksv (HF 4) rfl rfl rfl
  clear q0
  clear q1
  clear hA HF; have hA := hA'; clear hA'
  replace hB := Base.step hB hE hO; clear hE
  refine (li_nil ?_)
  refine (nx_then ?_)
  refine (wp_ret ?_)
  have h := Comp.run_pure h; subst h
  exact retPure Try.results80 hA q4 hB.ext rfl

theorem ok_colletref32_put {O : Tags} {w0 : World} (hO : OkO O w0) {v_0 : Value} {x_0 : List Int} (h_0 : (rSl (rInt .i64)).v O w0 v_0 x_0) {x_1 : Int} {n : Nat} {y : (List Int)} (h : (colletref32_put x_0 x_1).run n = some y) : Pure Try.prog 81 #[v_0, .int .i64 x_1] w0 (SP.vl (rSl (rInt .i64)) O y).holds := by
  unfold colletref32_put at h
  refine pure_of_wp Try.func81 rfl 47 Try.ntmps81 (by simp) fun a0 hA hs0 => ?_
  have q0 := hs0 0 _ rfl
  have q1 := hs0 1 _ rfl
  clear hs0
  have hB : Base (Fr w0) O w0 O w0 := Base.start hO
  refine wp_seq ?_
  refine' region [_] mixed hA (.cons ?z1_0 .nil) ?zok1 ?zgd1 ?zk1
  case z1_0 => intro a' w' hE hK hg; exact ok_assign rfl
  case zok1 => kernel_rfl
  case zgd1 => kernel_rfl
  intro a1 w1 hA' hE HF
  replace q0 := kn (HF 0) rfl q0
  replace q1 := kn (HF 1) rfl q1
  clear hA HF; have hA := hA'; clear hA'
  replace h_0 := GR.v_ext _ h_0 hE
  replace hB := Base.step hB hE hO; clear hE
  refine (li_nil ?_)
  refine (nx_then ?_)
  refine wp_seq ?_
  refine' region [_] mixed hA (.cons ?z2_0 .nil) ?zok2 ?zgd2 ?zk2
  case z2_0 => intro a' w' hE hK hg; exact ok_assign rfl
  case zok2 => kernel_rfl
  case zgd2 => kernel_rfl
  intro a2 w2 hA' hE HF
  replace q0 := kn (HF 0) rfl q0
  replace q1 := kn (HF 1) rfl q1
  have q5 := ksv (HF 5) rfl rfl rfl
  clear hA HF; have hA := hA'; clear hA'
  replace h_0 := GR.v_ext _ h_0 hE
  replace hB := Base.step hB hE hO; clear hE
  refine (li_nil ?_)
  refine (nx_then ?_)
  refine seq_join (fun a w => ∃ (O8 : Tags) (x7 : Int), a.fit 47 ∧ Base (Fr w0) O w0 O8 w ∧ a.get 0 = v_0 ∧ (rSl (rInt .i64)).v O8 w v_0 x_0 ∧ a.get 1 = .int .i64 x_1 ∧ a.get 5 = .int .i64 x7 ∧ (colletref32_put_j1 x_0 x_1 x7).run n = some y) ?_ ?_
  ·
    refine wp_block ?_
    obtain ⟨e2, he2, hk2⟩ := Comp.run_bind h; clear h
    refine loop_m (fun m a w => ∃ (O2 : Tags) (x1 : Int), a.fit 47 ∧ Base (Fr w0) O w0 O2 w ∧ a.get 0 = v_0 ∧ (rSl (rInt .i64)).v O2 w v_0 x_0 ∧ a.get 1 = .int .i64 x_1 ∧ a.get 5 = .int .i64 x1 ∧ Comp.loopN (fun s => colletref32_put_l2 x_0 x_1 s) n m x1 = some e2) (m := n) ?st2 ?_
    case st2 =>
      exact ⟨_, _, hA, hB, q0, h_0, q1, q5, Comp.run_loop he2⟩
    intro m_ a3 w3 hI
    clear hA hB he2 q0 q1 q5 h_0
    obtain ⟨O2, x1, hA, hB, q0, h_0, q1, q5, hl⟩ := hI
    obtain ⟨m2, hlt2, st2, h, hnext2, hdone2⟩ := Comp.loopN_succ hl; clear hl
    replace h : (colletref32_put_l2 x_0 x_1 x1).run n = some st2 := h
    unfold colletref32_put_l2 at h
    refine wp_seq ?_
    refine wp_seq ?_
    obtain ⟨x3, hx3, h⟩ := Comp.run_bind h
    refine' region [_, _, _, _, _, _, _, SP.ptr (rInt .i64) O2 x3, SP.isv (.int .i64 x3), _, _, _] mixed hA (.cons ?z3_0 (.cons ?z3_1 (.cons ?z3_2 (.cons ?z3_3 (.cons ?z3_4 (.cons ?z3_5 (.cons ?z3_6 (.cons ?z3_7 (.cons ?z3_8 (.cons ?z3_9 (.cons ?z3_10 (.cons ?z3_11 .nil)))))))))))) ?zok3 ?zgd3 ?zk3
    case z3_0 => intro a' w' hE hK hg; exact ok_move (kn (hK 5 rfl) rfl q5)
    case z3_1 => intro a' w' hE hK hg; exact ok_move (kn (hK 0 rfl) rfl q0)
    case z3_2 => intro a' w' hE hK hg; exact okl_len (r := (rInt .i64)) ty58 (ksv (j := 1) (hK 8 rfl) rfl rfl rfl) (rd_of (GR.v_ext _ h_0 hE))
    case z3_3 => intro a' w' hE hK hg; exact ok_lss (ksv (j := 0) (hK 7 rfl) rfl rfl rfl) (ksv (j := 2) (hK 9 rfl) rfl rfl rfl)
    case z3_4 => intro a' w' hE hK hg; exact ok_move (ksv (j := 3) (hK 10 rfl) rfl rfl rfl)
    case z3_5 => intro a' w' hE hK hg; exact ok_move (kn (hK 0 rfl) rfl q0)
    case z3_6 => intro a' w' hE hK hg; exact ok_move (kn (hK 5 rfl) rfl q5)
    case z3_7 => intro a' w' hE hK hg; exact okl_idx (r := (rInt .i64)) (O := O2) ty58 ty3 rfl (ksv (j := 5) (hK 12 rfl) rfl rfl hg) (rd_of (GR.v_ext _ h_0 hE)) (ksv (j := 6) (hK 13 rfl) rfl rfl hg) (run_gdb hx3 hg)
    case z3_8 => intro a' w' hE hK hg; exact okl_ldr (rInt .i64) (fun _ => rfl) ty3 rfl rfl rfl (kspS (φ := SP.ptr (rInt .i64) O2 x3) (j := 7) (hK 14 rfl) rfl rfl hg) (fun _ _ _ h => rInt_v.1 h)
    case z3_9 => intro a' w' hE hK hg; exact ok_move (kn (hK 1 rfl) rfl q1)
    case z3_10 => intro a' w' hE hK hg; exact ok_lss (ksv (j := 8) (hK 15 rfl) rfl rfl hg) (ksv (j := 9) (hK 16 rfl) rfl rfl hg)
    case z3_11 => intro a' w' hE hK hg; exact ok_pick (ksv (j := 4) (hK 11 rfl) rfl rfl rfl) (fun hb => ksv (j := 10) (hK 17 rfl) rfl rfl (act_g1 rfl rfl hb)) (fun _ => rfl)
    case zok3 => kernel_rfl
    case zgd3 => kernel_rfl
    intro a4 w4 hA' hE HF
    replace q0 := kn (HF 0) rfl q0
    replace q1 := kn (HF 1) rfl q1
    replace q5 := kn (HF 5) rfl q5
    have q18 := ksv (HF 18) rfl rfl rfl
    clear hA HF; have hA := hA'; clear hA'
    replace h_0 := GR.v_ext _ h_0 hE
    replace hB := Base.step hB hE hO; clear hE
    obtain ⟨x4, hx_, h⟩ := Comp.run_bind h; replace hx_ := Comp.run_pure hx_; rw [hx_] at q18; clear hx_
    refine (li_nil ?_)
    refine (nx_then ?_)
    refine wp_cond_b q18 (fun hc => ?_) (fun hc => ?_)
    ·
      replace h := Comp.run_b_t hc h; clear hc
      refine wp_skip ?_
      refine (nx_then ?_)
      refine wp_block ?_
      refine' region [_, _, _] mixed hA (.cons ?z4_0 (.cons ?z4_1 (.cons ?z4_2 .nil))) ?zok4 ?zgd4 ?zk4
      case z4_0 => intro a' w' hE hK hg; exact ok_move (kn (hK 5 rfl) rfl q5)
      case z4_1 => intro a' w' hE hK hg; exact ok_add (ksv (j := 0) (hK 19 rfl) rfl rfl rfl) rfl
      case z4_2 => intro a' w' hE hK hg; exact ok_assign (ksv (j := 1) (hK 20 rfl) rfl rfl rfl)
      case zok4 => kernel_rfl
      case zgd4 => kernel_rfl
      intro a5 w5 hA' hE HF
      replace q0 := kn (HF 0) rfl q0
      replace q1 := kn (HF 1) rfl q1
      have q5' := ksv (HF 5) rfl rfl rfl
      replace q5 := q5'; clear q5'
      clear q18
      clear hA HF; have hA := hA'; clear hA'
      replace h_0 := GR.v_ext _ h_0 hE
      replace hB := Base.step hB hE hO; clear hE
      refine (li_nil ?_)
      refine (nx_blk (nx_then ?_))
      have h := hnext2 _ (Comp.run_pure h).symm
      refine ⟨m2, hlt2, ?_⟩
      exact ⟨_, _, hA, hB, q0, h_0, q1, q5, h⟩
    ·
      replace h := Comp.run_b_f hc h; clear hc
      refine wp_exit ?_
      refine (ex_then (ex_then (ex_same ?_)))
      have hd_ := hdone2 _ (Comp.run_pure h).symm; clear h
      subst hd_; have h := hk2; clear hk2; try dsimp only at h
      refine (nx_then ?_)
      exact ⟨_, _, hA, hB, q0, h_0, q1, q5, h⟩
  intro a6 w6 hI
  clear hA hB h q0 q1 q5 h_0
  obtain ⟨O8, x7, hA, hB, q0, h_0, q1, q5, h⟩ := hI
  unfold colletref32_put_j1 at h
  refine wp_seq ?_
  refine wp_seq ?_
  obtain ⟨x9, hx9, h⟩ := Comp.run_bind h
  refine' region [_, _, _, _, _, _, _, SP.ptr (rInt .i64) O8 x9, SP.isv (.int .i64 x9), _, _, _] mixed hA (.cons ?z5_0 (.cons ?z5_1 (.cons ?z5_2 (.cons ?z5_3 (.cons ?z5_4 (.cons ?z5_5 (.cons ?z5_6 (.cons ?z5_7 (.cons ?z5_8 (.cons ?z5_9 (.cons ?z5_10 (.cons ?z5_11 .nil)))))))))))) ?zok5 ?zgd5 ?zk5
  case z5_0 => intro a' w' hE hK hg; exact ok_move (kn (hK 5 rfl) rfl q5)
  case z5_1 => intro a' w' hE hK hg; exact ok_move (kn (hK 0 rfl) rfl q0)
  case z5_2 => intro a' w' hE hK hg; exact okl_len (r := (rInt .i64)) ty58 (ksv (j := 1) (hK 22 rfl) rfl rfl rfl) (rd_of (GR.v_ext _ h_0 hE))
  case z5_3 => intro a' w' hE hK hg; exact ok_lss (ksv (j := 0) (hK 21 rfl) rfl rfl rfl) (ksv (j := 2) (hK 23 rfl) rfl rfl rfl)
  case z5_4 => intro a' w' hE hK hg; exact ok_move (ksv (j := 3) (hK 24 rfl) rfl rfl rfl)
  case z5_5 => intro a' w' hE hK hg; exact ok_move (kn (hK 0 rfl) rfl q0)
  case z5_6 => intro a' w' hE hK hg; exact ok_move (kn (hK 5 rfl) rfl q5)
  case z5_7 => intro a' w' hE hK hg; exact okl_idx (r := (rInt .i64)) (O := O8) ty58 ty3 rfl (ksv (j := 5) (hK 26 rfl) rfl rfl hg) (rd_of (GR.v_ext _ h_0 hE)) (ksv (j := 6) (hK 27 rfl) rfl rfl hg) (run_gdb hx9 hg)
  case z5_8 => intro a' w' hE hK hg; exact okl_ldr (rInt .i64) (fun _ => rfl) ty3 rfl rfl rfl (kspS (φ := SP.ptr (rInt .i64) O8 x9) (j := 7) (hK 28 rfl) rfl rfl hg) (fun _ _ _ h => rInt_v.1 h)
  case z5_9 => intro a' w' hE hK hg; exact ok_move (kn (hK 1 rfl) rfl q1)
  case z5_10 => intro a' w' hE hK hg; exact ok_eqlI (ksv (j := 8) (hK 29 rfl) rfl rfl hg) (ksv (j := 9) (hK 30 rfl) rfl rfl hg)
  case z5_11 => intro a' w' hE hK hg; exact ok_pick (ksv (j := 4) (hK 25 rfl) rfl rfl rfl) (fun hb => ksv (j := 10) (hK 31 rfl) rfl rfl (act_g1 rfl rfl hb)) (fun _ => rfl)
  case zok5 => kernel_rfl
  case zgd5 => kernel_rfl
  intro a7 w7 hA' hE HF
  replace q0 := kn (HF 0) rfl q0
  replace q1 := kn (HF 1) rfl q1
  replace q5 := kn (HF 5) rfl q5
  have q32 := ksv (HF 32) rfl rfl rfl
  clear hA HF; have hA := hA'; clear hA'
  replace h_0 := GR.v_ext _ h_0 hE
  replace hB := Base.step hB hE hO; clear hE
  obtain ⟨x10, hx_, h⟩ := Comp.run_bind h; replace hx_ := Comp.run_pure hx_; rw [hx_] at q32; clear hx_
  refine (li_nil ?_)
  refine (nx_then ?_)
  refine wp_cond_b q32 (fun hc => ?_) (fun hc => ?_)
  ·
    replace h := Comp.run_b_t hc h; clear hc
    refine wp_seq ?_
    refine' region [_, _] mixed hA (.cons ?z6_0 (.cons ?z6_1 .nil)) ?zok6 ?zgd6 ?zk6
    case z6_0 => intro a' w' hE hK hg; exact ok_move (kn (hK 0 rfl) rfl q0)
    case z6_1 => intro a' w' hE hK hg; exact ok_assign (ksv (j := 0) (hK 33 rfl) rfl rfl rfl)
    case zok6 => kernel_rfl
    case zgd6 => kernel_rfl
    intro a8 w8 hA' hE HF
    have q4 := ksv (HF 4) rfl rfl rfl
    clear q0
    clear q1
    clear q5
    clear q32
    clear hA HF; have hA := hA'; clear hA'
    replace h_0 := GR.v_ext _ h_0 hE
    replace hB := Base.step hB hE hO; clear hE
    refine (li_nil ?_)
    refine (nx_then ?_)
    refine (wp_ret (rt_then ?_))
    have h := Comp.run_pure h; subst h
    exact retPure Try.results81 hA q4 hB.ext (hB.res (rSl (rInt .i64)) h_0)
  ·
    replace h := Comp.run_b_f hc h; clear hc
    refine wp_skip ?_
    refine (nx_then ?_)
    refine wp_seq ?_
    refine' regionT [] hA .nil ?zok7 ?zgd7 ?zk7
    case zok7 => kernel_rfl
    case zgd7 => kernel_rfl
    intro a9 w9 hA' hE HF
    replace q0 := kn (HF 0) rfl q0
    replace q1 := kn (HF 1) rfl q1
    replace q5 := kn (HF 5) rfl q5
    clear q32
    clear hA HF; have hA := hA'; clear hA'
    replace h_0 := GR.v_ext _ h_0 hE
    replace hB := Base.step hB hE hO; clear hE
    refine l_ok (φ := SP.ownr (rInt .i64) 3 w9.heap.size O8 []) hO hB (by exact okl_buildSlice (r := (rInt .i64)) (fun _ => rfl) rfl hB.ok ty58 ty3 (Nat.le_refl _) parts_nil trivial rfl (by decide)) rfl fun u11 w10 hE hB' f12 => ?_
    clear hB'; obtain ⟨O13, hB', hX, f14⟩ := ownNew hO hB hE f12 rfl 1 (by decide)
    clear hB f12; have hB := hB'; clear hB'
    replace h_0 := GR.kx _ h_0 hX (by decide)
    clear hX hE
    refine put_cont hA (by decide) fun a11 hA' q_ hfr => ?_
    clear hA; have hA := hA'; clear hA'
    replace q0 := (hfr 0 rfl).trans q0
    replace q1 := (hfr 1 rfl).trans q1
    replace q5 := (hfr 5 rfl).trans q5
    have q34 := q_; clear q_ hfr
    refine l_ok (φ := SP.isv (v_0)) hO hB (by exact ok_move q0) rfl fun u_ w12 hE hB' hv_ => ?_
    replace hv_ := Eq.symm hv_; subst hv_; clear hB; have hB := hB'; clear hB'
    replace h_0 := GR.v_ext _ h_0 hE
    replace f14 := f14.ext hE
    clear hE
    refine put_cont hA (by decide) fun a13 hA' q_ hfr => ?_
    clear hA; have hA := hA'; clear hA'
    replace q0 := (hfr 0 rfl).trans q0
    replace q1 := (hfr 1 rfl).trans q1
    replace q5 := (hfr 5 rfl).trans q5
    replace q34 := (hfr 34 rfl).trans q34
    have q35 := q_; clear q_ hfr
    refine l_ok (φ := SP.isv (.int .i64 x7)) hO hB (by exact ok_move q5) rfl fun u_ w14 hE hB' hv_ => ?_
    replace hv_ := Eq.symm hv_; subst hv_; clear hB; have hB := hB'; clear hB'
    replace h_0 := GR.v_ext _ h_0 hE
    replace f14 := f14.ext hE
    clear hE
    refine put_cont hA (by decide) fun a15 hA' q_ hfr => ?_
    clear hA; have hA := hA'; clear hA'
    replace q0 := (hfr 0 rfl).trans q0
    replace q1 := (hfr 1 rfl).trans q1
    replace q5 := (hfr 5 rfl).trans q5
    replace q34 := (hfr 34 rfl).trans q34
    replace q35 := (hfr 35 rfl).trans q35
    have q36 := q_; clear q_ hfr
    obtain ⟨x15, hx15, h⟩ := Comp.run_bind h
    refine l_ok (φ := SP.vl (rSl (rInt .i64)) O13 x15) hO hB (by exact okl_slice_h (r := (rInt .i64)) ty58 ty3 rfl q35 h_0 q36 hx15) rfl fun u16 w16 hE hB' f17 => ?_
    clear hB; have hB := hB'; clear hB'
    replace h_0 := GR.v_ext _ h_0 hE
    replace f14 := f14.ext hE
    clear hE
    refine put_cont hA (by decide) fun a17 hA' q_ hfr => ?_
    clear hA; have hA := hA'; clear hA'
    replace q0 := (hfr 0 rfl).trans q0
    replace q1 := (hfr 1 rfl).trans q1
    replace q5 := (hfr 5 rfl).trans q5
    replace q34 := (hfr 34 rfl).trans q34
    replace q35 := (hfr 35 rfl).trans q35
    replace q36 := (hfr 36 rfl).trans q36
    have q37 := q_; clear q_ hfr
    obtain ⟨x18, hx18, h⟩ := Comp.run_bind h
    refine l_append (r := (rInt .i64)) (fun _ => rfl) rfl ty58 ty3 rfl (by decide) hO hB (okB_fr hB) q34 f14 q37 (rd_of f17) hx18 (by decide) fun u19 w18 O20 f21 hB' hX => ?_
    clear hB; have hB := hB'; clear hB'
    clear f14
    replace h_0 := GR.kx _ h_0 hX (by decide)
    replace f17 := GR.kx _ f17 hX (by decide)
    clear hX
    refine put_cont hA (by decide) fun a19 hA' q_ hfr => ?_
    clear hA; have hA := hA'; clear hA'
    replace q0 := (hfr 0 rfl).trans q0
    replace q1 := (hfr 1 rfl).trans q1
    replace q5 := (hfr 5 rfl).trans q5
    replace q34 := (hfr 34 rfl).trans q34
    replace q37 := (hfr 37 rfl).trans q37
    have q38 := q_; clear q_ hfr
    refine l_ok (φ := SP.isv (.int .i64 x_1)) hO hB (by exact ok_move q1) rfl fun u_ w20 hE hB' hv_ => ?_
    replace hv_ := Eq.symm hv_; subst hv_; clear hB; have hB := hB'; clear hB'
    replace h_0 := GR.v_ext _ h_0 hE
    replace f21 := f21.ext hE
    clear hE
    refine put_cont hA (by decide) fun a21 hA' q_ hfr => ?_
    clear hA; have hA := hA'; clear hA'
    replace q0 := (hfr 0 rfl).trans q0
    replace q1 := (hfr 1 rfl).trans q1
    replace q5 := (hfr 5 rfl).trans q5
    replace q38 := (hfr 38 rfl).trans q38
    have q39 := q_; clear q_ hfr
    refine l_ok (φ := SP.vl (rSl (rInt .i64)) O20 [x_1]) hO hB (by exact okl_buildSliceV (r := (rInt .i64)) (fun _ => rfl) rfl hB.ok ty58 ty3 (parts_cons q39 parts_nil) ⟨(by first | exact rInt_v.2 rfl | exact rBool_v.2 rfl | exact rStr_v.2 rfl | exact rC_v.2 rfl | exact ⟨_, rfl, rfl⟩), trivial⟩ rfl (by decide)) rfl fun u22 w22 hE hB' f23 => ?_
    clear hB; have hB := hB'; clear hB'
    replace h_0 := GR.v_ext _ h_0 hE
    replace f21 := f21.ext hE
    clear hE
    refine put_cont hA (by decide) fun a23 hA' q_ hfr => ?_
    clear hA; have hA := hA'; clear hA'
    replace q0 := (hfr 0 rfl).trans q0
    replace q5 := (hfr 5 rfl).trans q5
    replace q38 := (hfr 38 rfl).trans q38
    replace q39 := (hfr 39 rfl).trans q39
    have q40 := q_; clear q_ hfr
    obtain ⟨x24, hx24, h⟩ := Comp.run_bind h
    refine l_append (r := (rInt .i64)) (fun _ => rfl) rfl ty58 ty3 rfl (by decide) hO hB (okB_fr hB) q38 f21 q40 (rd_of f23) hx24 (by decide) fun u25 w24 O26 f27 hB' hX => ?_
    clear hB; have hB := hB'; clear hB'
    clear f21
    replace h_0 := GR.kx _ h_0 hX (by decide)
    replace f23 := GR.kx _ f23 hX (by decide)
    clear hX
    refine put_cont hA (by decide) fun a25 hA' q_ hfr => ?_
    clear hA; have hA := hA'; clear hA'
    replace q0 := (hfr 0 rfl).trans q0
    replace q5 := (hfr 5 rfl).trans q5
    replace q38 := (hfr 38 rfl).trans q38
    replace q40 := (hfr 40 rfl).trans q40
    have q41 := q_; clear q_ hfr
    refine l_ok (φ := SP.isv (u25)) hO hB (by exact ok_assign q41) rfl fun u_ w26 hE hB' hv_ => ?_
    replace hv_ := Eq.symm hv_; subst hv_; clear hB; have hB := hB'; clear hB'
    replace h_0 := GR.v_ext _ h_0 hE
    replace f27 := f27.ext hE
    clear hE
    refine put_cont hA (by decide) fun a27 hA' q_ hfr => ?_
    clear hA; have hA := hA'; clear hA'
    replace q0 := (hfr 0 rfl).trans q0
    replace q5 := (hfr 5 rfl).trans q5
    replace q41 := (hfr 41 rfl).trans q41
    have q6 := q_; clear q_ hfr
    refine (li_nil ?_)
    refine (nx_then ?_)
    refine wp_seq ?_
    obtain ⟨x28, hx28, h⟩ := Comp.run_bind h
    refine' regionT [_, _, _, SP.vl (rSl (rInt .i64)) O26 x28] hA (.cons ?z8_0 (.cons ?z8_1 (.cons ?z8_2 (.cons ?z8_3 .nil)))) ?zok8 ?zgd8 ?zk8
    case z8_0 => intro a' w' hE hK hg; exact ok_move (kn (hK 6 rfl) rfl q6)
    case z8_1 => intro a' w' hE hK hg; exact ok_move (kn (hK 0 rfl) rfl q0)
    case z8_2 => intro a' w' hE hK hg; exact ok_move (kn (hK 5 rfl) rfl q5)
    case z8_3 => intro a' w' hE hK hg; exact okl_slice_l (r := (rInt .i64)) ty58 ty3 rfl (ksv (j := 1) (hK 43 rfl) rfl rfl rfl) (GR.v_ext _ h_0 hE) (ksv (j := 2) (hK 44 rfl) rfl rfl rfl) hx28
    case zok8 => kernel_rfl
    case zgd8 => kernel_rfl
    intro a28 w28 hA' hE HF
    have q42 := ksv (HF 42) rfl rfl rfl
    have f30 := ksp (HF 45) rfl rfl rfl
    obtain ⟨u29, q45'⟩ : ∃ u, a28.get 45 = u := ⟨_, rfl⟩
    rw [q45'] at f30
    have q45 := q45'; clear q45'
    clear q0
    clear q5
    clear q6
    clear hA HF; have hA := hA'; clear hA'
    replace h_0 := GR.v_ext _ h_0 hE
    replace f27 := f27.ext hE
    replace hB := Base.step hB hE hO; clear hE
    obtain ⟨x31, hx31, h⟩ := Comp.run_bind h
    refine l_append (r := (rInt .i64)) (fun _ => rfl) rfl ty58 ty3 rfl (by decide) hO hB (okB_fr hB) q42 f27 q45 (rd_of f30) hx31 (by decide) fun u32 w29 O33 f34 hB' hX => ?_
    clear hB; have hB := hB'; clear hB'
    clear f27
    replace f30 := GR.kx _ f30 hX (by decide)
    clear hX
    refine put_cont hA (by decide) fun a30 hA' q_ hfr => ?_
    clear hA; have hA := hA'; clear hA'
    replace q42 := (hfr 42 rfl).trans q42
    replace q45 := (hfr 45 rfl).trans q45
    have q46 := q_; clear q_ hfr
    refine l_ok (φ := SP.isv (u32)) hO hB (by exact ok_assign q46) rfl fun u_ w31 hE hB' hv_ => ?_
    replace hv_ := Eq.symm hv_; subst hv_; clear hB; have hB := hB'; clear hB'
    replace f34 := f34.ext hE
    clear hE
    refine put_cont hA (by decide) fun a32 hA' q_ hfr => ?_
    clear hA; have hA := hA'; clear hA'
    replace q46 := (hfr 46 rfl).trans q46
    have q4 := q_; clear q_ hfr
    refine (li_nil ?_)
    refine (nx_then ?_)
    refine (wp_ret ?_)
    obtain ⟨O35, hB', hX, f36⟩ := freezeL hO hB f34 (by decide)
    clear f34 hB; have hB := hB'; clear hB'
    clear hX
    have h := Comp.run_pure h; subst h
    exact retPure Try.results81 hA q4 hB.ext (hB.res (rSl (rInt .i64)) f36)

theorem ok_colletref32_Minimal {O : Tags} {w0 : World} (hO : OkO O w0) {v_0 : Value} {x_0 : List Int} (h_0 : (rSl (rInt .i64)).v O w0 v_0 x_0) {n : Nat} {y : (List Int)} (h : (colletref32_Minimal x_0).run n = some y) : Pure Try.prog 43 #[v_0] w0 (SP.vl (rSl (rInt .i64)) O y).holds := by
  unfold colletref32_Minimal at h
  refine pure_of_wp Try.func43 rfl 51 Try.ntmps43 (by simp) fun a0 hA hs0 => ?_
  have q0 := hs0 0 _ rfl
  clear hs0
  have hB : Base (Fr w0) O w0 O w0 := Base.start hO
  refine wp_seq ?_
  refine' region [_] mixed hA (.cons ?z1_0 .nil) ?zok1 ?zgd1 ?zk1
  case z1_0 => intro a' w' hE hK hg; exact ok_assign rfl
  case zok1 => kernel_rfl
  case zgd1 => kernel_rfl
  intro a1 w1 hA' hE HF
  replace q0 := kn (HF 0) rfl q0
  clear hA HF; have hA := hA'; clear hA'
  replace h_0 := GR.v_ext _ h_0 hE
  replace hB := Base.step hB hE hO; clear hE
  refine (li_nil ?_)
  refine (nx_then ?_)
  refine wp_seq ?_
  refine' region [_] mixed hA (.cons ?z2_0 .nil) ?zok2 ?zgd2 ?zk2
  case z2_0 => intro a' w' hE hK hg; exact ok_assign rfl
  case zok2 => kernel_rfl
  case zgd2 => kernel_rfl
  intro a2 w2 hA' hE HF
  replace q0 := kn (HF 0) rfl q0
  have q3 := ksv (HF 3) rfl rfl rfl
  clear hA HF; have hA := hA'; clear hA'
  replace h_0 := GR.v_ext _ h_0 hE
  replace hB := Base.step hB hE hO; clear hE
  refine (li_nil ?_)
  refine (nx_then ?_)
  refine seq_join (fun a w => ∃ (O32 : Tags) (x29 : List Int) (u30 : Value), a.fit 51 ∧ Base (Fr w0) O w0 O32 w ∧ a.get 3 = u30 ∧ (rSl (rInt .i64)).v O32 w u30 x29 ∧ (colletref32_Minimal_j1 x29).run n = some y) ?_ ?_
  ·
    refine wp_seq ?_
    refine' region [_] mixed hA (.cons ?z3_0 .nil) ?zok3 ?zgd3 ?zk3
    case z3_0 => intro a' w' hE hK hg; exact ok_assign rfl
    case zok3 => kernel_rfl
    case zgd3 => kernel_rfl
    intro a3 w3 hA' hE HF
    replace q0 := kn (HF 0) rfl q0
    replace q3 := kn (HF 3) rfl q3
    have q4 := ksv (HF 4) rfl rfl rfl
    clear hA HF; have hA := hA'; clear hA'
    replace h_0 := GR.v_ext _ h_0 hE
    replace hB := Base.step hB hE hO; clear hE
    refine (li_nil ?_)
    refine (nx_then ?_)
    refine wp_block ?_
    obtain ⟨e2, he2, hk2⟩ := Comp.run_bind h; clear h
    refine loop_m (fun m a w => ∃ (O5 : Tags) (x1 : List Int) (x4 : Int) (u2 : Value), a.fit 51 ∧ Base (Fr w0) O w0 O5 w ∧ a.get 0 = v_0 ∧ (rSl (rInt .i64)).v O5 w v_0 x_0 ∧ a.get 3 = u2 ∧ (rSl (rInt .i64)).v O5 w u2 x1 ∧ a.get 4 = .int .i64 x4 ∧ Comp.loopN (fun s => colletref32_Minimal_l2 x_0 s.1 s.2) n m (x1, x4) = some e2) (m := n) ?st2 ?_
    case st2 =>
      exact ⟨_, _, _, _, hA, hB, q0, h_0, q3, (rSl_nil _ _ _ 0), q4, Comp.run_loop he2⟩
    intro m_ a4 w4 hI
    clear hA hB he2 q0 q3 q4 h_0
    obtain ⟨O5, x1, x4, u2, hA, hB, q0, h_0, q3, f3, q4, hl⟩ := hI
    obtain ⟨m2, hlt2, st2, h, hnext2, hdone2⟩ := Comp.loopN_succ hl; clear hl
    replace h : (colletref32_Minimal_l2 x_0 x1 x4).run n = some st2 := h
    unfold colletref32_Minimal_l2 at h
    refine wp_seq ?_
    refine wp_seq ?_
    refine' region [_, _, _, _] mixed hA (.cons ?z4_0 (.cons ?z4_1 (.cons ?z4_2 (.cons ?z4_3 .nil)))) ?zok4 ?zgd4 ?zk4
    case z4_0 => intro a' w' hE hK hg; exact ok_move (kn (hK 4 rfl) rfl q4)
    case z4_1 => intro a' w' hE hK hg; exact ok_move (kn (hK 0 rfl) rfl q0)
    case z4_2 => intro a' w' hE hK hg; exact okl_len (r := (rInt .i64)) ty58 (ksv (j := 1) (hK 8 rfl) rfl rfl rfl) (rd_of (GR.v_ext _ h_0 hE))
    case z4_3 => intro a' w' hE hK hg; exact ok_lss (ksv (j := 0) (hK 7 rfl) rfl rfl rfl) (ksv (j := 2) (hK 9 rfl) rfl rfl rfl)
    case zok4 => kernel_rfl
    case zgd4 => kernel_rfl
    intro a5 w5 hA' hE HF
    replace q0 := kn (HF 0) rfl q0
    replace q3 := kn (HF 3) rfl q3
    replace q4 := kn (HF 4) rfl q4
    have q10 := ksv (HF 10) rfl rfl rfl
    clear hA HF; have hA := hA'; clear hA'
    replace h_0 := GR.v_ext _ h_0 hE
    replace f3 := GR.v_ext _ f3 hE
    replace hB := Base.step hB hE hO; clear hE
    refine (li_nil ?_)
    refine (nx_then ?_)
    refine wp_cond_b q10 (fun hc => ?_) (fun hc => ?_)
    ·
      replace h := Comp.run_b_t hc h; clear hc
      refine wp_skip ?_
      refine (nx_then ?_)
      refine seq_join (fun a w => ∃ (O26 : Tags) (x23 : List Int) (u24 : Value), a.fit 51 ∧ Base (Fr w0) O w0 O26 w ∧ a.get 0 = v_0 ∧ (rSl (rInt .i64)).v O26 w v_0 x_0 ∧ a.get 3 = u24 ∧ (rSl (rInt .i64)).v O26 w u24 x23 ∧ a.get 4 = .int .i64 x4 ∧ (colletref32_Minimal_j3 x4 x23).run n = some st2) ?_ ?_
      ·
        refine wp_block ?_
        refine wp_seq ?_
        refine' region [_] mixed hA (.cons ?z5_0 .nil) ?zok5 ?zgd5 ?zk5
        case z5_0 => intro a' w' hE hK hg; exact ok_assign rfl
        case zok5 => kernel_rfl
        case zgd5 => kernel_rfl
        intro a6 w6 hA' hE HF
        replace q0 := kn (HF 0) rfl q0
        replace q3 := kn (HF 3) rfl q3
        replace q4 := kn (HF 4) rfl q4
        have q5 := ksv (HF 5) rfl rfl rfl
        clear q10
        clear hA HF; have hA := hA'; clear hA'
        replace h_0 := GR.v_ext _ h_0 hE
        replace f3 := GR.v_ext _ f3 hE
        replace hB := Base.step hB hE hO; clear hE
        refine (li_nil ?_)
        refine (nx_then ?_)
        refine seq_join (fun a w => ∃ (O18 : Tags) (x17 : Bool), a.fit 51 ∧ Base (Fr w0) O w0 O18 w ∧ a.get 0 = v_0 ∧ (rSl (rInt .i64)).v O18 w v_0 x_0 ∧ a.get 3 = u2 ∧ (rSl (rInt .i64)).v O18 w u2 x1 ∧ a.get 4 = .int .i64 x4 ∧ a.get 5 = .bool x17 ∧ (colletref32_Minimal_j4 x_0 x4 x1 x17).run n = some st2) ?_ ?_
        ·
          refine wp_seq ?_
          refine' region [_] mixed hA (.cons ?z6_0 .nil) ?zok6 ?zgd6 ?zk6
          case z6_0 => intro a' w' hE hK hg; exact ok_assign rfl
          case zok6 => kernel_rfl
          case zgd6 => kernel_rfl
          intro a7 w7 hA' hE HF
          replace q0 := kn (HF 0) rfl q0
          replace q3 := kn (HF 3) rfl q3
          replace q4 := kn (HF 4) rfl q4
          replace q5 := kn (HF 5) rfl q5
          have q6 := ksv (HF 6) rfl rfl rfl
          clear hA HF; have hA := hA'; clear hA'
          replace h_0 := GR.v_ext _ h_0 hE
          replace f3 := GR.v_ext _ f3 hE
          replace hB := Base.step hB hE hO; clear hE
          refine (li_nil ?_)
          refine (nx_then ?_)
          refine wp_block ?_
          obtain ⟨e5, he5, hk5⟩ := Comp.run_bind h; clear h
          refine loop_m (fun m a w => ∃ (O8 : Tags) (x6 : Bool) (x7 : Int), a.fit 51 ∧ Base (Fr w0) O w0 O8 w ∧ a.get 0 = v_0 ∧ (rSl (rInt .i64)).v O8 w v_0 x_0 ∧ a.get 3 = u2 ∧ (rSl (rInt .i64)).v O8 w u2 x1 ∧ a.get 4 = .int .i64 x4 ∧ a.get 5 = .bool x6 ∧ a.get 6 = .int .i64 x7 ∧ Comp.loopN (fun s => colletref32_Minimal_l5 x_0 x4 s.1 s.2) n m (x6, x7) = some e5) (m := n) ?st5 ?_
          case st5 =>
            exact ⟨_, _, _, hA, hB, q0, h_0, q3, f3, q4, q5, q6, Comp.run_loop he5⟩
          intro m_ a8 w8 hI
          clear hA hB he5 q0 q3 q4 q5 q6 f3 h_0
          obtain ⟨O8, x6, x7, hA, hB, q0, h_0, q3, f3, q4, q5, q6, hl⟩ := hI
          obtain ⟨m5, hlt5, st5, h, hnext5, hdone5⟩ := Comp.loopN_succ hl; clear hl
          replace h : (colletref32_Minimal_l5 x_0 x4 x6 x7).run n = some st5 := h
          unfold colletref32_Minimal_l5 at h
          refine wp_seq ?_
          refine wp_seq ?_
          refine' region [_, _, _, _] mixed hA (.cons ?z7_0 (.cons ?z7_1 (.cons ?z7_2 (.cons ?z7_3 .nil)))) ?zok7 ?zgd7 ?zk7
          case z7_0 => intro a' w' hE hK hg; exact ok_move (kn (hK 6 rfl) rfl q6)
          case z7_1 => intro a' w' hE hK hg; exact ok_move (kn (hK 0 rfl) rfl q0)
          case z7_2 => intro a' w' hE hK hg; exact okl_len (r := (rInt .i64)) ty58 (ksv (j := 1) (hK 14 rfl) rfl rfl rfl) (rd_of (GR.v_ext _ h_0 hE))
          case z7_3 => intro a' w' hE hK hg; exact ok_lss (ksv (j := 0) (hK 13 rfl) rfl rfl rfl) (ksv (j := 2) (hK 15 rfl) rfl rfl rfl)
          case zok7 => kernel_rfl
          case zgd7 => kernel_rfl
          intro a9 w9 hA' hE HF
          replace q0 := kn (HF 0) rfl q0
          replace q3 := kn (HF 3) rfl q3
          replace q4 := kn (HF 4) rfl q4
          replace q5 := kn (HF 5) rfl q5
          replace q6 := kn (HF 6) rfl q6
          have q16 := ksv (HF 16) rfl rfl rfl
          clear hA HF; have hA := hA'; clear hA'
          replace h_0 := GR.v_ext _ h_0 hE
          replace f3 := GR.v_ext _ f3 hE
          replace hB := Base.step hB hE hO; clear hE
          refine (li_nil ?_)
          refine (nx_then ?_)
          refine wp_cond_b q16 (fun hc => ?_) (fun hc => ?_)
          ·
            replace h := Comp.run_b_t hc h; clear hc
            refine wp_skip ?_
            refine (nx_then ?_)
            refine wp_seq ?_
            refine wp_block ?_
            obtain ⟨x9, hx9, h⟩ := Comp.run_bind h
            obtain ⟨x10, hx10, h⟩ := Comp.run_bind h
            obtain ⟨x11, hx11, h⟩ := Comp.run_bind h
            obtain ⟨x12, hx12, h⟩ := Comp.run_bind h
            obtain ⟨x13, hx13, h⟩ := Comp.run_bind h
            refine' region [_, _, _, _, SP.ptr (rInt .i64) O8 x9, SP.isv (.int .i64 x9), _, _, SP.ptr (rInt .i64) O8 x10, SP.isv (.int .i64 x10), _, _, _, _, SP.ptr (rInt .i64) O8 x11, SP.isv (.int .i64 x11), _, _, SP.ptr (rInt .i64) O8 x12, SP.isv (.int .i64 x12), SP.isv (.bool x13), _, _, _, _] mixed hA (.cons ?z8_0 (.cons ?z8_1 (.cons ?z8_2 (.cons ?z8_3 (.cons ?z8_4 (.cons ?z8_5 (.cons ?z8_6 (.cons ?z8_7 (.cons ?z8_8 (.cons ?z8_9 (.cons ?z8_10 (.cons ?z8_11 (.cons ?z8_12 (.cons ?z8_13 (.cons ?z8_14 (.cons ?z8_15 (.cons ?z8_16 (.cons ?z8_17 (.cons ?z8_18 (.cons ?z8_19 (.cons ?z8_20 (.cons ?z8_21 (.cons ?z8_22 (.cons ?z8_23 (.cons ?z8_24 .nil))))))))))))))))))))))))) ?zok8 ?zgd8 ?zk8
            case z8_0 => intro a' w' hE hK hg; exact ok_move (kn (hK 5 rfl) rfl q5)
            case z8_1 => intro a' w' hE hK hg; exact ok_move (ksv (j := 0) (hK 19 rfl) rfl rfl rfl)
            case z8_2 => intro a' w' hE hK hg; exact ok_move (kn (hK 0 rfl) rfl q0)
            case z8_3 => intro a' w' hE hK hg; exact ok_move (kn (hK 6 rfl) rfl q6)
            case z8_4 => intro a' w' hE hK hg; exact okl_idx (r := (rInt .i64)) (O := O8) ty58 ty3 rfl (ksv (j := 2) (hK 21 rfl) rfl rfl hg) (rd_of (GR.v_ext _ h_0 hE)) (ksv (j := 3) (hK 22 rfl) rfl rfl hg) (run_gdb hx9 hg)
            case z8_5 => intro a' w' hE hK hg; exact okl_ldr (rInt .i64) (fun _ => rfl) ty3 rfl rfl rfl (kspS (φ := SP.ptr (rInt .i64) O8 x9) (j := 4) (hK 23 rfl) rfl rfl hg) (fun _ _ _ h => rInt_v.1 h)
            case z8_6 => intro a' w' hE hK hg; exact ok_move (kn (hK 0 rfl) rfl q0)
            case z8_7 => intro a' w' hE hK hg; exact ok_move (kn (hK 4 rfl) rfl q4)
            case z8_8 => intro a' w' hE hK hg; exact okl_idx (r := (rInt .i64)) (O := O8) ty58 ty3 rfl (ksv (j := 6) (hK 25 rfl) rfl rfl hg) (rd_of (GR.v_ext _ h_0 hE)) (ksv (j := 7) (hK 26 rfl) rfl rfl hg) (run_gdb hx10 hg)
            case z8_9 => intro a' w' hE hK hg; exact okl_ldr (rInt .i64) (fun _ => rfl) ty3 rfl rfl rfl (kspS (φ := SP.ptr (rInt .i64) O8 x10) (j := 8) (hK 27 rfl) rfl rfl hg) (fun _ _ _ h => rInt_v.1 h)
            case z8_10 => intro a' w' hE hK hg; exact ok_eqlI (ksv (j := 5) (hK 24 rfl) rfl rfl hg) (ksv (j := 9) (hK 28 rfl) rfl rfl hg)
            case z8_11 => intro a' w' hE hK hg; exact ok_move (ksv (j := 10) (hK 29 rfl) rfl rfl hg)
            case z8_12 => intro a' w' hE hK hg; exact ok_move (kn (hK 0 rfl) rfl q0)
            case z8_13 => intro a' w' hE hK hg; exact ok_move (kn (hK 4 rfl) rfl q4)
            case z8_14 => intro a' w' hE hK hg; exact okl_idx (r := (rInt .i64)) (O := O8) ty58 ty3 rfl (ksv (j := 12) (hK 31 rfl) rfl rfl hg) (rd_of (GR.v_ext _ h_0 hE)) (ksv (j := 13) (hK 32 rfl) rfl rfl hg) (run_gdb hx11 hg)
            case z8_15 => intro a' w' hE hK hg; exact okl_ldr (rInt .i64) (fun _ => rfl) ty3 rfl rfl rfl (kspS (φ := SP.ptr (rInt .i64) O8 x11) (j := 14) (hK 33 rfl) rfl rfl hg) (fun _ _ _ h => rInt_v.1 h)
            case z8_16 => intro a' w' hE hK hg; exact ok_move (kn (hK 0 rfl) rfl q0)
            case z8_17 => intro a' w' hE hK hg; exact ok_move (kn (hK 6 rfl) rfl q6)
            case z8_18 => intro a' w' hE hK hg; exact okl_idx (r := (rInt .i64)) (O := O8) ty58 ty3 rfl (ksv (j := 16) (hK 35 rfl) rfl rfl hg) (rd_of (GR.v_ext _ h_0 hE)) (ksv (j := 17) (hK 36 rfl) rfl rfl hg) (run_gdb hx12 hg)
            case z8_19 => intro a' w' hE hK hg; exact okl_ldr (rInt .i64) (fun _ => rfl) ty3 rfl rfl rfl (kspS (φ := SP.ptr (rInt .i64) O8 x12) (j := 18) (hK 37 rfl) rfl rfl hg) (fun _ _ _ h => rInt_v.1 h)
            case z8_20 => intro a' w' hE hK hg; have c_ := ok_colletref32_has (OkO.ext hB.ok hE)  (run_gdb hx13 hg); exact ok_call2 fn80 (ksv (j := 15) (hK 34 rfl) rfl rfl hg) (ksv (j := 19) (hK 38 rfl) rfl rfl hg) c_
            case z8_21 => intro a' w' hE hK hg; exact ok_not (ksv (j := 20) (hK 39 rfl) rfl rfl hg)
            case z8_22 => intro a' w' hE hK hg; exact ok_pick (ksv (j := 11) (hK 30 rfl) rfl rfl hg) (fun _ => rfl) (fun hb => ksv (j := 21) (hK 40 rfl) rfl rfl (act_g1 rfl hg hb))
            case z8_23 => intro a' w' hE hK hg; exact ok_pick (ksv (j := 1) (hK 20 rfl) rfl rfl rfl) (fun hb => ksv (j := 22) (hK 41 rfl) rfl rfl (act_g1 rfl rfl hb)) (fun _ => rfl)
            case z8_24 => intro a' w' hE hK hg; exact ok_assign (ksv (j := 23) (hK 42 rfl) rfl rfl rfl)
            case zok8 => kernel_rfl
            case zgd8 => kernel_rfl
            intro a10 w10 hA' hE HF
            replace q0 := kn (HF 0) rfl q0
            replace q3 := kn (HF 3) rfl q3
            replace q4 := kn (HF 4) rfl q4
            have q5' := ksv (HF 5) rfl rfl rfl
            replace q5 := q5'; clear q5'
            replace q6 := kn (HF 6) rfl q6
            clear q16
            clear hA HF; have hA := hA'; clear hA'
            replace h_0 := GR.v_ext _ h_0 hE
            replace f3 := GR.v_ext _ f3 hE
            replace hB := Base.step hB hE hO; clear hE
            obtain ⟨x14, hx_, h⟩ := Comp.run_bind h; replace hx_ := Comp.run_pure hx_; rw [hx_] at q5; clear hx_
            refine (li_nil ?_)
            refine (nx_blk (nx_then ?_))
            refine' region [_, _, _] mixed hA (.cons ?z9_0 (.cons ?z9_1 (.cons ?z9_2 .nil))) ?zok9 ?zgd9 ?zk9
            case z9_0 => intro a' w' hE hK hg; exact ok_move (kn (hK 6 rfl) rfl q6)
            case z9_1 => intro a' w' hE hK hg; exact ok_add (ksv (j := 0) (hK 17 rfl) rfl rfl rfl) rfl
            case z9_2 => intro a' w' hE hK hg; exact ok_assign (ksv (j := 1) (hK 18 rfl) rfl rfl rfl)
            case zok9 => kernel_rfl
            case zgd9 => kernel_rfl
            intro a11 w11 hA' hE HF
            replace q0 := kn (HF 0) rfl q0
            replace q3 := kn (HF 3) rfl q3
            replace q4 := kn (HF 4) rfl q4
            replace q5 := kn (HF 5) rfl q5
            have q6' := ksv (HF 6) rfl rfl rfl
            replace q6 := q6'; clear q6'
            clear hA HF; have hA := hA'; clear hA'
            replace h_0 := GR.v_ext _ h_0 hE
            replace f3 := GR.v_ext _ f3 hE
            replace hB := Base.step hB hE hO; clear hE
            refine (li_nil ?_)
            refine (nx_then ?_)
            have h := hnext5 _ (Comp.run_pure h).symm
            refine ⟨m5, hlt5, ?_⟩
            exact ⟨_, _, _, hA, hB, q0, h_0, q3, f3, q4, q5, q6, h⟩
          ·
            replace h := Comp.run_b_f hc h; clear hc
            refine wp_exit ?_
            refine (ex_then (ex_then (ex_same ?_)))
            have hd_ := hdone5 _ (Comp.run_pure h).symm; clear h
            subst hd_; have h := hk5; clear hk5; try dsimp only at h
            refine (nx_then ?_)
            exact ⟨_, _, hA, hB, q0, h_0, q3, f3, q4, q5, h⟩
        intro a12 w12 hI
        clear hA hB h q0 q3 q4 q5 f3 h_0
        obtain ⟨O18, x17, hA, hB, q0, h_0, q3, f3, q4, q5, h⟩ := hI
        unfold colletref32_Minimal_j4 at h
        refine wp_seq ?_
        refine' region [_] mixed hA (.cons ?z10_0 .nil) ?zok10 ?zgd10 ?zk10
        case z10_0 => intro a' w' hE hK hg; exact ok_move (kn (hK 5 rfl) rfl q5)
        case zok10 => kernel_rfl
        case zgd10 => kernel_rfl
        intro a13 w13 hA' hE HF
        replace q0 := kn (HF 0) rfl q0
        replace q3 := kn (HF 3) rfl q3
        replace q4 := kn (HF 4) rfl q4
        have q43 := ksv (HF 43) rfl rfl rfl
        clear q5
        clear hA HF; have hA := hA'; clear hA'
        replace h_0 := GR.v_ext _ h_0 hE
        replace f3 := GR.v_ext _ f3 hE
        replace hB := Base.step hB hE hO; clear hE
        refine (li_nil ?_)
        refine (nx_then ?_)
        refine wp_cond_b q43 (fun hc => ?_) (fun hc => ?_)
        ·
          replace h := Comp.run_b_t hc h; clear hc
          obtain ⟨x19, hx19, h⟩ := Comp.run_bind h
          obtain ⟨x20, hx20, h⟩ := Comp.run_bind h
          refine' region [_, _, _, SP.ptr (rInt .i64) O18 x19, SP.isv (.int .i64 x19), SP.vl (rSl (rInt .i64)) O18 x20, SP.vl (rSl (rInt .i64)) O18 x20] mixed hA (.cons ?z11_0 (.cons ?z11_1 (.cons ?z11_2 (.cons ?z11_3 (.cons ?z11_4 (.cons ?z11_5 (.cons ?z11_6 .nil))))))) ?zok11 ?zgd11 ?zk11
          case z11_0 => intro a' w' hE hK hg; exact ok_move (kn (hK 3 rfl) rfl q3)
          case z11_1 => intro a' w' hE hK hg; exact ok_move (kn (hK 0 rfl) rfl q0)
          case z11_2 => intro a' w' hE hK hg; exact ok_move (kn (hK 4 rfl) rfl q4)
          case z11_3 => intro a' w' hE hK hg; exact okl_idx (r := (rInt .i64)) (O := O18) ty58 ty3 rfl (ksv (j := 1) (hK 45 rfl) rfl rfl rfl) (rd_of (GR.v_ext _ h_0 hE)) (ksv (j := 2) (hK 46 rfl) rfl rfl rfl) hx19
          case z11_4 => intro a' w' hE hK hg; exact okl_ldr (rInt .i64) (fun _ => rfl) ty3 rfl rfl rfl (kspS (φ := SP.ptr (rInt .i64) O18 x19) (j := 3) (hK 47 rfl) rfl rfl rfl) (fun _ _ _ h => rInt_v.1 h)
          case z11_5 => intro a' w' hE hK hg; have c_ := ok_colletref32_put (OkO.ext hB.ok hE) (GR.v_ext _ f3 hE) hx20; exact ok_call2 fn81 (ksv (j := 0) (hK 44 rfl) rfl rfl rfl) (ksv (j := 4) (hK 48 rfl) rfl rfl rfl) c_
          case z11_6 => intro a' w' hE hK hg; exact ok_assign_pr (φ := SP.vl (rSl (rInt .i64)) O18 x20) (kspS (φ := SP.vl (rSl (rInt .i64)) O18 x20) (j := 5) (hK 49 rfl) rfl rfl rfl)
          case zok11 => kernel_rfl
          case zgd11 => kernel_rfl
          intro a14 w14 hA' hE HF
          replace q0 := kn (HF 0) rfl q0
          have f22 := ksp (HF 3) rfl rfl rfl
          obtain ⟨u21, q3'⟩ : ∃ u, a14.get 3 = u := ⟨_, rfl⟩
          rw [q3'] at f22
          replace q3 := q3'; clear q3'
          replace q4 := kn (HF 4) rfl q4
          clear q43
          clear hA HF; have hA := hA'; clear hA'
          replace h_0 := GR.v_ext _ h_0 hE
          replace f3 := GR.v_ext _ f3 hE
          replace hB := Base.step hB hE hO; clear hE
          refine (li_nil ?_)
          refine (nx_blk (nx_then ?_))
          exact ⟨_, _, _, hA, hB, q0, h_0, q3, f22, q4, h⟩
        ·
          replace h := Comp.run_b_f hc h; clear hc
          refine wp_skip ?_
          refine (nx_blk (nx_then ?_))
          exact ⟨_, _, _, hA, hB, q0, h_0, q3, f3, q4, h⟩
      intro a15 w15 hI
      clear hA hB h q0 q3 q4 q10 f3 h_0
      obtain ⟨O26, x23, u24, hA, hB, q0, h_0, q3, f25, q4, h⟩ := hI
      unfold colletref32_Minimal_j3 at h
      refine' region [_, _, _] mixed hA (.cons ?z12_0 (.cons ?z12_1 (.cons ?z12_2 .nil))) ?zok12 ?zgd12 ?zk12
      case z12_0 => intro a' w' hE hK hg; exact ok_move (kn (hK 4 rfl) rfl q4)
      case z12_1 => intro a' w' hE hK hg; exact ok_add (ksv (j := 0) (hK 11 rfl) rfl rfl rfl) rfl
      case z12_2 => intro a' w' hE hK hg; exact ok_assign (ksv (j := 1) (hK 12 rfl) rfl rfl rfl)
      case zok12 => kernel_rfl
      case zgd12 => kernel_rfl
      intro a16 w16 hA' hE HF
      replace q0 := kn (HF 0) rfl q0
      replace q3 := kn (HF 3) rfl q3
      have q4' := ksv (HF 4) rfl rfl rfl
      replace q4 := q4'; clear q4'
      clear hA HF; have hA := hA'; clear hA'
      replace h_0 := GR.v_ext _ h_0 hE
      replace f25 := GR.v_ext _ f25 hE
      replace hB := Base.step hB hE hO; clear hE
      refine (li_nil ?_)
      refine (nx_then ?_)
      have h := hnext2 _ (Comp.run_pure h).symm
      refine ⟨m2, hlt2, ?_⟩
      exact ⟨_, _, _, _, hA, hB, q0, h_0, q3, f25, q4, h⟩
    ·
      replace h := Comp.run_b_f hc h; clear hc
      refine wp_exit ?_
      refine (ex_then (ex_then (ex_same ?_)))
      have hd_ := hdone2 _ (Comp.run_pure h).symm; clear h
      subst hd_; have h := hk2; clear hk2; try dsimp only at h
      refine (nx_then ?_)
      exact ⟨_, _, _, hA, hB, q3, f3, h⟩
  intro a17 w17 hI
  clear hA hB h q0 q3 h_0
  obtain ⟨O32, x29, u30, hA, hB, q3, f31, h⟩ := hI
  unfold colletref32_Minimal_j1 at h
  refine wp_seq ?_
  refine' region [_, _] mixed hA (.cons ?z13_0 (.cons ?z13_1 .nil)) ?zok13 ?zgd13 ?zk13
  case z13_0 => intro a' w' hE hK hg; exact ok_move (kn (hK 3 rfl) rfl q3)
  case z13_1 => intro a' w' hE hK hg; exact ok_assign (ksv (j := 0) (hK 50 rfl) rfl rfl rfl)
  case zok13 => kernel_rfl
  case zgd13 => kernel_rfl
  intro a18 w18 hA' hE HF
  have q2 := ksv (HF 2) rfl rfl rfl
  clear q3
  clear hA HF; have hA := hA'; clear hA'
  replace f31 := GR.v_ext _ f31 hE
  replace hB := Base.step hB hE hO; clear hE
  refine (li_nil ?_)
  refine (nx_then ?_)
  refine (wp_ret ?_)
  have h := Comp.run_pure h; subst h
  exact retPure Try.results43 hA q2 hB.ext (hB.res (rSl (rInt .i64)) f31)

theorem ok_colletref32_Count {O : Tags} {w0 : World} (hO : OkO O w0) {x_0 : Int} {n : Nat} {y : Int} (h : (colletref32_Count x_0).run n = some y) : Pure Try.prog 85 #[.int .i64 x_0] w0 (SP.isv (.int .i64 y)).holds := by
  unfold colletref32_Count at h
  refine pure_of_wp Try.func85 rfl 16 Try.ntmps85 (by simp) fun a0 hA hs0 => ?_
  have q0 := hs0 0 _ rfl
  clear hs0
  have hB : Base (Fr w0) O w0 O w0 := Base.start hO
  refine wp_seq ?_
  refine' region [_] mixed hA (.cons ?z1_0 .nil) ?zok1 ?zgd1 ?zk1
  case z1_0 => intro a' w' hE hK hg; exact ok_assign rfl
  case zok1 => kernel_rfl
  case zgd1 => kernel_rfl
  intro a1 w1 hA' hE HF
  replace q0 := kn (HF 0) rfl q0
  clear hA HF; have hA := hA'; clear hA'
  replace hB := Base.step hB hE hO; clear hE
  refine (li_nil ?_)
  refine (nx_then ?_)
  refine wp_seq ?_
  refine' region [_] mixed hA (.cons ?z2_0 .nil) ?zok2 ?zgd2 ?zk2
  case z2_0 => intro a' w' hE hK hg; exact ok_assign rfl
  case zok2 => kernel_rfl
  case zgd2 => kernel_rfl
  intro a2 w2 hA' hE HF
  replace q0 := kn (HF 0) rfl q0
  have q3 := ksv (HF 3) rfl rfl rfl
  clear hA HF; have hA := hA'; clear hA'
  replace hB := Base.step hB hE hO; clear hE
  refine (li_nil ?_)
  refine (nx_then ?_)
  refine seq_join (fun a w => ∃ (O9 : Tags) (x8 : Int), a.fit 16 ∧ Base (Fr w0) O w0 O9 w ∧ a.get 3 = .int .i64 x8 ∧ (colletref32_Count_j1 x8).run n = some y) ?_ ?_
  ·
    refine wp_seq ?_
    refine' region [_] mixed hA (.cons ?z3_0 .nil) ?zok3 ?zgd3 ?zk3
    case z3_0 => intro a' w' hE hK hg; exact ok_assign rfl
    case zok3 => kernel_rfl
    case zgd3 => kernel_rfl
    intro a3 w3 hA' hE HF
    replace q0 := kn (HF 0) rfl q0
    replace q3 := kn (HF 3) rfl q3
    have q4 := ksv (HF 4) rfl rfl rfl
    clear hA HF; have hA := hA'; clear hA'
    replace hB := Base.step hB hE hO; clear hE
    refine (li_nil ?_)
    refine (nx_then ?_)
    refine wp_block ?_
    obtain ⟨e2, he2, hk2⟩ := Comp.run_bind h; clear h
    refine loop_m (fun m a w => ∃ (O3 : Tags) (x1 : Int) (x2 : Int), a.fit 16 ∧ Base (Fr w0) O w0 O3 w ∧ a.get 0 = .int .i64 x_0 ∧ a.get 3 = .int .i64 x1 ∧ a.get 4 = .int .i64 x2 ∧ Comp.loopN (fun s => colletref32_Count_l2 x_0 s.1 s.2) n m (x1, x2) = some e2) (m := n) ?st2 ?_
    case st2 =>
      exact ⟨_, _, _, hA, hB, q0, q3, q4, Comp.run_loop he2⟩
    intro m_ a4 w4 hI
    clear hA hB he2 q0 q3 q4
    obtain ⟨O3, x1, x2, hA, hB, q0, q3, q4, hl⟩ := hI
    obtain ⟨m2, hlt2, st2, h, hnext2, hdone2⟩ := Comp.loopN_succ hl; clear hl
    replace h : (colletref32_Count_l2 x_0 x1 x2).run n = some st2 := h
    unfold colletref32_Count_l2 at h
    refine wp_seq ?_
    refine wp_seq ?_
    refine' region [_, _] mixed hA (.cons ?z4_0 (.cons ?z4_1 .nil)) ?zok4 ?zgd4 ?zk4
    case z4_0 => intro a' w' hE hK hg; exact ok_move (kn (hK 4 rfl) rfl q4)
    case z4_1 => intro a' w' hE hK hg; exact ok_lss (ksv (j := 0) (hK 5 rfl) rfl rfl rfl) rfl
    case zok4 => kernel_rfl
    case zgd4 => kernel_rfl
    intro a5 w5 hA' hE HF
    replace q0 := kn (HF 0) rfl q0
    replace q3 := kn (HF 3) rfl q3
    replace q4 := kn (HF 4) rfl q4
    have q6 := ksv (HF 6) rfl rfl rfl
    clear hA HF; have hA := hA'; clear hA'
    replace hB := Base.step hB hE hO; clear hE
    refine (li_nil ?_)
    refine (nx_then ?_)
    refine wp_cond_b q6 (fun hc => ?_) (fun hc => ?_)
    ·
      replace h := Comp.run_b_t hc h; clear hc
      refine wp_skip ?_
      refine (nx_then ?_)
      refine wp_seq ?_
      refine wp_block ?_
      obtain ⟨x4, hx4, h⟩ := Comp.run_bind h
      refine' region [_, _, _, _, _, _, _] mixed hA (.cons ?z5_0 (.cons ?z5_1 (.cons ?z5_2 (.cons ?z5_3 (.cons ?z5_4 (.cons ?z5_5 (.cons ?z5_6 .nil))))))) ?zok5 ?zgd5 ?zk5
      case z5_0 => intro a' w' hE hK hg; exact ok_move (kn (hK 3 rfl) rfl q3)
      case z5_1 => intro a' w' hE hK hg; exact ok_move (kn (hK 0 rfl) rfl q0)
      case z5_2 => intro a' w' hE hK hg; exact ok_move (kn (hK 4 rfl) rfl q4)
      case z5_3 => intro a' w' hE hK hg; exact okl_shr (ksv (j := 1) (hK 10 rfl) rfl rfl rfl) (ksv (j := 2) (hK 11 rfl) rfl rfl rfl) (run_nonneg hx4)
      case z5_4 => intro a' w' hE hK hg; exact okb_and (ksv (j := 3) (hK 12 rfl) rfl rfl rfl) rfl
      case z5_5 => intro a' w' hE hK hg; exact ok_add (ksv (j := 0) (hK 9 rfl) rfl rfl rfl) (ksv (j := 4) (hK 13 rfl) rfl rfl rfl)
      case z5_6 => intro a' w' hE hK hg; exact ok_assign (ksv (j := 5) (hK 14 rfl) rfl rfl rfl)
      case zok5 => kernel_rfl
      case zgd5 => kernel_rfl
      intro a6 w6 hA' hE HF
      replace q0 := kn (HF 0) rfl q0
      have q3' := ksv (HF 3) rfl rfl rfl
      replace q3 := q3'; clear q3'
      replace q4 := kn (HF 4) rfl q4
      clear q6
      clear hA HF; have hA := hA'; clear hA'
      replace hB := Base.step hB hE hO; clear hE
      obtain ⟨x5, hx_, h⟩ := Comp.run_bind h; replace hx_ := Comp.run_pure hx_; rw [hx_] at q3; clear hx_
      refine (li_nil ?_)
      refine (nx_blk (nx_then ?_))
      refine' region [_, _, _] mixed hA (.cons ?z6_0 (.cons ?z6_1 (.cons ?z6_2 .nil))) ?zok6 ?zgd6 ?zk6
      case z6_0 => intro a' w' hE hK hg; exact ok_move (kn (hK 4 rfl) rfl q4)
      case z6_1 => intro a' w' hE hK hg; exact ok_add (ksv (j := 0) (hK 7 rfl) rfl rfl rfl) rfl
      case z6_2 => intro a' w' hE hK hg; exact ok_assign (ksv (j := 1) (hK 8 rfl) rfl rfl rfl)
      case zok6 => kernel_rfl
      case zgd6 => kernel_rfl
      intro a7 w7 hA' hE HF
      replace q0 := kn (HF 0) rfl q0
      replace q3 := kn (HF 3) rfl q3
      have q4' := ksv (HF 4) rfl rfl rfl
      replace q4 := q4'; clear q4'
      clear hA HF; have hA := hA'; clear hA'
      replace hB := Base.step hB hE hO; clear hE
      refine (li_nil ?_)
      refine (nx_then ?_)
      have h := hnext2 _ (Comp.run_pure h).symm
      refine ⟨m2, hlt2, ?_⟩
      exact ⟨_, _, _, hA, hB, q0, q3, q4, h⟩
    ·
      replace h := Comp.run_b_f hc h; clear hc
      refine wp_exit ?_
      refine (ex_then (ex_then (ex_same ?_)))
      have hd_ := hdone2 _ (Comp.run_pure h).symm; clear h
      subst hd_; have h := hk2; clear hk2; try dsimp only at h
      refine (nx_then ?_)
      exact ⟨_, _, hA, hB, q3, h⟩
  intro a8 w8 hI
  clear hA hB h q0 q3
  obtain ⟨O9, x8, hA, hB, q3, h⟩ := hI
  unfold colletref32_Count_j1 at h
  refine wp_seq ?_
  refine' region [_, _] mixed hA (.cons ?z7_0 (.cons ?z7_1 .nil)) ?zok7 ?zgd7 ?zk7
  case z7_0 => intro a' w' hE hK hg; exact ok_move (kn (hK 3 rfl) rfl q3)
  case z7_1 => intro a' w' hE hK hg; exact ok_assign (ksv (j := 0) (hK 15 rfl) rfl rfl rfl)
  case zok7 => kernel_rfl
  case zgd7 => kernel_rfl
  intro a9 w9 hA' hE HF
  have q2 := ksv (HF 2) rfl rfl rfl
  clear q3
  clear hA HF; have hA := hA'; clear hA'
  replace hB := Base.step hB hE hO; clear hE
  refine (li_nil ?_)
  refine (nx_then ?_)
  refine (wp_ret ?_)
  have h := Comp.run_pure h; subst h
  exact retPure Try.results85 hA q2 hB.ext rfl

theorem ok_colletref32_Least {O : Tags} {w0 : World} (hO : OkO O w0) {v_0 : Value} {x_0 : List Int} (h_0 : (rSl (rInt .i64)).v O w0 v_0 x_0) {n : Nat} {y : (Int × Bool)} (h : (colletref32_Least x_0).run n = some y) : Pure Try.prog 45 #[v_0] w0 (SP.tup2 (SP.isv (.int .i64 y.1)) (SP.isv (.bool y.2))).holds := by
  unfold colletref32_Least at h
  refine pure_of_wp Try.func45 rfl 31 Try.ntmps45 (by simp) fun a0 hA hs0 => ?_
  have q0 := hs0 0 _ rfl
  clear hs0
  have hB : Base (Fr w0) O w0 O w0 := Base.start hO
  refine wp_seq ?_
  refine' region [_, _] mixed hA (.cons ?z1_0 (.cons ?z1_1 .nil)) ?zok1 ?zgd1 ?zk1
  case z1_0 => intro a' w' hE hK hg; exact ok_assign rfl
  case z1_1 => intro a' w' hE hK hg; exact ok_assign rfl
  case zok1 => kernel_rfl
  case zgd1 => kernel_rfl
  intro a1 w1 hA' hE HF
  replace q0 := kn (HF 0) rfl q0
  clear hA HF; have hA := hA'; clear hA'
  replace h_0 := GR.v_ext _ h_0 hE
  replace hB := Base.step hB hE hO; clear hE
  refine (li_nil ?_)
  refine (nx_then ?_)
  refine wp_seq ?_
  refine wp_seq ?_
  refine' region [_, _, _] mixed hA (.cons ?z2_0 (.cons ?z2_1 (.cons ?z2_2 .nil))) ?zok2 ?zgd2 ?zk2
  case z2_0 => intro a' w' hE hK hg; exact ok_move (kn (hK 0 rfl) rfl q0)
  case z2_1 => intro a' w' hE hK hg; exact okl_len (r := (rInt .i64)) ty58 (ksv (j := 0) (hK 6 rfl) rfl rfl rfl) (rd_of (GR.v_ext _ h_0 hE))
  case z2_2 => intro a' w' hE hK hg; exact ok_eqlI (ksv (j := 1) (hK 7 rfl) rfl rfl rfl) rfl
  case zok2 => kernel_rfl
  case zgd2 => kernel_rfl
  intro a2 w2 hA' hE HF
  replace q0 := kn (HF 0) rfl q0
  have q8 := ksv (HF 8) rfl rfl rfl
  clear hA HF; have hA := hA'; clear hA'
  replace h_0 := GR.v_ext _ h_0 hE
  replace hB := Base.step hB hE hO; clear hE
  refine (li_nil ?_)
  refine (nx_then ?_)
  refine wp_cond_b q8 (fun hc => ?_) (fun hc => ?_)
  ·
    replace h := Comp.run_b_t hc h; clear hc
    refine wp_seq ?_
    refine' region [_, _] mixed hA (.cons ?z3_0 (.cons ?z3_1 .nil)) ?zok3 ?zgd3 ?zk3
    case z3_0 => intro a' w' hE hK hg; exact ok_assign rfl
    case z3_1 => intro a' w' hE hK hg; exact ok_assign rfl
    case zok3 => kernel_rfl
    case zgd3 => kernel_rfl
    intro a3 w3 hA' hE HF
    have q2 := ksv (HF 2) rfl rfl rfl
    have q3 := ksv (HF 3) rfl rfl rfl
    clear q0
    clear q8
    clear hA HF; have hA := hA'; clear hA'
    replace h_0 := GR.v_ext _ h_0 hE
    replace hB := Base.step hB hE hO; clear hE
    refine (li_nil ?_)
    refine (nx_then ?_)
    refine (wp_ret (rt_then ?_))
    have h := Comp.run_pure h; subst h
    exact retPure2 Try.results45 hA q2 q3 hB.ext ⟨_, _, rfl, rfl, rfl⟩
  ·
    replace h := Comp.run_b_f hc h; clear hc
    refine wp_skip ?_
    refine (nx_then ?_)
    refine wp_seq ?_
    obtain ⟨x1, hx1, h⟩ := Comp.run_bind h
    refine' region [_, SP.ptr (rInt .i64) O x1, SP.isv (.int .i64 x1), _] mixed hA (.cons ?z4_0 (.cons ?z4_1 (.cons ?z4_2 (.cons ?z4_3 .nil)))) ?zok4 ?zgd4 ?zk4
    case z4_0 => intro a' w' hE hK hg; exact ok_move (kn (hK 0 rfl) rfl q0)
    case z4_1 => intro a' w' hE hK hg; exact okl_idx (r := (rInt .i64)) (O := O) ty58 ty3 rfl (ksv (j := 0) (hK 9 rfl) rfl rfl rfl) (rd_of (GR.v_ext _ h_0 hE)) rfl hx1
    case z4_2 => intro a' w' hE hK hg; exact okl_ldr (rInt .i64) (fun _ => rfl) ty3 rfl rfl rfl (kspS (φ := SP.ptr (rInt .i64) O x1) (j := 1) (hK 10 rfl) rfl rfl rfl) (fun _ _ _ h => rInt_v.1 h)
    case z4_3 => intro a' w' hE hK hg; exact ok_assign (ksv (j := 2) (hK 11 rfl) rfl rfl rfl)
    case zok4 => kernel_rfl
    case zgd4 => kernel_rfl
    intro a4 w4 hA' hE HF
    replace q0 := kn (HF 0) rfl q0
    have q4 := ksv (HF 4) rfl rfl rfl
    clear q8
    clear hA HF; have hA := hA'; clear hA'
    replace h_0 := GR.v_ext _ h_0 hE
    replace hB := Base.step hB hE hO; clear hE
    refine (li_nil ?_)
    refine (nx_then ?_)
    refine seq_join (fun a w => ∃ (O14 : Tags) (x13 : Int), a.fit 31 ∧ Base (Fr w0) O w0 O14 w ∧ a.get 4 = .int .i64 x13 ∧ (colletref32_Least_j1 x13).run n = some y) ?_ ?_
    ·
      refine wp_seq ?_
      refine' region [_] mixed hA (.cons ?z5_0 .nil) ?zok5 ?zgd5 ?zk5
      case z5_0 => intro a' w' hE hK hg; exact ok_assign rfl
      case zok5 => kernel_rfl
      case zgd5 => kernel_rfl
      intro a5 w5 hA' hE HF
      replace q0 := kn (HF 0) rfl q0
      replace q4 := kn (HF 4) rfl q4
      have q5 := ksv (HF 5) rfl rfl rfl
      clear hA HF; have hA := hA'; clear hA'
      replace h_0 := GR.v_ext _ h_0 hE
      replace hB := Base.step hB hE hO; clear hE
      refine (li_nil ?_)
      refine (nx_then ?_)
      refine wp_block ?_
      obtain ⟨e2, he2, hk2⟩ := Comp.run_bind h; clear h
      refine loop_m (fun m a w => ∃ (O4 : Tags) (x2 : Int) (x3 : Int), a.fit 31 ∧ Base (Fr w0) O w0 O4 w ∧ a.get 0 = v_0 ∧ (rSl (rInt .i64)).v O4 w v_0 x_0 ∧ a.get 4 = .int .i64 x2 ∧ a.get 5 = .int .i64 x3 ∧ Comp.loopN (fun s => colletref32_Least_l2 x_0 s.1 s.2) n m (x2, x3) = some e2) (m := n) ?st2 ?_
      case st2 =>
        exact ⟨_, _, _, hA, hB, q0, h_0, q4, q5, Comp.run_loop he2⟩
      intro m_ a6 w6 hI
      clear hA hB he2 q0 q4 q5 h_0
      obtain ⟨O4, x2, x3, hA, hB, q0, h_0, q4, q5, hl⟩ := hI
      obtain ⟨m2, hlt2, st2, h, hnext2, hdone2⟩ := Comp.loopN_succ hl; clear hl
      replace h : (colletref32_Least_l2 x_0 x2 x3).run n = some st2 := h
      unfold colletref32_Least_l2 at h
      refine wp_seq ?_
      refine wp_seq ?_
      refine' region [_, _, _, _] mixed hA (.cons ?z6_0 (.cons ?z6_1 (.cons ?z6_2 (.cons ?z6_3 .nil)))) ?zok6 ?zgd6 ?zk6
      case z6_0 => intro a' w' hE hK hg; exact ok_move (kn (hK 5 rfl) rfl q5)
      case z6_1 => intro a' w' hE hK hg; exact ok_move (kn (hK 0 rfl) rfl q0)
      case z6_2 => intro a' w' hE hK hg; exact okl_len (r := (rInt .i64)) ty58 (ksv (j := 1) (hK 13 rfl) rfl rfl rfl) (rd_of (GR.v_ext _ h_0 hE))
      case z6_3 => intro a' w' hE hK hg; exact ok_lss (ksv (j := 0) (hK 12 rfl) rfl rfl rfl) (ksv (j := 2) (hK 14 rfl) rfl rfl rfl)
      case zok6 => kernel_rfl
      case zgd6 => kernel_rfl
      intro a7 w7 hA' hE HF
      replace q0 := kn (HF 0) rfl q0
      replace q4 := kn (HF 4) rfl q4
      replace q5 := kn (HF 5) rfl q5
      have q15 := ksv (HF 15) rfl rfl rfl
      clear hA HF; have hA := hA'; clear hA'
      replace h_0 := GR.v_ext _ h_0 hE
      replace hB := Base.step hB hE hO; clear hE
      refine (li_nil ?_)
      refine (nx_then ?_)
      refine wp_cond_b q15 (fun hc => ?_) (fun hc => ?_)
      ·
        replace h := Comp.run_b_t hc h; clear hc
        refine wp_skip ?_
        refine (nx_then ?_)
        refine seq_join (fun a w => ∃ (O10 : Tags) (x9 : Int), a.fit 31 ∧ Base (Fr w0) O w0 O10 w ∧ a.get 0 = v_0 ∧ (rSl (rInt .i64)).v O10 w v_0 x_0 ∧ a.get 4 = .int .i64 x9 ∧ a.get 5 = .int .i64 x3 ∧ (colletref32_Least_j3 x3 x9).run n = some st2) ?_ ?_
        ·
          refine wp_block ?_
          refine wp_seq ?_
          obtain ⟨x5, hx5, h⟩ := Comp.run_bind h
          obtain ⟨x6, hx6, h⟩ := Comp.run_bind h
          obtain ⟨x7, hx7, h⟩ := Comp.run_bind h
          refine' region [_, _, SP.ptr (rInt .i64) O4 x5, SP.isv (.int .i64 x5), SP.isv (.int .i64 x6), _, SP.isv (.int .i64 x7), _] mixed hA (.cons ?z7_0 (.cons ?z7_1 (.cons ?z7_2 (.cons ?z7_3 (.cons ?z7_4 (.cons ?z7_5 (.cons ?z7_6 (.cons ?z7_7 .nil)))))))) ?zok7 ?zgd7 ?zk7
          case z7_0 => intro a' w' hE hK hg; exact ok_move (kn (hK 0 rfl) rfl q0)
          case z7_1 => intro a' w' hE hK hg; exact ok_move (kn (hK 5 rfl) rfl q5)
          case z7_2 => intro a' w' hE hK hg; exact okl_idx (r := (rInt .i64)) (O := O4) ty58 ty3 rfl (ksv (j := 0) (hK 18 rfl) rfl rfl rfl) (rd_of (GR.v_ext _ h_0 hE)) (ksv (j := 1) (hK 19 rfl) rfl rfl rfl) hx5
          case z7_3 => intro a' w' hE hK hg; exact okl_ldr (rInt .i64) (fun _ => rfl) ty3 rfl rfl rfl (kspS (φ := SP.ptr (rInt .i64) O4 x5) (j := 2) (hK 20 rfl) rfl rfl rfl) (fun _ _ _ h => rInt_v.1 h)
          case z7_4 => intro a' w' hE hK hg; have c_ := ok_colletref32_Count (OkO.ext hB.ok hE)  hx6; exact ok_call1 fn85 (ksv (j := 3) (hK 21 rfl) rfl rfl rfl) c_
          case z7_5 => intro a' w' hE hK hg; exact ok_move (kn (hK 4 rfl) rfl q4)
          case z7_6 => intro a' w' hE hK hg; have c_ := ok_colletref32_Count (OkO.ext hB.ok hE)  hx7; exact ok_call1 fn85 (ksv (j := 5) (hK 23 rfl) rfl rfl rfl) c_
          case z7_7 => intro a' w' hE hK hg; exact ok_lss (ksv (j := 4) (hK 22 rfl) rfl rfl rfl) (ksv (j := 6) (hK 24 rfl) rfl rfl rfl)
          case zok7 => kernel_rfl
          case zgd7 => kernel_rfl
          intro a8 w8 hA' hE HF
          replace q0 := kn (HF 0) rfl q0
          replace q4 := kn (HF 4) rfl q4
          replace q5 := kn (HF 5) rfl q5
          have q25 := ksv (HF 25) rfl rfl rfl
          clear q15
          clear hA HF; have hA := hA'; clear hA'
          replace h_0 := GR.v_ext _ h_0 hE
          replace hB := Base.step hB hE hO; clear hE
          refine (li_nil ?_)
          refine (nx_then ?_)
          refine wp_cond_b q25 (fun hc => ?_) (fun hc => ?_)
          ·
            replace h := Comp.run_b_t hc h; clear hc
            obtain ⟨x8, hx8, h⟩ := Comp.run_bind h
            refine' region [_, _, SP.ptr (rInt .i64) O4 x8, SP.isv (.int .i64 x8), _] mixed hA (.cons ?z8_0 (.cons ?z8_1 (.cons ?z8_2 (.cons ?z8_3 (.cons ?z8_4 .nil))))) ?zok8 ?zgd8 ?zk8
            case z8_0 => intro a' w' hE hK hg; exact ok_move (kn (hK 0 rfl) rfl q0)
            case z8_1 => intro a' w' hE hK hg; exact ok_move (kn (hK 5 rfl) rfl q5)
            case z8_2 => intro a' w' hE hK hg; exact okl_idx (r := (rInt .i64)) (O := O4) ty58 ty3 rfl (ksv (j := 0) (hK 26 rfl) rfl rfl rfl) (rd_of (GR.v_ext _ h_0 hE)) (ksv (j := 1) (hK 27 rfl) rfl rfl rfl) hx8
            case z8_3 => intro a' w' hE hK hg; exact okl_ldr (rInt .i64) (fun _ => rfl) ty3 rfl rfl rfl (kspS (φ := SP.ptr (rInt .i64) O4 x8) (j := 2) (hK 28 rfl) rfl rfl rfl) (fun _ _ _ h => rInt_v.1 h)
            case z8_4 => intro a' w' hE hK hg; exact ok_assign (ksv (j := 3) (hK 29 rfl) rfl rfl rfl)
            case zok8 => kernel_rfl
            case zgd8 => kernel_rfl
            intro a9 w9 hA' hE HF
            replace q0 := kn (HF 0) rfl q0
            have q4' := ksv (HF 4) rfl rfl rfl
            replace q4 := q4'; clear q4'
            replace q5 := kn (HF 5) rfl q5
            clear q25
            clear hA HF; have hA := hA'; clear hA'
            replace h_0 := GR.v_ext _ h_0 hE
            replace hB := Base.step hB hE hO; clear hE
            refine (li_nil ?_)
            refine (nx_blk (nx_then ?_))
            exact ⟨_, _, hA, hB, q0, h_0, q4, q5, h⟩
          ·
            replace h := Comp.run_b_f hc h; clear hc
            refine wp_skip ?_
            refine (nx_blk (nx_then ?_))
            exact ⟨_, _, hA, hB, q0, h_0, q4, q5, h⟩
        intro a10 w10 hI
        clear hA hB h q0 q4 q5 q15 h_0
        obtain ⟨O10, x9, hA, hB, q0, h_0, q4, q5, h⟩ := hI
        unfold colletref32_Least_j3 at h
        refine' region [_, _, _] mixed hA (.cons ?z9_0 (.cons ?z9_1 (.cons ?z9_2 .nil))) ?zok9 ?zgd9 ?zk9
        case z9_0 => intro a' w' hE hK hg; exact ok_move (kn (hK 5 rfl) rfl q5)
        case z9_1 => intro a' w' hE hK hg; exact ok_add (ksv (j := 0) (hK 16 rfl) rfl rfl rfl) rfl
        case z9_2 => intro a' w' hE hK hg; exact ok_assign (ksv (j := 1) (hK 17 rfl) rfl rfl rfl)
        case zok9 => kernel_rfl
        case zgd9 => kernel_rfl
        intro a11 w11 hA' hE HF
        replace q0 := kn (HF 0) rfl q0
        replace q4 := kn (HF 4) rfl q4
        have q5' := ksv (HF 5) rfl rfl rfl
        replace q5 := q5'; clear q5'
        clear hA HF; have hA := hA'; clear hA'
        replace h_0 := GR.v_ext _ h_0 hE
        replace hB := Base.step hB hE hO; clear hE
        refine (li_nil ?_)
        refine (nx_then ?_)
        have h := hnext2 _ (Comp.run_pure h).symm
        refine ⟨m2, hlt2, ?_⟩
        exact ⟨_, _, _, hA, hB, q0, h_0, q4, q5, h⟩
      ·
        replace h := Comp.run_b_f hc h; clear hc
        refine wp_exit ?_
        refine (ex_then (ex_then (ex_same ?_)))
        have hd_ := hdone2 _ (Comp.run_pure h).symm; clear h
        subst hd_; have h := hk2; clear hk2; try dsimp only at h
        refine (nx_then ?_)
        exact ⟨_, _, hA, hB, q4, h⟩
    intro a12 w12 hI
    clear hA hB h q0 q4 h_0
    obtain ⟨O14, x13, hA, hB, q4, h⟩ := hI
    unfold colletref32_Least_j1 at h
    refine wp_seq ?_
    refine' region [_, _, _] mixed hA (.cons ?z10_0 (.cons ?z10_1 (.cons ?z10_2 .nil))) ?zok10 ?zgd10 ?zk10
    case z10_0 => intro a' w' hE hK hg; exact ok_move (kn (hK 4 rfl) rfl q4)
    case z10_1 => intro a' w' hE hK hg; exact ok_assign (ksv (j := 0) (hK 30 rfl) rfl rfl rfl)
    case z10_2 => intro a' w' hE hK hg; exact ok_assign rfl
    case zok10 => kernel_rfl
    case zgd10 => kernel_rfl
    intro a13 w13 hA' hE HF
    have q2 := ksv (HF 2) rfl rfl rfl
    have q3 := ksv (HF 3) rfl rfl rfl
    clear q4
    clear hA HF; have hA := hA'; clear hA'
    replace hB := Base.step hB hE hO; clear hE
    refine (li_nil ?_)
    refine (nx_then ?_)
    refine (wp_ret ?_)
    have h := Comp.run_pure h; subst h
    exact retPure2 Try.results45 hA q2 q3 hB.ext ⟨_, _, rfl, rfl, rfl⟩

theorem ok_colletref32_meets {O : Tags} {w0 : World} (hO : OkO O w0) {x_0 : Int} {v_1 : Value} {x_1 : List Int} (h_1 : (rSl (rInt .i64)).v O w0 v_1 x_1) {n : Nat} {y : Bool} (h : (colletref32_meets x_0 x_1).run n = some y) : Pure Try.prog 88 #[.int .i64 x_0, v_1] w0 (SP.isv (.bool y)).holds := by
  unfold colletref32_meets at h
  refine pure_of_wp Try.func88 rfl 19 Try.ntmps88 (by simp) fun a0 hA hs0 => ?_
  have q0 := hs0 0 _ rfl
  have q1 := hs0 1 _ rfl
  clear hs0
  have hB : Base (Fr w0) O w0 O w0 := Base.start hO
  refine wp_seq ?_
  refine' region [_] mixed hA (.cons ?z1_0 .nil) ?zok1 ?zgd1 ?zk1
  case z1_0 => intro a' w' hE hK hg; exact ok_assign rfl
  case zok1 => kernel_rfl
  case zgd1 => kernel_rfl
  intro a1 w1 hA' hE HF
  replace q0 := kn (HF 0) rfl q0
  replace q1 := kn (HF 1) rfl q1
  clear hA HF; have hA := hA'; clear hA'
  replace h_1 := GR.v_ext _ h_1 hE
  replace hB := Base.step hB hE hO; clear hE
  refine (li_nil ?_)
  refine (nx_then ?_)
  refine seq_join (fun a w => ∃ (O5 : Tags), a.fit 19 ∧ Base (Fr w0) O w0 O5 w ∧ (colletref32_meets_j1 ).run n = some y) ?_ ?_
  ·
    refine wp_seq ?_
    refine' region [_] mixed hA (.cons ?z2_0 .nil) ?zok2 ?zgd2 ?zk2
    case z2_0 => intro a' w' hE hK hg; exact ok_assign rfl
    case zok2 => kernel_rfl
    case zgd2 => kernel_rfl
    intro a2 w2 hA' hE HF
    replace q0 := kn (HF 0) rfl q0
    replace q1 := kn (HF 1) rfl q1
    have q5 := ksv (HF 5) rfl rfl rfl
    clear hA HF; have hA := hA'; clear hA'
    replace h_1 := GR.v_ext _ h_1 hE
    replace hB := Base.step hB hE hO; clear hE
    refine (li_nil ?_)
    refine (nx_then ?_)
    refine wp_block ?_
    obtain ⟨e2, he2, hk2⟩ := Comp.run_bind h; clear h
    refine loop_m (fun m a w => ∃ (O2 : Tags) (x1 : Int), a.fit 19 ∧ Base (Fr w0) O w0 O2 w ∧ a.get 0 = .int .i64 x_0 ∧ a.get 1 = v_1 ∧ (rSl (rInt .i64)).v O2 w v_1 x_1 ∧ a.get 5 = .int .i64 x1 ∧ Comp.loopN (fun s => colletref32_meets_l2 x_1 x_0 s) n m x1 = some e2) (m := n) ?st2 ?_
    case st2 =>
      exact ⟨_, _, hA, hB, q0, q1, h_1, q5, Comp.run_loop he2⟩
    intro m_ a3 w3 hI
    clear hA hB he2 q0 q1 q5 h_1
    obtain ⟨O2, x1, hA, hB, q0, q1, h_1, q5, hl⟩ := hI
    obtain ⟨m2, hlt2, st2, h, hnext2, hdone2⟩ := Comp.loopN_succ hl; clear hl
    replace h : (colletref32_meets_l2 x_1 x_0 x1).run n = some st2 := h
    unfold colletref32_meets_l2 at h
    refine wp_seq ?_
    refine wp_seq ?_
    refine' region [_, _, _, _] mixed hA (.cons ?z3_0 (.cons ?z3_1 (.cons ?z3_2 (.cons ?z3_3 .nil)))) ?zok3 ?zgd3 ?zk3
    case z3_0 => intro a' w' hE hK hg; exact ok_move (kn (hK 5 rfl) rfl q5)
    case z3_1 => intro a' w' hE hK hg; exact ok_move (kn (hK 1 rfl) rfl q1)
    case z3_2 => intro a' w' hE hK hg; exact okl_len (r := (rInt .i64)) ty58 (ksv (j := 1) (hK 7 rfl) rfl rfl rfl) (rd_of (GR.v_ext _ h_1 hE))
    case z3_3 => intro a' w' hE hK hg; exact ok_lss (ksv (j := 0) (hK 6 rfl) rfl rfl rfl) (ksv (j := 2) (hK 8 rfl) rfl rfl rfl)
    case zok3 => kernel_rfl
    case zgd3 => kernel_rfl
    intro a4 w4 hA' hE HF
    replace q0 := kn (HF 0) rfl q0
    replace q1 := kn (HF 1) rfl q1
    replace q5 := kn (HF 5) rfl q5
    have q9 := ksv (HF 9) rfl rfl rfl
    clear hA HF; have hA := hA'; clear hA'
    replace h_1 := GR.v_ext _ h_1 hE
    replace hB := Base.step hB hE hO; clear hE
    refine (li_nil ?_)
    refine (nx_then ?_)
    refine wp_cond_b q9 (fun hc => ?_) (fun hc => ?_)
    ·
      replace h := Comp.run_b_t hc h; clear hc
      refine wp_skip ?_
      refine (nx_then ?_)
      refine wp_seq ?_
      refine wp_block ?_
      refine wp_seq ?_
      obtain ⟨x3, hx3, h⟩ := Comp.run_bind h
      refine' region [_, _, _, SP.ptr (rInt .i64) O2 x3, SP.isv (.int .i64 x3), _, _] mixed hA (.cons ?z4_0 (.cons ?z4_1 (.cons ?z4_2 (.cons ?z4_3 (.cons ?z4_4 (.cons ?z4_5 (.cons ?z4_6 .nil))))))) ?zok4 ?zgd4 ?zk4
      case z4_0 => intro a' w' hE hK hg; exact ok_move (kn (hK 0 rfl) rfl q0)
      case z4_1 => intro a' w' hE hK hg; exact ok_move (kn (hK 1 rfl) rfl q1)
      case z4_2 => intro a' w' hE hK hg; exact ok_move (kn (hK 5 rfl) rfl q5)
      case z4_3 => intro a' w' hE hK hg; exact okl_idx (r := (rInt .i64)) (O := O2) ty58 ty3 rfl (ksv (j := 1) (hK 13 rfl) rfl rfl rfl) (rd_of (GR.v_ext _ h_1 hE)) (ksv (j := 2) (hK 14 rfl) rfl rfl rfl) hx3
      case z4_4 => intro a' w' hE hK hg; exact okl_ldr (rInt .i64) (fun _ => rfl) ty3 rfl rfl rfl (kspS (φ := SP.ptr (rInt .i64) O2 x3) (j := 3) (hK 15 rfl) rfl rfl rfl) (fun _ _ _ h => rInt_v.1 h)
      case z4_5 => intro a' w' hE hK hg; exact okb_and (ksv (j := 0) (hK 12 rfl) rfl rfl rfl) (ksv (j := 4) (hK 16 rfl) rfl rfl rfl)
      case z4_6 => intro a' w' hE hK hg; exact ok_eqlI (ksv (j := 5) (hK 17 rfl) rfl rfl rfl) rfl
      case zok4 => kernel_rfl
      case zgd4 => kernel_rfl
      intro a5 w5 hA' hE HF
      replace q0 := kn (HF 0) rfl q0
      replace q1 := kn (HF 1) rfl q1
      replace q5 := kn (HF 5) rfl q5
      have q18 := ksv (HF 18) rfl rfl rfl
      clear q9
      clear hA HF; have hA := hA'; clear hA'
      replace h_1 := GR.v_ext _ h_1 hE
      replace hB := Base.step hB hE hO; clear hE
      refine (li_nil ?_)
      refine (nx_then ?_)
      refine wp_cond_b q18 (fun hc => ?_) (fun hc => ?_)
      ·
        replace h := Comp.run_b_t hc h; clear hc
        refine wp_seq ?_
        refine' region [_] mixed hA (.cons ?z5_0 .nil) ?zok5 ?zgd5 ?zk5
        case z5_0 => intro a' w' hE hK hg; exact ok_assign rfl
        case zok5 => kernel_rfl
        case zgd5 => kernel_rfl
        intro a6 w6 hA' hE HF
        have q4 := ksv (HF 4) rfl rfl rfl
        clear q0
        clear q1
        clear q5
        clear q18
        clear hA HF; have hA := hA'; clear hA'
        replace h_1 := GR.v_ext _ h_1 hE
        replace hB := Base.step hB hE hO; clear hE
        refine (li_nil ?_)
        refine (nx_then ?_)
        refine (wp_ret (rt_blk (rt_then (rt_then (rt_blk (rt_then ?_))))))
        have hd_ := hdone2 _ (Comp.run_pure h).symm; clear h
        subst hd_; have h := hk2; clear hk2; try dsimp only at h
        have h := Comp.run_pure h; subst h
        exact retPure Try.results88 hA q4 hB.ext rfl
      ·
        replace h := Comp.run_b_f hc h; clear hc
        refine wp_skip ?_
        refine (nx_blk (nx_then ?_))
        refine' region [_, _, _] mixed hA (.cons ?z6_0 (.cons ?z6_1 (.cons ?z6_2 .nil))) ?zok6 ?zgd6 ?zk6
        case z6_0 => intro a' w' hE hK hg; exact ok_move (kn (hK 5 rfl) rfl q5)
        case z6_1 => intro a' w' hE hK hg; exact ok_add (ksv (j := 0) (hK 10 rfl) rfl rfl rfl) rfl
        case z6_2 => intro a' w' hE hK hg; exact ok_assign (ksv (j := 1) (hK 11 rfl) rfl rfl rfl)
        case zok6 => kernel_rfl
        case zgd6 => kernel_rfl
        intro a7 w7 hA' hE HF
        replace q0 := kn (HF 0) rfl q0
        replace q1 := kn (HF 1) rfl q1
        have q5' := ksv (HF 5) rfl rfl rfl
        replace q5 := q5'; clear q5'
        clear q18
        clear hA HF; have hA := hA'; clear hA'
        replace h_1 := GR.v_ext _ h_1 hE
        replace hB := Base.step hB hE hO; clear hE
        refine (li_nil ?_)
        refine (nx_then ?_)
        have h := hnext2 _ (Comp.run_pure h).symm
        refine ⟨m2, hlt2, ?_⟩
        exact ⟨_, _, hA, hB, q0, q1, h_1, q5, h⟩
    ·
      replace h := Comp.run_b_f hc h; clear hc
      refine wp_exit ?_
      refine (ex_then (ex_then (ex_same ?_)))
      have hd_ := hdone2 _ (Comp.run_pure h).symm; clear h
      subst hd_; have h := hk2; clear hk2; try dsimp only at h
      refine (nx_then ?_)
      exact ⟨_, hA, hB, h⟩
  intro a8 w8 hI
  clear hA hB h q0 q1 h_1
  obtain ⟨O5, hA, hB, h⟩ := hI
  unfold colletref32_meets_j1 at h
  refine wp_seq ?_
  refine' region [_] mixed hA (.cons ?z7_0 .nil) ?zok7 ?zgd7 ?zk7
  case z7_0 => intro a' w' hE hK hg; exact ok_assign rfl
  case zok7 => kernel_rfl
  case zgd7 => kernel_rfl
  intro a9 w9 hA' hE HF
  have q4 := ksv (HF 4) rfl rfl rfl
  clear hA HF; have hA := hA'; clear hA'
  replace hB := Base.step hB hE hO; clear hE
  refine (li_nil ?_)
  refine (nx_then ?_)
  refine (wp_ret ?_)
  have h := Comp.run_pure h; subst h
  exact retPure Try.results88 hA q4 hB.ext rfl

theorem ok_colletref32_Hitting {O : Tags} {w0 : World} (hO : OkO O w0) {v_0 : Value} {x_0 : List Int} (h_0 : (rSl (rInt .i64)).v O w0 v_0 x_0) {x_1 : Int} {n : Nat} {y : ((List Int) × Int)} (h : (colletref32_Hitting x_0 x_1).run n = some y) : Pure Try.prog 47 #[v_0, .int .i64 x_1] w0 (SP.tup2 (SP.ownr (rInt .i64) 3 (w0.heap.size) O y.1) (SP.isv (.int .i64 y.2))).holds := by
  unfold colletref32_Hitting at h
  refine pure_of_wp Try.func47 rfl 75 Try.ntmps47 (by simp) fun a0 hA hs0 => ?_
  have q0 := hs0 0 _ rfl
  have q1 := hs0 1 _ rfl
  clear hs0
  have hB : Base (Fr w0) O w0 O w0 := Base.start hO
  refine wp_seq ?_
  refine' region [_, _] mixed hA (.cons ?z1_0 (.cons ?z1_1 .nil)) ?zok1 ?zgd1 ?zk1
  case z1_0 => intro a' w' hE hK hg; exact ok_assign rfl
  case z1_1 => intro a' w' hE hK hg; exact ok_assign rfl
  case zok1 => kernel_rfl
  case zgd1 => kernel_rfl
  intro a1 w1 hA' hE HF
  replace q0 := kn (HF 0) rfl q0
  replace q1 := kn (HF 1) rfl q1
  clear hA HF; have hA := hA'; clear hA'
  replace h_0 := GR.v_ext _ h_0 hE
  replace hB := Base.step hB hE hO; clear hE
  refine (li_nil ?_)
  refine (nx_then ?_)
  refine wp_seq ?_
  refine wp_seq ?_
  refine' region [_, _, _, _, _, _] mixed hA (.cons ?z2_0 (.cons ?z2_1 (.cons ?z2_2 (.cons ?z2_3 (.cons ?z2_4 (.cons ?z2_5 .nil)))))) ?zok2 ?zgd2 ?zk2
  case z2_0 => intro a' w' hE hK hg; exact ok_move (kn (hK 1 rfl) rfl q1)
  case z2_1 => intro a' w' hE hK hg; exact ok_lss (ksv (j := 0) (hK 11 rfl) rfl rfl rfl) rfl
  case z2_2 => intro a' w' hE hK hg; exact ok_move (ksv (j := 1) (hK 12 rfl) rfl rfl rfl)
  case z2_3 => intro a' w' hE hK hg; exact ok_move (kn (hK 1 rfl) rfl q1)
  case z2_4 => intro a' w' hE hK hg; exact ok_gtr (ksv (j := 3) (hK 14 rfl) rfl rfl hg) rfl
  case z2_5 => intro a' w' hE hK hg; exact ok_pick (ksv (j := 2) (hK 13 rfl) rfl rfl rfl) (fun _ => rfl) (fun hb => ksv (j := 4) (hK 15 rfl) rfl rfl (act_g1 rfl rfl hb))
  case zok2 => kernel_rfl
  case zgd2 => kernel_rfl
  intro a2 w2 hA' hE HF
  replace q0 := kn (HF 0) rfl q0
  replace q1 := kn (HF 1) rfl q1
  have q16 := ksv (HF 16) rfl rfl rfl
  clear hA HF; have hA := hA'; clear hA'
  replace h_0 := GR.v_ext _ h_0 hE
  replace hB := Base.step hB hE hO; clear hE
  obtain ⟨x1, hx_, h⟩ := Comp.run_bind h; replace hx_ := Comp.run_pure hx_; rw [hx_] at q16; clear hx_
  refine (li_nil ?_)
  refine (nx_then ?_)
  refine wp_cond_b q16 (fun hc => ?_) (fun hc => ?_)
  ·
    replace h := Comp.run_b_t hc h; clear hc
    refine wp_seq ?_
    refine' region [_, _] mixed hA (.cons ?z3_0 (.cons ?z3_1 .nil)) ?zok3 ?zgd3 ?zk3
    case z3_0 => intro a' w' hE hK hg; exact ok_assign rfl
    case z3_1 => intro a' w' hE hK hg; exact ok_assign rfl
    case zok3 => kernel_rfl
    case zgd3 => kernel_rfl
    intro a3 w3 hA' hE HF
    have q4 := ksv (HF 4) rfl rfl rfl
    have q5 := ksv (HF 5) rfl rfl rfl
    clear q0
    clear q1
    clear q16
    clear hA HF; have hA := hA'; clear hA'
    replace h_0 := GR.v_ext _ h_0 hE
    replace hB := Base.step hB hE hO; clear hE
    refine (li_nil ?_)
    refine (nx_then ?_)
    refine (wp_ret (rt_then ?_))
    have h := Comp.run_pure h; subst h
    exact retPure2 Try.results47 hA q4 q5 hB.ext ⟨_, _, rfl, (OwnR.nil _ _ _ _ _), rfl⟩
  ·
    replace h := Comp.run_b_f hc h; clear hc
    refine wp_skip ?_
    refine (nx_then ?_)
    refine seq_join (fun a w => ∃ (O10 : Tags), a.fit 75 ∧ Base (Fr w0) O w0 O10 w ∧ a.get 0 = v_0 ∧ (rSl (rInt .i64)).v O10 w v_0 x_0 ∧ a.get 1 = .int .i64 x_1 ∧ (colletref32_Hitting_j1 x_1 x_0 ).run n = some y) ?_ ?_
    ·
      refine wp_seq ?_
      refine' region [_] mixed hA (.cons ?z4_0 .nil) ?zok4 ?zgd4 ?zk4
      case z4_0 => intro a' w' hE hK hg; exact ok_assign rfl
      case zok4 => kernel_rfl
      case zgd4 => kernel_rfl
      intro a4 w4 hA' hE HF
      replace q0 := kn (HF 0) rfl q0
      replace q1 := kn (HF 1) rfl q1
      have q6 := ksv (HF 6) rfl rfl rfl
      clear q16
      clear hA HF; have hA := hA'; clear hA'
      replace h_0 := GR.v_ext _ h_0 hE
      replace hB := Base.step hB hE hO; clear hE
      refine (li_nil ?_)
      refine (nx_then ?_)
      refine wp_block ?_
      obtain ⟨e2, he2, hk2⟩ := Comp.run_bind h; clear h
      refine loop_m (fun m a w => ∃ (O3 : Tags) (x2 : Int), a.fit 75 ∧ Base (Fr w0) O w0 O3 w ∧ a.get 0 = v_0 ∧ (rSl (rInt .i64)).v O3 w v_0 x_0 ∧ a.get 1 = .int .i64 x_1 ∧ a.get 6 = .int .i64 x2 ∧ Comp.loopN (fun s => colletref32_Hitting_l2 x_0 x_1 s) n m x2 = some e2) (m := n) ?st2 ?_
      case st2 =>
        exact ⟨_, _, hA, hB, q0, h_0, q1, q6, Comp.run_loop he2⟩
      intro m_ a5 w5 hI
      clear hA hB he2 q0 q1 q6 h_0
      obtain ⟨O3, x2, hA, hB, q0, h_0, q1, q6, hl⟩ := hI
      obtain ⟨m2, hlt2, st2, h, hnext2, hdone2⟩ := Comp.loopN_succ hl; clear hl
      replace h : (colletref32_Hitting_l2 x_0 x_1 x2).run n = some st2 := h
      unfold colletref32_Hitting_l2 at h
      refine wp_seq ?_
      refine wp_seq ?_
      refine' region [_, _, _, _] mixed hA (.cons ?z5_0 (.cons ?z5_1 (.cons ?z5_2 (.cons ?z5_3 .nil)))) ?zok5 ?zgd5 ?zk5
      case z5_0 => intro a' w' hE hK hg; exact ok_move (kn (hK 6 rfl) rfl q6)
      case z5_1 => intro a' w' hE hK hg; exact ok_move (kn (hK 0 rfl) rfl q0)
      case z5_2 => intro a' w' hE hK hg; exact okl_len (r := (rInt .i64)) ty58 (ksv (j := 1) (hK 18 rfl) rfl rfl rfl) (rd_of (GR.v_ext _ h_0 hE))
      case z5_3 => intro a' w' hE hK hg; exact ok_lss (ksv (j := 0) (hK 17 rfl) rfl rfl rfl) (ksv (j := 2) (hK 19 rfl) rfl rfl rfl)
      case zok5 => kernel_rfl
      case zgd5 => kernel_rfl
      intro a6 w6 hA' hE HF
      replace q0 := kn (HF 0) rfl q0
      replace q1 := kn (HF 1) rfl q1
      replace q6 := kn (HF 6) rfl q6
      have q20 := ksv (HF 20) rfl rfl rfl
      clear hA HF; have hA := hA'; clear hA'
      replace h_0 := GR.v_ext _ h_0 hE
      replace hB := Base.step hB hE hO; clear hE
      refine (li_nil ?_)
      refine (nx_then ?_)
      refine wp_cond_b q20 (fun hc => ?_) (fun hc => ?_)
      ·
        replace h := Comp.run_b_t hc h; clear hc
        refine wp_skip ?_
        refine (nx_then ?_)
        refine wp_seq ?_
        refine wp_block ?_
        refine wp_seq ?_
        obtain ⟨x4, hx4, h⟩ := Comp.run_bind h
        obtain ⟨x5, hx5, h⟩ := Comp.run_bind h
        obtain ⟨x6, hx6, h⟩ := Comp.run_bind h
        refine' region [_, _, SP.ptr (rInt .i64) O3 x4, SP.isv (.int .i64 x4), _, _, _, _, SP.ptr (rInt .i64) O3 x5, SP.isv (.int .i64 x5), _, _, _, _] mixed hA (.cons ?z6_0 (.cons ?z6_1 (.cons ?z6_2 (.cons ?z6_3 (.cons ?z6_4 (.cons ?z6_5 (.cons ?z6_6 (.cons ?z6_7 (.cons ?z6_8 (.cons ?z6_9 (.cons ?z6_10 (.cons ?z6_11 (.cons ?z6_12 (.cons ?z6_13 .nil)))))))))))))) ?zok6 ?zgd6 ?zk6
        case z6_0 => intro a' w' hE hK hg; exact ok_move (kn (hK 0 rfl) rfl q0)
        case z6_1 => intro a' w' hE hK hg; exact ok_move (kn (hK 6 rfl) rfl q6)
        case z6_2 => intro a' w' hE hK hg; exact okl_idx (r := (rInt .i64)) (O := O3) ty58 ty3 rfl (ksv (j := 0) (hK 23 rfl) rfl rfl rfl) (rd_of (GR.v_ext _ h_0 hE)) (ksv (j := 1) (hK 24 rfl) rfl rfl rfl) hx4
        case z6_3 => intro a' w' hE hK hg; exact okl_ldr (rInt .i64) (fun _ => rfl) ty3 rfl rfl rfl (kspS (φ := SP.ptr (rInt .i64) O3 x4) (j := 2) (hK 25 rfl) rfl rfl rfl) (fun _ _ _ h => rInt_v.1 h)
        case z6_4 => intro a' w' hE hK hg; exact ok_lss (ksv (j := 3) (hK 26 rfl) rfl rfl rfl) rfl
        case z6_5 => intro a' w' hE hK hg; exact ok_move (ksv (j := 4) (hK 27 rfl) rfl rfl rfl)
        case z6_6 => intro a' w' hE hK hg; exact ok_move (kn (hK 0 rfl) rfl q0)
        case z6_7 => intro a' w' hE hK hg; exact ok_move (kn (hK 6 rfl) rfl q6)
        case z6_8 => intro a' w' hE hK hg; exact okl_idx (r := (rInt .i64)) (O := O3) ty58 ty3 rfl (ksv (j := 6) (hK 29 rfl) rfl rfl hg) (rd_of (GR.v_ext _ h_0 hE)) (ksv (j := 7) (hK 30 rfl) rfl rfl hg) (run_gdb hx5 hg)
        case z6_9 => intro a' w' hE hK hg; exact okl_ldr (rInt .i64) (fun _ => rfl) ty3 rfl rfl rfl (kspS (φ := SP.ptr (rInt .i64) O3 x5) (j := 8) (hK 31 rfl) rfl rfl hg) (fun _ _ _ h => rInt_v.1 h)
        case z6_10 => intro a' w' hE hK hg; exact ok_move (kn (hK 1 rfl) rfl q1)
        case z6_11 => intro a' w' hE hK hg; exact okl_shl rfl (ksv (j := 10) (hK 33 rfl) rfl rfl hg) (run_nonneg (run_gdb hx6 hg))
        case z6_12 => intro a' w' hE hK hg; exact ok_geq (ksv (j := 9) (hK 32 rfl) rfl rfl hg) (ksv (j := 11) (hK 34 rfl) rfl rfl hg)
        case z6_13 => intro a' w' hE hK hg; exact ok_pick (ksv (j := 5) (hK 28 rfl) rfl rfl rfl) (fun _ => rfl) (fun hb => ksv (j := 12) (hK 35 rfl) rfl rfl (act_g1 rfl rfl hb))
        case zok6 => kernel_rfl
        case zgd6 => kernel_rfl
        intro a7 w7 hA' hE HF
        replace q0 := kn (HF 0) rfl q0
        replace q1 := kn (HF 1) rfl q1
        replace q6 := kn (HF 6) rfl q6
        have q36 := ksv (HF 36) rfl rfl rfl
        clear q20
        clear hA HF; have hA := hA'; clear hA'
        replace h_0 := GR.v_ext _ h_0 hE
        replace hB := Base.step hB hE hO; clear hE
        obtain ⟨x7, hx_, h⟩ := Comp.run_bind h; replace hx_ := Comp.run_pure hx_; rw [hx_] at q36; clear hx_
        refine (li_nil ?_)
        refine (nx_then ?_)
        refine wp_cond_b q36 (fun hc => ?_) (fun hc => ?_)
        ·
          replace h := Comp.run_b_t hc h; clear hc
          refine wp_seq ?_
          refine' region [_, _] mixed hA (.cons ?z7_0 (.cons ?z7_1 .nil)) ?zok7 ?zgd7 ?zk7
          case z7_0 => intro a' w' hE hK hg; exact ok_assign rfl
          case z7_1 => intro a' w' hE hK hg; exact ok_assign rfl
          case zok7 => kernel_rfl
          case zgd7 => kernel_rfl
          intro a8 w8 hA' hE HF
          have q4 := ksv (HF 4) rfl rfl rfl
          have q5 := ksv (HF 5) rfl rfl rfl
          clear q0
          clear q1
          clear q6
          clear q36
          clear hA HF; have hA := hA'; clear hA'
          replace h_0 := GR.v_ext _ h_0 hE
          replace hB := Base.step hB hE hO; clear hE
          refine (li_nil ?_)
          refine (nx_then ?_)
          refine (wp_ret (rt_blk (rt_then (rt_then (rt_blk (rt_then ?_))))))
          have hd_ := hdone2 _ (Comp.run_pure h).symm; clear h
          subst hd_; have h := hk2; clear hk2; try dsimp only at h
          have h := Comp.run_pure h; subst h
          exact retPure2 Try.results47 hA q4 q5 hB.ext ⟨_, _, rfl, (OwnR.nil _ _ _ _ _), rfl⟩
        ·
          replace h := Comp.run_b_f hc h; clear hc
          refine wp_skip ?_
          refine (nx_blk (nx_then ?_))
          refine' region [_, _, _] mixed hA (.cons ?z8_0 (.cons ?z8_1 (.cons ?z8_2 .nil))) ?zok8 ?zgd8 ?zk8
          case z8_0 => intro a' w' hE hK hg; exact ok_move (kn (hK 6 rfl) rfl q6)
          case z8_1 => intro a' w' hE hK hg; exact ok_add (ksv (j := 0) (hK 21 rfl) rfl rfl rfl) rfl
          case z8_2 => intro a' w' hE hK hg; exact ok_assign (ksv (j := 1) (hK 22 rfl) rfl rfl rfl)
          case zok8 => kernel_rfl
          case zgd8 => kernel_rfl
          intro a9 w9 hA' hE HF
          replace q0 := kn (HF 0) rfl q0
          replace q1 := kn (HF 1) rfl q1
          have q6' := ksv (HF 6) rfl rfl rfl
          replace q6 := q6'; clear q6'
          clear q36
          clear hA HF; have hA := hA'; clear hA'
          replace h_0 := GR.v_ext _ h_0 hE
          replace hB := Base.step hB hE hO; clear hE
          refine (li_nil ?_)
          refine (nx_then ?_)
          have h := hnext2 _ (Comp.run_pure h).symm
          refine ⟨m2, hlt2, ?_⟩
          exact ⟨_, _, hA, hB, q0, h_0, q1, q6, h⟩
      ·
        replace h := Comp.run_b_f hc h; clear hc
        refine wp_exit ?_
        refine (ex_then (ex_then (ex_same ?_)))
        have hd_ := hdone2 _ (Comp.run_pure h).symm; clear h
        subst hd_; have h := hk2; clear hk2; try dsimp only at h
        refine (nx_then ?_)
        exact ⟨_, hA, hB, q0, h_0, q1, h⟩
    intro a10 w10 hI
    clear hA hB h q0 q1 q16 h_0
    obtain ⟨O10, hA, hB, q0, h_0, q1, h⟩ := hI
    unfold colletref32_Hitting_j1 at h
    refine wp_seq ?_
    refine' region [_] mixed hA (.cons ?z9_0 .nil) ?zok9 ?zgd9 ?zk9
    case z9_0 => intro a' w' hE hK hg; exact ok_assign rfl
    case zok9 => kernel_rfl
    case zgd9 => kernel_rfl
    intro a11 w11 hA' hE HF
    replace q0 := kn (HF 0) rfl q0
    replace q1 := kn (HF 1) rfl q1
    have q7 := ksv (HF 7) rfl rfl rfl
    clear hA HF; have hA := hA'; clear hA'
    replace h_0 := GR.v_ext _ h_0 hE
    replace hB := Base.step hB hE hO; clear hE
    refine (li_nil ?_)
    refine (nx_then ?_)
    refine seq_join (fun a w => ∃ (O44 : Tags) (x41 : List Int) (u42 : Value), a.fit 75 ∧ Base (Fr w0) O w0 O44 w ∧ a.get 7 = u42 ∧ OwnL 1 (rInt .i64) 3 (Fr w0) O44 w u42 x41 ∧ (colletref32_Hitting_j3 x41).run n = some y) ?_ ?_
    ·
      refine wp_seq ?_
      refine' region [_] mixed hA (.cons ?z10_0 .nil) ?zok10 ?zgd10 ?zk10
      case z10_0 => intro a' w' hE hK hg; exact ok_assign rfl
      case zok10 => kernel_rfl
      case zgd10 => kernel_rfl
      intro a12 w12 hA' hE HF
      replace q0 := kn (HF 0) rfl q0
      replace q1 := kn (HF 1) rfl q1
      replace q7 := kn (HF 7) rfl q7
      have q8 := ksv (HF 8) rfl rfl rfl
      clear hA HF; have hA := hA'; clear hA'
      replace h_0 := GR.v_ext _ h_0 hE
      replace hB := Base.step hB hE hO; clear hE
      refine (li_nil ?_)
      refine (nx_then ?_)
      refine wp_block ?_
      obtain ⟨e4, he4, hk4⟩ := Comp.run_bind h; clear h
      refine loop_m (fun m a w => ∃ (O15 : Tags) (x11 : List Int) (x14 : Int) (u12 : Value), a.fit 75 ∧ Base (Fr w0) O w0 O15 w ∧ a.get 0 = v_0 ∧ (rSl (rInt .i64)).v O15 w v_0 x_0 ∧ a.get 1 = .int .i64 x_1 ∧ a.get 7 = u12 ∧ OwnL 1 (rInt .i64) 3 (Fr w0) O15 w u12 x11 ∧ a.get 8 = .int .i64 x14 ∧ Comp.loopN (fun s => colletref32_Hitting_l4 x_1 x_0 s.1 s.2) n m (x11, x14) = some e4) (m := n) ?st4 ?_
      case st4 =>
        exact ⟨_, _, _, _, hA, hB, q0, h_0, q1, q7, (OwnL.nil _ _ _ _ _ _), q8, Comp.run_loop he4⟩
      intro m_ a13 w13 hI
      clear hA hB he4 q0 q1 q7 q8 h_0
      obtain ⟨O15, x11, x14, u12, hA, hB, q0, h_0, q1, q7, f13, q8, hl⟩ := hI
      obtain ⟨m4, hlt4, st4, h, hnext4, hdone4⟩ := Comp.loopN_succ hl; clear hl
      replace h : (colletref32_Hitting_l4 x_1 x_0 x11 x14).run n = some st4 := h
      unfold colletref32_Hitting_l4 at h
      refine wp_seq ?_
      refine wp_seq ?_
      obtain ⟨x16, hx16, h⟩ := Comp.run_bind h
      refine' region [_, _, _, _] mixed hA (.cons ?z11_0 (.cons ?z11_1 (.cons ?z11_2 (.cons ?z11_3 .nil)))) ?zok11 ?zgd11 ?zk11
      case z11_0 => intro a' w' hE hK hg; exact ok_move (kn (hK 8 rfl) rfl q8)
      case z11_1 => intro a' w' hE hK hg; exact ok_move (kn (hK 1 rfl) rfl q1)
      case z11_2 => intro a' w' hE hK hg; exact okl_shl rfl (ksv (j := 1) (hK 38 rfl) rfl rfl rfl) (run_nonneg hx16)
      case z11_3 => intro a' w' hE hK hg; exact ok_lss (ksv (j := 0) (hK 37 rfl) rfl rfl rfl) (ksv (j := 2) (hK 39 rfl) rfl rfl rfl)
      case zok11 => kernel_rfl
      case zgd11 => kernel_rfl
      intro a14 w14 hA' hE HF
      replace q0 := kn (HF 0) rfl q0
      replace q1 := kn (HF 1) rfl q1
      replace q7 := kn (HF 7) rfl q7
      replace q8 := kn (HF 8) rfl q8
      have q40 := ksv (HF 40) rfl rfl rfl
      clear hA HF; have hA := hA'; clear hA'
      replace h_0 := GR.v_ext _ h_0 hE
      replace f13 := f13.ext hE
      replace hB := Base.step hB hE hO; clear hE
      refine (li_nil ?_)
      refine (nx_then ?_)
      refine wp_cond_b q40 (fun hc => ?_) (fun hc => ?_)
      ·
        replace h := Comp.run_b_t hc h; clear hc
        refine wp_skip ?_
        refine (nx_then ?_)
        refine seq_join (fun a w => ∃ (O38 : Tags) (x18 : List Int) (u19 : Value), a.fit 75 ∧ Base (Fr w0) O w0 O38 w ∧ a.get 0 = v_0 ∧ (rSl (rInt .i64)).v O38 w v_0 x_0 ∧ a.get 1 = .int .i64 x_1 ∧ a.get 7 = u19 ∧ OwnL 1 (rInt .i64) 3 (Fr w0) O38 w u19 x18 ∧ a.get 8 = .int .i64 x14 ∧ (colletref32_Hitting_j5 x14 x18).run n = some st4) ?_ ?_
        ·
          refine wp_block ?_
          refine wp_seq ?_
          refine wp_seq ?_
          obtain ⟨x17, hx17, h⟩ := Comp.run_bind h
          refine' region [_, _, SP.isv (.bool x17), _] mixed hA (.cons ?z12_0 (.cons ?z12_1 (.cons ?z12_2 (.cons ?z12_3 .nil)))) ?zok12 ?zgd12 ?zk12
          case z12_0 => intro a' w' hE hK hg; exact ok_move (kn (hK 8 rfl) rfl q8)
          case z12_1 => intro a' w' hE hK hg; exact ok_move (kn (hK 0 rfl) rfl q0)
          case z12_2 => intro a' w' hE hK hg; have c_ := ok_colletref32_meets (OkO.ext hB.ok hE) (GR.v_ext _ h_0 hE) hx17; exact ok_call2 fn88 (ksv (j := 0) (hK 43 rfl) rfl rfl rfl) (ksv (j := 1) (hK 44 rfl) rfl rfl rfl) c_
          case z12_3 => intro a' w' hE hK hg; exact ok_not (ksv (j := 2) (hK 45 rfl) rfl rfl rfl)
          case zok12 => kernel_rfl
          case zgd12 => kernel_rfl
          intro a15 w15 hA' hE HF
          replace q0 := kn (HF 0) rfl q0
          replace q1 := kn (HF 1) rfl q1
          replace q7 := kn (HF 7) rfl q7
          replace q8 := kn (HF 8) rfl q8
          have q46 := ksv (HF 46) rfl rfl rfl
          clear q40
          clear hA HF; have hA := hA'; clear hA'
          replace h_0 := GR.v_ext _ h_0 hE
          replace f13 := f13.ext hE
          replace hB := Base.step hB hE hO; clear hE
          refine (li_nil ?_)
          refine (nx_then ?_)
          refine wp_cond_b q46 (fun hc => ?_) (fun hc => ?_)
          ·
            replace h := Comp.run_b_t hc h; clear hc
            refine wp_exit ?_
            refine (ex_then (ex_same ?_))
            refine (nx_then ?_)
            exact ⟨_, _, _, hA, hB, q0, h_0, q1, q7, f13, q8, h⟩
          ·
            replace h := Comp.run_b_f hc h; clear hc
            refine wp_skip ?_
            refine (nx_then ?_)
            refine wp_seq ?_
            refine' region [_] mixed hA (.cons ?z13_0 .nil) ?zok13 ?zgd13 ?zk13
            case z13_0 => intro a' w' hE hK hg; exact ok_assign rfl
            case zok13 => kernel_rfl
            case zgd13 => kernel_rfl
            intro a16 w16 hA' hE HF
            replace q0 := kn (HF 0) rfl q0
            replace q1 := kn (HF 1) rfl q1
            replace q7 := kn (HF 7) rfl q7
            replace q8 := kn (HF 8) rfl q8
            have q9 := ksv (HF 9) rfl rfl rfl
            clear q46
            clear hA HF; have hA := hA'; clear hA'
            replace h_0 := GR.v_ext _ h_0 hE
            replace f13 := f13.ext hE
            replace hB := Base.step hB hE hO; clear hE
            refine (li_nil ?_)
            refine (nx_then ?_)
            refine seq_join (fun a w => ∃ (O31 : Tags) (x30 : Bool), a.fit 75 ∧ Base (Fr w0) O w0 O31 w ∧ a.get 0 = v_0 ∧ (rSl (rInt .i64)).v O31 w v_0 x_0 ∧ a.get 1 = .int .i64 x_1 ∧ a.get 7 = u12 ∧ OwnL 1 (rInt .i64) 3 (Fr w0) O31 w u12 x11 ∧ a.get 8 = .int .i64 x14 ∧ a.get 9 = .bool x30 ∧ (colletref32_Hitting_j6 x11 x14 x30).run n = some st4) ?_ ?_
            ·
              refine wp_seq ?_
              refine' region [_] mixed hA (.cons ?z14_0 .nil) ?zok14 ?zgd14 ?zk14
              case z14_0 => intro a' w' hE hK hg; exact ok_assign rfl
              case zok14 => kernel_rfl
              case zgd14 => kernel_rfl
              intro a17 w17 hA' hE HF
              replace q0 := kn (HF 0) rfl q0
              replace q1 := kn (HF 1) rfl q1
              replace q7 := kn (HF 7) rfl q7
              replace q8 := kn (HF 8) rfl q8
              replace q9 := kn (HF 9) rfl q9
              have q10 := ksv (HF 10) rfl rfl rfl
              clear hA HF; have hA := hA'; clear hA'
              replace h_0 := GR.v_ext _ h_0 hE
              replace f13 := f13.ext hE
              replace hB := Base.step hB hE hO; clear hE
              refine (li_nil ?_)
              refine (nx_then ?_)
              refine wp_block ?_
              obtain ⟨e7, he7, hk7⟩ := Comp.run_bind h; clear h
              refine loop_m (fun m a w => ∃ (O23 : Tags) (x21 : Bool) (x22 : Int), a.fit 75 ∧ Base (Fr w0) O w0 O23 w ∧ a.get 0 = v_0 ∧ (rSl (rInt .i64)).v O23 w v_0 x_0 ∧ a.get 1 = .int .i64 x_1 ∧ a.get 7 = u12 ∧ OwnL 1 (rInt .i64) 3 (Fr w0) O23 w u12 x11 ∧ a.get 8 = .int .i64 x14 ∧ a.get 9 = .bool x21 ∧ a.get 10 = .int .i64 x22 ∧ Comp.loopN (fun s => colletref32_Hitting_l7 x_1 x14 x_0 s.1 s.2) n m (x21, x22) = some e7) (m := n) ?st7 ?_
              case st7 =>
                exact ⟨_, _, _, hA, hB, q0, h_0, q1, q7, f13, q8, q9, q10, Comp.run_loop he7⟩
              intro m_ a18 w18 hI
              clear hA hB he7 q0 q1 q7 q8 q9 q10 f13 h_0
              obtain ⟨O23, x21, x22, hA, hB, q0, h_0, q1, q7, f13, q8, q9, q10, hl⟩ := hI
              obtain ⟨m7, hlt7, st7, h, hnext7, hdone7⟩ := Comp.loopN_succ hl; clear hl
              replace h : (colletref32_Hitting_l7 x_1 x14 x_0 x21 x22).run n = some st7 := h
              unfold colletref32_Hitting_l7 at h
              refine wp_seq ?_
              refine wp_seq ?_
              refine' region [_, _, _] mixed hA (.cons ?z15_0 (.cons ?z15_1 (.cons ?z15_2 .nil))) ?zok15 ?zgd15 ?zk15
              case z15_0 => intro a' w' hE hK hg; exact ok_move (kn (hK 10 rfl) rfl q10)
              case z15_1 => intro a' w' hE hK hg; exact ok_move (kn (hK 1 rfl) rfl q1)
              case z15_2 => intro a' w' hE hK hg; exact ok_lss (ksv (j := 0) (hK 47 rfl) rfl rfl rfl) (ksv (j := 1) (hK 48 rfl) rfl rfl rfl)
              case zok15 => kernel_rfl
              case zgd15 => kernel_rfl
              intro a19 w19 hA' hE HF
              replace q0 := kn (HF 0) rfl q0
              replace q1 := kn (HF 1) rfl q1
              replace q7 := kn (HF 7) rfl q7
              replace q8 := kn (HF 8) rfl q8
              replace q9 := kn (HF 9) rfl q9
              replace q10 := kn (HF 10) rfl q10
              have q49 := ksv (HF 49) rfl rfl rfl
              clear hA HF; have hA := hA'; clear hA'
              replace h_0 := GR.v_ext _ h_0 hE
              replace f13 := f13.ext hE
              replace hB := Base.step hB hE hO; clear hE
              refine (li_nil ?_)
              refine (nx_then ?_)
              refine wp_cond_b q49 (fun hc => ?_) (fun hc => ?_)
              ·
                replace h := Comp.run_b_t hc h; clear hc
                refine wp_skip ?_
                refine (nx_then ?_)
                refine wp_seq ?_
                refine wp_block ?_
                obtain ⟨x24, hx24, h⟩ := Comp.run_bind h
                obtain ⟨x25, hx25, h⟩ := Comp.run_bind h
                obtain ⟨x26, hx26, h⟩ := Comp.run_bind h
                refine' region [_, _, _, _, _, _, _, _, _, _, _, _, _, SP.isv (.bool x26), _, _, _, _] mixed hA (.cons ?z16_0 (.cons ?z16_1 (.cons ?z16_2 (.cons ?z16_3 (.cons ?z16_4 (.cons ?z16_5 (.cons ?z16_6 (.cons ?z16_7 (.cons ?z16_8 (.cons ?z16_9 (.cons ?z16_10 (.cons ?z16_11 (.cons ?z16_12 (.cons ?z16_13 (.cons ?z16_14 (.cons ?z16_15 (.cons ?z16_16 (.cons ?z16_17 .nil)))))))))))))))))) ?zok16 ?zgd16 ?zk16
                case z16_0 => intro a' w' hE hK hg; exact ok_move (kn (hK 9 rfl) rfl q9)
                case z16_1 => intro a' w' hE hK hg; exact ok_move (ksv (j := 0) (hK 52 rfl) rfl rfl rfl)
                case z16_2 => intro a' w' hE hK hg; exact ok_move (kn (hK 8 rfl) rfl q8)
                case z16_3 => intro a' w' hE hK hg; exact ok_move (kn (hK 10 rfl) rfl q10)
                case z16_4 => intro a' w' hE hK hg; exact okl_shr (ksv (j := 2) (hK 54 rfl) rfl rfl hg) (ksv (j := 3) (hK 55 rfl) rfl rfl hg) (run_nonneg (run_gdb hx24 hg))
                case z16_5 => intro a' w' hE hK hg; exact okb_and (ksv (j := 4) (hK 56 rfl) rfl rfl hg) rfl
                case z16_6 => intro a' w' hE hK hg; exact ok_eqlI (ksv (j := 5) (hK 57 rfl) rfl rfl hg) rfl
                case z16_7 => intro a' w' hE hK hg; exact ok_move (ksv (j := 6) (hK 58 rfl) rfl rfl hg)
                case z16_8 => intro a' w' hE hK hg; exact ok_move (kn (hK 8 rfl) rfl q8)
                case z16_9 => intro a' w' hE hK hg; exact ok_move (kn (hK 10 rfl) rfl q10)
                case z16_10 => intro a' w' hE hK hg; exact okl_shl rfl (ksv (j := 9) (hK 61 rfl) rfl rfl hg) (run_nonneg (run_gdb hx25 hg))
                case z16_11 => intro a' w' hE hK hg; exact okb_andNot (ksv (j := 8) (hK 60 rfl) rfl rfl hg) (ksv (j := 10) (hK 62 rfl) rfl rfl hg)
                case z16_12 => intro a' w' hE hK hg; exact ok_move (kn (hK 0 rfl) rfl q0)
                case z16_13 => intro a' w' hE hK hg; have c_ := ok_colletref32_meets (OkO.ext hB.ok hE) (GR.v_ext _ h_0 hE) (run_gdb hx26 hg); exact ok_call2 fn88 (ksv (j := 11) (hK 63 rfl) rfl rfl hg) (ksv (j := 12) (hK 64 rfl) rfl rfl hg) c_
                case z16_14 => intro a' w' hE hK hg; exact ok_not (ksv (j := 13) (hK 65 rfl) rfl rfl hg)
                case z16_15 => intro a' w' hE hK hg; exact ok_pick (ksv (j := 7) (hK 59 rfl) rfl rfl hg) (fun _ => rfl) (fun hb => ksv (j := 14) (hK 66 rfl) rfl rfl (act_g1 rfl hg hb))
                case z16_16 => intro a' w' hE hK hg; exact ok_pick (ksv (j := 1) (hK 53 rfl) rfl rfl rfl) (fun hb => ksv (j := 15) (hK 67 rfl) rfl rfl (act_g1 rfl rfl hb)) (fun _ => rfl)
                case z16_17 => intro a' w' hE hK hg; exact ok_assign (ksv (j := 16) (hK 68 rfl) rfl rfl rfl)
                case zok16 => kernel_rfl
                case zgd16 => kernel_rfl
                intro a20 w20 hA' hE HF
                replace q0 := kn (HF 0) rfl q0
                replace q1 := kn (HF 1) rfl q1
                replace q7 := kn (HF 7) rfl q7
                replace q8 := kn (HF 8) rfl q8
                have q9' := ksv (HF 9) rfl rfl rfl
                replace q9 := q9'; clear q9'
                replace q10 := kn (HF 10) rfl q10
                clear q49
                clear hA HF; have hA := hA'; clear hA'
                replace h_0 := GR.v_ext _ h_0 hE
                replace f13 := f13.ext hE
                replace hB := Base.step hB hE hO; clear hE
                obtain ⟨x27, hx_, h⟩ := Comp.run_bind h; replace hx_ := Comp.run_pure hx_; rw [hx_] at q9; clear hx_
                refine (li_nil ?_)
                refine (nx_blk (nx_then ?_))
                refine' region [_, _, _] mixed hA (.cons ?z17_0 (.cons ?z17_1 (.cons ?z17_2 .nil))) ?zok17 ?zgd17 ?zk17
                case z17_0 => intro a' w' hE hK hg; exact ok_move (kn (hK 10 rfl) rfl q10)
                case z17_1 => intro a' w' hE hK hg; exact ok_add (ksv (j := 0) (hK 50 rfl) rfl rfl rfl) rfl
                case z17_2 => intro a' w' hE hK hg; exact ok_assign (ksv (j := 1) (hK 51 rfl) rfl rfl rfl)
                case zok17 => kernel_rfl
                case zgd17 => kernel_rfl
                intro a21 w21 hA' hE HF
                replace q0 := kn (HF 0) rfl q0
                replace q1 := kn (HF 1) rfl q1
                replace q7 := kn (HF 7) rfl q7
                replace q8 := kn (HF 8) rfl q8
                replace q9 := kn (HF 9) rfl q9
                have q10' := ksv (HF 10) rfl rfl rfl
                replace q10 := q10'; clear q10'
                clear hA HF; have hA := hA'; clear hA'
                replace h_0 := GR.v_ext _ h_0 hE
                replace f13 := f13.ext hE
                replace hB := Base.step hB hE hO; clear hE
                refine (li_nil ?_)
                refine (nx_then ?_)
                have h := hnext7 _ (Comp.run_pure h).symm
                refine ⟨m7, hlt7, ?_⟩
                exact ⟨_, _, _, hA, hB, q0, h_0, q1, q7, f13, q8, q9, q10, h⟩
              ·
                replace h := Comp.run_b_f hc h; clear hc
                refine wp_exit ?_
                refine (ex_then (ex_then (ex_same ?_)))
                have hd_ := hdone7 _ (Comp.run_pure h).symm; clear h
                subst hd_; have h := hk7; clear hk7; try dsimp only at h
                refine (nx_then ?_)
                exact ⟨_, _, hA, hB, q0, h_0, q1, q7, f13, q8, q9, h⟩
            intro a22 w22 hI
            clear hA hB h q0 q1 q7 q8 q9 f13 h_0
            obtain ⟨O31, x30, hA, hB, q0, h_0, q1, q7, f13, q8, q9, h⟩ := hI
            unfold colletref32_Hitting_j6 at h
            refine wp_seq ?_
            refine' region [_] mixed hA (.cons ?z18_0 .nil) ?zok18 ?zgd18 ?zk18
            case z18_0 => intro a' w' hE hK hg; exact ok_move (kn (hK 9 rfl) rfl q9)
            case zok18 => kernel_rfl
            case zgd18 => kernel_rfl
            intro a23 w23 hA' hE HF
            replace q0 := kn (HF 0) rfl q0
            replace q1 := kn (HF 1) rfl q1
            replace q7 := kn (HF 7) rfl q7
            replace q8 := kn (HF 8) rfl q8
            have q69 := ksv (HF 69) rfl rfl rfl
            clear q9
            clear hA HF; have hA := hA'; clear hA'
            replace h_0 := GR.v_ext _ h_0 hE
            replace f13 := f13.ext hE
            replace hB := Base.step hB hE hO; clear hE
            refine (li_nil ?_)
            refine (nx_then ?_)
            refine wp_cond_b q69 (fun hc => ?_) (fun hc => ?_)
            ·
              replace h := Comp.run_b_t hc h; clear hc
              refine' regionT [_, _, SP.vl (rSl (rInt .i64)) O31 [x14]] hA (.cons ?z19_0 (.cons ?z19_1 (.cons ?z19_2 .nil))) ?zok19 ?zgd19 ?zk19
              case z19_0 => intro a' w' hE hK hg; exact ok_move (kn (hK 7 rfl) rfl q7)
              case z19_1 => intro a' w' hE hK hg; exact ok_move (kn (hK 8 rfl) rfl q8)
              case z19_2 => intro a' w' hE hK hg; exact okl_buildSliceV (r := (rInt .i64)) (fun _ => rfl) rfl (OkO.ext hB.ok hE) ty58 ty3 (parts_cons (ksv (j := 1) (hK 71 rfl) rfl rfl rfl) parts_nil) ⟨(by first | exact rInt_v.2 rfl | exact rBool_v.2 rfl | exact rStr_v.2 rfl | exact rC_v.2 rfl | exact ⟨_, rfl, rfl⟩), trivial⟩ rfl (by decide)
              case zok19 => kernel_rfl
              case zgd19 => kernel_rfl
              intro a24 w24 hA' hE HF
              replace q0 := kn (HF 0) rfl q0
              replace q1 := kn (HF 1) rfl q1
              replace q7 := kn (HF 7) rfl q7
              replace q8 := kn (HF 8) rfl q8
              have q70 := ksv (HF 70) rfl rfl rfl
              have f33 := ksp (HF 72) rfl rfl rfl
              obtain ⟨u32, q72'⟩ : ∃ u, a24.get 72 = u := ⟨_, rfl⟩
              rw [q72'] at f33
              have q72 := q72'; clear q72'
              clear q69
              clear hA HF; have hA := hA'; clear hA'
              replace h_0 := GR.v_ext _ h_0 hE
              replace f13 := f13.ext hE
              replace hB := Base.step hB hE hO; clear hE
              obtain ⟨x34, hx34, h⟩ := Comp.run_bind h
              refine l_append (r := (rInt .i64)) (fun _ => rfl) rfl ty58 ty3 rfl (by decide) hO hB (okB_fr hB) q70 f13 q72 (rd_of f33) hx34 (by decide) fun u35 w25 O36 f37 hB' hX => ?_
              clear hB; have hB := hB'; clear hB'
              clear f13
              replace h_0 := GR.kx _ h_0 hX (by decide)
              replace f33 := GR.kx _ f33 hX (by decide)
              clear hX
              refine put_cont hA (by decide) fun a26 hA' q_ hfr => ?_
              clear hA; have hA := hA'; clear hA'
              replace q0 := (hfr 0 rfl).trans q0
              replace q1 := (hfr 1 rfl).trans q1
              replace q7 := (hfr 7 rfl).trans q7
              replace q8 := (hfr 8 rfl).trans q8
              replace q70 := (hfr 70 rfl).trans q70
              replace q72 := (hfr 72 rfl).trans q72
              have q73 := q_; clear q_ hfr
              refine l_ok (φ := SP.isv (u35)) hO hB (by exact ok_assign q73) rfl fun u_ w27 hE hB' hv_ => ?_
              replace hv_ := Eq.symm hv_; subst hv_; clear hB; have hB := hB'; clear hB'
              replace h_0 := GR.v_ext _ h_0 hE
              replace f37 := f37.ext hE
              clear hE
              refine put_cont hA (by decide) fun a28 hA' q_ hfr => ?_
              clear hA; have hA := hA'; clear hA'
              replace q0 := (hfr 0 rfl).trans q0
              replace q1 := (hfr 1 rfl).trans q1
              replace q8 := (hfr 8 rfl).trans q8
              replace q73 := (hfr 73 rfl).trans q73
              clear q7
              have q7 := q_; clear q_ hfr
              refine (li_nil ?_)
              refine (nx_blk (nx_then ?_))
              exact ⟨_, _, _, hA, hB, q0, h_0, q1, q7, f37, q8, h⟩
            ·
              replace h := Comp.run_b_f hc h; clear hc
              refine wp_skip ?_
              refine (nx_blk (nx_then ?_))
              exact ⟨_, _, _, hA, hB, q0, h_0, q1, q7, f13, q8, h⟩
        intro a29 w29 hI
        clear hA hB h q0 q1 q7 q8 q40 f13 h_0
        obtain ⟨O38, x18, u19, hA, hB, q0, h_0, q1, q7, f20, q8, h⟩ := hI
        unfold colletref32_Hitting_j5 at h
        refine' region [_, _, _] mixed hA (.cons ?z20_0 (.cons ?z20_1 (.cons ?z20_2 .nil))) ?zok20 ?zgd20 ?zk20
        case z20_0 => intro a' w' hE hK hg; exact ok_move (kn (hK 8 rfl) rfl q8)
        case z20_1 => intro a' w' hE hK hg; exact ok_add (ksv (j := 0) (hK 41 rfl) rfl rfl rfl) rfl
        case z20_2 => intro a' w' hE hK hg; exact ok_assign (ksv (j := 1) (hK 42 rfl) rfl rfl rfl)
        case zok20 => kernel_rfl
        case zgd20 => kernel_rfl
        intro a30 w30 hA' hE HF
        replace q0 := kn (HF 0) rfl q0
        replace q1 := kn (HF 1) rfl q1
        replace q7 := kn (HF 7) rfl q7
        have q8' := ksv (HF 8) rfl rfl rfl
        replace q8 := q8'; clear q8'
        clear hA HF; have hA := hA'; clear hA'
        replace h_0 := GR.v_ext _ h_0 hE
        replace f20 := f20.ext hE
        replace hB := Base.step hB hE hO; clear hE
        refine (li_nil ?_)
        refine (nx_then ?_)
        have h := hnext4 _ (Comp.run_pure h).symm
        refine ⟨m4, hlt4, ?_⟩
        exact ⟨_, _, _, _, hA, hB, q0, h_0, q1, q7, f20, q8, h⟩
      ·
        replace h := Comp.run_b_f hc h; clear hc
        refine wp_exit ?_
        refine (ex_then (ex_then (ex_same ?_)))
        have hd_ := hdone4 _ (Comp.run_pure h).symm; clear h
        subst hd_; have h := hk4; clear hk4; try dsimp only at h
        refine (nx_then ?_)
        exact ⟨_, _, _, hA, hB, q7, f13, h⟩
    intro a31 w31 hI
    clear hA hB h q0 q1 q7 h_0
    obtain ⟨O44, x41, u42, hA, hB, q7, f43, h⟩ := hI
    unfold colletref32_Hitting_j3 at h
    refine wp_seq ?_
    refine' region [_, _, _] mixed hA (.cons ?z21_0 (.cons ?z21_1 (.cons ?z21_2 .nil))) ?zok21 ?zgd21 ?zk21
    case z21_0 => intro a' w' hE hK hg; exact ok_move (kn (hK 7 rfl) rfl q7)
    case z21_1 => intro a' w' hE hK hg; exact ok_assign (ksv (j := 0) (hK 74 rfl) rfl rfl rfl)
    case z21_2 => intro a' w' hE hK hg; exact ok_assign rfl
    case zok21 => kernel_rfl
    case zgd21 => kernel_rfl
    intro a32 w32 hA' hE HF
    have q4 := ksv (HF 4) rfl rfl rfl
    have q5 := ksv (HF 5) rfl rfl rfl
    clear q7
    clear hA HF; have hA := hA'; clear hA'
    replace f43 := f43.ext hE
    replace hB := Base.step hB hE hO; clear hE
    refine (li_nil ?_)
    refine (nx_then ?_)
    refine (wp_ret ?_)
    have h := Comp.run_pure h; subst h
    exact retPure2 Try.results47 hA q4 q5 hB.ext ⟨_, _, rfl, (OwnL.res f43 (by decide) hB.zero), rfl⟩

theorem ok_colletlaw32_CoreSets {O : Tags} {w0 : World} (hO : OkO O w0) {v_0 : Value} {x_0 : List Int} (h_0 : (rSl (rInt .i64)).v O w0 v_0 x_0) {x_1 : Int} {n : Nat} {y : Bool} (h : (colletlaw32_CoreSets x_0 x_1).run n = some y) : Pure Try.prog 8 #[v_0, .int .i64 x_1] w0 (SP.isv (.bool y)).holds := by
  unfold colletlaw32_CoreSets at h
  refine pure_of_wp Try.func8 rfl 98 Try.ntmps8 (by simp) fun a0 hA hs0 => ?_
  have q0 := hs0 0 _ rfl
  have q1 := hs0 1 _ rfl
  clear hs0
  have hB : Base (Fr w0) O w0 O w0 := Base.start hO
  refine wp_seq ?_
  refine' region [_] mixed hA (.cons ?z1_0 .nil) ?zok1 ?zgd1 ?zk1
  case z1_0 => intro a' w' hE hK hg; exact ok_assign rfl
  case zok1 => kernel_rfl
  case zgd1 => kernel_rfl
  intro a1 w1 hA' hE HF
  replace q0 := kn (HF 0) rfl q0
  replace q1 := kn (HF 1) rfl q1
  clear hA HF; have hA := hA'; clear hA'
  replace h_0 := GR.v_ext _ h_0 hE
  replace hB := Base.step hB hE hO; clear hE
  refine (li_nil ?_)
  refine (nx_then ?_)
  refine wp_seq ?_
  obtain ⟨x1, hx1, h⟩ := Comp.run_bind h
  refine' region [SP.isv (.bool x1), _] mixed hA (.cons ?z2_0 (.cons ?z2_1 .nil)) ?zok2 ?zgd2 ?zk2
  case z2_0 => intro a' w' hE hK hg; have c_ := ok_colletlaw32_sanity (OkO.ext hB.ok hE)  hx1; exact ok_call0 fn38  c_
  case z2_1 => intro a' w' hE hK hg; exact ok_assign (ksv (j := 0) (hK 19 rfl) rfl rfl rfl)
  case zok2 => kernel_rfl
  case zgd2 => kernel_rfl
  intro a2 w2 hA' hE HF
  replace q0 := kn (HF 0) rfl q0
  replace q1 := kn (HF 1) rfl q1
  have q5 := ksv (HF 5) rfl rfl rfl
  clear hA HF; have hA := hA'; clear hA'
  replace h_0 := GR.v_ext _ h_0 hE
  replace hB := Base.step hB hE hO; clear hE
  refine (li_nil ?_)
  refine (nx_then ?_)
  refine wp_seq ?_
  obtain ⟨x2, hx2, h⟩ := Comp.run_bind h
  refine' region [_, SP.vl (rSl (rInt .i64)) O x2, SP.vl (rSl (rInt .i64)) O x2] mixed hA (.cons ?z3_0 (.cons ?z3_1 (.cons ?z3_2 .nil))) ?zok3 ?zgd3 ?zk3
  case z3_0 => intro a' w' hE hK hg; exact ok_move (kn (hK 0 rfl) rfl q0)
  case z3_1 => intro a' w' hE hK hg; have c_ := ok_colletlaw32_cut (OkO.ext hB.ok hE) (GR.v_ext _ h_0 hE) hx2; exact ok_call1 fn39 (ksv (j := 0) (hK 20 rfl) rfl rfl rfl) c_
  case z3_2 => intro a' w' hE hK hg; exact ok_assign_pr (φ := SP.vl (rSl (rInt .i64)) O x2) (kspS (φ := SP.vl (rSl (rInt .i64)) O x2) (j := 1) (hK 21 rfl) rfl rfl rfl)
  case zok3 => kernel_rfl
  case zgd3 => kernel_rfl
  intro a3 w3 hA' hE HF
  have f4 := ksp (HF 0) rfl rfl rfl
  obtain ⟨u3, q0'⟩ : ∃ u, a3.get 0 = u := ⟨_, rfl⟩
  rw [q0'] at f4
  replace q0 := q0'; clear q0'
  replace q1 := kn (HF 1) rfl q1
  replace q5 := kn (HF 5) rfl q5
  clear hA HF; have hA := hA'; clear hA'
  replace h_0 := GR.v_ext _ h_0 hE
  replace hB := Base.step hB hE hO; clear hE
  refine (li_nil ?_)
  refine (nx_then ?_)
  refine wp_seq ?_
  obtain ⟨x5, hx5, h⟩ := Comp.run_bind h
  refine' region [_, SP.isv (.int .i64 x5), _] mixed hA (.cons ?z4_0 (.cons ?z4_1 (.cons ?z4_2 .nil))) ?zok4 ?zgd4 ?zk4
  case z4_0 => intro a' w' hE hK hg; exact ok_move (kn (hK 1 rfl) rfl q1)
  case z4_1 => intro a' w' hE hK hg; have c_ := ok_colletref01_Mod (OkO.ext hB.ok hE)  hx5; exact ok_call2 fn37 (ksv (j := 0) (hK 22 rfl) rfl rfl rfl) rfl c_
  case z4_2 => intro a' w' hE hK hg; exact ok_assign (ksv (j := 1) (hK 23 rfl) rfl rfl rfl)
  case zok4 => kernel_rfl
  case zgd4 => kernel_rfl
  intro a4 w4 hA' hE HF
  replace q0 := kn (HF 0) rfl q0
  replace q1 := kn (HF 1) rfl q1
  replace q5 := kn (HF 5) rfl q5
  have q6 := ksv (HF 6) rfl rfl rfl
  clear hA HF; have hA := hA'; clear hA'
  replace f4 := GR.v_ext _ f4 hE
  replace hB := Base.step hB hE hO; clear hE
  refine (li_nil ?_)
  refine (nx_then ?_)
  refine seq_join (fun a w => ∃ (O40 : Tags), a.fit 98 ∧ Base (Fr w0) O w0 O40 w ∧ a.get 5 = .bool x1 ∧ (colletlaw32_CoreSets_j1 x1 ).run n = some y) ?_ ?_
  ·
    refine wp_seq ?_
    obtain ⟨x6, hx6, h⟩ := Comp.run_bind h
    refine' region [_, _, _, SP.vl (rSl (rInt .i64)) O x6, SP.vl (rSl (rSl (rInt .i64))) O [x2, x6, []], _, _] mixed hA (.cons ?z5_0 (.cons ?z5_1 (.cons ?z5_2 (.cons ?z5_3 (.cons ?z5_4 (.cons ?z5_5 (.cons ?z5_6 .nil))))))) ?zok5 ?zgd5 ?zk5
    case z5_0 => intro a' w' hE hK hg; exact ok_move (kn (hK 0 rfl) rfl q0)
    case z5_1 => intro a' w' hE hK hg; exact ok_move (kn (hK 0 rfl) rfl q0)
    case z5_2 => intro a' w' hE hK hg; exact ok_move (kn (hK 6 rfl) rfl q6)
    case z5_3 => intro a' w' hE hK hg; have c_ := ok_colletref32_Sets (OkO.ext hB.ok hE) (GR.v_ext _ f4 hE) hx6; exact ok_weak (ok_call2 fn40 (ksv (j := 1) (hK 25 rfl) rfl rfl rfl) (ksv (j := 2) (hK 26 rfl) rfl rfl rfl) c_) (fun _ _ _ h => (OwnR.val h (fun g hg => (OkO.ext hB.ok hE) g (OwnR.ge h g hg).1)))
    case z5_4 => intro a' w' hE hK hg; exact okl_buildSliceV (r := (rSl (rInt .i64))) (fun _ => rfl) rfl (OkO.ext hB.ok hE) ty22 ty58 (parts_cons (ksv (j := 0) (hK 24 rfl) rfl rfl rfl) (parts_cons rfl (parts_cons rfl parts_nil))) ⟨(GR.v_ext _ f4 hE), ⟨(kspS (φ := SP.vl (rSl (rInt .i64)) O x6) (j := 3) (hK 27 rfl) rfl rfl rfl), ⟨(rSl_nil _ _ _ 0), trivial⟩⟩⟩ rfl (by decide)
    case z5_5 => intro a' w' hE hK hg; exact okl_len (r := (rSl (rInt .i64))) ty22 rfl (rd_of (kspS (φ := SP.vl (rSl (rSl (rInt .i64))) O [x2, x6, []]) (j := 4) (hK 28 rfl) rfl rfl rfl))
    case z5_6 => intro a' w' hE hK hg; exact ok_move rfl
    case zok5 => kernel_rfl
    case zgd5 => kernel_rfl
    intro a5 w5 hA' hE HF
    replace q0 := kn (HF 0) rfl q0
    replace q1 := kn (HF 1) rfl q1
    replace q5 := kn (HF 5) rfl q5
    replace q6 := kn (HF 6) rfl q6
    have f8 := ksp (HF 28) rfl rfl rfl
    obtain ⟨u7, q28'⟩ : ∃ u, a5.get 28 = u := ⟨_, rfl⟩
    rw [q28'] at f8
    have q28 := q28'; clear q28'
    have q29 := ksv (HF 29) rfl rfl rfl
    have q30 := ksv (HF 30) rfl rfl rfl
    clear hA HF; have hA := hA'; clear hA'
    replace f4 := GR.v_ext _ f4 hE
    replace hB := Base.step hB hE hO; clear hE
    refine (li_nil ?_)
    refine (nx_then ?_)
    refine wp_block ?_
    obtain ⟨e2, he2, hk2⟩ := Comp.run_bind h; clear h
    refine loop_m (fun m a w => ∃ (O10 : Tags) (x9 : Int), a.fit 98 ∧ Base (Fr w0) O w0 O10 w ∧ a.get 0 = u3 ∧ (rSl (rInt .i64)).v O10 w u3 x2 ∧ a.get 1 = .int .i64 x_1 ∧ a.get 5 = .bool x1 ∧ a.get 6 = .int .i64 x5 ∧ a.get 28 = u7 ∧ (rSl (rSl (rInt .i64))).v O10 w u7 [x2, x6, []] ∧ a.get 29 = .int .i64 ([x2, x6, []].length : Int) ∧ a.get 30 = .int .i64 x9 ∧ Comp.loopN (fun s => colletlaw32_CoreSets_l2 x2 x6 x_1 x5 s) n m x9 = some e2) (m := n) ?st2 ?_
    case st2 =>
      exact ⟨_, _, hA, hB, q0, f4, q1, q5, q6, q28, f8, q29, q30, Comp.run_loop he2⟩
    intro m_ a6 w6 hI
    clear hA hB he2 q0 q1 q5 q6 q28 q29 q30 f4 f8
    obtain ⟨O10, x9, hA, hB, q0, f4, q1, q5, q6, q28, f8, q29, q30, hl⟩ := hI
    obtain ⟨m2, hlt2, st2, h, hnext2, hdone2⟩ := Comp.loopN_succ hl; clear hl
    replace h : (colletlaw32_CoreSets_l2 x2 x6 x_1 x5 x9).run n = some st2 := h
    unfold colletlaw32_CoreSets_l2 at h
    refine wp_seq ?_
    refine' region [_] mixed hA (.cons ?z6_0 .nil) ?zok6 ?zgd6 ?zk6
    case z6_0 => intro a' w' hE hK hg; exact ok_lss (kn (hK 30 rfl) rfl q30) (kn (hK 29 rfl) rfl q29)
    case zok6 => kernel_rfl
    case zgd6 => kernel_rfl
    intro a7 w7 hA' hE HF
    replace q0 := kn (HF 0) rfl q0
    replace q1 := kn (HF 1) rfl q1
    replace q5 := kn (HF 5) rfl q5
    replace q6 := kn (HF 6) rfl q6
    replace q28 := kn (HF 28) rfl q28
    replace q29 := kn (HF 29) rfl q29
    replace q30 := kn (HF 30) rfl q30
    have q31 := ksv (HF 31) rfl rfl rfl
    clear hA HF; have hA := hA'; clear hA'
    replace f4 := GR.v_ext _ f4 hE
    replace f8 := GR.v_ext _ f8 hE
    replace hB := Base.step hB hE hO; clear hE
    obtain ⟨x11, hx_, h⟩ := Comp.run_bind h; replace hx_ := Comp.run_pure hx_; rw [hx_] at q31; clear hx_
    refine (li_nil ?_)
    refine (nx_then ?_)
    refine wp_seq ?_
    refine wp_cond_b q31 (fun hc => ?_) (fun hc => ?_)
    ·
      replace h := Comp.run_b_t hc h; clear hc
      refine wp_skip ?_
      refine (nx_then ?_)
      refine wp_seq ?_
      refine wp_block ?_
      refine wp_seq ?_
      obtain ⟨x12, hx12, h⟩ := Comp.run_bind h
      refine' region [SP.ptr (rSl (rInt .i64)) O10 x12, SP.vl (rSl (rInt .i64)) O10 x12, SP.vl (rSl (rInt .i64)) O10 x12] mixed hA (.cons ?z7_0 (.cons ?z7_1 (.cons ?z7_2 .nil))) ?zok7 ?zgd7 ?zk7
      case z7_0 => intro a' w' hE hK hg; exact okl_idx (r := (rSl (rInt .i64))) (O := O10) ty22 ty58 rfl (kn (hK 28 rfl) rfl q28) (rd_of (GR.v_ext _ f8 hE)) (kn (hK 30 rfl) rfl q30) hx12
      case z7_1 => intro a' w' hE hK hg; exact okl_ld (r := (rSl (rInt .i64))) (fun _ => rfl) ty58 rfl rfl rfl (kspS (φ := SP.ptr (rSl (rInt .i64)) O10 x12) (j := 0) (hK 32 rfl) rfl rfl rfl)
      case z7_2 => intro a' w' hE hK hg; exact ok_assign_pr (φ := SP.vl (rSl (rInt .i64)) O10 x12) (kspS (φ := SP.vl (rSl (rInt .i64)) O10 x12) (j := 1) (hK 33 rfl) rfl rfl rfl)
      case zok7 => kernel_rfl
      case zgd7 => kernel_rfl
      intro a8 w8 hA' hE HF
      replace q0 := kn (HF 0) rfl q0
      replace q1 := kn (HF 1) rfl q1
      replace q5 := kn (HF 5) rfl q5
      replace q6 := kn (HF 6) rfl q6
      have f14 := ksp (HF 8) rfl rfl rfl
      obtain ⟨u13, q8'⟩ : ∃ u, a8.get 8 = u := ⟨_, rfl⟩
      rw [q8'] at f14
      have q8 := q8'; clear q8'
      replace q28 := kn (HF 28) rfl q28
      replace q29 := kn (HF 29) rfl q29
      replace q30 := kn (HF 30) rfl q30
      clear q31
      clear hA HF; have hA := hA'; clear hA'
      replace f4 := GR.v_ext _ f4 hE
      replace f8 := GR.v_ext _ f8 hE
      replace hB := Base.step hB hE hO; clear hE
      refine (li_nil ?_)
      refine (nx_then ?_)
      refine wp_seq ?_
      refine wp_seq ?_
      obtain ⟨x15, hx15, h⟩ := Comp.run_bind h
      obtain ⟨x16, hx16, h⟩ := Comp.run_bind h
      obtain ⟨x17, hx17, h⟩ := Comp.run_bind h
      refine' region [_, SP.vl (rSl (rInt .i64)) O10 x15, _, SP.vl (rSl (rInt .i64)) O10 x16, SP.isv (.bool x17), _] mixed hA (.cons ?z8_0 (.cons ?z8_1 (.cons ?z8_2 (.cons ?z8_3 (.cons ?z8_4 (.cons ?z8_5 .nil)))))) ?zok8 ?zgd8 ?zk8
      case z8_0 => intro a' w' hE hK hg; exact ok_move (kn (hK 8 rfl) rfl q8)
      case z8_1 => intro a' w' hE hK hg; have c_ := ok_core_Minimal (OkO.ext hB.ok hE) (GR.v_ext _ f14 hE) hx15; exact ok_weak (ok_call1 fn42 (ksv (j := 0) (hK 34 rfl) rfl rfl rfl) c_) (fun _ _ _ h => (OwnR.val h (fun g hg => (OkO.ext hB.ok hE) g (OwnR.ge h g hg).1)))
      case z8_2 => intro a' w' hE hK hg; exact ok_move (kn (hK 8 rfl) rfl q8)
      case z8_3 => intro a' w' hE hK hg; have c_ := ok_colletref32_Minimal (OkO.ext hB.ok hE) (GR.v_ext _ f14 hE) hx16; exact ok_call1 fn43 (ksv (j := 2) (hK 36 rfl) rfl rfl rfl) c_
      case z8_4 => intro a' w' hE hK hg; have c_ := ok_colletref32_Same (OkO.ext hB.ok hE) (kspS (φ := SP.vl (rSl (rInt .i64)) O10 x15) (j := 1) (hK 35 rfl) rfl rfl rfl) (kspS (φ := SP.vl (rSl (rInt .i64)) O10 x16) (j := 3) (hK 37 rfl) rfl rfl rfl) hx17; exact ok_call2 fn41 rfl rfl c_
      case z8_5 => intro a' w' hE hK hg; exact ok_not (ksv (j := 4) (hK 38 rfl) rfl rfl rfl)
      case zok8 => kernel_rfl
      case zgd8 => kernel_rfl
      intro a9 w9 hA' hE HF
      replace q0 := kn (HF 0) rfl q0
      replace q1 := kn (HF 1) rfl q1
      replace q5 := kn (HF 5) rfl q5
      replace q6 := kn (HF 6) rfl q6
      replace q8 := kn (HF 8) rfl q8
      replace q28 := kn (HF 28) rfl q28
      replace q29 := kn (HF 29) rfl q29
      replace q30 := kn (HF 30) rfl q30
      have q39 := ksv (HF 39) rfl rfl rfl
      clear hA HF; have hA := hA'; clear hA'
      replace f4 := GR.v_ext _ f4 hE
      replace f14 := GR.v_ext _ f14 hE
      replace f8 := GR.v_ext _ f8 hE
      replace hB := Base.step hB hE hO; clear hE
      refine (li_nil ?_)
      refine (nx_then ?_)
      refine wp_cond_b q39 (fun hc => ?_) (fun hc => ?_)
      ·
        replace h := Comp.run_b_t hc h; clear hc
        refine wp_seq ?_
        refine' region [_] mixed hA (.cons ?z9_0 .nil) ?zok9 ?zgd9 ?zk9
        case z9_0 => intro a' w' hE hK hg; exact ok_assign rfl
        case zok9 => kernel_rfl
        case zgd9 => kernel_rfl
        intro a10 w10 hA' hE HF
        have q4 := ksv (HF 4) rfl rfl rfl
        clear q0
        clear q1
        clear q5
        clear q6
        clear q8
        clear q28
        clear q29
        clear q30
        clear q39
        clear hA HF; have hA := hA'; clear hA'
        replace f4 := GR.v_ext _ f4 hE
        replace f14 := GR.v_ext _ f14 hE
        replace f8 := GR.v_ext _ f8 hE
        replace hB := Base.step hB hE hO; clear hE
        refine (li_nil ?_)
        refine (nx_then ?_)
        refine (wp_ret (rt_then (rt_blk (rt_then (rt_then (rt_blk (rt_then ?_)))))))
        have hd_ := hdone2 _ (Comp.run_pure h).symm; clear h
        subst hd_; have h := hk2; clear hk2; try dsimp only at h
        have h := Comp.run_pure h; subst h
        exact retPure Try.results8 hA q4 hB.ext rfl
      ·
        replace h := Comp.run_b_f hc h; clear hc
        refine wp_skip ?_
        refine (nx_then ?_)
        refine wp_seq ?_
        obtain ⟨x19, hx19, h⟩ := Comp.run_bind h
        refine' region [_, SP.tup2 (SP.isv (.int .i64 x19.1)) (SP.isv (.bool x19.2)), SP.tup2 (SP.isv (.int .i64 x19.1)) (SP.isv (.bool x19.2)), SP.isv (.int .i64 x19.1), SP.isv (.bool x19.2), _, _] mixed hA (.cons ?z10_0 (.cons ?z10_1 (.cons ?z10_2 (.cons ?z10_3 (.cons ?z10_4 (.cons ?z10_5 (.cons ?z10_6 .nil))))))) ?zok10 ?zgd10 ?zk10
        case z10_0 => intro a' w' hE hK hg; exact ok_move (kn (hK 8 rfl) rfl q8)
        case z10_1 => intro a' w' hE hK hg; have c_ := ok_core_Least (OkO.ext hB.ok hE) (GR.v_ext _ f14 hE) hx19; exact ok_call1 fn44 (ksv (j := 0) (hK 41 rfl) rfl rfl rfl) c_
        case z10_2 => intro a' w' hE hK hg; exact ok_move_pr (φ := SP.tup2 (SP.isv (.int .i64 x19.1)) (SP.isv (.bool x19.2))) (kspS (φ := SP.tup2 (SP.isv (.int .i64 x19.1)) (SP.isv (.bool x19.2))) (j := 1) (hK 42 rfl) rfl rfl rfl)
        case z10_3 => intro a' w' hE hK hg; exact okl_ext0 (kspS (φ := SP.tup2 (SP.isv (.int .i64 x19.1)) (SP.isv (.bool x19.2))) (j := 2) (hK 40 rfl) rfl rfl rfl)
        case z10_4 => intro a' w' hE hK hg; exact okl_ext1 (kspS (φ := SP.tup2 (SP.isv (.int .i64 x19.1)) (SP.isv (.bool x19.2))) (j := 2) (hK 40 rfl) rfl rfl rfl)
        case z10_5 => intro a' w' hE hK hg; exact ok_assign (ksv (j := 3) (hK 43 rfl) rfl rfl rfl)
        case z10_6 => intro a' w' hE hK hg; exact ok_assign (ksv (j := 4) (hK 44 rfl) rfl rfl rfl)
        case zok10 => kernel_rfl
        case zgd10 => kernel_rfl
        intro a11 w11 hA' hE HF
        replace q0 := kn (HF 0) rfl q0
        replace q1 := kn (HF 1) rfl q1
        replace q5 := kn (HF 5) rfl q5
        replace q6 := kn (HF 6) rfl q6
        replace q8 := kn (HF 8) rfl q8
        have q9 := ksv (HF 9) rfl rfl rfl
        have q10 := ksv (HF 10) rfl rfl rfl
        replace q28 := kn (HF 28) rfl q28
        replace q29 := kn (HF 29) rfl q29
        replace q30 := kn (HF 30) rfl q30
        clear q39
        clear hA HF; have hA := hA'; clear hA'
        replace f4 := GR.v_ext _ f4 hE
        replace f14 := GR.v_ext _ f14 hE
        replace f8 := GR.v_ext _ f8 hE
        replace hB := Base.step hB hE hO; clear hE
        refine (li_nil ?_)
        refine (nx_then ?_)
        refine wp_seq ?_
        obtain ⟨x20, hx20, h⟩ := Comp.run_bind h
        refine' region [_, SP.tup2 (SP.isv (.int .i64 x20.1)) (SP.isv (.bool x20.2)), SP.tup2 (SP.isv (.int .i64 x20.1)) (SP.isv (.bool x20.2)), SP.isv (.int .i64 x20.1), SP.isv (.bool x20.2), _, _] mixed hA (.cons ?z11_0 (.cons ?z11_1 (.cons ?z11_2 (.cons ?z11_3 (.cons ?z11_4 (.cons ?z11_5 (.cons ?z11_6 .nil))))))) ?zok11 ?zgd11 ?zk11
        case z11_0 => intro a' w' hE hK hg; exact ok_move (kn (hK 8 rfl) rfl q8)
        case z11_1 => intro a' w' hE hK hg; have c_ := ok_colletref32_Least (OkO.ext hB.ok hE) (GR.v_ext _ f14 hE) hx20; exact ok_call1 fn45 (ksv (j := 0) (hK 46 rfl) rfl rfl rfl) c_
        case z11_2 => intro a' w' hE hK hg; exact ok_move_pr (φ := SP.tup2 (SP.isv (.int .i64 x20.1)) (SP.isv (.bool x20.2))) (kspS (φ := SP.tup2 (SP.isv (.int .i64 x20.1)) (SP.isv (.bool x20.2))) (j := 1) (hK 47 rfl) rfl rfl rfl)
        case z11_3 => intro a' w' hE hK hg; exact okl_ext0 (kspS (φ := SP.tup2 (SP.isv (.int .i64 x20.1)) (SP.isv (.bool x20.2))) (j := 2) (hK 45 rfl) rfl rfl rfl)
        case z11_4 => intro a' w' hE hK hg; exact okl_ext1 (kspS (φ := SP.tup2 (SP.isv (.int .i64 x20.1)) (SP.isv (.bool x20.2))) (j := 2) (hK 45 rfl) rfl rfl rfl)
        case z11_5 => intro a' w' hE hK hg; exact ok_assign (ksv (j := 3) (hK 48 rfl) rfl rfl rfl)
        case z11_6 => intro a' w' hE hK hg; exact ok_assign (ksv (j := 4) (hK 49 rfl) rfl rfl rfl)
        case zok11 => kernel_rfl
        case zgd11 => kernel_rfl
        intro a12 w12 hA' hE HF
        replace q0 := kn (HF 0) rfl q0
        replace q1 := kn (HF 1) rfl q1
        replace q5 := kn (HF 5) rfl q5
        replace q6 := kn (HF 6) rfl q6
        replace q8 := kn (HF 8) rfl q8
        replace q9 := kn (HF 9) rfl q9
        replace q10 := kn (HF 10) rfl q10
        have q11 := ksv (HF 11) rfl rfl rfl
        have q12 := ksv (HF 12) rfl rfl rfl
        replace q28 := kn (HF 28) rfl q28
        replace q29 := kn (HF 29) rfl q29
        replace q30 := kn (HF 30) rfl q30
        clear hA HF; have hA := hA'; clear hA'
        replace f4 := GR.v_ext _ f4 hE
        replace f14 := GR.v_ext _ f14 hE
        replace f8 := GR.v_ext _ f8 hE
        replace hB := Base.step hB hE hO; clear hE
        refine (li_nil ?_)
        refine (nx_then ?_)
        refine wp_seq ?_
        refine wp_seq ?_
        refine' region [_, _, _, _, _, _, _, _] mixed hA (.cons ?z12_0 (.cons ?z12_1 (.cons ?z12_2 (.cons ?z12_3 (.cons ?z12_4 (.cons ?z12_5 (.cons ?z12_6 (.cons ?z12_7 .nil)))))))) ?zok12 ?zgd12 ?zk12
        case z12_0 => intro a' w' hE hK hg; exact ok_move (kn (hK 9 rfl) rfl q9)
        case z12_1 => intro a' w' hE hK hg; exact ok_move (kn (hK 11 rfl) rfl q11)
        case z12_2 => intro a' w' hE hK hg; exact ok_neqI (ksv (j := 0) (hK 50 rfl) rfl rfl rfl) (ksv (j := 1) (hK 51 rfl) rfl rfl rfl)
        case z12_3 => intro a' w' hE hK hg; exact ok_move (ksv (j := 2) (hK 52 rfl) rfl rfl rfl)
        case z12_4 => intro a' w' hE hK hg; exact ok_move (kn (hK 10 rfl) rfl q10)
        case z12_5 => intro a' w' hE hK hg; exact ok_move (kn (hK 12 rfl) rfl q12)
        case z12_6 => intro a' w' hE hK hg; exact ok_neqB ty4 (ksv (j := 4) (hK 54 rfl) rfl rfl hg) (ksv (j := 5) (hK 55 rfl) rfl rfl hg)
        case z12_7 => intro a' w' hE hK hg; exact ok_pick (ksv (j := 3) (hK 53 rfl) rfl rfl rfl) (fun _ => rfl) (fun hb => ksv (j := 6) (hK 56 rfl) rfl rfl (act_g1 rfl rfl hb))
        case zok12 => kernel_rfl
        case zgd12 => kernel_rfl
        intro a13 w13 hA' hE HF
        replace q0 := kn (HF 0) rfl q0
        replace q1 := kn (HF 1) rfl q1
        replace q5 := kn (HF 5) rfl q5
        replace q6 := kn (HF 6) rfl q6
        replace q8 := kn (HF 8) rfl q8
        replace q28 := kn (HF 28) rfl q28
        replace q29 := kn (HF 29) rfl q29
        replace q30 := kn (HF 30) rfl q30
        have q57 := ksv (HF 57) rfl rfl rfl
        clear q9
        clear q10
        clear q11
        clear q12
        clear hA HF; have hA := hA'; clear hA'
        replace f4 := GR.v_ext _ f4 hE
        replace f14 := GR.v_ext _ f14 hE
        replace f8 := GR.v_ext _ f8 hE
        replace hB := Base.step hB hE hO; clear hE
        obtain ⟨x21, hx_, h⟩ := Comp.run_bind h; replace hx_ := Comp.run_pure hx_; rw [hx_] at q57; clear hx_
        refine (li_nil ?_)
        refine (nx_then ?_)
        refine wp_cond_b q57 (fun hc => ?_) (fun hc => ?_)
        ·
          replace h := Comp.run_b_t hc h; clear hc
          refine wp_seq ?_
          refine' region [_] mixed hA (.cons ?z13_0 .nil) ?zok13 ?zgd13 ?zk13
          case z13_0 => intro a' w' hE hK hg; exact ok_assign rfl
          case zok13 => kernel_rfl
          case zgd13 => kernel_rfl
          intro a14 w14 hA' hE HF
          have q4 := ksv (HF 4) rfl rfl rfl
          clear q0
          clear q1
          clear q5
          clear q6
          clear q8
          clear q28
          clear q29
          clear q30
          clear q57
          clear hA HF; have hA := hA'; clear hA'
          replace f4 := GR.v_ext _ f4 hE
          replace f14 := GR.v_ext _ f14 hE
          replace f8 := GR.v_ext _ f8 hE
          replace hB := Base.step hB hE hO; clear hE
          refine (li_nil ?_)
          refine (nx_then ?_)
          refine (wp_ret (rt_then (rt_blk (rt_then (rt_then (rt_blk (rt_then ?_)))))))
          have hd_ := hdone2 _ (Comp.run_pure h).symm; clear h
          subst hd_; have h := hk2; clear hk2; try dsimp only at h
          have h := Comp.run_pure h; subst h
          exact retPure Try.results8 hA q4 hB.ext rfl
        ·
          replace h := Comp.run_b_f hc h; clear hc
          refine wp_skip ?_
          refine (nx_then ?_)
          refine wp_seq ?_
          refine' region [_, _, SP.vl (rSl (rInt .i64)) O10 [x_1, x5, 10], _, _] mixed hA (.cons ?z14_0 (.cons ?z14_1 (.cons ?z14_2 (.cons ?z14_3 (.cons ?z14_4 .nil))))) ?zok14 ?zgd14 ?zk14
          case z14_0 => intro a' w' hE hK hg; exact ok_move (kn (hK 1 rfl) rfl q1)
          case z14_1 => intro a' w' hE hK hg; exact ok_move (kn (hK 6 rfl) rfl q6)
          case z14_2 => intro a' w' hE hK hg; exact okl_buildSliceV (r := (rInt .i64)) (fun _ => rfl) rfl (OkO.ext hB.ok hE) ty58 ty3 (parts_cons (ksv (j := 0) (hK 58 rfl) rfl rfl rfl) (parts_cons (ksv (j := 1) (hK 59 rfl) rfl rfl rfl) (parts_cons rfl parts_nil))) ⟨(by first | exact rInt_v.2 rfl | exact rBool_v.2 rfl | exact rStr_v.2 rfl | exact rC_v.2 rfl | exact ⟨_, rfl, rfl⟩), ⟨(by first | exact rInt_v.2 rfl | exact rBool_v.2 rfl | exact rStr_v.2 rfl | exact rC_v.2 rfl | exact ⟨_, rfl, rfl⟩), ⟨(by first | exact rInt_v.2 rfl | exact rBool_v.2 rfl | exact rStr_v.2 rfl | exact rC_v.2 rfl | exact ⟨_, rfl, rfl⟩), trivial⟩⟩⟩ rfl (by decide)
          case z14_3 => intro a' w' hE hK hg; exact okl_len (r := (rInt .i64)) ty58 rfl (rd_of (kspS (φ := SP.vl (rSl (rInt .i64)) O10 [x_1, x5, 10]) (j := 2) (hK 60 rfl) rfl rfl rfl))
          case z14_4 => intro a' w' hE hK hg; exact ok_move rfl
          case zok14 => kernel_rfl
          case zgd14 => kernel_rfl
          intro a15 w15 hA' hE HF
          replace q0 := kn (HF 0) rfl q0
          replace q1 := kn (HF 1) rfl q1
          replace q5 := kn (HF 5) rfl q5
          replace q6 := kn (HF 6) rfl q6
          replace q8 := kn (HF 8) rfl q8
          replace q28 := kn (HF 28) rfl q28
          replace q29 := kn (HF 29) rfl q29
          replace q30 := kn (HF 30) rfl q30
          have f24 := ksp (HF 60) rfl rfl rfl
          obtain ⟨u23, q60'⟩ : ∃ u, a15.get 60 = u := ⟨_, rfl⟩
          rw [q60'] at f24
          have q60 := q60'; clear q60'
          have q61 := ksv (HF 61) rfl rfl rfl
          have q62 := ksv (HF 62) rfl rfl rfl
          clear q57
          clear hA HF; have hA := hA'; clear hA'
          replace f4 := GR.v_ext _ f4 hE
          replace f14 := GR.v_ext _ f14 hE
          replace f8 := GR.v_ext _ f8 hE
          replace hB := Base.step hB hE hO; clear hE
          refine (li_nil ?_)
          refine (nx_then ?_)
          refine wp_block ?_
          obtain ⟨e3, he3, hk3⟩ := Comp.run_bind h; clear h
          refine loop_m (fun m a w => ∃ (O26 : Tags) (x25 : Int), a.fit 98 ∧ Base (Fr w0) O w0 O26 w ∧ a.get 0 = u3 ∧ (rSl (rInt .i64)).v O26 w u3 x2 ∧ a.get 1 = .int .i64 x_1 ∧ a.get 5 = .bool x1 ∧ a.get 6 = .int .i64 x5 ∧ a.get 8 = u13 ∧ (rSl (rInt .i64)).v O26 w u13 x12 ∧ a.get 28 = u7 ∧ (rSl (rSl (rInt .i64))).v O26 w u7 [x2, x6, []] ∧ a.get 29 = .int .i64 ([x2, x6, []].length : Int) ∧ a.get 30 = .int .i64 x9 ∧ a.get 60 = u23 ∧ (rSl (rInt .i64)).v O26 w u23 [x_1, x5, 10] ∧ a.get 61 = .int .i64 ([x_1, x5, 10].length : Int) ∧ a.get 62 = .int .i64 x25 ∧ Comp.loopN (fun s => colletlaw32_CoreSets_l3 x_1 x5 x2 x12 s) n m x25 = some e3) (m := n) ?st3 ?_
          case st3 =>
            exact ⟨_, _, hA, hB, q0, f4, q1, q5, q6, q8, f14, q28, f8, q29, q30, q60, f24, q61, q62, Comp.run_loop he3⟩
          intro m_ a16 w16 hI
          clear hA hB he3 q0 q1 q5 q6 q8 q28 q29 q30 q60 q61 q62 f14 f24 f4 f8
          obtain ⟨O26, x25, hA, hB, q0, f4, q1, q5, q6, q8, f14, q28, f8, q29, q30, q60, f24, q61, q62, hl⟩ := hI
          obtain ⟨m3, hlt3, st3, h, hnext3, hdone3⟩ := Comp.loopN_succ hl; clear hl
          replace h : (colletlaw32_CoreSets_l3 x_1 x5 x2 x12 x25).run n = some st3 := h
          unfold colletlaw32_CoreSets_l3 at h
          refine wp_seq ?_
          refine' region [_] mixed hA (.cons ?z15_0 .nil) ?zok15 ?zgd15 ?zk15
          case z15_0 => intro a' w' hE hK hg; exact ok_lss (kn (hK 62 rfl) rfl q62) (kn (hK 61 rfl) rfl q61)
          case zok15 => kernel_rfl
          case zgd15 => kernel_rfl
          intro a17 w17 hA' hE HF
          replace q0 := kn (HF 0) rfl q0
          replace q1 := kn (HF 1) rfl q1
          replace q5 := kn (HF 5) rfl q5
          replace q6 := kn (HF 6) rfl q6
          replace q8 := kn (HF 8) rfl q8
          replace q28 := kn (HF 28) rfl q28
          replace q29 := kn (HF 29) rfl q29
          replace q30 := kn (HF 30) rfl q30
          replace q60 := kn (HF 60) rfl q60
          replace q61 := kn (HF 61) rfl q61
          replace q62 := kn (HF 62) rfl q62
          have q63 := ksv (HF 63) rfl rfl rfl
          clear hA HF; have hA := hA'; clear hA'
          replace f4 := GR.v_ext _ f4 hE
          replace f14 := GR.v_ext _ f14 hE
          replace f8 := GR.v_ext _ f8 hE
          replace f24 := GR.v_ext _ f24 hE
          replace hB := Base.step hB hE hO; clear hE
          obtain ⟨x27, hx_, h⟩ := Comp.run_bind h; replace hx_ := Comp.run_pure hx_; rw [hx_] at q63; clear hx_
          refine (li_nil ?_)
          refine (nx_then ?_)
          refine wp_seq ?_
          refine wp_cond_b q63 (fun hc => ?_) (fun hc => ?_)
          ·
            replace h := Comp.run_b_t hc h; clear hc
            refine wp_skip ?_
            refine (nx_then ?_)
            refine seq_join (fun a w => ∃ (O39 : Tags), a.fit 98 ∧ Base (Fr w0) O w0 O39 w ∧ a.get 0 = u3 ∧ (rSl (rInt .i64)).v O39 w u3 x2 ∧ a.get 1 = .int .i64 x_1 ∧ a.get 5 = .bool x1 ∧ a.get 6 = .int .i64 x5 ∧ a.get 8 = u13 ∧ (rSl (rInt .i64)).v O39 w u13 x12 ∧ a.get 28 = u7 ∧ (rSl (rSl (rInt .i64))).v O39 w u7 [x2, x6, []] ∧ a.get 29 = .int .i64 ([x2, x6, []].length : Int) ∧ a.get 30 = .int .i64 x9 ∧ a.get 60 = u23 ∧ (rSl (rInt .i64)).v O39 w u23 [x_1, x5, 10] ∧ a.get 61 = .int .i64 ([x_1, x5, 10].length : Int) ∧ a.get 62 = .int .i64 x25 ∧ (colletlaw32_CoreSets_j4 x25 ).run n = some st3) ?_ ?_
            ·
              refine wp_block ?_
              refine wp_seq ?_
              obtain ⟨x28, hx28, h⟩ := Comp.run_bind h
              refine' region [SP.ptr (rInt .i64) O26 x28, SP.isv (.int .i64 x28), _] mixed hA (.cons ?z16_0 (.cons ?z16_1 (.cons ?z16_2 .nil))) ?zok16 ?zgd16 ?zk16
              case z16_0 => intro a' w' hE hK hg; exact okl_idx (r := (rInt .i64)) (O := O26) ty58 ty3 rfl (kn (hK 60 rfl) rfl q60) (rd_of (GR.v_ext _ f24 hE)) (kn (hK 62 rfl) rfl q62) hx28
              case z16_1 => intro a' w' hE hK hg; exact okl_ldr (rInt .i64) (fun _ => rfl) ty3 rfl rfl rfl (kspS (φ := SP.ptr (rInt .i64) O26 x28) (j := 0) (hK 64 rfl) rfl rfl rfl) (fun _ _ _ h => rInt_v.1 h)
              case z16_2 => intro a' w' hE hK hg; exact ok_assign (ksv (j := 1) (hK 65 rfl) rfl rfl rfl)
              case zok16 => kernel_rfl
              case zgd16 => kernel_rfl
              intro a18 w18 hA' hE HF
              replace q0 := kn (HF 0) rfl q0
              replace q1 := kn (HF 1) rfl q1
              replace q5 := kn (HF 5) rfl q5
              replace q6 := kn (HF 6) rfl q6
              replace q8 := kn (HF 8) rfl q8
              have q14 := ksv (HF 14) rfl rfl rfl
              replace q28 := kn (HF 28) rfl q28
              replace q29 := kn (HF 29) rfl q29
              replace q30 := kn (HF 30) rfl q30
              replace q60 := kn (HF 60) rfl q60
              replace q61 := kn (HF 61) rfl q61
              replace q62 := kn (HF 62) rfl q62
              clear q63
              clear hA HF; have hA := hA'; clear hA'
              replace f4 := GR.v_ext _ f4 hE
              replace f14 := GR.v_ext _ f14 hE
              replace f8 := GR.v_ext _ f8 hE
              replace f24 := GR.v_ext _ f24 hE
              replace hB := Base.step hB hE hO; clear hE
              refine (li_nil ?_)
              refine (nx_then ?_)
              refine wp_seq ?_
              refine wp_seq ?_
              refine' region [_, _, _, _, _, _, _, _] mixed hA (.cons ?z17_0 (.cons ?z17_1 (.cons ?z17_2 (.cons ?z17_3 (.cons ?z17_4 (.cons ?z17_5 (.cons ?z17_6 (.cons ?z17_7 .nil)))))))) ?zok17 ?zgd17 ?zk17
              case z17_0 => intro a' w' hE hK hg; exact ok_move (kn (hK 14 rfl) rfl q14)
              case z17_1 => intro a' w' hE hK hg; exact ok_eqlI (ksv (j := 0) (hK 66 rfl) rfl rfl rfl) rfl
              case z17_2 => intro a' w' hE hK hg; exact ok_move (ksv (j := 1) (hK 67 rfl) rfl rfl rfl)
              case z17_3 => intro a' w' hE hK hg; exact ok_move (kn (hK 0 rfl) rfl q0)
              case z17_4 => intro a' w' hE hK hg; exact okl_len (r := (rInt .i64)) ty58 (ksv (j := 3) (hK 69 rfl) rfl rfl hg) (rd_of (GR.v_ext _ f4 hE))
              case z17_5 => intro a' w' hE hK hg; exact ok_rem (ksv (j := 4) (hK 70 rfl) rfl rfl hg) rfl (by decide)
              case z17_6 => intro a' w' hE hK hg; exact ok_gtr (ksv (j := 5) (hK 71 rfl) rfl rfl hg) rfl
              case z17_7 => intro a' w' hE hK hg; exact ok_pick (ksv (j := 2) (hK 68 rfl) rfl rfl rfl) (fun hb => ksv (j := 6) (hK 72 rfl) rfl rfl (act_g1 rfl rfl hb)) (fun _ => rfl)
              case zok17 => kernel_rfl
              case zgd17 => kernel_rfl
              intro a19 w19 hA' hE HF
              replace q0 := kn (HF 0) rfl q0
              replace q1 := kn (HF 1) rfl q1
              replace q5 := kn (HF 5) rfl q5
              replace q6 := kn (HF 6) rfl q6
              replace q8 := kn (HF 8) rfl q8
              replace q14 := kn (HF 14) rfl q14
              replace q28 := kn (HF 28) rfl q28
              replace q29 := kn (HF 29) rfl q29
              replace q30 := kn (HF 30) rfl q30
              replace q60 := kn (HF 60) rfl q60
              replace q61 := kn (HF 61) rfl q61
              replace q62 := kn (HF 62) rfl q62
              have q73 := ksv (HF 73) rfl rfl rfl
              clear hA HF; have hA := hA'; clear hA'
              replace f4 := GR.v_ext _ f4 hE
              replace f14 := GR.v_ext _ f14 hE
              replace f8 := GR.v_ext _ f8 hE
              replace f24 := GR.v_ext _ f24 hE
              replace hB := Base.step hB hE hO; clear hE
              obtain ⟨x29, hx_, h⟩ := Comp.run_bind h; replace hx_ := Comp.run_pure hx_; rw [hx_] at q73; clear hx_
              refine (li_nil ?_)
              refine (nx_then ?_)
              refine wp_cond_b q73 (fun hc => ?_) (fun hc => ?_)
              ·
                replace h := Comp.run_b_t hc h; clear hc
                refine wp_exit ?_
                refine (ex_then (ex_same ?_))
                refine (nx_then ?_)
                exact ⟨_, hA, hB, q0, f4, q1, q5, q6, q8, f14, q28, f8, q29, q30, q60, f24, q61, q62, h⟩
              ·
                replace h := Comp.run_b_f hc h; clear hc
                refine wp_skip ?_
                refine (nx_then ?_)
                refine wp_seq ?_
                obtain ⟨x30, hx30, h⟩ := Comp.run_bind h
                refine' region [_, _, SP.tup2 (SP.vl (rSl (rInt .i64)) O26 x30.1) (SP.isv (.int .i64 x30.2)), SP.tup2 (SP.vl (rSl (rInt .i64)) O26 x30.1) (SP.isv (.int .i64 x30.2)), SP.vl (rSl (rInt .i64)) O26 x30.1, SP.isv (.int .i64 x30.2), SP.vl (rSl (rInt .i64)) O26 x30.1, _] mixed hA (.cons ?z18_0 (.cons ?z18_1 (.cons ?z18_2 (.cons ?z18_3 (.cons ?z18_4 (.cons ?z18_5 (.cons ?z18_6 (.cons ?z18_7 .nil)))))))) ?zok18 ?zgd18 ?zk18
                case z18_0 => intro a' w' hE hK hg; exact ok_move (kn (hK 8 rfl) rfl q8)
                case z18_1 => intro a' w' hE hK hg; exact ok_move (kn (hK 14 rfl) rfl q14)
                case z18_2 => intro a' w' hE hK hg; have c_ := ok_core_Hitting (OkO.ext hB.ok hE) (GR.v_ext _ f14 hE) hx30; exact ok_weak (ok_call2 fn46 (ksv (j := 0) (hK 75 rfl) rfl rfl rfl) (ksv (j := 1) (hK 76 rfl) rfl rfl rfl) c_) (fun _ _ _ ⟨a_, b_, e0_, h0_, h1_⟩ => ⟨a_, b_, e0_, (fun h => (OwnR.val h (fun g hg => (OkO.ext hB.ok hE) g (OwnR.ge h g hg).1))) h0_, h1_⟩)
                case z18_3 => intro a' w' hE hK hg; exact ok_move_pr (φ := SP.tup2 (SP.vl (rSl (rInt .i64)) O26 x30.1) (SP.isv (.int .i64 x30.2))) (kspS (φ := SP.tup2 (SP.vl (rSl (rInt .i64)) O26 x30.1) (SP.isv (.int .i64 x30.2))) (j := 2) (hK 77 rfl) rfl rfl rfl)
                case z18_4 => intro a' w' hE hK hg; exact okl_ext0 (kspS (φ := SP.tup2 (SP.vl (rSl (rInt .i64)) O26 x30.1) (SP.isv (.int .i64 x30.2))) (j := 3) (hK 74 rfl) rfl rfl rfl)
                case z18_5 => intro a' w' hE hK hg; exact okl_ext1 (kspS (φ := SP.tup2 (SP.vl (rSl (rInt .i64)) O26 x30.1) (SP.isv (.int .i64 x30.2))) (j := 3) (hK 74 rfl) rfl rfl rfl)
                case z18_6 => intro a' w' hE hK hg; exact ok_assign_pr (φ := SP.vl (rSl (rInt .i64)) O26 x30.1) (kspS (φ := SP.vl (rSl (rInt .i64)) O26 x30.1) (j := 4) (hK 78 rfl) rfl rfl rfl)
                case z18_7 => intro a' w' hE hK hg; exact ok_assign (ksv (j := 5) (hK 79 rfl) rfl rfl rfl)
                case zok18 => kernel_rfl
                case zgd18 => kernel_rfl
                intro a20 w20 hA' hE HF
                replace q0 := kn (HF 0) rfl q0
                replace q1 := kn (HF 1) rfl q1
                replace q5 := kn (HF 5) rfl q5
                replace q6 := kn (HF 6) rfl q6
                replace q8 := kn (HF 8) rfl q8
                replace q14 := kn (HF 14) rfl q14
                have f32 := ksp (HF 15) rfl rfl rfl
                obtain ⟨u31, q15'⟩ : ∃ u, a20.get 15 = u := ⟨_, rfl⟩
                rw [q15'] at f32
                have q15 := q15'; clear q15'
                have q16 := ksv (HF 16) rfl rfl rfl
                replace q28 := kn (HF 28) rfl q28
                replace q29 := kn (HF 29) rfl q29
                replace q30 := kn (HF 30) rfl q30
                replace q60 := kn (HF 60) rfl q60
                replace q61 := kn (HF 61) rfl q61
                replace q62 := kn (HF 62) rfl q62
                clear q73
                clear hA HF; have hA := hA'; clear hA'
                replace f4 := GR.v_ext _ f4 hE
                replace f14 := GR.v_ext _ f14 hE
                replace f8 := GR.v_ext _ f8 hE
                replace f24 := GR.v_ext _ f24 hE
                replace hB := Base.step hB hE hO; clear hE
                refine (li_nil ?_)
                refine (nx_then ?_)
                refine wp_seq ?_
                obtain ⟨x33, hx33, h⟩ := Comp.run_bind h
                refine' region [_, _, SP.tup2 (SP.vl (rSl (rInt .i64)) O26 x33.1) (SP.isv (.int .i64 x33.2)), SP.tup2 (SP.vl (rSl (rInt .i64)) O26 x33.1) (SP.isv (.int .i64 x33.2)), SP.vl (rSl (rInt .i64)) O26 x33.1, SP.isv (.int .i64 x33.2), SP.vl (rSl (rInt .i64)) O26 x33.1, _] mixed hA (.cons ?z19_0 (.cons ?z19_1 (.cons ?z19_2 (.cons ?z19_3 (.cons ?z19_4 (.cons ?z19_5 (.cons ?z19_6 (.cons ?z19_7 .nil)))))))) ?zok19 ?zgd19 ?zk19
                case z19_0 => intro a' w' hE hK hg; exact ok_move (kn (hK 8 rfl) rfl q8)
                case z19_1 => intro a' w' hE hK hg; exact ok_move (kn (hK 14 rfl) rfl q14)
                case z19_2 => intro a' w' hE hK hg; have c_ := ok_colletref32_Hitting (OkO.ext hB.ok hE) (GR.v_ext _ f14 hE) hx33; exact ok_weak (ok_call2 fn47 (ksv (j := 0) (hK 81 rfl) rfl rfl rfl) (ksv (j := 1) (hK 82 rfl) rfl rfl rfl) c_) (fun _ _ _ ⟨a_, b_, e0_, h0_, h1_⟩ => ⟨a_, b_, e0_, (fun h => (OwnR.val h (fun g hg => (OkO.ext hB.ok hE) g (OwnR.ge h g hg).1))) h0_, h1_⟩)
                case z19_3 => intro a' w' hE hK hg; exact ok_move_pr (φ := SP.tup2 (SP.vl (rSl (rInt .i64)) O26 x33.1) (SP.isv (.int .i64 x33.2))) (kspS (φ := SP.tup2 (SP.vl (rSl (rInt .i64)) O26 x33.1) (SP.isv (.int .i64 x33.2))) (j := 2) (hK 83 rfl) rfl rfl rfl)
                case z19_4 => intro a' w' hE hK hg; exact okl_ext0 (kspS (φ := SP.tup2 (SP.vl (rSl (rInt .i64)) O26 x33.1) (SP.isv (.int .i64 x33.2))) (j := 3) (hK 80 rfl) rfl rfl rfl)
                case z19_5 => intro a' w' hE hK hg; exact okl_ext1 (kspS (φ := SP.tup2 (SP.vl (rSl (rInt .i64)) O26 x33.1) (SP.isv (.int .i64 x33.2))) (j := 3) (hK 80 rfl) rfl rfl rfl)
                case z19_6 => intro a' w' hE hK hg; exact ok_assign_pr (φ := SP.vl (rSl (rInt .i64)) O26 x33.1) (kspS (φ := SP.vl (rSl (rInt .i64)) O26 x33.1) (j := 4) (hK 84 rfl) rfl rfl rfl)
                case z19_7 => intro a' w' hE hK hg; exact ok_assign (ksv (j := 5) (hK 85 rfl) rfl rfl rfl)
                case zok19 => kernel_rfl
                case zgd19 => kernel_rfl
                intro a21 w21 hA' hE HF
                replace q0 := kn (HF 0) rfl q0
                replace q1 := kn (HF 1) rfl q1
                replace q5 := kn (HF 5) rfl q5
                replace q6 := kn (HF 6) rfl q6
                replace q8 := kn (HF 8) rfl q8
                replace q15 := kn (HF 15) rfl q15
                replace q16 := kn (HF 16) rfl q16
                have f35 := ksp (HF 17) rfl rfl rfl
                obtain ⟨u34, q17'⟩ : ∃ u, a21.get 17 = u := ⟨_, rfl⟩
                rw [q17'] at f35
                have q17 := q17'; clear q17'
                have q18 := ksv (HF 18) rfl rfl rfl
                replace q28 := kn (HF 28) rfl q28
                replace q29 := kn (HF 29) rfl q29
                replace q30 := kn (HF 30) rfl q30
                replace q60 := kn (HF 60) rfl q60
                replace q61 := kn (HF 61) rfl q61
                replace q62 := kn (HF 62) rfl q62
                clear q14
                clear hA HF; have hA := hA'; clear hA'
                replace f4 := GR.v_ext _ f4 hE
                replace f14 := GR.v_ext _ f14 hE
                replace f32 := GR.v_ext _ f32 hE
                replace f8 := GR.v_ext _ f8 hE
                replace f24 := GR.v_ext _ f24 hE
                replace hB := Base.step hB hE hO; clear hE
                refine (li_nil ?_)
                refine (nx_then ?_)
                refine wp_seq ?_
                obtain ⟨x36, hx36, h⟩ := Comp.run_bind h
                refine' region [_, _, _, _, _, _, SP.isv (.bool x36), _, _] mixed hA (.cons ?z20_0 (.cons ?z20_1 (.cons ?z20_2 (.cons ?z20_3 (.cons ?z20_4 (.cons ?z20_5 (.cons ?z20_6 (.cons ?z20_7 (.cons ?z20_8 .nil))))))))) ?zok20 ?zgd20 ?zk20
                case z20_0 => intro a' w' hE hK hg; exact ok_move (kn (hK 16 rfl) rfl q16)
                case z20_1 => intro a' w' hE hK hg; exact ok_move (kn (hK 18 rfl) rfl q18)
                case z20_2 => intro a' w' hE hK hg; exact ok_neqI (ksv (j := 0) (hK 86 rfl) rfl rfl rfl) (ksv (j := 1) (hK 87 rfl) rfl rfl rfl)
                case z20_3 => intro a' w' hE hK hg; exact ok_move (ksv (j := 2) (hK 88 rfl) rfl rfl rfl)
                case z20_4 => intro a' w' hE hK hg; exact ok_move (kn (hK 15 rfl) rfl q15)
                case z20_5 => intro a' w' hE hK hg; exact ok_move (kn (hK 17 rfl) rfl q17)
                case z20_6 => intro a' w' hE hK hg; have c_ := ok_colletref32_Same (OkO.ext hB.ok hE) (GR.v_ext _ f32 hE) (GR.v_ext _ f35 hE) (run_gdb hx36 hg); exact ok_call2 fn41 (ksv (j := 4) (hK 90 rfl) rfl rfl hg) (ksv (j := 5) (hK 91 rfl) rfl rfl hg) c_
                case z20_7 => intro a' w' hE hK hg; exact ok_not (ksv (j := 6) (hK 92 rfl) rfl rfl hg)
                case z20_8 => intro a' w' hE hK hg; exact ok_pick (ksv (j := 3) (hK 89 rfl) rfl rfl rfl) (fun _ => rfl) (fun hb => ksv (j := 7) (hK 93 rfl) rfl rfl (act_g1 rfl rfl hb))
                case zok20 => kernel_rfl
                case zgd20 => kernel_rfl
                intro a22 w22 hA' hE HF
                replace q0 := kn (HF 0) rfl q0
                replace q1 := kn (HF 1) rfl q1
                replace q5 := kn (HF 5) rfl q5
                replace q6 := kn (HF 6) rfl q6
                replace q8 := kn (HF 8) rfl q8
                replace q28 := kn (HF 28) rfl q28
                replace q29 := kn (HF 29) rfl q29
                replace q30 := kn (HF 30) rfl q30
                replace q60 := kn (HF 60) rfl q60
                replace q61 := kn (HF 61) rfl q61
                replace q62 := kn (HF 62) rfl q62
                have q94 := ksv (HF 94) rfl rfl rfl
                clear q15
                clear q16
                clear q17
                clear q18
                clear hA HF; have hA := hA'; clear hA'
                replace f4 := GR.v_ext _ f4 hE
                replace f14 := GR.v_ext _ f14 hE
                replace f32 := GR.v_ext _ f32 hE
                replace f35 := GR.v_ext _ f35 hE
                replace f8 := GR.v_ext _ f8 hE
                replace f24 := GR.v_ext _ f24 hE
                replace hB := Base.step hB hE hO; clear hE
                obtain ⟨x37, hx_, h⟩ := Comp.run_bind h; replace hx_ := Comp.run_pure hx_; rw [hx_] at q94; clear hx_
                refine (li_nil ?_)
                refine (nx_then ?_)
                refine wp_cond_b q94 (fun hc => ?_) (fun hc => ?_)
                ·
                  replace h := Comp.run_b_t hc h; clear hc
                  refine wp_seq ?_
                  refine' region [_] mixed hA (.cons ?z21_0 .nil) ?zok21 ?zgd21 ?zk21
                  case z21_0 => intro a' w' hE hK hg; exact ok_assign rfl
                  case zok21 => kernel_rfl
                  case zgd21 => kernel_rfl
                  intro a23 w23 hA' hE HF
                  have q4 := ksv (HF 4) rfl rfl rfl
                  clear q0
                  clear q1
                  clear q5
                  clear q6
                  clear q8
                  clear q28
                  clear q29
                  clear q30
                  clear q60
                  clear q61
                  clear q62
                  clear q94
                  clear hA HF; have hA := hA'; clear hA'
                  replace f4 := GR.v_ext _ f4 hE
                  replace f14 := GR.v_ext _ f14 hE
                  replace f8 := GR.v_ext _ f8 hE
                  replace f24 := GR.v_ext _ f24 hE
                  replace hB := Base.step hB hE hO; clear hE
                  refine (li_nil ?_)
                  refine (nx_then ?_)
                  refine (wp_ret (rt_blk (rt_then (rt_then (rt_blk (rt_blk (rt_then (rt_then (rt_blk (rt_then ?_))))))))))
                  have hd_ := hdone3 _ (Comp.run_pure h).symm; clear h
                  subst hd_; have h := hk3; clear hk3; try dsimp only at h
                  have hd_ := hdone2 _ (Comp.run_pure h).symm; clear h
                  subst hd_; have h := hk2; clear hk2; try dsimp only at h
                  have h := Comp.run_pure h; subst h
                  exact retPure Try.results8 hA q4 hB.ext rfl
                ·
                  replace h := Comp.run_b_f hc h; clear hc
                  refine wp_skip ?_
                  refine (nx_blk (nx_then ?_))
                  exact ⟨_, hA, hB, q0, f4, q1, q5, q6, q8, f14, q28, f8, q29, q30, q60, f24, q61, q62, h⟩
            intro a24 w24 hI
            clear hA hB h q0 q1 q5 q6 q8 q28 q29 q30 q60 q61 q62 q63 f14 f24 f4 f8
            obtain ⟨O39, hA, hB, q0, f4, q1, q5, q6, q8, f14, q28, f8, q29, q30, q60, f24, q61, q62, h⟩ := hI
            unfold colletlaw32_CoreSets_j4 at h
            refine' region [_, _] mixed hA (.cons ?z22_0 (.cons ?z22_1 .nil)) ?zok22 ?zgd22 ?zk22
            case z22_0 => intro a' w' hE hK hg; exact ok_add (kn (hK 62 rfl) rfl q62) rfl
            case z22_1 => intro a' w' hE hK hg; exact ok_move (ksv (j := 0) (hK 95 rfl) rfl rfl rfl)
            case zok22 => kernel_rfl
            case zgd22 => kernel_rfl
            intro a25 w25 hA' hE HF
            replace q0 := kn (HF 0) rfl q0
            replace q1 := kn (HF 1) rfl q1
            replace q5 := kn (HF 5) rfl q5
            replace q6 := kn (HF 6) rfl q6
            replace q8 := kn (HF 8) rfl q8
            replace q28 := kn (HF 28) rfl q28
            replace q29 := kn (HF 29) rfl q29
            replace q30 := kn (HF 30) rfl q30
            replace q60 := kn (HF 60) rfl q60
            replace q61 := kn (HF 61) rfl q61
            have q62' := ksv (HF 62) rfl rfl rfl
            replace q62 := q62'; clear q62'
            clear hA HF; have hA := hA'; clear hA'
            replace f4 := GR.v_ext _ f4 hE
            replace f14 := GR.v_ext _ f14 hE
            replace f8 := GR.v_ext _ f8 hE
            replace f24 := GR.v_ext _ f24 hE
            replace hB := Base.step hB hE hO; clear hE
            refine (li_nil ?_)
            refine (nx_then ?_)
            have h := hnext3 _ (Comp.run_pure h).symm
            refine ⟨m3, hlt3, ?_⟩
            exact ⟨_, _, hA, hB, q0, f4, q1, q5, q6, q8, f14, q28, f8, q29, q30, q60, f24, q61, q62, h⟩
          ·
            replace h := Comp.run_b_f hc h; clear hc
            refine wp_exit ?_
            refine (ex_then (ex_then (ex_same ?_)))
            have hd_ := hdone3 _ (Comp.run_pure h).symm; clear h
            subst hd_; have h := hk3; clear hk3; try dsimp only at h
            refine (nx_blk (nx_then ?_))
            refine' region [_, _] mixed hA (.cons ?z23_0 (.cons ?z23_1 .nil)) ?zok23 ?zgd23 ?zk23
            case z23_0 => intro a' w' hE hK hg; exact ok_add (kn (hK 30 rfl) rfl q30) rfl
            case z23_1 => intro a' w' hE hK hg; exact ok_move (ksv (j := 0) (hK 96 rfl) rfl rfl rfl)
            case zok23 => kernel_rfl
            case zgd23 => kernel_rfl
            intro a26 w26 hA' hE HF
            replace q0 := kn (HF 0) rfl q0
            replace q1 := kn (HF 1) rfl q1
            replace q5 := kn (HF 5) rfl q5
            replace q6 := kn (HF 6) rfl q6
            replace q28 := kn (HF 28) rfl q28
            replace q29 := kn (HF 29) rfl q29
            have q30' := ksv (HF 30) rfl rfl rfl
            replace q30 := q30'; clear q30'
            clear q8
            clear q60
            clear q61
            clear q62
            clear q63
            clear hA HF; have hA := hA'; clear hA'
            replace f4 := GR.v_ext _ f4 hE
            replace f14 := GR.v_ext _ f14 hE
            replace f8 := GR.v_ext _ f8 hE
            replace f24 := GR.v_ext _ f24 hE
            replace hB := Base.step hB hE hO; clear hE
            refine (li_nil ?_)
            refine (nx_then ?_)
            have h := hnext2 _ (Comp.run_pure h).symm
            refine ⟨m2, hlt2, ?_⟩
            exact ⟨_, _, hA, hB, q0, f4, q1, q5, q6, q28, f8, q29, q30, h⟩
    ·
      replace h := Comp.run_b_f hc h; clear hc
      refine wp_exit ?_
      refine (ex_then (ex_then (ex_same ?_)))
      have hd_ := hdone2 _ (Comp.run_pure h).symm; clear h
      subst hd_; have h := hk2; clear hk2; try dsimp only at h
      refine (nx_then ?_)
      exact ⟨_, hA, hB, q5, h⟩
  intro a27 w27 hI
  clear hA hB h q0 q1 q5 q6 f4
  obtain ⟨O40, hA, hB, q5, h⟩ := hI
  unfold colletlaw32_CoreSets_j1 at h
  refine wp_seq ?_
  refine' region [_, _] mixed hA (.cons ?z24_0 (.cons ?z24_1 .nil)) ?zok24 ?zgd24 ?zk24
  case z24_0 => intro a' w' hE hK hg; exact ok_move (kn (hK 5 rfl) rfl q5)
  case z24_1 => intro a' w' hE hK hg; exact ok_assign (ksv (j := 0) (hK 97 rfl) rfl rfl rfl)
  case zok24 => kernel_rfl
  case zgd24 => kernel_rfl
  intro a28 w28 hA' hE HF
  have q4 := ksv (HF 4) rfl rfl rfl
  clear q5
  clear hA HF; have hA := hA'; clear hA'
  replace hB := Base.step hB hE hO; clear hE
  refine (li_nil ?_)
  refine (nx_then ?_)
  refine (wp_ret ?_)
  have h := Comp.run_pure h; subst h
  exact retPure Try.results8 hA q4 hB.ext rfl

theorem ok_colletref32_Closed {O : Tags} {w0 : World} (hO : OkO O w0) {v_0 : Value} {x_0 : List Int} (h_0 : (rSl (rInt .i64)).v O w0 v_0 x_0) {x_1 : Int} {n : Nat} {y : (List Bool)} (h : (colletref32_Closed x_0 x_1).run n = some y) : Pure Try.prog 48 #[v_0, .int .i64 x_1] w0 (SP.ownr rBool 4 (w0.heap.size) O y).holds := by
  unfold colletref32_Closed at h
  refine pure_of_wp Try.func48 rfl 39 Try.ntmps48 (by simp) fun a0 hA hs0 => ?_
  have q0 := hs0 0 _ rfl
  have q1 := hs0 1 _ rfl
  clear hs0
  have hB : Base (Fr w0) O w0 O w0 := Base.start hO
  refine wp_seq ?_
  refine' region [_] mixed hA (.cons ?z1_0 .nil) ?zok1 ?zgd1 ?zk1
  case z1_0 => intro a' w' hE hK hg; exact ok_assign rfl
  case zok1 => kernel_rfl
  case zgd1 => kernel_rfl
  intro a1 w1 hA' hE HF
  replace q0 := kn (HF 0) rfl q0
  replace q1 := kn (HF 1) rfl q1
  clear hA HF; have hA := hA'; clear hA'
  replace h_0 := GR.v_ext _ h_0 hE
  replace hB := Base.step hB hE hO; clear hE
  refine (li_nil ?_)
  refine (nx_then ?_)
  refine wp_seq ?_
  obtain ⟨x1, hx1, h⟩ := Comp.run_bind h
  refine' regionT [_, _] hA (.cons ?z2_0 (.cons ?z2_1 .nil)) ?zok2 ?zgd2 ?zk2
  case z2_0 => intro a' w' hE hK hg; exact ok_move (kn (hK 1 rfl) rfl q1)
  case z2_1 => intro a' w' hE hK hg; exact okl_shl rfl (ksv (j := 0) (hK 8 rfl) rfl rfl rfl) (run_nonneg hx1)
  case zok2 => kernel_rfl
  case zgd2 => kernel_rfl
  intro a2 w2 hA' hE HF
  replace q0 := kn (HF 0) rfl q0
  have q9 := ksv (HF 9) rfl rfl rfl
  clear q1
  clear hA HF; have hA := hA'; clear hA'
  replace h_0 := GR.v_ext _ h_0 hE
  replace hB := Base.step hB hE hO; clear hE
  obtain ⟨x2, hx2, h⟩ := Comp.run_bind h
  refine l_ok (φ := SP.ownr rBool 4 w2.heap.size O x2) hO hB (by exact okl_make (r := rBool) (B := w2.heap.size) rfl ty71 ty4 (by decide) rfl (Nat.le_refl _) q9 q9 (fun _ _ => rBool_v.2 rfl) hx2) rfl fun u3 w3 hE hB' f4 => ?_
  clear hB'; obtain ⟨O5, hB', hX, f6⟩ := ownNew hO hB hE f4 rfl 1 (by decide)
  clear hB f4; have hB := hB'; clear hB'
  replace h_0 := GR.kx _ h_0 hX (by decide)
  clear hX hE
  refine put_cont hA (by decide) fun a4 hA' q_ hfr => ?_
  clear hA; have hA := hA'; clear hA'
  replace q0 := (hfr 0 rfl).trans q0
  replace q9 := (hfr 9 rfl).trans q9
  have q10 := q_; clear q_ hfr
  refine l_ok (φ := SP.isv (u3)) hO hB (by exact ok_assign q10) rfl fun u_ w5 hE hB' hv_ => ?_
  replace hv_ := Eq.symm hv_; subst hv_; clear hB; have hB := hB'; clear hB'
  replace h_0 := GR.v_ext _ h_0 hE
  replace f6 := f6.ext hE
  clear hE
  refine put_cont hA (by decide) fun a6 hA' q_ hfr => ?_
  clear hA; have hA := hA'; clear hA'
  replace q0 := (hfr 0 rfl).trans q0
  replace q10 := (hfr 10 rfl).trans q10
  have q5 := q_; clear q_ hfr
  refine (li_nil ?_)
  refine (nx_then ?_)
  refine seq_join (fun a w => ∃ (O34 : Tags) (x31 : List Bool) (u32 : Value), a.fit 39 ∧ Base (Fr w0) O w0 O34 w ∧ a.get 5 = u32 ∧ OwnL 2 rBool 4 (Fr w0) O34 w u32 x31 ∧ (colletref32_Closed_j1 x31).run n = some y) ?_ ?_
  ·
    refine wp_seq ?_
    refine' region [_] mixed hA (.cons ?z3_0 .nil) ?zok3 ?zgd3 ?zk3
    case z3_0 => intro a' w' hE hK hg; exact ok_assign rfl
    case zok3 => kernel_rfl
    case zgd3 => kernel_rfl
    intro a7 w7 hA' hE HF
    replace q0 := kn (HF 0) rfl q0
    replace q5 := kn (HF 5) rfl q5
    have q6 := ksv (HF 6) rfl rfl rfl
    clear hA HF; have hA := hA'; clear hA'
    replace h_0 := GR.v_ext _ h_0 hE
    replace f6 := f6.ext hE
    replace hB := Base.step hB hE hO; clear hE
    refine (li_nil ?_)
    refine (nx_then ?_)
    refine wp_block ?_
    obtain ⟨O11, hB', hX, f12⟩ := retagL (okB_fr hB) hB f6 2 (by decide) (by decide)
    clear f6 hB; have hB := hB'; clear hB'
    replace h_0 := GR.kx _ h_0 hX (by decide)
    clear hX
    obtain ⟨e2, he2, hk2⟩ := Comp.run_bind h; clear h
    refine loop_m (fun m a w => ∃ (O13 : Tags) (x7 : List Bool) (x10 : Int) (u8 : Value), a.fit 39 ∧ Base (Fr w0) O w0 O13 w ∧ a.get 0 = v_0 ∧ (rSl (rInt .i64)).v O13 w v_0 x_0 ∧ a.get 5 = u8 ∧ OwnL 2 rBool 4 (Fr w0) O13 w u8 x7 ∧ a.get 6 = .int .i64 x10 ∧ Comp.loopN (fun s => colletref32_Closed_l2 x_0 s.1 s.2) n m (x7, x10) = some e2) (m := n) ?st2 ?_
    case st2 =>
      exact ⟨_, _, _, _, hA, hB, q0, h_0, q5, f12, q6, Comp.run_loop he2⟩
    intro m_ a8 w8 hI
    clear hA hB he2 q0 q5 q6 f12 h_0
    obtain ⟨O13, x7, x10, u8, hA, hB, q0, h_0, q5, f9, q6, hl⟩ := hI
    obtain ⟨m2, hlt2, st2, h, hnext2, hdone2⟩ := Comp.loopN_succ hl; clear hl
    replace h : (colletref32_Closed_l2 x_0 x7 x10).run n = some st2 := h
    unfold colletref32_Closed_l2 at h
    refine wp_seq ?_
    refine wp_seq ?_
    refine' region [_, _, _, _] mixed hA (.cons ?z4_0 (.cons ?z4_1 (.cons ?z4_2 (.cons ?z4_3 .nil)))) ?zok4 ?zgd4 ?zk4
    case z4_0 => intro a' w' hE hK hg; exact ok_move (kn (hK 6 rfl) rfl q6)
    case z4_1 => intro a' w' hE hK hg; exact ok_move (kn (hK 5 rfl) rfl q5)
    case z4_2 => intro a' w' hE hK hg; exact okl_len (r := rBool) ty71 (ksv (j := 1) (hK 12 rfl) rfl rfl rfl) (OwnL.rd (OwnL.ext f9 hE))
    case z4_3 => intro a' w' hE hK hg; exact ok_lss (ksv (j := 0) (hK 11 rfl) rfl rfl rfl) (ksv (j := 2) (hK 13 rfl) rfl rfl rfl)
    case zok4 => kernel_rfl
    case zgd4 => kernel_rfl
    intro a9 w9 hA' hE HF
    replace q0 := kn (HF 0) rfl q0
    replace q5 := kn (HF 5) rfl q5
    replace q6 := kn (HF 6) rfl q6
    have q14 := ksv (HF 14) rfl rfl rfl
    clear hA HF; have hA := hA'; clear hA'
    replace h_0 := GR.v_ext _ h_0 hE
    replace f9 := f9.ext hE
    replace hB := Base.step hB hE hO; clear hE
    refine (li_nil ?_)
    refine (nx_then ?_)
    refine wp_cond_b q14 (fun hc => ?_) (fun hc => ?_)
    ·
      replace h := Comp.run_b_t hc h; clear hc
      refine wp_skip ?_
      refine (nx_then ?_)
      refine wp_seq ?_
      refine wp_block ?_
      refine wp_seq ?_
      refine' region [_] mixed hA (.cons ?z5_0 .nil) ?zok5 ?zgd5 ?zk5
      case z5_0 => intro a' w' hE hK hg; exact ok_assign rfl
      case zok5 => kernel_rfl
      case zgd5 => kernel_rfl
      intro a10 w10 hA' hE HF
      replace q0 := kn (HF 0) rfl q0
      replace q5 := kn (HF 5) rfl q5
      replace q6 := kn (HF 6) rfl q6
      have q7 := ksv (HF 7) rfl rfl rfl
      clear q14
      clear hA HF; have hA := hA'; clear hA'
      replace h_0 := GR.v_ext _ h_0 hE
      replace f9 := f9.ext hE
      replace hB := Base.step hB hE hO; clear hE
      refine (li_nil ?_)
      refine (nx_then ?_)
      refine wp_block ?_
      obtain ⟨e3, he3, hk3⟩ := Comp.run_bind h; clear h
      refine loop_m (fun m a w => ∃ (O18 : Tags) (x14 : List Bool) (x17 : Int) (u15 : Value), a.fit 39 ∧ Base (Fr w0) O w0 O18 w ∧ a.get 0 = v_0 ∧ (rSl (rInt .i64)).v O18 w v_0 x_0 ∧ a.get 5 = u15 ∧ OwnL 2 rBool 4 (Fr w0) O18 w u15 x14 ∧ a.get 6 = .int .i64 x10 ∧ a.get 7 = .int .i64 x17 ∧ Comp.loopN (fun s => colletref32_Closed_l3 x_0 x10 s.1 s.2) n m (x14, x17) = some e3) (m := n) ?st3 ?_
      case st3 =>
        exact ⟨_, _, _, _, hA, hB, q0, h_0, q5, f9, q6, q7, Comp.run_loop he3⟩
      intro m_ a11 w11 hI
      clear hA hB he3 q0 q5 q6 q7 f9 h_0
      obtain ⟨O18, x14, x17, u15, hA, hB, q0, h_0, q5, f16, q6, q7, hl⟩ := hI
      obtain ⟨m3, hlt3, st3, h, hnext3, hdone3⟩ := Comp.loopN_succ hl; clear hl
      replace h : (colletref32_Closed_l3 x_0 x10 x14 x17).run n = some st3 := h
      unfold colletref32_Closed_l3 at h
      refine wp_seq ?_
      refine wp_seq ?_
      refine' region [_, _, _, _] mixed hA (.cons ?z6_0 (.cons ?z6_1 (.cons ?z6_2 (.cons ?z6_3 .nil)))) ?zok6 ?zgd6 ?zk6
      case z6_0 => intro a' w' hE hK hg; exact ok_move (kn (hK 7 rfl) rfl q7)
      case z6_1 => intro a' w' hE hK hg; exact ok_move (kn (hK 0 rfl) rfl q0)
      case z6_2 => intro a' w' hE hK hg; exact okl_len (r := (rInt .i64)) ty58 (ksv (j := 1) (hK 18 rfl) rfl rfl rfl) (rd_of (GR.v_ext _ h_0 hE))
      case z6_3 => intro a' w' hE hK hg; exact ok_lss (ksv (j := 0) (hK 17 rfl) rfl rfl rfl) (ksv (j := 2) (hK 19 rfl) rfl rfl rfl)
      case zok6 => kernel_rfl
      case zgd6 => kernel_rfl
      intro a12 w12 hA' hE HF
      replace q0 := kn (HF 0) rfl q0
      replace q5 := kn (HF 5) rfl q5
      replace q6 := kn (HF 6) rfl q6
      replace q7 := kn (HF 7) rfl q7
      have q20 := ksv (HF 20) rfl rfl rfl
      clear hA HF; have hA := hA'; clear hA'
      replace h_0 := GR.v_ext _ h_0 hE
      replace f16 := f16.ext hE
      replace hB := Base.step hB hE hO; clear hE
      refine (li_nil ?_)
      refine (nx_then ?_)
      refine wp_cond_b q20 (fun hc => ?_) (fun hc => ?_)
      ·
        replace h := Comp.run_b_t hc h; clear hc
        refine wp_skip ?_
        refine (nx_then ?_)
        refine wp_seq ?_
        refine wp_block ?_
        obtain ⟨x19, hx19, h⟩ := Comp.run_bind h
        obtain ⟨x20, hx20, h⟩ := Comp.run_bind h
        obtain ⟨x21, hx21, h⟩ := Comp.run_bind h
        obtain ⟨x22, hx22, h⟩ := Comp.run_bind h
        refine' regionT [_, _, _, _, SP.ptr rBool O18 x19, SP.isv (.bool x19), _, _, _, SP.ptr (rInt .i64) O18 x20, SP.isv (.int .i64 x20), _, SP.isv (.bool x21), _, SP.elt (u15) (Int.toNat x10 * 1)] hA (.cons ?z7_0 (.cons ?z7_1 (.cons ?z7_2 (.cons ?z7_3 (.cons ?z7_4 (.cons ?z7_5 (.cons ?z7_6 (.cons ?z7_7 (.cons ?z7_8 (.cons ?z7_9 (.cons ?z7_10 (.cons ?z7_11 (.cons ?z7_12 (.cons ?z7_13 (.cons ?z7_14 .nil))))))))))))))) ?zok7 ?zgd7 ?zk7
        case z7_0 => intro a' w' hE hK hg; exact ok_move (kn (hK 5 rfl) rfl q5)
        case z7_1 => intro a' w' hE hK hg; exact ok_move (kn (hK 6 rfl) rfl q6)
        case z7_2 => intro a' w' hE hK hg; exact ok_move (kn (hK 5 rfl) rfl q5)
        case z7_3 => intro a' w' hE hK hg; exact ok_move (kn (hK 6 rfl) rfl q6)
        case z7_4 => intro a' w' hE hK hg; exact okl_idx (r := rBool) (O := O18) ty71 ty4 rfl (ksv (j := 2) (hK 25 rfl) rfl rfl rfl) (OwnL.rd (OwnL.ext f16 hE)) (ksv (j := 3) (hK 26 rfl) rfl rfl rfl) hx19
        case z7_5 => intro a' w' hE hK hg; exact okl_ldr rBool (fun _ => rfl) ty4 rfl rfl rfl (kspS (φ := SP.ptr rBool O18 x19) (j := 4) (hK 27 rfl) rfl rfl rfl) (fun _ _ _ h => rBool_v.1 h)
        case z7_6 => intro a' w' hE hK hg; exact ok_move (ksv (j := 5) (hK 28 rfl) rfl rfl rfl)
        case z7_7 => intro a' w' hE hK hg; exact ok_move (kn (hK 0 rfl) rfl q0)
        case z7_8 => intro a' w' hE hK hg; exact ok_move (kn (hK 7 rfl) rfl q7)
        case z7_9 => intro a' w' hE hK hg; exact okl_idx (r := (rInt .i64)) (O := O18) ty58 ty3 rfl (ksv (j := 7) (hK 30 rfl) rfl rfl hg) (rd_of (GR.v_ext _ h_0 hE)) (ksv (j := 8) (hK 31 rfl) rfl rfl hg) (run_gdb hx20 hg)
        case z7_10 => intro a' w' hE hK hg; exact okl_ldr (rInt .i64) (fun _ => rfl) ty3 rfl rfl rfl (kspS (φ := SP.ptr (rInt .i64) O18 x20) (j := 9) (hK 32 rfl) rfl rfl hg) (fun _ _ _ h => rInt_v.1 h)
        case z7_11 => intro a' w' hE hK hg; exact ok_move (kn (hK 6 rfl) rfl q6)
        case z7_12 => intro a' w' hE hK hg; have c_ := ok_colletref32_has (OkO.ext hB.ok hE)  (run_gdb hx21 hg); exact ok_call2 fn80 (ksv (j := 10) (hK 33 rfl) rfl rfl hg) (ksv (j := 11) (hK 34 rfl) rfl rfl hg) c_
        case z7_13 => intro a' w' hE hK hg; exact ok_pick (ksv (j := 6) (hK 29 rfl) rfl rfl rfl) (fun _ => rfl) (fun hb => ksv (j := 12) (hK 35 rfl) rfl rfl (act_g1 rfl rfl hb))
        case z7_14 => intro a' w' hE hK hg; exact okl_idxOwn rfl ty71 ty4 (ksv (j := 0) (hK 23 rfl) rfl rfl rfl) (OwnL.ext f16 hE) (ksv (j := 1) (hK 24 rfl) rfl rfl rfl) (idx_lt hx22)
        case zok7 => kernel_rfl
        case zgd7 => kernel_rfl
        intro a13 w13 hA' hE HF
        replace q0 := kn (HF 0) rfl q0
        replace q5 := kn (HF 5) rfl q5
        replace q6 := kn (HF 6) rfl q6
        replace q7 := kn (HF 7) rfl q7
        have q36 := ksv (HF 36) rfl rfl rfl
        have f24 := ksp (HF 37) rfl rfl rfl
        obtain ⟨u23, q37'⟩ : ∃ u, a13.get 37 = u := ⟨_, rfl⟩
        rw [q37'] at f24
        have q37 := q37'; clear q37'
        clear q20
        clear hA HF; have hA := hA'; clear hA'
        replace h_0 := GR.v_ext _ h_0 hE
        replace f16 := f16.ext hE
        replace hB := Base.step hB hE hO; clear hE
        obtain ⟨x26, hx26, h⟩ := Comp.run_bind h
        refine l_storeElt (r := rBool) (fun _ => rfl) rfl hO hB (okB_fr hB) ty4 q37 f24 f16 q36 (by first | exact rInt_v.2 rfl | exact rBool_v.2 rfl | exact rStr_v.2 rfl | exact rC_v.2 rfl | exact ⟨_, rfl, rfl⟩) hx26 (by decide) fun w14 f25 hB' hX => ?_
        clear hB; have hB := hB'; clear hB'
        replace h_0 := GR.kx _ h_0 hX (by decide)
        clear hX f16
        refine (li_nil ?_)
        refine (nx_blk (nx_then ?_))
        refine' region [_, _, _] mixed hA (.cons ?z8_0 (.cons ?z8_1 (.cons ?z8_2 .nil))) ?zok8 ?zgd8 ?zk8
        case z8_0 => intro a' w' hE hK hg; exact ok_move (kn (hK 7 rfl) rfl q7)
        case z8_1 => intro a' w' hE hK hg; exact ok_add (ksv (j := 0) (hK 21 rfl) rfl rfl rfl) rfl
        case z8_2 => intro a' w' hE hK hg; exact ok_assign (ksv (j := 1) (hK 22 rfl) rfl rfl rfl)
        case zok8 => kernel_rfl
        case zgd8 => kernel_rfl
        intro a15 w15 hA' hE HF
        replace q0 := kn (HF 0) rfl q0
        replace q5 := kn (HF 5) rfl q5
        replace q6 := kn (HF 6) rfl q6
        have q7' := ksv (HF 7) rfl rfl rfl
        replace q7 := q7'; clear q7'
        clear hA HF; have hA := hA'; clear hA'
        replace h_0 := GR.v_ext _ h_0 hE
        replace f25 := f25.ext hE
        replace hB := Base.step hB hE hO; clear hE
        refine (li_nil ?_)
        refine (nx_then ?_)
        have h := hnext3 _ (Comp.run_pure h).symm
        refine ⟨m3, hlt3, ?_⟩
        exact ⟨_, _, _, _, hA, hB, q0, h_0, q5, f25, q6, q7, h⟩
      ·
        replace h := Comp.run_b_f hc h; clear hc
        refine wp_exit ?_
        refine (ex_then (ex_then (ex_same ?_)))
        have hd_ := hdone3 _ (Comp.run_pure h).symm; clear h
        subst hd_; have h := hk3; clear hk3; try dsimp only at h
        refine (nx_blk (nx_then ?_))
        refine' region [_, _, _] mixed hA (.cons ?z9_0 (.cons ?z9_1 (.cons ?z9_2 .nil))) ?zok9 ?zgd9 ?zk9
        case z9_0 => intro a' w' hE hK hg; exact ok_move (kn (hK 6 rfl) rfl q6)
        case z9_1 => intro a' w' hE hK hg; exact ok_add (ksv (j := 0) (hK 15 rfl) rfl rfl rfl) rfl
        case z9_2 => intro a' w' hE hK hg; exact ok_assign (ksv (j := 1) (hK 16 rfl) rfl rfl rfl)
        case zok9 => kernel_rfl
        case zgd9 => kernel_rfl
        intro a16 w16 hA' hE HF
        replace q0 := kn (HF 0) rfl q0
        replace q5 := kn (HF 5) rfl q5
        have q6' := ksv (HF 6) rfl rfl rfl
        replace q6 := q6'; clear q6'
        clear q7
        clear q20
        clear hA HF; have hA := hA'; clear hA'
        replace h_0 := GR.v_ext _ h_0 hE
        replace f16 := f16.ext hE
        replace hB := Base.step hB hE hO; clear hE
        refine (li_nil ?_)
        refine (nx_then ?_)
        have h := hnext2 _ (Comp.run_pure h).symm
        refine ⟨m2, hlt2, ?_⟩
        exact ⟨_, _, _, _, hA, hB, q0, h_0, q5, f16, q6, h⟩
    ·
      replace h := Comp.run_b_f hc h; clear hc
      refine wp_exit ?_
      refine (ex_then (ex_then (ex_same ?_)))
      have hd_ := hdone2 _ (Comp.run_pure h).symm; clear h
      subst hd_; have h := hk2; clear hk2; try dsimp only at h
      refine (nx_then ?_)
      exact ⟨_, _, _, hA, hB, q5, f9, h⟩
  intro a17 w17 hI
  clear hA hB h q0 q5 f6 h_0
  obtain ⟨O34, x31, u32, hA, hB, q5, f33, h⟩ := hI
  unfold colletref32_Closed_j1 at h
  refine wp_seq ?_
  refine' region [_, _] mixed hA (.cons ?z10_0 (.cons ?z10_1 .nil)) ?zok10 ?zgd10 ?zk10
  case z10_0 => intro a' w' hE hK hg; exact ok_move (kn (hK 5 rfl) rfl q5)
  case z10_1 => intro a' w' hE hK hg; exact ok_assign (ksv (j := 0) (hK 38 rfl) rfl rfl rfl)
  case zok10 => kernel_rfl
  case zgd10 => kernel_rfl
  intro a18 w18 hA' hE HF
  have q4 := ksv (HF 4) rfl rfl rfl
  clear q5
  clear hA HF; have hA := hA'; clear hA'
  replace f33 := f33.ext hE
  replace hB := Base.step hB hE hO; clear hE
  refine (li_nil ?_)
  refine (nx_then ?_)
  refine (wp_ret ?_)
  have h := Comp.run_pure h; subst h
  exact retPure Try.results48 hA q4 hB.ext (OwnL.res f33 (by decide) hB.zero)

end Go.Proofs.Ytkbipbfncbopnaa
