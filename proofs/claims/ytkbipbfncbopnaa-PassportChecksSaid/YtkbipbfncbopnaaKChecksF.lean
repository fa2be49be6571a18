/- Lemmas behind a claim of this seat. No statement of the program stands here. -/
import Derived.Test.YtkbipbfncbopnaaKChecksE
set_option linter.unusedSimpArgs false
set_option linter.unusedVariables false
section
namespace Go.Proofs.Ytkbipbfncbopnaa
open Go Go.RowKit Go.Eng Go.Lift Go.F
set_option linter.unusedVariables false
set_option linter.unusedSimpArgs false
set_option maxRecDepth 100000
theorem ok_r1_Draw_Next {O : Tags} {w0 : World} (hO : OkO O w0) {b_0 : Nat} {x_0 : r1_Draw} (h_0 : BoxA r_r1_Draw 108 O w0 b_0 x_0) {x_1 : Int} {n : Nat} {y : (r1_Draw × Int)} (h : (r1_Draw_Next x_0 x_1).run n = some y) : Calls Try.prog 74 #[.pointer (some ⟨b_0, 0, none⟩), .int .i64 x_1] w0 (BioPost r_r1_Draw 108 O w0 b_0 y.1 (SP.isv (.int .i64 y.2))) := by
 unfold r1_Draw_Next at h
 refine bio_of_wp Try.func74 rfl 35 Try.ntmps74 (by simp) fun a0 hA hs0 => ?_
 have q0 : a0.get 0 = .pointer (some ⟨b_0, 0, none⟩) := hs0 0 _ rfl
 have q1 : a0.get 1 = .int .i64 x_1 := hs0 1 _ rfl
 clear hs0
 obtain ⟨Oi_, cs_, hB, hb_, hr_, hk_⟩ := bioStart hO h_0
 clear hk_ h_0
 obtain ⟨u1, e_, f2⟩ := openR_r1_Draw hr_; subst e_
 refine wp_seq ?_
 refine' region [_] mixed hA (.cons (fun _ _ hE hK hg => ok_assign rfl) .nil) ?zok1 ?zgd1 ?zk1
 case zok1 | zgd1 => kernel_rfl
 intro a1 w1 hA hE HF
 replace q0 := kn (HF 0) rfl q0
 replace q1 := kn (HF 1) rfl q1
 clear HF
 replace hb_ := hb_.ext hE
 replace f2 := GR.v_ext _ f2 hE
 replace hB := Base.step hB hE hO; clear hE
 refine li_nil (nx_then (wp_seq (wp_seq ?_)))
 refine' region [_, SP.isv (.pointer (some ⟨b_0, 0, none⟩)), SP.isv (.pointer (some ⟨b_0, 1, none⟩)), SP.isv (.int .i64 x_0.At), _, SP.isv (.pointer (some ⟨b_0, 0, none⟩)), SP.isv (.pointer (some ⟨b_0, 0, none⟩)), SP.isv (u1), _, _] mixed hA (.cons (fun _ _ hE hK hg => ok_move (kn (hK 0 rfl) rfl q0)) (.cons (fun _ _ hE hK hg => ok_nilChk (ksv (j := 0) (hK 5 rfl) rfl rfl rfl)) (.cons (fun _ _ hE hK hg => ok_fieldAddr fl108_1 (ksv (j := 1) (hK 6 rfl) rfl rfl rfl)) (.cons (fun _ _ hE hK hg => ok_loadOwn ty3 rfl (ksv (j := 2) (hK 7 rfl) rfl rfl rfl) (OwnB.ext hb_ hE).own rfl) (.cons (fun _ _ hE hK hg => ok_move (kn (hK 0 rfl) rfl q0)) (.cons (fun _ _ hE hK hg => ok_nilChk (ksv (j := 4) (hK 9 rfl) rfl rfl rfl)) (.cons (fun _ _ hE hK hg => ok_fieldAddr fl108_0 (ksv (j := 5) (hK 10 rfl) rfl rfl rfl)) (.cons (fun _ _ hE hK hg => ok_loadOwn ty58 rfl (ksv (j := 6) (hK 11 rfl) rfl rfl rfl) (OwnB.ext hb_ hE).own rfl) (.cons (fun _ _ hE hK hg => okl_len (r := (rInt .i64)) ty58 (ksv (j := 7) (hK 12 rfl) rfl rfl rfl) (rd_of (GR.v_ext _ f2 hE))) (.cons (fun _ _ hE hK hg => ok_geq (ksv (j := 3) (hK 8 rfl) rfl rfl rfl) (ksv (j := 8) (hK 13 rfl) rfl rfl rfl)) .nil)))))))))) ?zok2 ?zgd2 ?zk2
 case zok2 | zgd2 => kernel_rfl
 intro a2 w2 hA hE HF
 replace q0 := kn (HF 0) rfl q0
 replace q1 := kn (HF 1) rfl q1
 have q14 := ksv (HF 14) rfl rfl rfl
 clear HF
 replace hb_ := hb_.ext hE
 replace f2 := GR.v_ext _ f2 hE
 replace hB := Base.step hB hE hO; clear hE
 refine li_nil (nx_then ?_)
 refine wp_cond_b q14 (fun hc => ?_) (fun hc => ?_)
 ·
  replace h := Comp.run_b_t hc h; clear hc
  refine wp_seq ?_
  refine' region [_] mixed hA (.cons (fun _ _ hE hK hg => ok_assign rfl) .nil) ?zok3 ?zgd3 ?zk3
  case zok3 | zgd3 => kernel_rfl
  intro a3 w3 hA hE HF
  have q4 := ksv (HF 4) rfl rfl rfl
  clear q0
  clear q1
  clear q14
  clear HF
  replace hb_ := hb_.ext hE
  replace f2 := GR.v_ext _ f2 hE
  replace hB := Base.step hB hE hO; clear hE
  refine li_nil (nx_then (wp_ret (rt_then ?_)))
  have h := Comp.run_pure h; subst h
  exact retG1 Try.results74 hA (.tmp q4) (bioEnd hB hb_ ⟨_, _, rfl, (rel_ofF (r := (rSl (rInt .i64))) f2 rfl rfl), ⟨_, _, rfl, rfl, rfl⟩⟩ rfl)
 ·
  replace h := Comp.run_b_f hc h; clear hc
  refine wp_skip (nx_then (wp_seq ?_))
  refine' regionT [_, SP.isv (.pointer (some ⟨b_0, 0, none⟩)), SP.isv (.pointer (some ⟨b_0, 1, none⟩)), SP.isv (.int .i64 x_0.At), _, SP.isv (.pointer (some ⟨b_0, 0, none⟩)), SP.isv (.pointer (some ⟨b_0, 1, none⟩))] hA (.cons (fun _ _ hE hK hg => ok_move (kn (hK 0 rfl) rfl q0)) (.cons (fun _ _ hE hK hg => ok_nilChk (ksv (j := 0) (hK 15 rfl) rfl rfl rfl)) (.cons (fun _ _ hE hK hg => ok_fieldAddr fl108_1 (ksv (j := 1) (hK 16 rfl) rfl rfl rfl)) (.cons (fun _ _ hE hK hg => ok_loadOwn ty3 rfl (ksv (j := 2) (hK 17 rfl) rfl rfl rfl) (OwnB.ext hb_ hE).own rfl) (.cons (fun _ _ hE hK hg => ok_add (ksv (j := 3) (hK 18 rfl) rfl rfl rfl) rfl) (.cons (fun _ _ hE hK hg => ok_nilChk (ksv (j := 0) (hK 15 rfl) rfl rfl rfl)) (.cons (fun _ _ hE hK hg => ok_fieldAddr fl108_1 (ksv (j := 5) (hK 20 rfl) rfl rfl rfl)) .nil))))))) ?zok4 ?zgd4 ?zk4
  case zok4 | zgd4 => kernel_rfl
  intro a4 w4 hA hE HF
  replace q0 := kn (HF 0) rfl q0
  replace q1 := kn (HF 1) rfl q1
  have q19 := ksv (HF 19) rfl rfl rfl
  have q21 := ksv (HF 21) rfl rfl rfl
  clear q14
  clear HF
  replace hb_ := hb_.ext hE
  replace f2 := GR.v_ext _ f2 hE
  replace hB := Base.step hB hE hO; clear hE
  refine l_store1 (cs' := #[u1, .int .i64 (IntKind.wrap .i64 (x_0.At + 1))]) hO hB (okB_self hB) ty3 q21 q19 rfl rfl hb_ (by simp) rfl fun w5 f3 hB' hX => ?_
  clear hB hb_; have hB := hB'; clear hB'
  replace f2 := GR.kx _ f2 hX (by decide)
  clear hX
  refine li_nil (nx_then (wp_seq ?_))
  obtain ⟨x4, hx4, h⟩ := Comp.run_bind h
  obtain ⟨x5, hx5, h⟩ := Comp.run_bind h
  refine' region [_, SP.isv (.pointer (some ⟨b_0, 0, none⟩)), SP.isv (.pointer (some ⟨b_0, 0, none⟩)), SP.isv (u1), _, SP.isv (.pointer (some ⟨b_0, 0, none⟩)), SP.isv (.pointer (some ⟨b_0, 1, none⟩)), SP.isv (.int .i64 (IntKind.wrap .i64 (x_0.At + 1))), _, SP.ptr (rInt .i64) Oi_ x4, SP.isv (.int .i64 x4), _, SP.isv (.int .i64 x5), _] mixed hA (.cons (fun _ _ hE hK hg => ok_move (kn (hK 0 rfl) rfl q0)) (.cons (fun _ _ hE hK hg => ok_nilChk (ksv (j := 0) (hK 22 rfl) rfl rfl rfl)) (.cons (fun _ _ hE hK hg => ok_fieldAddr fl108_0 (ksv (j := 1) (hK 23 rfl) rfl rfl rfl)) (.cons (fun _ _ hE hK hg => ok_loadOwn ty58 rfl (ksv (j := 2) (hK 24 rfl) rfl rfl rfl) (OwnB.ext f3 hE).own rfl) (.cons (fun _ _ hE hK hg => ok_move (kn (hK 0 rfl) rfl q0)) (.cons (fun _ _ hE hK hg => ok_nilChk (ksv (j := 4) (hK 26 rfl) rfl rfl rfl)) (.cons (fun _ _ hE hK hg => ok_fieldAddr fl108_1 (ksv (j := 5) (hK 27 rfl) rfl rfl rfl)) (.cons (fun _ _ hE hK hg => ok_loadOwn ty3 rfl (ksv (j := 6) (hK 28 rfl) rfl rfl rfl) (OwnB.ext f3 hE).own rfl) (.cons (fun _ _ hE hK hg => ok_sub (ksv (j := 7) (hK 29 rfl) rfl rfl rfl) rfl) (.cons (fun _ _ hE hK hg => okl_idx (r := (rInt .i64)) (O := Oi_) ty58 ty3 rfl (ksv (j := 3) (hK 25 rfl) rfl rfl rfl) (rd_of (GR.v_ext _ f2 hE)) (ksv (j := 8) (hK 30 rfl) rfl rfl rfl) hx4) (.cons (fun _ _ hE hK hg => okl_ldr (rInt .i64) (fun _ => rfl) ty3 rfl rfl rfl (kspS (φ := SP.ptr (rInt .i64) Oi_ x4) (j := 9) (hK 31 rfl) rfl rfl rfl) (fun _ _ _ h => rInt_v.1 h)) (.cons (fun _ _ hE hK hg => ok_move (kn (hK 1 rfl) rfl q1)) (.cons ?z5_12 (.cons (fun _ _ hE hK hg => ok_assign (ksv (j := 12) (hK 34 rfl) rfl rfl rfl)) .nil)))))))))))))) ?zok5 ?zgd5 ?zk5
  case z5_12 => intro a' w' hE hK hg; have c_ := ok_r1_Mod (OkO.ext hB.ok hE)  hx5; exact ok_call2 fn37 (ksv (j := 10) (hK 32 rfl) rfl rfl rfl) (ksv (j := 11) (hK 33 rfl) rfl rfl rfl) c_
  case zok5 | zgd5 => kernel_rfl
  intro a6 w6 hA hE HF
  have q4 := ksv (HF 4) rfl rfl rfl
  clear q0
  clear q1
  clear HF
  replace f3 := f3.ext hE
  replace f2 := GR.v_ext _ f2 hE
  replace hB := Base.step hB hE hO; clear hE
  refine li_nil (nx_then (wp_ret ?_))
  have h := Comp.run_pure h; subst h
  exact retG1 Try.results74 hA (.tmp q4) (bioEnd hB f3 ⟨_, _, rfl, (rel_ofF (r := (rSl (rInt .i64))) f2 rfl rfl), ⟨_, _, rfl, rfl, rfl⟩⟩ rfl)
theorem ok_colletref02_most4 {O : Tags} {w0 : World} (hO : OkO O w0) {x_0 : Int} {n : Nat} {y : Bytes} (h : (colletref02_most4 x_0).run n = some y) : Pure Try.prog 117 #[.int .i64 x_0] w0 (SP.isv (.string (str y))).holds := by
 unfold colletref02_most4 at h
 refine pure_of_wp Try.func117 rfl 16 Try.ntmps117 (by simp) fun a0 hA hs0 => ?_
 have q0 : a0.get 0 = .int .i64 x_0 := hs0 0 _ rfl
 clear hs0
 have hB : Base (Fr w0) O w0 O w0 := Base.start hO
 refine wp_seq ?_
 refine' region [_] mixed hA (.cons (fun _ _ hE hK hg => ok_assign rfl) .nil) ?zok1 ?zgd1 ?zk1
 case zok1 | zgd1 => kernel_rfl
 intro a1 w1 hA hE HF
 replace q0 := kn (HF 0) rfl q0
 clear HF
 replace hB := Base.step hB hE hO; clear hE
 refine li_nil (nx_then (wp_seq ?_))
 obtain ⟨x1, hx1, h⟩ := Comp.run_bind h
 refine' region [_, _, _, _, _, _, _, _, _, _, _, SP.vl (rSl (rInt .u8)) O [(IntKind.wrap .u8 (shrF .i64 x_0 24)), (IntKind.wrap .u8 (shrF .i64 x_0 16)), (IntKind.wrap .u8 (shrF .i64 x_0 8)), (IntKind.wrap .u8 x_0)], SP.isv (.string (str x1)), _] mixed hA (.cons (fun _ _ hE hK hg => ok_move (kn (hK 0 rfl) rfl q0)) (.cons (fun _ _ hE hK hg => okl_shr (ksv (j := 0) (hK 3 rfl) rfl rfl rfl) rfl (by decide)) (.cons (fun _ _ hE hK hg => ok_convI ty3 ty5 (ksv (j := 1) (hK 4 rfl) rfl rfl rfl)) (.cons (fun _ _ hE hK hg => ok_move (kn (hK 0 rfl) rfl q0)) (.cons (fun _ _ hE hK hg => okl_shr (ksv (j := 3) (hK 6 rfl) rfl rfl rfl) rfl (by decide)) (.cons (fun _ _ hE hK hg => ok_convI ty3 ty5 (ksv (j := 4) (hK 7 rfl) rfl rfl rfl)) (.cons (fun _ _ hE hK hg => ok_move (kn (hK 0 rfl) rfl q0)) (.cons (fun _ _ hE hK hg => okl_shr (ksv (j := 6) (hK 9 rfl) rfl rfl rfl) rfl (by decide)) (.cons (fun _ _ hE hK hg => ok_convI ty3 ty5 (ksv (j := 7) (hK 10 rfl) rfl rfl rfl)) (.cons (fun _ _ hE hK hg => ok_move (kn (hK 0 rfl) rfl q0)) (.cons (fun _ _ hE hK hg => ok_convI ty3 ty5 (ksv (j := 9) (hK 12 rfl) rfl rfl rfl)) (.cons (fun _ _ hE hK hg => okl_buildSliceV (r := (rInt .u8)) (fun _ => rfl) rfl (OkO.ext hB.ok hE) ty104 ty5 (parts_cons (ksv (j := 2) (hK 5 rfl) rfl rfl rfl) (parts_cons (ksv (j := 5) (hK 8 rfl) rfl rfl rfl) (parts_cons (ksv (j := 8) (hK 11 rfl) rfl rfl rfl) (parts_cons (ksv (j := 10) (hK 13 rfl) rfl rfl rfl) parts_nil)))) ⟨(by exact rInt_v.2 rfl), ⟨(by exact rInt_v.2 rfl), ⟨(by exact rInt_v.2 rfl), ⟨(by exact rInt_v.2 rfl), trivial⟩⟩⟩⟩ rfl (by decide)) (.cons (fun _ _ hE hK hg => okl_bytesToStr ty104 ty5 ty9 rfl (rd_of (kspS (φ := SP.vl (rSl (rInt .u8)) O [(IntKind.wrap .u8 (shrF .i64 x_0 24)), (IntKind.wrap .u8 (shrF .i64 x_0 16)), (IntKind.wrap .u8 (shrF .i64 x_0 8)), (IntKind.wrap .u8 x_0)]) (j := 11) (hK 14 rfl) rfl rfl rfl)) hx1) (.cons (fun _ _ hE hK hg => ok_assign (ksv (j := 12) (hK 15 rfl) rfl rfl rfl)) .nil)))))))))))))) ?zok2 ?zgd2 ?zk2
 case zok2 | zgd2 => kernel_rfl
 intro a2 w2 hA hE HF
 have q2 := ksv (HF 2) rfl rfl rfl
 clear q0
 clear HF
 replace hB := Base.step hB hE hO; clear hE
 refine li_nil (nx_then (wp_ret ?_))
 have h := Comp.run_pure h; subst h
 exact retPure Try.results117 hA q2 hB.ext rfl
theorem ok_colletref02_Of {O : Tags} {w0 : World} (hO : OkO O w0) {x_0 : Bytes} {n : Nat} {y : Bytes} (h : (colletref02_Of x_0).run n = some y) : Pure Try.prog 71 #[.string (str x_0)] w0 (SP.isv (.string (str y))).holds := by
 unfold colletref02_Of at h
 refine pure_of_wp Try.func71 rfl 35 Try.ntmps71 (by simp) fun a0 hA hs0 => ?_
 have q0 : a0.get 0 = .string (str x_0) := hs0 0 _ rfl
 clear hs0
 have hB : Base (Fr w0) O w0 O w0 := Base.start hO
 refine wp_seq ?_
 refine' region [_] mixed hA (.cons (fun _ _ hE hK hg => ok_assign rfl) .nil) ?zok1 ?zgd1 ?zk1
 case zok1 | zgd1 => kernel_rfl
 intro a1 w1 hA hE HF
 replace q0 := kn (HF 0) rfl q0
 clear HF
 replace hB := Base.step hB hE hO; clear hE
 refine li_nil (nx_then (wp_seq ?_))
 refine' region [_] mixed hA (.cons (fun _ _ hE hK hg => ok_assign rfl) .nil) ?zok2 ?zgd2 ?zk2
 case zok2 | zgd2 => kernel_rfl
 intro a2 w2 hA hE HF
 replace q0 := kn (HF 0) rfl q0
 have q3 := ksv (HF 3) rfl rfl rfl
 clear HF
 replace hB := Base.step hB hE hO; clear hE
 refine li_nil (nx_then (wp_seq ?_))
 refine' region [_] mixed hA (.cons (fun _ _ hE hK hg => ok_assign rfl) .nil) ?zok3 ?zgd3 ?zk3
 case zok3 | zgd3 => kernel_rfl
 intro a3 w3 hA hE HF
 replace q0 := kn (HF 0) rfl q0
 replace q3 := kn (HF 3) rfl q3
 have q4 := ksv (HF 4) rfl rfl rfl
 clear HF
 replace hB := Base.step hB hE hO; clear hE
 refine li_nil (nx_then ?_)
 refine seq_join (fun a w => ∃ (O15 : Tags) (x13 : Int) (x14 : Int), a.fit 35 ∧ Base (Fr w0) O w0 O15 w ∧ a.get 3 = .int .i64 x13 ∧ a.get 4 = .int .i64 x14 ∧ (colletref02_Of_j1 x13 x14).run n = some y) ?_ ?_
 ·
  refine wp_seq ?_
  refine' region [_] mixed hA (.cons (fun _ _ hE hK hg => ok_assign rfl) .nil) ?zok4 ?zgd4 ?zk4
  case zok4 | zgd4 => kernel_rfl
  intro a4 w4 hA hE HF
  replace q0 := kn (HF 0) rfl q0
  replace q3 := kn (HF 3) rfl q3
  replace q4 := kn (HF 4) rfl q4
  have q5 := ksv (HF 5) rfl rfl rfl
  clear HF
  replace hB := Base.step hB hE hO; clear hE
  refine li_nil (nx_then (wp_block ?_))
  obtain ⟨e2, he2, hk2⟩ := Comp.run_bind h; clear h
  refine loop_m (fun m a w => ∃ (O4 : Tags) (x1 : Int) (x2 : Int) (x3 : Int), a.fit 35 ∧ Base (Fr w0) O w0 O4 w ∧ a.get 0 = .string (str x_0) ∧ a.get 3 = .int .i64 x1 ∧ a.get 4 = .int .i64 x2 ∧ a.get 5 = .int .i64 x3 ∧ Comp.loopN (fun s => colletref02_Of_l2 x_0 s.1 s.2.1 s.2.2) n m (x1, x2, x3) = some e2) (m := n) ?st2 ?_
  case st2 =>
   exact ⟨_, _, _, _, hA, hB, q0, q3, q4, q5, Comp.run_loop he2⟩
  intro m_ a5 w5 hI
  clear hA hB he2 q0 q3 q4 q5
  obtain ⟨O4, x1, x2, x3, hA, hB, q0, q3, q4, q5, hl⟩ := hI
  obtain ⟨m2, hlt2, st2, h, hnext2, hdone2⟩ := Comp.loopN_succ hl; clear hl
  replace h : (colletref02_Of_l2 x_0 x1 x2 x3).run n = some st2 := h
  unfold colletref02_Of_l2 at h
  refine wp_seq (wp_seq ?_)
  refine' region [_, _, _, _] mixed hA (.cons (fun _ _ hE hK hg => ok_move (kn (hK 5 rfl) rfl q5)) (.cons (fun _ _ hE hK hg => ok_move (kn (hK 0 rfl) rfl q0)) (.cons (fun _ _ hE hK hg => okl_lenS ty9 (ksv (j := 1) (hK 7 rfl) rfl rfl rfl)) (.cons (fun _ _ hE hK hg => ok_lss (ksv (j := 0) (hK 6 rfl) rfl rfl rfl) (ksv (j := 2) (hK 8 rfl) rfl rfl rfl)) .nil)))) ?zok5 ?zgd5 ?zk5
  case zok5 | zgd5 => kernel_rfl
  intro a6 w6 hA hE HF
  replace q0 := kn (HF 0) rfl q0
  replace q3 := kn (HF 3) rfl q3
  replace q4 := kn (HF 4) rfl q4
  replace q5 := kn (HF 5) rfl q5
  have q9 := ksv (HF 9) rfl rfl rfl
  clear HF
  replace hB := Base.step hB hE hO; clear hE
  refine li_nil (nx_then ?_)
  refine wp_cond_b q9 (fun hc => ?_) (fun hc => ?_)
  ·
   replace h := Comp.run_b_t hc h; clear hc
   refine wp_skip (nx_then (wp_seq (wp_block (wp_seq ?_))))
   obtain ⟨x5, hx5, h⟩ := Comp.run_bind h
   refine' region [_, _, _, _, SP.isv (.int .u8 x5), _, _, _, _, _] mixed hA (.cons (fun _ _ hE hK hg => ok_move (kn (hK 3 rfl) rfl q3)) (.cons (fun _ _ hE hK hg => ok_mul rfl (ksv (j := 0) (hK 12 rfl) rfl rfl rfl)) (.cons (fun _ _ hE hK hg => ok_move (kn (hK 0 rfl) rfl q0)) (.cons (fun _ _ hE hK hg => ok_move (kn (hK 5 rfl) rfl q5)) (.cons (fun _ _ hE hK hg => okl_indexS ty9 (ksv (j := 2) (hK 14 rfl) rfl rfl rfl) (ksv (j := 3) (hK 15 rfl) rfl rfl rfl) hx5) (.cons (fun _ _ hE hK hg => ok_convI ty5 ty3 (ksv (j := 4) (hK 16 rfl) rfl rfl rfl)) (.cons (fun _ _ hE hK hg => ok_add (ksv (j := 1) (hK 13 rfl) rfl rfl rfl) (ksv (j := 5) (hK 17 rfl) rfl rfl rfl)) (.cons (fun _ _ hE hK hg => ok_add (ksv (j := 6) (hK 18 rfl) rfl rfl rfl) rfl) (.cons (fun _ _ hE hK hg => ok_rem (ksv (j := 7) (hK 19 rfl) rfl rfl rfl) rfl (by decide)) (.cons (fun _ _ hE hK hg => ok_assign (ksv (j := 8) (hK 20 rfl) rfl rfl rfl)) .nil)))))))))) ?zok6 ?zgd6 ?zk6
   case zok6 | zgd6 => kernel_rfl
   intro a7 w7 hA hE HF
   replace q0 := kn (HF 0) rfl q0
   have q3' := ksv (HF 3) rfl rfl rfl
   replace q3 := q3'; clear q3'
   replace q4 := kn (HF 4) rfl q4
   replace q5 := kn (HF 5) rfl q5
   clear q9
   clear HF
   replace hB := Base.step hB hE hO; clear hE
   obtain ⟨x6, hx_, h⟩ := Comp.run_bind h; replace hx_ := Comp.run_pure hx_; rw [hx_] at q3; clear hx_
   refine li_nil (nx_then ?_)
   obtain ⟨x7, hx7, h⟩ := Comp.run_bind h
   refine' region [_, _, _, _, SP.isv (.int .u8 x7), _, _, _, _, _] mixed hA (.cons (fun _ _ hE hK hg => ok_move (kn (hK 4 rfl) rfl q4)) (.cons (fun _ _ hE hK hg => ok_mul rfl (ksv (j := 0) (hK 21 rfl) rfl rfl rfl)) (.cons (fun _ _ hE hK hg => ok_move (kn (hK 0 rfl) rfl q0)) (.cons (fun _ _ hE hK hg => ok_move (kn (hK 5 rfl) rfl q5)) (.cons (fun _ _ hE hK hg => okl_indexS ty9 (ksv (j := 2) (hK 23 rfl) rfl rfl rfl) (ksv (j := 3) (hK 24 rfl) rfl rfl rfl) hx7) (.cons (fun _ _ hE hK hg => ok_convI ty5 ty3 (ksv (j := 4) (hK 25 rfl) rfl rfl rfl)) (.cons (fun _ _ hE hK hg => ok_add (ksv (j := 1) (hK 22 rfl) rfl rfl rfl) (ksv (j := 5) (hK 26 rfl) rfl rfl rfl)) (.cons (fun _ _ hE hK hg => ok_add (ksv (j := 6) (hK 27 rfl) rfl rfl rfl) rfl) (.cons (fun _ _ hE hK hg => ok_rem (ksv (j := 7) (hK 28 rfl) rfl rfl rfl) rfl (by decide)) (.cons (fun _ _ hE hK hg => ok_assign (ksv (j := 8) (hK 29 rfl) rfl rfl rfl)) .nil)))))))))) ?zok7 ?zgd7 ?zk7
   case zok7 | zgd7 => kernel_rfl
   intro a8 w8 hA hE HF
   replace q0 := kn (HF 0) rfl q0
   replace q3 := kn (HF 3) rfl q3
   have q4' := ksv (HF 4) rfl rfl rfl
   replace q4 := q4'; clear q4'
   replace q5 := kn (HF 5) rfl q5
   clear HF
   replace hB := Base.step hB hE hO; clear hE
   obtain ⟨x8, hx_, h⟩ := Comp.run_bind h; replace hx_ := Comp.run_pure hx_; rw [hx_] at q4; clear hx_
   refine li_nil (nx_blk (nx_then ?_))
   refine' region [_, _, _] mixed hA (.cons (fun _ _ hE hK hg => ok_move (kn (hK 5 rfl) rfl q5)) (.cons (fun _ _ hE hK hg => ok_add (ksv (j := 0) (hK 10 rfl) rfl rfl rfl) rfl) (.cons (fun _ _ hE hK hg => ok_assign (ksv (j := 1) (hK 11 rfl) rfl rfl rfl)) .nil))) ?zok8 ?zgd8 ?zk8
   case zok8 | zgd8 => kernel_rfl
   intro a9 w9 hA hE HF
   replace q0 := kn (HF 0) rfl q0
   replace q3 := kn (HF 3) rfl q3
   replace q4 := kn (HF 4) rfl q4
   have q5' := ksv (HF 5) rfl rfl rfl
   replace q5 := q5'; clear q5'
   clear HF
   replace hB := Base.step hB hE hO; clear hE
   refine li_nil (nx_then ?_)
   have h := hnext2 _ (Comp.run_pure h).symm
   refine ⟨m2, hlt2, ?_⟩
   exact ⟨_, _, _, _, hA, hB, q0, q3, q4, q5, h⟩
  ·
   replace h := Comp.run_b_f hc h; clear hc
   refine wp_exit (ex_then (ex_then (ex_same ?_)))
   have hd_ := hdone2 _ (Comp.run_pure h).symm; clear h
   subst hd_; have h := hk2; clear hk2; try dsimp only at h
   refine nx_then ?_
   exact ⟨_, _, _, hA, hB, q3, q4, h⟩
 intro a10 w10 hI
 clear hA hB h q0 q3 q4
 obtain ⟨O15, x13, x14, hA, hB, q3, q4, h⟩ := hI
 unfold colletref02_Of_j1 at h
 refine wp_seq ?_
 obtain ⟨x16, hx16, h⟩ := Comp.run_bind h
 obtain ⟨x17, hx17, h⟩ := Comp.run_bind h
 obtain ⟨x18, hx18, h⟩ := Comp.run_bind h
 refine' region [_, SP.isv (.string (str x16)), _, SP.isv (.string (str x17)), SP.isv (.string (str x18)), _] mixed hA (.cons (fun _ _ hE hK hg => ok_move (kn (hK 3 rfl) rfl q3)) (.cons ?z9_1 (.cons (fun _ _ hE hK hg => ok_move (kn (hK 4 rfl) rfl q4)) (.cons ?z9_3 (.cons (fun _ _ hE hK hg => okl_addS (ksv (j := 1) (hK 31 rfl) rfl rfl rfl) (ksv (j := 3) (hK 33 rfl) rfl rfl rfl) hx18) (.cons (fun _ _ hE hK hg => ok_assign (ksv (j := 4) (hK 34 rfl) rfl rfl rfl)) .nil)))))) ?zok9 ?zgd9 ?zk9
 case z9_1 => intro a' w' hE hK hg; have c_ := ok_colletref02_most4 (OkO.ext hB.ok hE)  hx16; exact ok_call1 fn117 (ksv (j := 0) (hK 30 rfl) rfl rfl rfl) c_
 case z9_3 => intro a' w' hE hK hg; have c_ := ok_colletref02_most4 (OkO.ext hB.ok hE)  hx17; exact ok_call1 fn117 (ksv (j := 2) (hK 32 rfl) rfl rfl rfl) c_
 case zok9 | zgd9 => kernel_rfl
 intro a11 w11 hA hE HF
 have q2 := ksv (HF 2) rfl rfl rfl
 clear q3
 clear q4
 clear HF
 replace hB := Base.step hB hE hO; clear hE
 refine li_nil (nx_then (wp_ret ?_))
 have h := Comp.run_pure h; subst h
 exact retPure Try.results71 hA q2 hB.ext rfl
theorem ok_r7_Root {O : Tags} {w0 : World} (hO : OkO O w0) {x_0 : Int} {n : Nat} {y : Bytes} (h : (r7_Root x_0).run n = some y) : Pure Try.prog 29 #[.int .i64 x_0] w0 (SP.isv (.string (str y))).holds := by
 unfold r7_Root at h
 refine pure_of_wp Try.func29 rfl 8 Try.ntmps29 (by simp) fun a0 hA hs0 => ?_
 have q0 : a0.get 0 = .int .i64 x_0 := hs0 0 _ rfl
 clear hs0
 have hB : Base (Fr w0) O w0 O w0 := Base.start hO
 refine wp_seq ?_
 refine' region [_] mixed hA (.cons (fun _ _ hE hK hg => ok_assign rfl) .nil) ?zok1 ?zgd1 ?zk1
 case zok1 | zgd1 => kernel_rfl
 intro a1 w1 hA hE HF
 replace q0 := kn (HF 0) rfl q0
 clear HF
 replace hB := Base.step hB hE hO; clear hE
 refine li_nil (nx_then (wp_seq ?_))
 obtain ⟨x1, hx1, h⟩ := Comp.run_bind h
 obtain ⟨x2, hx2, h⟩ := Comp.run_bind h
 obtain ⟨x3, hx3, h⟩ := Comp.run_bind h
 obtain ⟨x4, hx4, h⟩ := Comp.run_bind h
 refine' region [_, SP.vl r_api_Num O x1, SP.isv (.string (str x2)), SP.isv (.string (str x3)), SP.isv (.string (str x4)), _] mixed hA (.cons (fun _ _ hE hK hg => ok_move (kn (hK 0 rfl) rfl q0)) (.cons ?z2_1 (.cons ?z2_2 (.cons (fun _ _ hE hK hg => okl_addS rfl (ksv (j := 2) (hK 5 rfl) rfl rfl rfl) hx3) (.cons ?z2_4 (.cons (fun _ _ hE hK hg => ok_assign (ksv (j := 4) (hK 7 rfl) rfl rfl rfl)) .nil)))))) ?zok2 ?zgd2 ?zk2
 case z2_1 => intro a' w' hE hK hg; have c_ := ok_r1_Of (OkO.ext hB.ok hE)  hx1; exact ok_call1 fn65 (ksv (j := 0) (hK 3 rfl) rfl rfl rfl) c_
 case z2_2 => intro a' w' hE hK hg; have c_ := ok_r1_Text (OkO.ext hB.ok hE) (kspS (φ := SP.vl r_api_Num O x1) (j := 1) (hK 4 rfl) rfl rfl rfl) hx2; exact ok_call1 fn64 rfl c_
 case z2_4 => intro a' w' hE hK hg; have c_ := ok_colletref02_Of (OkO.ext hB.ok hE)  hx4; exact ok_call1 fn71 (ksv (j := 3) (hK 6 rfl) rfl rfl rfl) c_
 case zok2 | zgd2 => kernel_rfl
 intro a2 w2 hA hE HF
 have q2 := ksv (HF 2) rfl rfl rfl
 clear q0
 clear HF
 replace hB := Base.step hB hE hO; clear hE
 refine li_nil (nx_then (wp_ret ?_))
 have h := Comp.run_pure h; subst h
 exact retPure Try.results29 hA q2 hB.ext rfl
theorem ok_r7_writer {O : Tags} {w0 : World} (hO : OkO O w0) {x_0 : aEn} {n : Nat} {y : Int} (h : (r7_writer x_0).run n = some y) : Pure Try.prog 75 #[.agg #[.int .i64 x_0.Seq, .int .i64 x_0.Shop, .int .i64 x_0.Kind, .int .i64 x_0.Day, .int .i64 x_0.N, .string (str x_0.Before), .string (str x_0.After), .string (str x_0.Prev), .string (str x_0.Mark)]] w0 (SP.isv (.int .i64 y)).holds := by
 unfold r7_writer at h
 refine pure_of_wp Try.func75 rfl 10 Try.ntmps75 (by simp) fun a0 hA hs0 => ?_
 have q0 : a0.get 0 = .agg #[.int .i64 x_0.Seq, .int .i64 x_0.Shop, .int .i64 x_0.Kind, .int .i64 x_0.Day, .int .i64 x_0.N, .string (str x_0.Before), .string (str x_0.After), .string (str x_0.Prev), .string (str x_0.Mark)] := hs0 0 _ rfl
 clear hs0
 have hB : Base (Fr w0) O w0 O w0 := Base.start hO
 refine wp_seq ?_
 refine' region [SP.vl (rBox r_aEn) O x_0, _] mixed hA (.cons ?z1_0 (.cons (fun _ _ hE hK hg => ok_assign rfl) .nil)) ?zok1 ?zgd1 ?zk1
 case z1_0 => intro a' w' hE hK hg; exact okl_boxV (r := r_aEn) fit_aEn (OkO.ext hB.ok hE) (kn (hK 0 rfl) rfl q0) (by first | exact (rC_v (x := x_0)).2 rfl | exact ⟨_, rfl, rfl⟩)
 case zok1 | zgd1 => kernel_rfl
 intro a1 w1 hA hE HF
 have f2 := ksp (HF 1) rfl rfl rfl
 obtain ⟨u1, q1'⟩ : ∃ u, a1.get 1 = u := ⟨_, rfl⟩
 rw [q1'] at f2
 have q1 := q1'; clear q1'
 clear q0
 clear HF
 replace hB := Base.step hB hE hO; clear hE
 refine li_nil (nx_then (wp_seq (wp_seq ?_)))
 refine' region [SP.ptr (rInt .i64) O x_0.Kind, SP.isv (.int .i64 x_0.Kind), _] mixed hA (.cons (fun _ _ hE hK hg => okl_fldB (S := r_aEn) fit_aEn rfl (fun _ => rfl) sb_aEn_2 fl26_2 (kn (hK 1 rfl) rfl q1) (GR.v_ext _ f2 hE)) (.cons (fun _ _ hE hK hg => okl_ldr (rInt .i64) (fun _ => rfl) ty3 rfl rfl rfl (kspS (φ := SP.ptr (rInt .i64) O x_0.Kind) (j := 0) (hK 3 rfl) rfl rfl rfl) (fun _ _ _ h => rInt_v.1 h)) (.cons (fun _ _ hE hK hg => ok_eqlI (ksv (j := 1) (hK 4 rfl) rfl rfl rfl) rfl) .nil))) ?zok2 ?zgd2 ?zk2
 case zok2 | zgd2 => kernel_rfl
 intro a2 w2 hA hE HF
 replace q1 := kn (HF 1) rfl q1
 have q5 := ksv (HF 5) rfl rfl rfl
 clear HF
 replace f2 := GR.v_ext _ f2 hE
 replace hB := Base.step hB hE hO; clear hE
 refine li_nil (nx_then ?_)
 refine wp_cond_b q5 (fun hc => ?_) (fun hc => ?_)
 ·
  replace h := Comp.run_b_t hc h; clear hc
  refine wp_seq ?_
  refine' region [SP.ptr (rInt .i64) O x_0.N, SP.isv (.int .i64 x_0.N), _] mixed hA (.cons (fun _ _ hE hK hg => okl_fldB (S := r_aEn) fit_aEn rfl (fun _ => rfl) sb_aEn_4 fl26_4 (kn (hK 1 rfl) rfl q1) (GR.v_ext _ f2 hE)) (.cons (fun _ _ hE hK hg => okl_ldr (rInt .i64) (fun _ => rfl) ty3 rfl rfl rfl (kspS (φ := SP.ptr (rInt .i64) O x_0.N) (j := 0) (hK 6 rfl) rfl rfl rfl) (fun _ _ _ h => rInt_v.1 h)) (.cons (fun _ _ hE hK hg => ok_assign (ksv (j := 1) (hK 7 rfl) rfl rfl rfl)) .nil))) ?zok3 ?zgd3 ?zk3
  case zok3 | zgd3 => kernel_rfl
  intro a3 w3 hA hE HF
  have q2 := ksv (HF 2) rfl rfl rfl
  clear q1
  clear q5
  clear HF
  replace f2 := GR.v_ext _ f2 hE
  replace hB := Base.step hB hE hO; clear hE
  refine li_nil (nx_then (wp_ret (rt_then ?_)))
  have h := Comp.run_pure h; subst h
  exact retPure Try.results75 hA q2 hB.ext rfl
 ·
  replace h := Comp.run_b_f hc h; clear hc
  refine wp_skip (nx_then (wp_seq ?_))
  refine' region [SP.ptr (rInt .i64) O x_0.Shop, SP.isv (.int .i64 x_0.Shop), _] mixed hA (.cons (fun _ _ hE hK hg => okl_fldB (S := r_aEn) fit_aEn rfl (fun _ => rfl) sb_aEn_1 fl26_1 (kn (hK 1 rfl) rfl q1) (GR.v_ext _ f2 hE)) (.cons (fun _ _ hE hK hg => okl_ldr (rInt .i64) (fun _ => rfl) ty3 rfl rfl rfl (kspS (φ := SP.ptr (rInt .i64) O x_0.Shop) (j := 0) (hK 8 rfl) rfl rfl rfl) (fun _ _ _ h => rInt_v.1 h)) (.cons (fun _ _ hE hK hg => ok_assign (ksv (j := 1) (hK 9 rfl) rfl rfl rfl)) .nil))) ?zok4 ?zgd4 ?zk4
  case zok4 | zgd4 => kernel_rfl
  intro a4 w4 hA hE HF
  have q2 := ksv (HF 2) rfl rfl rfl
  clear q1
  clear q5
  clear HF
  replace f2 := GR.v_ext _ f2 hE
  replace hB := Base.step hB hE hO; clear hE
  refine li_nil (nx_then (wp_ret ?_))
  have h := Comp.run_pure h; subst h
  exact retPure Try.results75 hA q2 hB.ext rfl
theorem ok_colletref04_code {O : Tags} {w0 : World} (hO : OkO O w0) {x_0 : Int} {n : Nat} {y : Int} (h : (colletref04_code x_0).run n = some y) : Pure Try.prog 127 #[.int .i64 x_0] w0 (SP.isv (.int .u64 y)).holds := by
 unfold colletref04_code at h
 refine pure_of_wp Try.func127 rfl 14 Try.ntmps127 (by simp) fun a0 hA hs0 => ?_
 have q0 : a0.get 0 = .int .i64 x_0 := hs0 0 _ rfl
 clear hs0
 have hB : Base (Fr w0) O w0 O w0 := Base.start hO
 refine wp_seq ?_
 refine' region [_] mixed hA (.cons (fun _ _ hE hK hg => ok_assign rfl) .nil) ?zok1 ?zgd1 ?zk1
 case zok1 | zgd1 => kernel_rfl
 intro a1 w1 hA hE HF
 replace q0 := kn (HF 0) rfl q0
 clear HF
 replace hB := Base.step hB hE hO; clear hE
 refine li_nil (nx_then (wp_seq (wp_seq ?_)))
 refine' region [_, _] mixed hA (.cons (fun _ _ hE hK hg => ok_move (kn (hK 0 rfl) rfl q0)) (.cons (fun _ _ hE hK hg => ok_geq (ksv (j := 0) (hK 3 rfl) rfl rfl rfl) rfl) .nil)) ?zok2 ?zgd2 ?zk2
 case zok2 | zgd2 => kernel_rfl
 intro a2 w2 hA hE HF
 replace q0 := kn (HF 0) rfl q0
 have q4 := ksv (HF 4) rfl rfl rfl
 clear HF
 replace hB := Base.step hB hE hO; clear hE
 refine li_nil (nx_then ?_)
 refine wp_cond_b q4 (fun hc => ?_) (fun hc => ?_)
 ·
  replace h := Comp.run_b_t hc h; clear hc
  refine wp_seq ?_
  refine' region [_, _, _, _] mixed hA (.cons (fun _ _ hE hK hg => ok_move (kn (hK 0 rfl) rfl q0)) (.cons (fun _ _ hE hK hg => ok_convI ty3 ty122 (ksv (j := 0) (hK 5 rfl) rfl rfl rfl)) (.cons (fun _ _ hE hK hg => ok_mul rfl (ksv (j := 1) (hK 6 rfl) rfl rfl rfl)) (.cons (fun _ _ hE hK hg => ok_assign (ksv (j := 2) (hK 7 rfl) rfl rfl rfl)) .nil)))) ?zok3 ?zgd3 ?zk3
  case zok3 | zgd3 => kernel_rfl
  intro a3 w3 hA hE HF
  have q2 := ksv (HF 2) rfl rfl rfl
  clear q0
  clear q4
  clear HF
  replace hB := Base.step hB hE hO; clear hE
  obtain ⟨x1, hx_, h⟩ := Comp.run_bind h; replace hx_ := Comp.run_pure hx_; rw [hx_] at q2; clear hx_
  refine li_nil (nx_then (wp_ret (rt_then ?_)))
  have h := Comp.run_pure h; subst h
  exact retPure Try.results127 hA q2 hB.ext rfl
 ·
  replace h := Comp.run_b_f hc h; clear hc
  refine wp_skip (nx_then (wp_seq ?_))
  refine' region [_, _, _, _, _, _, _] mixed hA (.cons (fun _ _ hE hK hg => ok_move (kn (hK 0 rfl) rfl q0)) (.cons (fun _ _ hE hK hg => ok_add (ksv (j := 0) (hK 8 rfl) rfl rfl rfl) rfl) (.cons (fun _ _ hE hK hg => ok_neg (ksv (j := 1) (hK 9 rfl) rfl rfl rfl)) (.cons (fun _ _ hE hK hg => ok_convI ty3 ty122 (ksv (j := 2) (hK 10 rfl) rfl rfl rfl)) (.cons (fun _ _ hE hK hg => ok_mul rfl (ksv (j := 3) (hK 11 rfl) rfl rfl rfl)) (.cons (fun _ _ hE hK hg => ok_add (ksv (j := 4) (hK 12 rfl) rfl rfl rfl) rfl) (.cons (fun _ _ hE hK hg => ok_assign (ksv (j := 5) (hK 13 rfl) rfl rfl rfl)) .nil))))))) ?zok4 ?zgd4 ?zk4
  case zok4 | zgd4 => kernel_rfl
  intro a4 w4 hA hE HF
  have q2 := ksv (HF 2) rfl rfl rfl
  clear q0
  clear q4
  clear HF
  replace hB := Base.step hB hE hO; clear hE
  obtain ⟨x2, hx_, h⟩ := Comp.run_bind h; replace hx_ := Comp.run_pure hx_; rw [hx_] at q2; clear hx_
  refine li_nil (nx_then (wp_ret ?_))
  have h := Comp.run_pure h; subst h
  exact retPure Try.results127 hA q2 hB.ext rfl
theorem ok_colletref04_Int {O : Tags} {w0 : World} (hO : OkO O w0) {x_0 : Int} {n : Nat} {y : Bytes} (h : (colletref04_Int x_0).run n = some y) : Pure Try.prog 96 #[.int .i64 x_0] w0 (SP.isv (.string (str y))).holds := by
 unfold colletref04_Int at h
 refine pure_of_wp Try.func96 rfl 25 Try.ntmps96 (by simp) fun a0 hA hs0 => ?_
 have q0 : a0.get 0 = .int .i64 x_0 := hs0 0 _ rfl
 clear hs0
 have hB : Base (Fr w0) O w0 O w0 := Base.start hO
 refine wp_seq ?_
 refine' region [_] mixed hA (.cons (fun _ _ hE hK hg => ok_assign rfl) .nil) ?zok1 ?zgd1 ?zk1
 case zok1 | zgd1 => kernel_rfl
 intro a1 w1 hA hE HF
 replace q0 := kn (HF 0) rfl q0
 clear HF
 replace hB := Base.step hB hE hO; clear hE
 refine li_nil (nx_then (wp_seq ?_))
 refine' region [_] mixed hA (.cons (fun _ _ hE hK hg => ok_assign rfl) .nil) ?zok2 ?zgd2 ?zk2
 case zok2 | zgd2 => kernel_rfl
 intro a2 w2 hA hE HF
 replace q0 := kn (HF 0) rfl q0
 have q3 := ksv (HF 3) rfl rfl rfl
 clear HF
 replace hB := Base.step hB hE hO; clear hE
 refine li_nil (nx_then (wp_seq ?_))
 obtain ⟨x1, hx1, h⟩ := Comp.run_bind h
 refine' region [_, SP.isv (.int .u64 x1), _] mixed hA (.cons (fun _ _ hE hK hg => ok_move (kn (hK 0 rfl) rfl q0)) (.cons ?z3_1 (.cons (fun _ _ hE hK hg => ok_assign (ksv (j := 1) (hK 6 rfl) rfl rfl rfl)) .nil))) ?zok3 ?zgd3 ?zk3
 case z3_1 => intro a' w' hE hK hg; have c_ := ok_colletref04_code (OkO.ext hB.ok hE)  hx1; exact ok_call1 fn127 (ksv (j := 0) (hK 5 rfl) rfl rfl rfl) c_
 case zok3 | zgd3 => kernel_rfl
 intro a3 w3 hA hE HF
 replace q3 := kn (HF 3) rfl q3
 have q4 := ksv (HF 4) rfl rfl rfl
 clear q0
 clear HF
 replace hB := Base.step hB hE hO; clear hE
 refine li_nil (nx_then ?_)
 refine seq_join (fun a w => ∃ (O13 : Tags) (x11 : Bytes) (x12 : Int), a.fit 25 ∧ Base (Fr w0) O w0 O13 w ∧ a.get 3 = .string (str x11) ∧ a.get 4 = .int .u64 x12 ∧ (colletref04_Int_j1 x11 x12).run n = some y) ?_ ?_
 ·
  refine wp_block ?_
  obtain ⟨e2, he2, hk2⟩ := Comp.run_bind h; clear h
  refine loop_m (fun m a w => ∃ (O4 : Tags) (x2 : Bytes) (x3 : Int), a.fit 25 ∧ Base (Fr w0) O w0 O4 w ∧ a.get 3 = .string (str x2) ∧ a.get 4 = .int .u64 x3 ∧ Comp.loopN (fun s => colletref04_Int_l2 s.1 s.2) n m (x2, x3) = some e2) (m := n) ?st2 ?_
  case st2 =>
   exact ⟨_, _, _, hA, hB, q3, q4, Comp.run_loop he2⟩
  intro m_ a4 w4 hI
  clear hA hB he2 q3 q4
  obtain ⟨O4, x2, x3, hA, hB, q3, q4, hl⟩ := hI
  obtain ⟨m2, hlt2, st2, h, hnext2, hdone2⟩ := Comp.loopN_succ hl; clear hl
  replace h : (colletref04_Int_l2 x2 x3).run n = some st2 := h
  unfold colletref04_Int_l2 at h
  refine wp_seq (wp_seq ?_)
  refine' region [_, _] mixed hA (.cons (fun _ _ hE hK hg => ok_move (kn (hK 4 rfl) rfl q4)) (.cons (fun _ _ hE hK hg => ok_geq (ksv (j := 0) (hK 7 rfl) rfl rfl rfl) rfl) .nil)) ?zok4 ?zgd4 ?zk4
  case zok4 | zgd4 => kernel_rfl
  intro a5 w5 hA hE HF
  replace q3 := kn (HF 3) rfl q3
  replace q4 := kn (HF 4) rfl q4
  have q8 := ksv (HF 8) rfl rfl rfl
  clear HF
  replace hB := Base.step hB hE hO; clear hE
  refine li_nil (nx_then ?_)
  refine wp_cond_b q8 (fun hc => ?_) (fun hc => ?_)
  ·
   replace h := Comp.run_b_t hc h; clear hc
   refine wp_skip (nx_then (wp_block (wp_seq ?_)))
   obtain ⟨x5, hx5, h⟩ := Comp.run_bind h
   obtain ⟨x6, hx6, h⟩ := Comp.run_bind h
   refine' region [_, _, _, _, _, SP.vl (rSl (rInt .u8)) O4 [(IntKind.wrap .u8 (IntKind.wrap .u64 ((Int.tmod x3 128) + 128)))], SP.isv (.string (str x5)), SP.isv (.string (str x6)), _] mixed hA (.cons (fun _ _ hE hK hg => ok_move (kn (hK 3 rfl) rfl q3)) (.cons (fun _ _ hE hK hg => ok_move (kn (hK 4 rfl) rfl q4)) (.cons (fun _ _ hE hK hg => ok_rem (ksv (j := 1) (hK 10 rfl) rfl rfl rfl) rfl (by decide)) (.cons (fun _ _ hE hK hg => ok_add (ksv (j := 2) (hK 11 rfl) rfl rfl rfl) rfl) (.cons (fun _ _ hE hK hg => ok_convI ty122 ty5 (ksv (j := 3) (hK 12 rfl) rfl rfl rfl)) (.cons (fun _ _ hE hK hg => okl_buildSliceV (r := (rInt .u8)) (fun _ => rfl) rfl (OkO.ext hB.ok hE) ty104 ty5 (parts_cons (ksv (j := 4) (hK 13 rfl) rfl rfl rfl) parts_nil) ⟨(by exact rInt_v.2 rfl), trivial⟩ rfl (by decide)) (.cons (fun _ _ hE hK hg => okl_bytesToStr ty104 ty5 ty9 rfl (rd_of (kspS (φ := SP.vl (rSl (rInt .u8)) O4 [(IntKind.wrap .u8 (IntKind.wrap .u64 ((Int.tmod x3 128) + 128)))]) (j := 5) (hK 14 rfl) rfl rfl rfl)) hx5) (.cons (fun _ _ hE hK hg => okl_addS (ksv (j := 0) (hK 9 rfl) rfl rfl rfl) (ksv (j := 6) (hK 15 rfl) rfl rfl rfl) hx6) (.cons (fun _ _ hE hK hg => ok_assign (ksv (j := 7) (hK 16 rfl) rfl rfl rfl)) .nil))))))))) ?zok5 ?zgd5 ?zk5
   case zok5 | zgd5 => kernel_rfl
   intro a6 w6 hA hE HF
   have q3' := ksv (HF 3) rfl rfl rfl
   replace q3 := q3'; clear q3'
   replace q4 := kn (HF 4) rfl q4
   clear q8
   clear HF
   replace hB := Base.step hB hE hO; clear hE
   refine li_nil (nx_then ?_)
   refine' region [_, _, _] mixed hA (.cons (fun _ _ hE hK hg => ok_move (kn (hK 4 rfl) rfl q4)) (.cons (fun _ _ hE hK hg => ok_quo (ksv (j := 0) (hK 17 rfl) rfl rfl rfl) rfl (by decide)) (.cons (fun _ _ hE hK hg => ok_assign (ksv (j := 1) (hK 18 rfl) rfl rfl rfl)) .nil))) ?zok6 ?zgd6 ?zk6
   case zok6 | zgd6 => kernel_rfl
   intro a7 w7 hA hE HF
   replace q3 := kn (HF 3) rfl q3
   have q4' := ksv (HF 4) rfl rfl rfl
   replace q4 := q4'; clear q4'
   clear HF
   replace hB := Base.step hB hE hO; clear hE
   refine li_nil (nx_blk (nx_then ?_))
   have h := hnext2 _ (Comp.run_pure h).symm
   refine ⟨m2, hlt2, ?_⟩
   exact ⟨_, _, _, hA, hB, q3, q4, h⟩
  ·
   replace h := Comp.run_b_f hc h; clear hc
   refine wp_exit (ex_then (ex_then (ex_same ?_)))
   have hd_ := hdone2 _ (Comp.run_pure h).symm; clear h
   subst hd_; have h := hk2; clear hk2; try dsimp only at h
   refine nx_then ?_
   exact ⟨_, _, _, hA, hB, q3, q4, h⟩
 intro a8 w8 hI
 clear hA hB h q3 q4
 obtain ⟨O13, x11, x12, hA, hB, q3, q4, h⟩ := hI
 unfold colletref04_Int_j1 at h
 refine wp_seq ?_
 obtain ⟨x14, hx14, h⟩ := Comp.run_bind h
 obtain ⟨x15, hx15, h⟩ := Comp.run_bind h
 refine' region [_, _, _, SP.vl (rSl (rInt .u8)) O13 [(IntKind.wrap .u8 x12)], SP.isv (.string (str x14)), SP.isv (.string (str x15)), _] mixed hA (.cons (fun _ _ hE hK hg => ok_move (kn (hK 3 rfl) rfl q3)) (.cons (fun _ _ hE hK hg => ok_move (kn (hK 4 rfl) rfl q4)) (.cons (fun _ _ hE hK hg => ok_convI ty122 ty5 (ksv (j := 1) (hK 20 rfl) rfl rfl rfl)) (.cons (fun _ _ hE hK hg => okl_buildSliceV (r := (rInt .u8)) (fun _ => rfl) rfl (OkO.ext hB.ok hE) ty104 ty5 (parts_cons (ksv (j := 2) (hK 21 rfl) rfl rfl rfl) parts_nil) ⟨(by exact rInt_v.2 rfl), trivial⟩ rfl (by decide)) (.cons (fun _ _ hE hK hg => okl_bytesToStr ty104 ty5 ty9 rfl (rd_of (kspS (φ := SP.vl (rSl (rInt .u8)) O13 [(IntKind.wrap .u8 x12)]) (j := 3) (hK 22 rfl) rfl rfl rfl)) hx14) (.cons (fun _ _ hE hK hg => okl_addS (ksv (j := 0) (hK 19 rfl) rfl rfl rfl) (ksv (j := 4) (hK 23 rfl) rfl rfl rfl) hx15) (.cons (fun _ _ hE hK hg => ok_assign (ksv (j := 5) (hK 24 rfl) rfl rfl rfl)) .nil))))))) ?zok7 ?zgd7 ?zk7
 case zok7 | zgd7 => kernel_rfl
 intro a9 w9 hA hE HF
 have q2 := ksv (HF 2) rfl rfl rfl
 clear q3
 clear q4
 clear HF
 replace hB := Base.step hB hE hO; clear hE
 refine li_nil (nx_then (wp_ret ?_))
 have h := Comp.run_pure h; subst h
 exact retPure Try.results96 hA q2 hB.ext rfl
theorem ok_colletref04_Ints {O : Tags} {w0 : World} (hO : OkO O w0) {v_0 : Value} {x_0 : List Int} (h_0 : (rSl (rInt .i64)).v O w0 v_0 x_0) {n : Nat} {y : Bytes} (h : (colletref04_Ints x_0).run n = some y) : Pure Try.prog 58 #[v_0] w0 (SP.isv (.string (str y))).holds := by
 unfold colletref04_Ints at h
 refine pure_of_wp Try.func58 rfl 22 Try.ntmps58 (by simp) fun a0 hA hs0 => ?_
 have q0 : a0.get 0 = v_0 := hs0 0 _ rfl
 clear hs0
 have hB : Base (Fr w0) O w0 O w0 := Base.start hO
 refine wp_seq ?_
 refine' region [_] mixed hA (.cons (fun _ _ hE hK hg => ok_assign rfl) .nil) ?zok1 ?zgd1 ?zk1
 case zok1 | zgd1 => kernel_rfl
 intro a1 w1 hA hE HF
 replace q0 := kn (HF 0) rfl q0
 clear HF
 replace h_0 := GR.v_ext _ h_0 hE
 replace hB := Base.step hB hE hO; clear hE
 refine li_nil (nx_then (wp_seq ?_))
 obtain ⟨x1, hx1, h⟩ := Comp.run_bind h
 refine' region [_, _, SP.isv (.string (str x1)), _] mixed hA (.cons (fun _ _ hE hK hg => ok_move (kn (hK 0 rfl) rfl q0)) (.cons (fun _ _ hE hK hg => okl_len (r := (rInt .i64)) ty58 (ksv (j := 0) (hK 5 rfl) rfl rfl rfl) (rd_of (GR.v_ext _ h_0 hE))) (.cons ?z2_2 (.cons (fun _ _ hE hK hg => ok_assign (ksv (j := 2) (hK 7 rfl) rfl rfl rfl)) .nil)))) ?zok2 ?zgd2 ?zk2
 case z2_2 => intro a' w' hE hK hg; have c_ := ok_colletref04_Int (OkO.ext hB.ok hE)  hx1; exact ok_call1 fn96 (ksv (j := 1) (hK 6 rfl) rfl rfl rfl) c_
 case zok2 | zgd2 => kernel_rfl
 intro a2 w2 hA hE HF
 replace q0 := kn (HF 0) rfl q0
 have q3 := ksv (HF 3) rfl rfl rfl
 clear HF
 replace h_0 := GR.v_ext _ h_0 hE
 replace hB := Base.step hB hE hO; clear hE
 refine li_nil (nx_then ?_)
 refine seq_join (fun a w => ∃ (O11 : Tags) (x10 : Bytes), a.fit 22 ∧ Base (Fr w0) O w0 O11 w ∧ a.get 3 = .string (str x10) ∧ (colletref04_Ints_j1 x10).run n = some y) ?_ ?_
 ·
  refine wp_seq ?_
  refine' region [_] mixed hA (.cons (fun _ _ hE hK hg => ok_assign rfl) .nil) ?zok3 ?zgd3 ?zk3
  case zok3 | zgd3 => kernel_rfl
  intro a3 w3 hA hE HF
  replace q0 := kn (HF 0) rfl q0
  replace q3 := kn (HF 3) rfl q3
  have q4 := ksv (HF 4) rfl rfl rfl
  clear HF
  replace h_0 := GR.v_ext _ h_0 hE
  replace hB := Base.step hB hE hO; clear hE
  refine li_nil (nx_then (wp_block ?_))
  obtain ⟨e2, he2, hk2⟩ := Comp.run_bind h; clear h
  refine loop_m (fun m a w => ∃ (O4 : Tags) (x2 : Bytes) (x3 : Int), a.fit 22 ∧ Base (Fr w0) O w0 O4 w ∧ a.get 0 = v_0 ∧ (rSl (rInt .i64)).v O4 w v_0 x_0 ∧ a.get 3 = .string (str x2) ∧ a.get 4 = .int .i64 x3 ∧ Comp.loopN (fun s => colletref04_Ints_l2 x_0 s.1 s.2) n m (x2, x3) = some e2) (m := n) ?st2 ?_
  case st2 =>
   exact ⟨_, _, _, hA, hB, q0, h_0, q3, q4, Comp.run_loop he2⟩
  intro m_ a4 w4 hI
  clear hA hB he2 q0 q3 q4 h_0
  obtain ⟨O4, x2, x3, hA, hB, q0, h_0, q3, q4, hl⟩ := hI
  obtain ⟨m2, hlt2, st2, h, hnext2, hdone2⟩ := Comp.loopN_succ hl; clear hl
  replace h : (colletref04_Ints_l2 x_0 x2 x3).run n = some st2 := h
  unfold colletref04_Ints_l2 at h
  refine wp_seq (wp_seq ?_)
  refine' region [_, _, _, _] mixed hA (.cons (fun _ _ hE hK hg => ok_move (kn (hK 4 rfl) rfl q4)) (.cons (fun _ _ hE hK hg => ok_move (kn (hK 0 rfl) rfl q0)) (.cons (fun _ _ hE hK hg => okl_len (r := (rInt .i64)) ty58 (ksv (j := 1) (hK 9 rfl) rfl rfl rfl) (rd_of (GR.v_ext _ h_0 hE))) (.cons (fun _ _ hE hK hg => ok_lss (ksv (j := 0) (hK 8 rfl) rfl rfl rfl) (ksv (j := 2) (hK 10 rfl) rfl rfl rfl)) .nil)))) ?zok4 ?zgd4 ?zk4
  case zok4 | zgd4 => kernel_rfl
  intro a5 w5 hA hE HF
  replace q0 := kn (HF 0) rfl q0
  replace q3 := kn (HF 3) rfl q3
  replace q4 := kn (HF 4) rfl q4
  have q11 := ksv (HF 11) rfl rfl rfl
  clear HF
  replace h_0 := GR.v_ext _ h_0 hE
  replace hB := Base.step hB hE hO; clear hE
  refine li_nil (nx_then ?_)
  refine wp_cond_b q11 (fun hc => ?_) (fun hc => ?_)
  ·
   replace h := Comp.run_b_t hc h; clear hc
   refine wp_skip (nx_then (wp_seq (wp_block ?_)))
   obtain ⟨x5, hx5, h⟩ := Comp.run_bind h
   obtain ⟨x6, hx6, h⟩ := Comp.run_bind h
   obtain ⟨x7, hx7, h⟩ := Comp.run_bind h
   refine' region [_, _, _, SP.ptr (rInt .i64) O4 x5, SP.isv (.int .i64 x5), SP.isv (.string (str x6)), SP.isv (.string (str x7)), _] mixed hA (.cons (fun _ _ hE hK hg => ok_move (kn (hK 3 rfl) rfl q3)) (.cons (fun _ _ hE hK hg => ok_move (kn (hK 0 rfl) rfl q0)) (.cons (fun _ _ hE hK hg => ok_move (kn (hK 4 rfl) rfl q4)) (.cons (fun _ _ hE hK hg => okl_idx (r := (rInt .i64)) (O := O4) ty58 ty3 rfl (ksv (j := 1) (hK 15 rfl) rfl rfl rfl) (rd_of (GR.v_ext _ h_0 hE)) (ksv (j := 2) (hK 16 rfl) rfl rfl rfl) hx5) (.cons (fun _ _ hE hK hg => okl_ldr (rInt .i64) (fun _ => rfl) ty3 rfl rfl rfl (kspS (φ := SP.ptr (rInt .i64) O4 x5) (j := 3) (hK 17 rfl) rfl rfl rfl) (fun _ _ _ h => rInt_v.1 h)) (.cons ?z5_5 (.cons (fun _ _ hE hK hg => okl_addS (ksv (j := 0) (hK 14 rfl) rfl rfl rfl) (ksv (j := 5) (hK 19 rfl) rfl rfl rfl) hx7) (.cons (fun _ _ hE hK hg => ok_assign (ksv (j := 6) (hK 20 rfl) rfl rfl rfl)) .nil)))))))) ?zok5 ?zgd5 ?zk5
   case z5_5 => intro a' w' hE hK hg; have c_ := ok_colletref04_Int (OkO.ext hB.ok hE)  hx6; exact ok_call1 fn96 (ksv (j := 4) (hK 18 rfl) rfl rfl rfl) c_
   case zok5 | zgd5 => kernel_rfl
   intro a6 w6 hA hE HF
   replace q0 := kn (HF 0) rfl q0
   have q3' := ksv (HF 3) rfl rfl rfl
   replace q3 := q3'; clear q3'
   replace q4 := kn (HF 4) rfl q4
   clear q11
   clear HF
   replace h_0 := GR.v_ext _ h_0 hE
   replace hB := Base.step hB hE hO; clear hE
   refine li_nil (nx_blk (nx_then ?_))
   refine' region [_, _, _] mixed hA (.cons (fun _ _ hE hK hg => ok_move (kn (hK 4 rfl) rfl q4)) (.cons (fun _ _ hE hK hg => ok_add (ksv (j := 0) (hK 12 rfl) rfl rfl rfl) rfl) (.cons (fun _ _ hE hK hg => ok_assign (ksv (j := 1) (hK 13 rfl) rfl rfl rfl)) .nil))) ?zok6 ?zgd6 ?zk6
   case zok6 | zgd6 => kernel_rfl
   intro a7 w7 hA hE HF
   replace q0 := kn (HF 0) rfl q0
   replace q3 := kn (HF 3) rfl q3
   have q4' := ksv (HF 4) rfl rfl rfl
   replace q4 := q4'; clear q4'
   clear HF
   replace h_0 := GR.v_ext _ h_0 hE
   replace hB := Base.step hB hE hO; clear hE
   refine li_nil (nx_then ?_)
   have h := hnext2 _ (Comp.run_pure h).symm
   refine ⟨m2, hlt2, ?_⟩
   exact ⟨_, _, _, hA, hB, q0, h_0, q3, q4, h⟩
  ·
   replace h := Comp.run_b_f hc h; clear hc
   refine wp_exit (ex_then (ex_then (ex_same ?_)))
   have hd_ := hdone2 _ (Comp.run_pure h).symm; clear h
   subst hd_; have h := hk2; clear hk2; try dsimp only at h
   refine nx_then ?_
   exact ⟨_, _, hA, hB, q3, h⟩
 intro a8 w8 hI
 clear hA hB h q0 q3 h_0
 obtain ⟨O11, x10, hA, hB, q3, h⟩ := hI
 unfold colletref04_Ints_j1 at h
 refine wp_seq ?_
 refine' region [_, _] mixed hA (.cons (fun _ _ hE hK hg => ok_move (kn (hK 3 rfl) rfl q3)) (.cons (fun _ _ hE hK hg => ok_assign (ksv (j := 0) (hK 21 rfl) rfl rfl rfl)) .nil)) ?zok7 ?zgd7 ?zk7
 case zok7 | zgd7 => kernel_rfl
 intro a9 w9 hA hE HF
 have q2 := ksv (HF 2) rfl rfl rfl
 clear q3
 clear HF
 replace hB := Base.step hB hE hO; clear hE
 refine li_nil (nx_then (wp_ret ?_))
 have h := Comp.run_pure h; subst h
 exact retPure Try.results58 hA q2 hB.ext rfl
theorem ok_colletref04_Text {O : Tags} {w0 : World} (hO : OkO O w0) {x_0 : Bytes} {n : Nat} {y : Bytes} (h : (colletref04_Text x_0).run n = some y) : Pure Try.prog 59 #[.string (str x_0)] w0 (SP.isv (.string (str y))).holds := by
 unfold colletref04_Text at h
 refine pure_of_wp Try.func59 rfl 8 Try.ntmps59 (by simp) fun a0 hA hs0 => ?_
 have q0 : a0.get 0 = .string (str x_0) := hs0 0 _ rfl
 clear hs0
 have hB : Base (Fr w0) O w0 O w0 := Base.start hO
 refine wp_seq ?_
 refine' region [_] mixed hA (.cons (fun _ _ hE hK hg => ok_assign rfl) .nil) ?zok1 ?zgd1 ?zk1
 case zok1 | zgd1 => kernel_rfl
 intro a1 w1 hA hE HF
 replace q0 := kn (HF 0) rfl q0
 clear HF
 replace hB := Base.step hB hE hO; clear hE
 refine li_nil (nx_then (wp_seq ?_))
 obtain ⟨x1, hx1, h⟩ := Comp.run_bind h
 obtain ⟨x2, hx2, h⟩ := Comp.run_bind h
 refine' region [_, _, SP.isv (.string (str x1)), _, SP.isv (.string (str x2)), _] mixed hA (.cons (fun _ _ hE hK hg => ok_move (kn (hK 0 rfl) rfl q0)) (.cons (fun _ _ hE hK hg => okl_lenS ty9 (ksv (j := 0) (hK 3 rfl) rfl rfl rfl)) (.cons ?z2_2 (.cons (fun _ _ hE hK hg => ok_move (kn (hK 0 rfl) rfl q0)) (.cons (fun _ _ hE hK hg => okl_addS (ksv (j := 2) (hK 5 rfl) rfl rfl rfl) (ksv (j := 3) (hK 6 rfl) rfl rfl rfl) hx2) (.cons (fun _ _ hE hK hg => ok_assign (ksv (j := 4) (hK 7 rfl) rfl rfl rfl)) .nil)))))) ?zok2 ?zgd2 ?zk2
 case z2_2 => intro a' w' hE hK hg; have c_ := ok_colletref04_Int (OkO.ext hB.ok hE)  hx1; exact ok_call1 fn96 (ksv (j := 1) (hK 4 rfl) rfl rfl rfl) c_
 case zok2 | zgd2 => kernel_rfl
 intro a2 w2 hA hE HF
 have q2 := ksv (HF 2) rfl rfl rfl
 clear q0
 clear HF
 replace hB := Base.step hB hE hO; clear hE
 refine li_nil (nx_then (wp_ret ?_))
 have h := Comp.run_pure h; subst h
 exact retPure Try.results59 hA q2 hB.ext rfl
theorem ok_r7_Bytes {O : Tags} {w0 : World} (hO : OkO O w0) {x_0 : aEn} {n : Nat} {y : Bytes} (h : (r7_Bytes x_0).run n = some y) : Pure Try.prog 18 #[.agg #[.int .i64 x_0.Seq, .int .i64 x_0.Shop, .int .i64 x_0.Kind, .int .i64 x_0.Day, .int .i64 x_0.N, .string (str x_0.Before), .string (str x_0.After), .string (str x_0.Prev), .string (str x_0.Mark)]] w0 (SP.isv (.string (str y))).holds := by
 unfold r7_Bytes at h
 refine pure_of_wp Try.func18 rfl 27 Try.ntmps18 (by simp) fun a0 hA hs0 => ?_
 have q0 : a0.get 0 = .agg #[.int .i64 x_0.Seq, .int .i64 x_0.Shop, .int .i64 x_0.Kind, .int .i64 x_0.Day, .int .i64 x_0.N, .string (str x_0.Before), .string (str x_0.After), .string (str x_0.Prev), .string (str x_0.Mark)] := hs0 0 _ rfl
 clear hs0
 have hB : Base (Fr w0) O w0 O w0 := Base.start hO
 refine wp_seq ?_
 refine' region [SP.vl (rBox r_aEn) O x_0, _] mixed hA (.cons ?z1_0 (.cons (fun _ _ hE hK hg => ok_assign rfl) .nil)) ?zok1 ?zgd1 ?zk1
 case z1_0 => intro a' w' hE hK hg; exact okl_boxV (r := r_aEn) fit_aEn (OkO.ext hB.ok hE) (kn (hK 0 rfl) rfl q0) (by first | exact (rC_v (x := x_0)).2 rfl | exact ⟨_, rfl, rfl⟩)
 case zok1 | zgd1 => kernel_rfl
 intro a1 w1 hA hE HF
 have f2 := ksp (HF 1) rfl rfl rfl
 obtain ⟨u1, q1'⟩ : ∃ u, a1.get 1 = u := ⟨_, rfl⟩
 rw [q1'] at f2
 have q1 := q1'; clear q1'
 clear q0
 clear HF
 replace hB := Base.step hB hE hO; clear hE
 refine li_nil (nx_then (wp_seq ?_))
 obtain ⟨x3, hx3, h⟩ := Comp.run_bind h
 obtain ⟨x4, hx4, h⟩ := Comp.run_bind h
 obtain ⟨x5, hx5, h⟩ := Comp.run_bind h
 obtain ⟨x6, hx6, h⟩ := Comp.run_bind h
 obtain ⟨x7, hx7, h⟩ := Comp.run_bind h
 obtain ⟨x8, hx8, h⟩ := Comp.run_bind h
 obtain ⟨x9, hx9, h⟩ := Comp.run_bind h
 refine' region [SP.ptr (rInt .i64) O x_0.Seq, SP.isv (.int .i64 x_0.Seq), SP.ptr (rInt .i64) O x_0.Shop, SP.isv (.int .i64 x_0.Shop), SP.ptr (rInt .i64) O x_0.Kind, SP.isv (.int .i64 x_0.Kind), SP.ptr (rInt .i64) O x_0.Day, SP.isv (.int .i64 x_0.Day), SP.ptr (rInt .i64) O x_0.N, SP.isv (.int .i64 x_0.N), SP.vl (rSl (rInt .i64)) O [x_0.Seq, x_0.Shop, x_0.Kind, x_0.Day, x_0.N], SP.isv (.string (str x3)), SP.ptr rStr O x_0.Before, SP.isv (.string (str x_0.Before)), SP.isv (.string (str x4)), SP.isv (.string (str x5)), SP.ptr rStr O x_0.After, SP.isv (.string (str x_0.After)), SP.isv (.string (str x6)), SP.isv (.string (str x7)), SP.ptr rStr O x_0.Prev, SP.isv (.string (str x_0.Prev)), SP.isv (.string (str x8)), SP.isv (.string (str x9)), _] mixed hA (.cons (fun _ _ hE hK hg => okl_fldB (S := r_aEn) fit_aEn rfl (fun _ => rfl) sb_aEn_0 fl26_0 (kn (hK 1 rfl) rfl q1) (GR.v_ext _ f2 hE)) (.cons (fun _ _ hE hK hg => okl_ldr (rInt .i64) (fun _ => rfl) ty3 rfl rfl rfl (kspS (φ := SP.ptr (rInt .i64) O x_0.Seq) (j := 0) (hK 3 rfl) rfl rfl rfl) (fun _ _ _ h => rInt_v.1 h)) (.cons (fun _ _ hE hK hg => okl_fldB (S := r_aEn) fit_aEn rfl (fun _ => rfl) sb_aEn_1 fl26_1 (kn (hK 1 rfl) rfl q1) (GR.v_ext _ f2 hE)) (.cons (fun _ _ hE hK hg => okl_ldr (rInt .i64) (fun _ => rfl) ty3 rfl rfl rfl (kspS (φ := SP.ptr (rInt .i64) O x_0.Shop) (j := 2) (hK 5 rfl) rfl rfl rfl) (fun _ _ _ h => rInt_v.1 h)) (.cons (fun _ _ hE hK hg => okl_fldB (S := r_aEn) fit_aEn rfl (fun _ => rfl) sb_aEn_2 fl26_2 (kn (hK 1 rfl) rfl q1) (GR.v_ext _ f2 hE)) (.cons (fun _ _ hE hK hg => okl_ldr (rInt .i64) (fun _ => rfl) ty3 rfl rfl rfl (kspS (φ := SP.ptr (rInt .i64) O x_0.Kind) (j := 4) (hK 7 rfl) rfl rfl rfl) (fun _ _ _ h => rInt_v.1 h)) (.cons (fun _ _ hE hK hg => okl_fldB (S := r_aEn) fit_aEn rfl (fun _ => rfl) sb_aEn_3 fl26_3 (kn (hK 1 rfl) rfl q1) (GR.v_ext _ f2 hE)) (.cons (fun _ _ hE hK hg => okl_ldr (rInt .i64) (fun _ => rfl) ty3 rfl rfl rfl (kspS (φ := SP.ptr (rInt .i64) O x_0.Day) (j := 6) (hK 9 rfl) rfl rfl rfl) (fun _ _ _ h => rInt_v.1 h)) (.cons (fun _ _ hE hK hg => okl_fldB (S := r_aEn) fit_aEn rfl (fun _ => rfl) sb_aEn_4 fl26_4 (kn (hK 1 rfl) rfl q1) (GR.v_ext _ f2 hE)) (.cons (fun _ _ hE hK hg => okl_ldr (rInt .i64) (fun _ => rfl) ty3 rfl rfl rfl (kspS (φ := SP.ptr (rInt .i64) O x_0.N) (j := 8) (hK 11 rfl) rfl rfl rfl) (fun _ _ _ h => rInt_v.1 h)) (.cons (fun _ _ hE hK hg => okl_buildSliceV (r := (rInt .i64)) (fun _ => rfl) rfl (OkO.ext hB.ok hE) ty58 ty3 (parts_cons (ksv (j := 1) (hK 4 rfl) rfl rfl rfl) (parts_cons (ksv (j := 3) (hK 6 rfl) rfl rfl rfl) (parts_cons (ksv (j := 5) (hK 8 rfl) rfl rfl rfl) (parts_cons (ksv (j := 7) (hK 10 rfl) rfl rfl rfl) (parts_cons (ksv (j := 9) (hK 12 rfl) rfl rfl rfl) parts_nil))))) ⟨(by exact rInt_v.2 rfl), ⟨(by exact rInt_v.2 rfl), ⟨(by exact rInt_v.2 rfl), ⟨(by exact rInt_v.2 rfl), ⟨(by exact rInt_v.2 rfl), trivial⟩⟩⟩⟩⟩ rfl (by decide)) (.cons ?z2_11 (.cons (fun _ _ hE hK hg => okl_fldB (S := r_aEn) fit_aEn rfl (fun _ => rfl) sb_aEn_5 fl26_5 (kn (hK 1 rfl) rfl q1) (GR.v_ext _ f2 hE)) (.cons (fun _ _ hE hK hg => okl_ldr rStr (fun _ => rfl) ty9 rfl rfl rfl (kspS (φ := SP.ptr rStr O x_0.Before) (j := 12) (hK 15 rfl) rfl rfl rfl) (fun _ _ _ h => rStr_v.1 h)) (.cons ?z2_14 (.cons (fun _ _ hE hK hg => okl_addS (ksv (j := 11) (hK 14 rfl) rfl rfl rfl) (ksv (j := 14) (hK 17 rfl) rfl rfl rfl) hx5) (.cons (fun _ _ hE hK hg => okl_fldB (S := r_aEn) fit_aEn rfl (fun _ => rfl) sb_aEn_6 fl26_6 (kn (hK 1 rfl) rfl q1) (GR.v_ext _ f2 hE)) (.cons (fun _ _ hE hK hg => okl_ldr rStr (fun _ => rfl) ty9 rfl rfl rfl (kspS (φ := SP.ptr rStr O x_0.After) (j := 16) (hK 19 rfl) rfl rfl rfl) (fun _ _ _ h => rStr_v.1 h)) (.cons ?z2_18 (.cons (fun _ _ hE hK hg => okl_addS (ksv (j := 15) (hK 18 rfl) rfl rfl rfl) (ksv (j := 18) (hK 21 rfl) rfl rfl rfl) hx7) (.cons (fun _ _ hE hK hg => okl_fldB (S := r_aEn) fit_aEn rfl (fun _ => rfl) sb_aEn_7 fl26_7 (kn (hK 1 rfl) rfl q1) (GR.v_ext _ f2 hE)) (.cons (fun _ _ hE hK hg => okl_ldr rStr (fun _ => rfl) ty9 rfl rfl rfl (kspS (φ := SP.ptr rStr O x_0.Prev) (j := 20) (hK 23 rfl) rfl rfl rfl) (fun _ _ _ h => rStr_v.1 h)) (.cons ?z2_22 (.cons (fun _ _ hE hK hg => okl_addS (ksv (j := 19) (hK 22 rfl) rfl rfl rfl) (ksv (j := 22) (hK 25 rfl) rfl rfl rfl) hx9) (.cons (fun _ _ hE hK hg => ok_assign (ksv (j := 23) (hK 26 rfl) rfl rfl rfl)) .nil))))))))))))))))))))))))) ?zok2 ?zgd2 ?zk2
 case z2_11 => intro a' w' hE hK hg; have c_ := ok_colletref04_Ints (OkO.ext hB.ok hE) (kspS (φ := SP.vl (rSl (rInt .i64)) O [x_0.Seq, x_0.Shop, x_0.Kind, x_0.Day, x_0.N]) (j := 10) (hK 13 rfl) rfl rfl rfl) hx3; exact ok_call1 fn58 rfl c_
 case z2_14 => intro a' w' hE hK hg; have c_ := ok_colletref04_Text (OkO.ext hB.ok hE)  hx4; exact ok_call1 fn59 (ksv (j := 13) (hK 16 rfl) rfl rfl rfl) c_
 case z2_18 => intro a' w' hE hK hg; have c_ := ok_colletref04_Text (OkO.ext hB.ok hE)  hx6; exact ok_call1 fn59 (ksv (j := 17) (hK 20 rfl) rfl rfl rfl) c_
 case z2_22 => intro a' w' hE hK hg; have c_ := ok_colletref04_Text (OkO.ext hB.ok hE)  hx8; exact ok_call1 fn59 (ksv (j := 21) (hK 24 rfl) rfl rfl rfl) c_
 case zok2 | zgd2 => kernel_rfl
 intro a2 w2 hA hE HF
 have q2 := ksv (HF 2) rfl rfl rfl
 clear q1
 clear HF
 replace f2 := GR.v_ext _ f2 hE
 replace hB := Base.step hB hE hO; clear hE
 refine li_nil (nx_then (wp_ret ?_))
 have h := Comp.run_pure h; subst h
 exact retPure Try.results18 hA q2 hB.ext rfl
theorem ok_colletref02_least4 {O : Tags} {w0 : World} (hO : OkO O w0) {x_0 : Int} {n : Nat} {y : Bytes} (h : (colletref02_least4 x_0).run n = some y) : Pure Try.prog 72 #[.int .i64 x_0] w0 (SP.isv (.string (str y))).holds := by
 unfold colletref02_least4 at h
 refine pure_of_wp Try.func72 rfl 16 Try.ntmps72 (by simp) fun a0 hA hs0 => ?_
 have q0 : a0.get 0 = .int .i64 x_0 := hs0 0 _ rfl
 clear hs0
 have hB : Base (Fr w0) O w0 O w0 := Base.start hO
 refine wp_seq ?_
 refine' region [_] mixed hA (.cons (fun _ _ hE hK hg => ok_assign rfl) .nil) ?zok1 ?zgd1 ?zk1
 case zok1 | zgd1 => kernel_rfl
 intro a1 w1 hA hE HF
 replace q0 := kn (HF 0) rfl q0
 clear HF
 replace hB := Base.step hB hE hO; clear hE
 refine li_nil (nx_then (wp_seq ?_))
 obtain ⟨x1, hx1, h⟩ := Comp.run_bind h
 refine' region [_, _, _, _, _, _, _, _, _, _, _, SP.vl (rSl (rInt .u8)) O [(IntKind.wrap .u8 x_0), (IntKind.wrap .u8 (shrF .i64 x_0 8)), (IntKind.wrap .u8 (shrF .i64 x_0 16)), (IntKind.wrap .u8 (shrF .i64 x_0 24))], SP.isv (.string (str x1)), _] mixed hA (.cons (fun _ _ hE hK hg => ok_move (kn (hK 0 rfl) rfl q0)) (.cons (fun _ _ hE hK hg => ok_convI ty3 ty5 (ksv (j := 0) (hK 3 rfl) rfl rfl rfl)) (.cons (fun _ _ hE hK hg => ok_move (kn (hK 0 rfl) rfl q0)) (.cons (fun _ _ hE hK hg => okl_shr (ksv (j := 2) (hK 5 rfl) rfl rfl rfl) rfl (by decide)) (.cons (fun _ _ hE hK hg => ok_convI ty3 ty5 (ksv (j := 3) (hK 6 rfl) rfl rfl rfl)) (.cons (fun _ _ hE hK hg => ok_move (kn (hK 0 rfl) rfl q0)) (.cons (fun _ _ hE hK hg => okl_shr (ksv (j := 5) (hK 8 rfl) rfl rfl rfl) rfl (by decide)) (.cons (fun _ _ hE hK hg => ok_convI ty3 ty5 (ksv (j := 6) (hK 9 rfl) rfl rfl rfl)) (.cons (fun _ _ hE hK hg => ok_move (kn (hK 0 rfl) rfl q0)) (.cons (fun _ _ hE hK hg => okl_shr (ksv (j := 8) (hK 11 rfl) rfl rfl rfl) rfl (by decide)) (.cons (fun _ _ hE hK hg => ok_convI ty3 ty5 (ksv (j := 9) (hK 12 rfl) rfl rfl rfl)) (.cons (fun _ _ hE hK hg => okl_buildSliceV (r := (rInt .u8)) (fun _ => rfl) rfl (OkO.ext hB.ok hE) ty104 ty5 (parts_cons (ksv (j := 1) (hK 4 rfl) rfl rfl rfl) (parts_cons (ksv (j := 4) (hK 7 rfl) rfl rfl rfl) (parts_cons (ksv (j := 7) (hK 10 rfl) rfl rfl rfl) (parts_cons (ksv (j := 10) (hK 13 rfl) rfl rfl rfl) parts_nil)))) ⟨(by exact rInt_v.2 rfl), ⟨(by exact rInt_v.2 rfl), ⟨(by exact rInt_v.2 rfl), ⟨(by exact rInt_v.2 rfl), trivial⟩⟩⟩⟩ rfl (by decide)) (.cons (fun _ _ hE hK hg => okl_bytesToStr ty104 ty5 ty9 rfl (rd_of (kspS (φ := SP.vl (rSl (rInt .u8)) O [(IntKind.wrap .u8 x_0), (IntKind.wrap .u8 (shrF .i64 x_0 8)), (IntKind.wrap .u8 (shrF .i64 x_0 16)), (IntKind.wrap .u8 (shrF .i64 x_0 24))]) (j := 11) (hK 14 rfl) rfl rfl rfl)) hx1) (.cons (fun _ _ hE hK hg => ok_assign (ksv (j := 12) (hK 15 rfl) rfl rfl rfl)) .nil)))))))))))))) ?zok2 ?zgd2 ?zk2
 case zok2 | zgd2 => kernel_rfl
 intro a2 w2 hA hE HF
 have q2 := ksv (HF 2) rfl rfl rfl
 clear q0
 clear HF
 replace hB := Base.step hB hE hO; clear hE
 refine li_nil (nx_then (wp_ret ?_))
 have h := Comp.run_pure h; subst h
 exact retPure Try.results72 hA q2 hB.ext rfl
theorem ok_colletref02_Chain {O : Tags} {w0 : World} (hO : OkO O w0) {x_0 : Bytes} {x_1 : Bytes} {n : Nat} {y : Bytes} (h : (colletref02_Chain x_0 x_1).run n = some y) : Pure Try.prog 32 #[.string (str x_0), .string (str x_1)] w0 (SP.isv (.string (str y))).holds := by
 unfold colletref02_Chain at h
 refine pure_of_wp Try.func32 rfl 14 Try.ntmps32 (by simp) fun a0 hA hs0 => ?_
 have q0 : a0.get 0 = .string (str x_0) := hs0 0 _ rfl
 have q1 : a0.get 1 = .string (str x_1) := hs0 1 _ rfl
 clear hs0
 have hB : Base (Fr w0) O w0 O w0 := Base.start hO
 refine wp_seq ?_
 refine' region [_] mixed hA (.cons (fun _ _ hE hK hg => ok_assign rfl) .nil) ?zok1 ?zgd1 ?zk1
 case zok1 | zgd1 => kernel_rfl
 intro a1 w1 hA hE HF
 replace q0 := kn (HF 0) rfl q0
 replace q1 := kn (HF 1) rfl q1
 clear HF
 replace hB := Base.step hB hE hO; clear hE
 refine li_nil (nx_then (wp_seq ?_))
 obtain ⟨x1, hx1, h⟩ := Comp.run_bind h
 obtain ⟨x2, hx2, h⟩ := Comp.run_bind h
 obtain ⟨x3, hx3, h⟩ := Comp.run_bind h
 obtain ⟨x4, hx4, h⟩ := Comp.run_bind h
 obtain ⟨x5, hx5, h⟩ := Comp.run_bind h
 refine' region [_, _, SP.isv (.string (str x1)), SP.isv (.string (str x2)), _, SP.isv (.string (str x3)), _, SP.isv (.string (str x4)), SP.isv (.string (str x5)), _] mixed hA (.cons (fun _ _ hE hK hg => ok_move (kn (hK 0 rfl) rfl q0)) (.cons (fun _ _ hE hK hg => okl_lenS ty9 (ksv (j := 0) (hK 5 rfl) rfl rfl rfl)) (.cons ?z2_2 (.cons (fun _ _ hE hK hg => okl_addS rfl (ksv (j := 2) (hK 7 rfl) rfl rfl rfl) hx2) (.cons (fun _ _ hE hK hg => ok_move (kn (hK 0 rfl) rfl q0)) (.cons (fun _ _ hE hK hg => okl_addS (ksv (j := 3) (hK 8 rfl) rfl rfl rfl) (ksv (j := 4) (hK 9 rfl) rfl rfl rfl) hx3) (.cons (fun _ _ hE hK hg => ok_move (kn (hK 1 rfl) rfl q1)) (.cons (fun _ _ hE hK hg => okl_addS (ksv (j := 5) (hK 10 rfl) rfl rfl rfl) (ksv (j := 6) (hK 11 rfl) rfl rfl rfl) hx4) (.cons ?z2_8 (.cons (fun _ _ hE hK hg => ok_assign (ksv (j := 8) (hK 13 rfl) rfl rfl rfl)) .nil)))))))))) ?zok2 ?zgd2 ?zk2
 case z2_2 => intro a' w' hE hK hg; have c_ := ok_colletref02_least4 (OkO.ext hB.ok hE)  hx1; exact ok_call1 fn72 (ksv (j := 1) (hK 6 rfl) rfl rfl rfl) c_
 case z2_8 => intro a' w' hE hK hg; have c_ := ok_colletref02_Of (OkO.ext hB.ok hE)  hx5; exact ok_call1 fn71 (ksv (j := 7) (hK 12 rfl) rfl rfl rfl) c_
 case zok2 | zgd2 => kernel_rfl
 intro a2 w2 hA hE HF
 have q4 := ksv (HF 4) rfl rfl rfl
 clear q0
 clear q1
 clear HF
 replace hB := Base.step hB hE hO; clear hE
 refine li_nil (nx_then (wp_ret ?_))
 have h := Comp.run_pure h; subst h
 exact retPure Try.results32 hA q4 hB.ext rfl
theorem ok_r7_link {O : Tags} {w0 : World} (hO : OkO O w0) {x_0 : aEn} {n : Nat} {y : Bytes} (h : (r7_link x_0).run n = some y) : Pure Try.prog 63 #[.agg #[.int .i64 x_0.Seq, .int .i64 x_0.Shop, .int .i64 x_0.Kind, .int .i64 x_0.Day, .int .i64 x_0.N, .string (str x_0.Before), .string (str x_0.After), .string (str x_0.Prev), .string (str x_0.Mark)]] w0 (SP.isv (.string (str y))).holds := by
 unfold r7_link at h
 refine pure_of_wp Try.func63 rfl 8 Try.ntmps63 (by simp) fun a0 hA hs0 => ?_
 have q0 : a0.get 0 = .agg #[.int .i64 x_0.Seq, .int .i64 x_0.Shop, .int .i64 x_0.Kind, .int .i64 x_0.Day, .int .i64 x_0.N, .string (str x_0.Before), .string (str x_0.After), .string (str x_0.Prev), .string (str x_0.Mark)] := hs0 0 _ rfl
 clear hs0
 have hB : Base (Fr w0) O w0 O w0 := Base.start hO
 refine wp_seq ?_
 refine' region [SP.vl (rBox r_aEn) O x_0, _] mixed hA (.cons ?z1_0 (.cons (fun _ _ hE hK hg => ok_assign rfl) .nil)) ?zok1 ?zgd1 ?zk1
 case z1_0 => intro a' w' hE hK hg; exact okl_boxV (r := r_aEn) fit_aEn (OkO.ext hB.ok hE) (kn (hK 0 rfl) rfl q0) (by first | exact (rC_v (x := x_0)).2 rfl | exact ⟨_, rfl, rfl⟩)
 case zok1 | zgd1 => kernel_rfl
 intro a1 w1 hA hE HF
 have f2 := ksp (HF 1) rfl rfl rfl
 obtain ⟨u1, q1'⟩ : ∃ u, a1.get 1 = u := ⟨_, rfl⟩
 rw [q1'] at f2
 have q1 := q1'; clear q1'
 clear q0
 clear HF
 replace hB := Base.step hB hE hO; clear hE
 refine li_nil (nx_then (wp_seq ?_))
 obtain ⟨x3, hx3, h⟩ := Comp.run_bind h
 obtain ⟨x4, hx4, h⟩ := Comp.run_bind h
 refine' region [SP.isv (.agg #[.int .i64 x_0.Seq, .int .i64 x_0.Shop, .int .i64 x_0.Kind, .int .i64 x_0.Day, .int .i64 x_0.N, .string (str x_0.Before), .string (str x_0.After), .string (str x_0.Prev), .string (str x_0.Mark)]), SP.isv (.string (str x3)), SP.ptr rStr O x_0.Mark, SP.isv (.string (str x_0.Mark)), SP.isv (.string (str x4)), _] mixed hA (.cons (fun _ _ hE hK hg => okl_ldr r_aEn fit_aEn ty26 rfl rfl (kn (hK 1 rfl) rfl q1) (ptr_of_box fit_aEn (GR.v_ext _ f2 hE)) (fun _ _ _ h => rC_v.1 h)) (.cons ?z2_1 (.cons (fun _ _ hE hK hg => okl_fldB (S := r_aEn) fit_aEn rfl (fun _ => rfl) sb_aEn_8 fl26_8 (kn (hK 1 rfl) rfl q1) (GR.v_ext _ f2 hE)) (.cons (fun _ _ hE hK hg => okl_ldr rStr (fun _ => rfl) ty9 rfl rfl rfl (kspS (φ := SP.ptr rStr O x_0.Mark) (j := 2) (hK 5 rfl) rfl rfl rfl) (fun _ _ _ h => rStr_v.1 h)) (.cons ?z2_4 (.cons (fun _ _ hE hK hg => ok_assign (ksv (j := 4) (hK 7 rfl) rfl rfl rfl)) .nil)))))) ?zok2 ?zgd2 ?zk2
 case z2_1 => intro a' w' hE hK hg; have c_ := ok_r7_Bytes (OkO.ext hB.ok hE)  hx3; exact ok_call1 fn18 (ksv (j := 0) (hK 3 rfl) rfl rfl rfl) c_
 case z2_4 => intro a' w' hE hK hg; have c_ := ok_colletref02_Chain (OkO.ext hB.ok hE)  hx4; exact ok_call2 fn32 (ksv (j := 1) (hK 4 rfl) rfl rfl rfl) (ksv (j := 3) (hK 6 rfl) rfl rfl rfl) c_
 case zok2 | zgd2 => kernel_rfl
 intro a2 w2 hA hE HF
 have q2 := ksv (HF 2) rfl rfl rfl
 clear q1
 clear HF
 replace f2 := GR.v_ext _ f2 hE
 replace hB := Base.step hB hE hO; clear hE
 refine li_nil (nx_then (wp_ret ?_))
 have h := Comp.run_pure h; subst h
 exact retPure Try.results63 hA q2 hB.ext rfl
theorem ok_r7_Next {O : Tags} {w0 : World} (hO : OkO O w0) {v_0 : Value} {x_0 : List aEn} (h_0 : (rSl r_aEn).v O w0 v_0 x_0) {x_1 : aEn} {n : Nat} {y : aEn} (h : (r7_Next x_0 x_1).run n = some y) : Pure Try.prog 22 #[v_0, .agg #[.int .i64 x_1.Seq, .int .i64 x_1.Shop, .int .i64 x_1.Kind, .int .i64 x_1.Day, .int .i64 x_1.N, .string (str x_1.Before), .string (str x_1.After), .string (str x_1.Prev), .string (str x_1.Mark)]] w0 (SP.isv (.agg #[.int .i64 y.Seq, .int .i64 y.Shop, .int .i64 y.Kind, .int .i64 y.Day, .int .i64 y.N, .string (str y.Before), .string (str y.After), .string (str y.Prev), .string (str y.Mark)])).holds := by
 unfold r7_Next at h
 refine pure_of_wp Try.func22 rfl 27 Try.ntmps22 (by simp) fun a0 hA hs0 => ?_
 have q0 : a0.get 0 = v_0 := hs0 0 _ rfl
 have q1 : a0.get 1 = .agg #[.int .i64 x_1.Seq, .int .i64 x_1.Shop, .int .i64 x_1.Kind, .int .i64 x_1.Day, .int .i64 x_1.N, .string (str x_1.Before), .string (str x_1.After), .string (str x_1.Prev), .string (str x_1.Mark)] := hs0 1 _ rfl
 clear hs0
 have hB : Base (Fr w0) O w0 O w0 := Base.start hO
 refine wp_seq ?_
 refine' regionT [SP.box w0.heap.size #[.int .i64 x_1.Seq, .int .i64 x_1.Shop, .int .i64 x_1.Kind, .int .i64 x_1.Day, .int .i64 x_1.N, .string (str x_1.Before), .string (str x_1.After), .string (str x_1.Prev), .string (str x_1.Mark)] 26] hA (.cons (fun _ _ hE hK hg => ok_box (v := .agg #[.int .i64 x_1.Seq, .int .i64 x_1.Shop, .int .i64 x_1.Kind, .int .i64 x_1.Day, .int .i64 x_1.N, .string (str x_1.Before), .string (str x_1.After), .string (str x_1.Prev), .string (str x_1.Mark)]) hE.size (kn (hK 1 rfl) rfl q1)) .nil) ?zok1 ?zgd1 ?zk1
 case zok1 | zgd1 => kernel_rfl
 intro a1 w1 hA hE HF
 replace q0 := kn (HF 0) rfl q0
 have f2 := ksp (HF 3) rfl rfl rfl
 obtain ⟨u1, q3'⟩ : ∃ u, a1.get 3 = u := ⟨_, rfl⟩
 rw [q3'] at f2
 have q3 := q3'; clear q3'
 clear q1
 clear HF
 obtain ⟨O3, b4, hB', hX, e_, f5⟩ := boxNew hO hB hE f2 1 (by decide)
 subst e_
 clear hB f2; have hB := hB'; clear hB'
 replace h_0 := GR.kx _ h_0 hX (by decide)
 clear hX hE
 refine l_ok (φ := SP.box w1.heap.size #[.int .i64 0, .int .i64 0, .int .i64 0, .int .i64 0, .int .i64 0, .string (str []), .string (str []), .string (str []), .string (str [])] 26) hO hB (by exact ok_alloc (Nat.le_refl _) ty26) rfl fun u6 w2 hE hB' f7 => ?_
 clear hB'; obtain ⟨O8, b10, hB', hX, e_, f9⟩ := boxNew hO hB hE f7 2 (by decide)
 subst e_; clear hB f7; have hB := hB'; clear hB'
 replace h_0 := GR.kx _ h_0 hX (by decide)
 replace f5 := f5.kx hX (by decide)
 clear hX hE
 refine put_cont hA (by decide) fun a3 hA q_ hfr => ?_
 replace q0 := (hfr 0 rfl).trans q0
 replace q3 := (hfr 3 rfl).trans q3
 have q4 := q_; clear q_ hfr
 refine li_nil (nx_then (wp_seq ?_))
 refine' regionT [_, _, SP.isv (.pointer (some ⟨b4, 0, none⟩))] hA (.cons (fun _ _ hE hK hg => ok_move (kn (hK 0 rfl) rfl q0)) (.cons (fun _ _ hE hK hg => okl_len (r := r_aEn) ty29 (ksv (j := 0) (hK 6 rfl) rfl rfl rfl) (rd_of (GR.v_ext _ h_0 hE))) (.cons (fun _ _ hE hK hg => ok_fieldAddr fl26_0 (kn (hK 3 rfl) rfl q3)) .nil))) ?zok2 ?zgd2 ?zk2
 case zok2 | zgd2 => kernel_rfl
 intro a4 w4 hA hE HF
 replace q0 := kn (HF 0) rfl q0
 replace q3 := kn (HF 3) rfl q3
 replace q4 := kn (HF 4) rfl q4
 have q7 := ksv (HF 7) rfl rfl rfl
 have q8 := ksv (HF 8) rfl rfl rfl
 clear HF
 replace h_0 := GR.v_ext _ h_0 hE
 replace f5 := f5.ext hE
 replace f9 := f9.ext hE
 replace hB := Base.step hB hE hO; clear hE
 refine l_store1 (cs' := #[.int .i64 (x_0.length : Int), .int .i64 x_1.Shop, .int .i64 x_1.Kind, .int .i64 x_1.Day, .int .i64 x_1.N, .string (str x_1.Before), .string (str x_1.After), .string (str x_1.Prev), .string (str x_1.Mark)]) hO hB (okB_fr hB) ty3 q8 q7 rfl rfl f5 (by simp) rfl fun w5 f11 hB' hX => ?_
 clear hB f5; have hB := hB'; clear hB'
 replace h_0 := GR.kx _ h_0 hX (by decide)
 replace f9 := f9.kx hX (by decide)
 clear hX
 refine li_nil (nx_then (wp_seq ?_))
 refine' regionT [SP.isv (.pointer (some ⟨b4, 8, none⟩))] hA (.cons (fun _ _ hE hK hg => ok_fieldAddr fl26_8 (kn (hK 3 rfl) rfl q3)) .nil) ?zok3 ?zgd3 ?zk3
 case zok3 | zgd3 => kernel_rfl
 intro a6 w6 hA hE HF
 replace q0 := kn (HF 0) rfl q0
 replace q3 := kn (HF 3) rfl q3
 replace q4 := kn (HF 4) rfl q4
 have q9 := ksv (HF 9) rfl rfl rfl
 clear HF
 replace h_0 := GR.v_ext _ h_0 hE
 replace f11 := f11.ext hE
 replace f9 := f9.ext hE
 replace hB := Base.step hB hE hO; clear hE
 refine l_store1 (cs' := #[.int .i64 (x_0.length : Int), .int .i64 x_1.Shop, .int .i64 x_1.Kind, .int .i64 x_1.Day, .int .i64 x_1.N, .string (str x_1.Before), .string (str x_1.After), .string (str x_1.Prev), .string (str ([] : Bytes))]) hO hB (okB_fr hB) ty9 q9 rfl rfl rfl f11 (by simp) rfl fun w7 f12 hB' hX => ?_
 clear hB f11; have hB := hB'; clear hB'
 replace h_0 := GR.kx _ h_0 hX (by decide)
 replace f9 := f9.kx hX (by decide)
 clear hX
 refine li_nil (nx_then (wp_seq ?_))
 refine' regionT [SP.isv (.pointer (some ⟨b4, 7, none⟩))] hA (.cons (fun _ _ hE hK hg => ok_fieldAddr fl26_7 (kn (hK 3 rfl) rfl q3)) .nil) ?zok4 ?zgd4 ?zk4
 case zok4 | zgd4 => kernel_rfl
 intro a8 w8 hA hE HF
 replace q0 := kn (HF 0) rfl q0
 replace q3 := kn (HF 3) rfl q3
 replace q4 := kn (HF 4) rfl q4
 have q10 := ksv (HF 10) rfl rfl rfl
 clear HF
 replace h_0 := GR.v_ext _ h_0 hE
 replace f12 := f12.ext hE
 replace f9 := f9.ext hE
 replace hB := Base.step hB hE hO; clear hE
 refine l_store1 (cs' := #[.int .i64 (x_0.length : Int), .int .i64 x_1.Shop, .int .i64 x_1.Kind, .int .i64 x_1.Day, .int .i64 x_1.N, .string (str x_1.Before), .string (str x_1.After), .string (str ([] : Bytes)), .string (str ([] : Bytes))]) hO hB (okB_fr hB) ty9 q10 rfl rfl rfl f12 (by simp) rfl fun w9 f13 hB' hX => ?_
 clear hB f12; have hB := hB'; clear hB'
 replace h_0 := GR.kx _ h_0 hX (by decide)
 replace f9 := f9.kx hX (by decide)
 clear hX
 refine li_nil (nx_then ?_)
 refine seq_join (fun a w => ∃ (O33 : Tags) (x24 : Int) (x25 : Int) (x26 : Int) (x27 : Int) (x28 : Int) (x29 : Bytes) (x30 : Bytes) (x31 : Bytes) (x32 : Bytes), a.fit 27 ∧ Base (Fr w0) O w0 O33 w ∧ a.get 3 = .pointer (some ⟨b4, 0, none⟩) ∧ a.get 4 = .pointer (some ⟨b10, 0, none⟩) ∧ OwnB 2 (Fr w0) O33 w b10 #[.int .i64 0, .int .i64 0, .int .i64 0, .int .i64 0, .int .i64 0, .string (str []), .string (str []), .string (str []), .string (str [])] 26 ∧ OwnB 1 (Fr w0) O33 w b4 #[.int .i64 x24, .int .i64 x25, .int .i64 x26, .int .i64 x27, .int .i64 x28, .string (str x29), .string (str x30), .string (str x31), .string (str x32)] 26 ∧ (r7_Next_j1 x24 x25 x26 x27 x28 x29 x30 x31 x32).run n = some y) ?_ ?_
 ·
  refine wp_seq ?_
  refine' region [_, _, _] mixed hA (.cons (fun _ _ hE hK hg => ok_move (kn (hK 0 rfl) rfl q0)) (.cons (fun _ _ hE hK hg => okl_len (r := r_aEn) ty29 (ksv (j := 0) (hK 11 rfl) rfl rfl rfl) (rd_of (GR.v_ext _ h_0 hE))) (.cons (fun _ _ hE hK hg => ok_gtr (ksv (j := 1) (hK 12 rfl) rfl rfl rfl) rfl) .nil))) ?zok5 ?zgd5 ?zk5
  case zok5 | zgd5 => kernel_rfl
  intro a10 w10 hA hE HF
  replace q0 := kn (HF 0) rfl q0
  replace q3 := kn (HF 3) rfl q3
  replace q4 := kn (HF 4) rfl q4
  have q13 := ksv (HF 13) rfl rfl rfl
  clear HF
  replace h_0 := GR.v_ext _ h_0 hE
  replace f13 := f13.ext hE
  replace f9 := f9.ext hE
  replace hB := Base.step hB hE hO; clear hE
  refine li_nil (nx_then ?_)
  refine wp_cond_b q13 (fun hc => ?_) (fun hc => ?_)
  ·
   replace h := Comp.run_b_t hc h; clear hc
   refine wp_seq ?_
   obtain ⟨x14, hx14, h⟩ := Comp.run_bind h
   refine' regionT [_, _, _, _, SP.ptr r_aEn O8 x14, SP.isv (.agg #[.int .i64 x14.Seq, .int .i64 x14.Shop, .int .i64 x14.Kind, .int .i64 x14.Day, .int .i64 x14.N, .string (str x14.Before), .string (str x14.After), .string (str x14.Prev), .string (str x14.Mark)])] hA (.cons (fun _ _ hE hK hg => ok_move (kn (hK 0 rfl) rfl q0)) (.cons (fun _ _ hE hK hg => ok_move (kn (hK 0 rfl) rfl q0)) (.cons (fun _ _ hE hK hg => okl_len (r := r_aEn) ty29 (ksv (j := 1) (hK 15 rfl) rfl rfl rfl) (rd_of (GR.v_ext _ h_0 hE))) (.cons (fun _ _ hE hK hg => ok_sub (ksv (j := 2) (hK 16 rfl) rfl rfl rfl) rfl) (.cons (fun _ _ hE hK hg => okl_idx (r := r_aEn) (O := O8) ty29 ty26 rfl (ksv (j := 0) (hK 14 rfl) rfl rfl rfl) (rd_of (GR.v_ext _ h_0 hE)) (ksv (j := 3) (hK 17 rfl) rfl rfl rfl) hx14) (.cons (fun _ _ hE hK hg => okl_ldr r_aEn fit_aEn ty26 rfl rfl rfl (kspS (φ := SP.ptr r_aEn O8 x14) (j := 4) (hK 18 rfl) rfl rfl rfl) (fun _ _ _ h => rC_v.1 h)) .nil)))))) ?zok6 ?zgd6 ?zk6
   case zok6 | zgd6 => kernel_rfl
   intro a11 w11 hA hE HF
   replace q3 := kn (HF 3) rfl q3
   replace q4 := kn (HF 4) rfl q4
   have q19 := ksv (HF 19) rfl rfl rfl
   clear q0
   clear q13
   clear HF
   replace h_0 := GR.v_ext _ h_0 hE
   replace f13 := f13.ext hE
   replace f9 := f9.ext hE
   replace hB := Base.step hB hE hO; clear hE
   refine l_ok (φ := SP.box w11.heap.size #[.int .i64 0, .int .i64 0, .int .i64 0, .int .i64 0, .int .i64 0, .string (str []), .string (str []), .string (str []), .string (str [])] 26) hO hB (by exact ok_alloc (Nat.le_refl _) ty26) rfl fun u15 w12 hE hB' f16 => ?_
   clear hB'; obtain ⟨O17, b19, hB', hX, e_, f18⟩ := boxNew hO hB hE f16 3 (by decide)
   subst e_; clear hB f16; have hB := hB'; clear hB'
   replace f13 := f13.kx hX (by decide)
   replace f9 := f9.kx hX (by decide)
   clear hX hE
   refine put_cont hA (by decide) fun a13 hA q_ hfr => ?_
   replace q3 := (hfr 3 rfl).trans q3
   replace q4 := (hfr 4 rfl).trans q4
   replace q19 := (hfr 19 rfl).trans q19
   have q5 := q_; clear q_ hfr
   refine l_storeSub (vs := [.int .i64 x14.Seq, .int .i64 x14.Shop, .int .i64 x14.Kind, .int .i64 x14.Day, .int .i64 x14.N, .string (str x14.Before), .string (str x14.After), .string (str x14.Prev), .string (str x14.Mark)]) (cs' := #[.int .i64 x14.Seq, .int .i64 x14.Shop, .int .i64 x14.Kind, .int .i64 x14.Day, .int .i64 x14.N, .string (str x14.Before), .string (str x14.After), .string (str x14.Prev), .string (str x14.Mark)]) hO hB (okB_fr hB) ty26 q5 q19 rfl (by simp [Value.oneCell']) f18 (by simp) rfl fun w14 f20 hB' hX => ?_
   clear hB f18; have hB := hB'; clear hB'
   replace f13 := f13.kx hX (by decide)
   replace f9 := f9.kx hX (by decide)
   clear hX
   refine li_nil (nx_then (wp_seq ?_))
   obtain ⟨x21, hx21, h⟩ := Comp.run_bind h
   refine' regionT [SP.isv (.agg #[.int .i64 x14.Seq, .int .i64 x14.Shop, .int .i64 x14.Kind, .int .i64 x14.Day, .int .i64 x14.N, .string (str x14.Before), .string (str x14.After), .string (str x14.Prev), .string (str x14.Mark)]), SP.isv (.string (str x21)), SP.isv (.pointer (some ⟨b4, 7, none⟩))] hA (.cons (fun _ _ hE hK hg => ok_loadOwnAgg ty26 rfl (kn (hK 5 rfl) rfl q5) (OwnB.ext f20 hE).own rfl) (.cons ?z7_1 (.cons (fun _ _ hE hK hg => ok_fieldAddr fl26_7 (kn (hK 3 rfl) rfl q3)) .nil))) ?zok7 ?zgd7 ?zk7
   case z7_1 => intro a' w' hE hK hg; have c_ := ok_r7_link (OkO.ext hB.ok hE)  hx21; exact ok_call1 fn63 (ksv (j := 0) (hK 20 rfl) rfl rfl rfl) c_
   case zok7 | zgd7 => kernel_rfl
   intro a15 w15 hA hE HF
   replace q3 := kn (HF 3) rfl q3
   replace q4 := kn (HF 4) rfl q4
   replace q5 := kn (HF 5) rfl q5
   have q21 := ksv (HF 21) rfl rfl rfl
   have q22 := ksv (HF 22) rfl rfl rfl
   clear HF
   replace f13 := f13.ext hE
   replace f9 := f9.ext hE
   replace f20 := f20.ext hE
   replace hB := Base.step hB hE hO; clear hE
   refine l_store1 (cs' := #[.int .i64 (x_0.length : Int), .int .i64 x_1.Shop, .int .i64 x_1.Kind, .int .i64 x_1.Day, .int .i64 x_1.N, .string (str x_1.Before), .string (str x_1.After), .string (str x21), .string (str ([] : Bytes))]) hO hB (okB_fr hB) ty9 q22 q21 rfl rfl f13 (by simp) rfl fun w16 f22 hB' hX => ?_
   clear hB f13; have hB := hB'; clear hB'
   replace f9 := f9.kx hX (by decide)
   replace f20 := f20.kx hX (by decide)
   clear hX
   refine li_nil (nx_then ?_)
   refine' regionT [SP.isv (.pointer (some ⟨b19, 6, none⟩)), SP.isv (.string (str x14.After)), SP.isv (.pointer (some ⟨b4, 5, none⟩))] hA (.cons (fun _ _ hE hK hg => ok_fieldAddr fl26_6 (kn (hK 5 rfl) rfl q5)) (.cons (fun _ _ hE hK hg => ok_loadOwn ty9 rfl (ksv (j := 0) (hK 23 rfl) rfl rfl rfl) (OwnB.ext f20 hE).own rfl) (.cons (fun _ _ hE hK hg => ok_fieldAddr fl26_5 (kn (hK 3 rfl) rfl q3)) .nil))) ?zok8 ?zgd8 ?zk8
   case zok8 | zgd8 => kernel_rfl
   intro a17 w17 hA hE HF
   replace q3 := kn (HF 3) rfl q3
   replace q4 := kn (HF 4) rfl q4
   have q24 := ksv (HF 24) rfl rfl rfl
   have q25 := ksv (HF 25) rfl rfl rfl
   clear q5
   clear HF
   replace f22 := f22.ext hE
   replace f9 := f9.ext hE
   replace f20 := f20.ext hE
   replace hB := Base.step hB hE hO; clear hE
   refine l_store1 (cs' := #[.int .i64 (x_0.length : Int), .int .i64 x_1.Shop, .int .i64 x_1.Kind, .int .i64 x_1.Day, .int .i64 x_1.N, .string (str x14.After), .string (str x_1.After), .string (str x21), .string (str ([] : Bytes))]) hO hB (okB_fr hB) ty9 q25 q24 rfl rfl f22 (by simp) rfl fun w18 f23 hB' hX => ?_
   clear hB f22; have hB := hB'; clear hB'
   replace f9 := f9.kx hX (by decide)
   clear hX
   refine li_nil (nx_then ?_)
   exact ⟨_, _, _, _, _, _, _, _, _, _, hA, hB, q3, q4, f9, f23, h⟩
  ·
   replace h := Comp.run_b_f hc h; clear hc
   refine wp_skip (nx_then ?_)
   exact ⟨_, _, _, _, _, _, _, _, _, _, hA, hB, q3, q4, f9, f13, h⟩
 intro a19 w19 hI
 clear hA hB h q0 q3 q4 f13 f9 h_0
 obtain ⟨O33, x24, x25, x26, x27, x28, x29, x30, x31, x32, hA, hB, q3, q4, f9, f23, h⟩ := hI
 unfold r7_Next_j1 at h
 refine wp_seq ?_
 refine' regionT [SP.isv (.agg #[.int .i64 x24, .int .i64 x25, .int .i64 x26, .int .i64 x27, .int .i64 x28, .string (str x29), .string (str x30), .string (str x31), .string (str x32)])] hA (.cons (fun _ _ hE hK hg => ok_loadOwnAgg ty26 rfl (kn (hK 3 rfl) rfl q3) (OwnB.ext f23 hE).own rfl) .nil) ?zok9 ?zgd9 ?zk9
 case zok9 | zgd9 => kernel_rfl
 intro a20 w20 hA hE HF
 replace q4 := kn (HF 4) rfl q4
 have q26 := ksv (HF 26) rfl rfl rfl
 clear q3
 clear HF
 replace f23 := f23.ext hE
 replace f9 := f9.ext hE
 replace hB := Base.step hB hE hO; clear hE
 refine l_storeSub (vs := [.int .i64 x24, .int .i64 x25, .int .i64 x26, .int .i64 x27, .int .i64 x28, .string (str x29), .string (str x30), .string (str x31), .string (str x32)]) (cs' := #[.int .i64 x24, .int .i64 x25, .int .i64 x26, .int .i64 x27, .int .i64 x28, .string (str x29), .string (str x30), .string (str x31), .string (str x32)]) hO hB (okB_fr hB) ty26 q4 q26 rfl (by simp [Value.oneCell']) f9 (by simp) rfl fun w21 f34 hB' hX => ?_
 clear hB f9; have hB := hB'; clear hB'
 clear hX
 refine li_nil (nx_then (wp_ret ?_))
 have h := Comp.run_pure h; subst h
 exact retG1 Try.results22 hA (.agg q4 ty26 rfl rfl f34.own) ⟨_, rfl, hB.ext, rfl⟩
theorem ok_colletref02_Mark {O : Tags} {w0 : World} (hO : OkO O w0) {x_0 : Bytes} {x_1 : Bytes} {n : Nat} {y : Bytes} (h : (colletref02_Mark x_0 x_1).run n = some y) : Pure Try.prog 61 #[.string (str x_0), .string (str x_1)] w0 (SP.isv (.string (str y))).holds := by
 unfold colletref02_Mark at h
 refine pure_of_wp Try.func61 rfl 20 Try.ntmps61 (by simp) fun a0 hA hs0 => ?_
 have q0 : a0.get 0 = .string (str x_0) := hs0 0 _ rfl
 have q1 : a0.get 1 = .string (str x_1) := hs0 1 _ rfl
 clear hs0
 have hB : Base (Fr w0) O w0 O w0 := Base.start hO
 refine wp_seq ?_
 refine' region [_] mixed hA (.cons (fun _ _ hE hK hg => ok_assign rfl) .nil) ?zok1 ?zgd1 ?zk1
 case zok1 | zgd1 => kernel_rfl
 intro a1 w1 hA hE HF
 replace q0 := kn (HF 0) rfl q0
 replace q1 := kn (HF 1) rfl q1
 clear HF
 replace hB := Base.step hB hE hO; clear hE
 refine li_nil (nx_then (wp_seq ?_))
 obtain ⟨x1, hx1, h⟩ := Comp.run_bind h
 obtain ⟨x2, hx2, h⟩ := Comp.run_bind h
 obtain ⟨x3, hx3, h⟩ := Comp.run_bind h
 obtain ⟨x4, hx4, h⟩ := Comp.run_bind h
 obtain ⟨x5, hx5, h⟩ := Comp.run_bind h
 obtain ⟨x6, hx6, h⟩ := Comp.run_bind h
 obtain ⟨x7, hx7, h⟩ := Comp.run_bind h
 obtain ⟨x8, hx8, h⟩ := Comp.run_bind h
 refine' region [_, _, SP.isv (.string (str x1)), SP.isv (.string (str x2)), _, SP.isv (.string (str x3)), _, _, SP.isv (.string (str x4)), SP.isv (.string (str x5)), _, SP.isv (.string (str x6)), _, SP.isv (.string (str x7)), SP.isv (.string (str x8)), _] mixed hA (.cons (fun _ _ hE hK hg => ok_move (kn (hK 0 rfl) rfl q0)) (.cons (fun _ _ hE hK hg => okl_lenS ty9 (ksv (j := 0) (hK 5 rfl) rfl rfl rfl)) (.cons ?z2_2 (.cons (fun _ _ hE hK hg => okl_addS rfl (ksv (j := 2) (hK 7 rfl) rfl rfl rfl) hx2) (.cons (fun _ _ hE hK hg => ok_move (kn (hK 0 rfl) rfl q0)) (.cons (fun _ _ hE hK hg => okl_addS (ksv (j := 3) (hK 8 rfl) rfl rfl rfl) (ksv (j := 4) (hK 9 rfl) rfl rfl rfl) hx3) (.cons (fun _ _ hE hK hg => ok_move (kn (hK 1 rfl) rfl q1)) (.cons (fun _ _ hE hK hg => okl_lenS ty9 (ksv (j := 6) (hK 11 rfl) rfl rfl rfl)) (.cons ?z2_8 (.cons (fun _ _ hE hK hg => okl_addS (ksv (j := 5) (hK 10 rfl) rfl rfl rfl) (ksv (j := 8) (hK 13 rfl) rfl rfl rfl) hx5) (.cons (fun _ _ hE hK hg => ok_move (kn (hK 1 rfl) rfl q1)) (.cons (fun _ _ hE hK hg => okl_addS (ksv (j := 9) (hK 14 rfl) rfl rfl rfl) (ksv (j := 10) (hK 15 rfl) rfl rfl rfl) hx6) (.cons (fun _ _ hE hK hg => ok_move (kn (hK 0 rfl) rfl q0)) (.cons (fun _ _ hE hK hg => okl_addS (ksv (j := 11) (hK 16 rfl) rfl rfl rfl) (ksv (j := 12) (hK 17 rfl) rfl rfl rfl) hx7) (.cons ?z2_14 (.cons (fun _ _ hE hK hg => ok_assign (ksv (j := 14) (hK 19 rfl) rfl rfl rfl)) .nil)))))))))))))))) ?zok2 ?zgd2 ?zk2
 case z2_2 => intro a' w' hE hK hg; have c_ := ok_colletref02_least4 (OkO.ext hB.ok hE)  hx1; exact ok_call1 fn72 (ksv (j := 1) (hK 6 rfl) rfl rfl rfl) c_
 case z2_8 => intro a' w' hE hK hg; have c_ := ok_colletref02_least4 (OkO.ext hB.ok hE)  hx4; exact ok_call1 fn72 (ksv (j := 7) (hK 12 rfl) rfl rfl rfl) c_
 case z2_14 => intro a' w' hE hK hg; have c_ := ok_colletref02_Of (OkO.ext hB.ok hE)  hx8; exact ok_call1 fn71 (ksv (j := 13) (hK 18 rfl) rfl rfl rfl) c_
 case zok2 | zgd2 => kernel_rfl
 intro a2 w2 hA hE HF
 have q4 := ksv (HF 4) rfl rfl rfl
 clear q0
 clear q1
 clear HF
 replace hB := Base.step hB hE hO; clear hE
 refine li_nil (nx_then (wp_ret ?_))
 have h := Comp.run_pure h; subst h
 exact retPure Try.results61 hA q4 hB.ext rfl
theorem ok_r7_Sign {O : Tags} {w0 : World} (hO : OkO O w0) {x_0 : Bytes} {x_1 : aEn} {n : Nat} {y : aEn} (h : (r7_Sign x_0 x_1).run n = some y) : Pure Try.prog 20 #[.string (str x_0), .agg #[.int .i64 x_1.Seq, .int .i64 x_1.Shop, .int .i64 x_1.Kind, .int .i64 x_1.Day, .int .i64 x_1.N, .string (str x_1.Before), .string (str x_1.After), .string (str x_1.Prev), .string (str x_1.Mark)]] w0 (SP.isv (.agg #[.int .i64 y.Seq, .int .i64 y.Shop, .int .i64 y.Kind, .int .i64 y.Day, .int .i64 y.N, .string (str y.Before), .string (str y.After), .string (str y.Prev), .string (str y.Mark)])).holds := by
 unfold r7_Sign at h
 refine pure_of_wp Try.func20 rfl 11 Try.ntmps20 (by simp) fun a0 hA hs0 => ?_
 have q0 : a0.get 0 = .string (str x_0) := hs0 0 _ rfl
 have q1 : a0.get 1 = .agg #[.int .i64 x_1.Seq, .int .i64 x_1.Shop, .int .i64 x_1.Kind, .int .i64 x_1.Day, .int .i64 x_1.N, .string (str x_1.Before), .string (str x_1.After), .string (str x_1.Prev), .string (str x_1.Mark)] := hs0 1 _ rfl
 clear hs0
 have hB : Base (Fr w0) O w0 O w0 := Base.start hO
 refine wp_seq ?_
 refine' regionT [SP.box w0.heap.size #[.int .i64 x_1.Seq, .int .i64 x_1.Shop, .int .i64 x_1.Kind, .int .i64 x_1.Day, .int .i64 x_1.N, .string (str x_1.Before), .string (str x_1.After), .string (str x_1.Prev), .string (str x_1.Mark)] 26] hA (.cons (fun _ _ hE hK hg => ok_box (v := .agg #[.int .i64 x_1.Seq, .int .i64 x_1.Shop, .int .i64 x_1.Kind, .int .i64 x_1.Day, .int .i64 x_1.N, .string (str x_1.Before), .string (str x_1.After), .string (str x_1.Prev), .string (str x_1.Mark)]) hE.size (kn (hK 1 rfl) rfl q1)) .nil) ?zok1 ?zgd1 ?zk1
 case zok1 | zgd1 => kernel_rfl
 intro a1 w1 hA hE HF
 replace q0 := kn (HF 0) rfl q0
 have f2 := ksp (HF 3) rfl rfl rfl
 obtain ⟨u1, q3'⟩ : ∃ u, a1.get 3 = u := ⟨_, rfl⟩
 rw [q3'] at f2
 have q3 := q3'; clear q3'
 clear q1
 clear HF
 obtain ⟨O3, b4, hB', hX, e_, f5⟩ := boxNew hO hB hE f2 1 (by decide)
 subst e_
 clear hB f2; have hB := hB'; clear hB'
 clear hX hE
 refine l_ok (φ := SP.box w1.heap.size #[.int .i64 0, .int .i64 0, .int .i64 0, .int .i64 0, .int .i64 0, .string (str []), .string (str []), .string (str []), .string (str [])] 26) hO hB (by exact ok_alloc (Nat.le_refl _) ty26) rfl fun u6 w2 hE hB' f7 => ?_
 clear hB'; obtain ⟨O8, b10, hB', hX, e_, f9⟩ := boxNew hO hB hE f7 2 (by decide)
 subst e_; clear hB f7; have hB := hB'; clear hB'
 replace f5 := f5.kx hX (by decide)
 clear hX hE
 refine put_cont hA (by decide) fun a3 hA q_ hfr => ?_
 replace q0 := (hfr 0 rfl).trans q0
 replace q3 := (hfr 3 rfl).trans q3
 have q4 := q_; clear q_ hfr
 refine li_nil (nx_then (wp_seq ?_))
 obtain ⟨x11, hx11, h⟩ := Comp.run_bind h
 obtain ⟨x12, hx12, h⟩ := Comp.run_bind h
 refine' regionT [_, SP.isv (.agg #[.int .i64 x_1.Seq, .int .i64 x_1.Shop, .int .i64 x_1.Kind, .int .i64 x_1.Day, .int .i64 x_1.N, .string (str x_1.Before), .string (str x_1.After), .string (str x_1.Prev), .string (str x_1.Mark)]), SP.isv (.string (str x11)), SP.isv (.string (str x12)), SP.isv (.pointer (some ⟨b4, 8, none⟩))] hA (.cons (fun _ _ hE hK hg => ok_move (kn (hK 0 rfl) rfl q0)) (.cons (fun _ _ hE hK hg => ok_loadOwnAgg ty26 rfl (kn (hK 3 rfl) rfl q3) (OwnB.ext f5 hE).own rfl) (.cons ?z2_2 (.cons ?z2_3 (.cons (fun _ _ hE hK hg => ok_fieldAddr fl26_8 (kn (hK 3 rfl) rfl q3)) .nil))))) ?zok2 ?zgd2 ?zk2
 case z2_2 => intro a' w' hE hK hg; have c_ := ok_r7_Bytes (OkO.ext hB.ok hE)  hx11; exact ok_call1 fn18 (ksv (j := 1) (hK 6 rfl) rfl rfl rfl) c_
 case z2_3 => intro a' w' hE hK hg; have c_ := ok_colletref02_Mark (OkO.ext hB.ok hE)  hx12; exact ok_call2 fn61 (ksv (j := 0) (hK 5 rfl) rfl rfl rfl) (ksv (j := 2) (hK 7 rfl) rfl rfl rfl) c_
 case zok2 | zgd2 => kernel_rfl
 intro a4 w4 hA hE HF
 replace q3 := kn (HF 3) rfl q3
 replace q4 := kn (HF 4) rfl q4
 have q8 := ksv (HF 8) rfl rfl rfl
 have q9 := ksv (HF 9) rfl rfl rfl
 clear q0
 clear HF
 replace f5 := f5.ext hE
 replace f9 := f9.ext hE
 replace hB := Base.step hB hE hO; clear hE
 refine l_store1 (cs' := #[.int .i64 x_1.Seq, .int .i64 x_1.Shop, .int .i64 x_1.Kind, .int .i64 x_1.Day, .int .i64 x_1.N, .string (str x_1.Before), .string (str x_1.After), .string (str x_1.Prev), .string (str x12)]) hO hB (okB_fr hB) ty9 q9 q8 rfl rfl f5 (by simp) rfl fun w5 f13 hB' hX => ?_
 clear hB f5; have hB := hB'; clear hB'
 replace f9 := f9.kx hX (by decide)
 clear hX
 refine li_nil (nx_then (wp_seq ?_))
 refine' regionT [SP.isv (.agg #[.int .i64 x_1.Seq, .int .i64 x_1.Shop, .int .i64 x_1.Kind, .int .i64 x_1.Day, .int .i64 x_1.N, .string (str x_1.Before), .string (str x_1.After), .string (str x_1.Prev), .string (str x12)])] hA (.cons (fun _ _ hE hK hg => ok_loadOwnAgg ty26 rfl (kn (hK 3 rfl) rfl q3) (OwnB.ext f13 hE).own rfl) .nil) ?zok3 ?zgd3 ?zk3
 case zok3 | zgd3 => kernel_rfl
 intro a6 w6 hA hE HF
 replace q4 := kn (HF 4) rfl q4
 have q10 := ksv (HF 10) rfl rfl rfl
 clear q3
 clear HF
 replace f13 := f13.ext hE
 replace f9 := f9.ext hE
 replace hB := Base.step hB hE hO; clear hE
 refine l_storeSub (vs := [.int .i64 x_1.Seq, .int .i64 x_1.Shop, .int .i64 x_1.Kind, .int .i64 x_1.Day, .int .i64 x_1.N, .string (str x_1.Before), .string (str x_1.After), .string (str x_1.Prev), .string (str x12)]) (cs' := #[.int .i64 x_1.Seq, .int .i64 x_1.Shop, .int .i64 x_1.Kind, .int .i64 x_1.Day, .int .i64 x_1.N, .string (str x_1.Before), .string (str x_1.After), .string (str x_1.Prev), .string (str x12)]) hO hB (okB_fr hB) ty26 q4 q10 rfl (by simp [Value.oneCell']) f9 (by simp) rfl fun w7 f14 hB' hX => ?_
 clear hB f9; have hB := hB'; clear hB'
 clear hX
 refine li_nil (nx_then (wp_ret ?_))
 have h := Comp.run_pure h; subst h
 exact retG1 Try.results20 hA (.agg q4 ty26 rfl rfl f14.own) ⟨_, rfl, hB.ext, rfl⟩
set_option maxHeartbeats 4000000 in
theorem ok_r7_Step {O : Tags} {w0 : World} (hO : OkO O w0) {v_0 : Value} {x_0 : List Bytes} (h_0 : (rSl rStr).v O w0 v_0 x_0) {v_1 : Value} {x_1 : List aEn} (h_1 : (rSl r_aEn).v O w0 v_1 x_1) {v_2 : Value} {x_2 : List Int} (h_2 : (rSl (rInt .i64)).v O w0 v_2 x_2) {n : Nat} {y : aEn} (h : (r7_Step x_0 x_1 x_2).run n = some y) : Pure Try.prog 36 #[v_0, v_1, v_2] w0 (SP.isv (.agg #[.int .i64 y.Seq, .int .i64 y.Shop, .int .i64 y.Kind, .int .i64 y.Day, .int .i64 y.N, .string (str y.Before), .string (str y.After), .string (str y.Prev), .string (str y.Mark)])).holds := by
 unfold r7_Step at h
 refine pure_of_wp Try.func36 rfl 74 Try.ntmps36 (by simp) fun a0 hA hs0 => ?_
 have q0 : a0.get 0 = v_0 := hs0 0 _ rfl
 have q1 : a0.get 1 = v_1 := hs0 1 _ rfl
 have q2 : a0.get 2 = v_2 := hs0 2 _ rfl
 clear hs0
 have hB : Base (Fr w0) O w0 O w0 := Base.start hO
 refine wp_seq ?_
 refine' region [SP.box w0.heap.size #[.int .i64 0, .int .i64 0, .int .i64 0, .int .i64 0, .int .i64 0, .string (str []), .string (str []), .string (str []), .string (str [])] 26] mixed hA (.cons (fun _ _ hE hK hg => ok_alloc hE.size ty26) .nil) ?zok1 ?zgd1 ?zk1
 case zok1 | zgd1 => kernel_rfl
 intro a1 w1 hA hE HF
 replace q0 := kn (HF 0) rfl q0
 replace q1 := kn (HF 1) rfl q1
 replace q2 := kn (HF 2) rfl q2
 have f2 := ksp (HF 6) rfl rfl rfl
 obtain ⟨u1, q6'⟩ : ∃ u, a1.get 6 = u := ⟨_, rfl⟩
 rw [q6'] at f2
 have q6 := q6'; clear q6'
 clear HF
 obtain ⟨O3, b4, hB', hX, e_, f5⟩ := boxNew hO hB hE f2 1 (by decide)
 subst e_
 clear hB f2; have hB := hB'; clear hB'
 replace h_0 := GR.kx _ h_0 hX (by decide)
 replace h_1 := GR.kx _ h_1 hX (by decide)
 replace h_2 := GR.kx _ h_2 hX (by decide)
 clear hX hE
 refine li_nil (nx_then (wp_seq ?_))
 refine' regionT [_] hA (.cons (fun _ _ hE hK hg => ok_move (kn (hK 2 rfl) rfl q2)) .nil) ?zok2 ?zgd2 ?zk2
 case zok2 | zgd2 => kernel_rfl
 intro a2 w2 hA hE HF
 replace q0 := kn (HF 0) rfl q0
 replace q1 := kn (HF 1) rfl q1
 replace q6 := kn (HF 6) rfl q6
 have q10 := ksv (HF 10) rfl rfl rfl
 clear q2
 clear HF
 replace h_0 := GR.v_ext _ h_0 hE
 replace h_1 := GR.v_ext _ h_1 hE
 replace h_2 := GR.v_ext _ h_2 hE
 replace f5 := f5.ext hE
 replace hB := Base.step hB hE hO; clear hE
 refine l_ok (φ := SP.isv (.agg #[v_2, .int .i64 0])) hO hB (by refine okl_build (vals := [(0, v_2)]) (out := [v_2, .int .i64 0]) plc108 ty108 ?_ rfl ?_ rfl; exact (pk_cons (v := v_2) q10 pk_nil); exact (.cons rfl (sl_cells h_2 rfl rfl) rfl (leb rfl) .nil)) rfl fun u_ w3 hE hB' hv_ => ?_
 replace hv_ := Eq.symm hv_; subst hv_; clear hB; have hB := hB'; clear hB'
 replace h_0 := GR.v_ext _ h_0 hE
 replace h_1 := GR.v_ext _ h_1 hE
 replace h_2 := GR.v_ext _ h_2 hE
 replace f5 := f5.ext hE
 clear hE
 refine put_cont hA (by decide) fun a4 hA q_ hfr => ?_
 replace q0 := (hfr 0 rfl).trans q0
 replace q1 := (hfr 1 rfl).trans q1
 replace q6 := (hfr 6 rfl).trans q6
 replace q10 := (hfr 10 rfl).trans q10
 have q11 := q_; clear q_ hfr
 refine l_ok (φ := SP.box w3.heap.size #[v_2, .int .i64 0] 108) hO hB (by exact ok_box (v := .agg #[v_2, .int .i64 0]) (Nat.le_refl _) q11) rfl fun u6 w5 hE hB' f7 => ?_
 clear hB'; obtain ⟨O8, b10, hB', hX, e_, f9⟩ := boxNew hO hB hE f7 2 (by decide)
 subst e_; clear hB f7; have hB := hB'; clear hB'
 replace h_0 := GR.kx _ h_0 hX (by decide)
 replace h_1 := GR.kx _ h_1 hX (by decide)
 replace h_2 := GR.kx _ h_2 hX (by decide)
 replace f5 := f5.kx hX (by decide)
 clear hX hE
 refine put_cont hA (by decide) fun a6 hA q_ hfr => ?_
 replace q0 := (hfr 0 rfl).trans q0
 replace q1 := (hfr 1 rfl).trans q1
 replace q6 := (hfr 6 rfl).trans q6
 replace q11 := (hfr 11 rfl).trans q11
 have q12 := q_; clear q_ hfr
 refine l_ok (φ := SP.isv (.pointer (some ⟨b10, 0, none⟩))) hO hB (by exact ok_assign q12) rfl fun u_ w7 hE hB' hv_ => ?_
 replace hv_ := Eq.symm hv_; subst hv_; clear hB; have hB := hB'; clear hB'
 replace h_0 := GR.v_ext _ h_0 hE
 replace h_1 := GR.v_ext _ h_1 hE
 replace f5 := f5.ext hE
 replace f9 := f9.ext hE
 replace h_2 := GR.v_ext _ h_2 hE
 clear hE
 refine put_cont hA (by decide) fun a8 hA q_ hfr => ?_
 replace q0 := (hfr 0 rfl).trans q0
 replace q1 := (hfr 1 rfl).trans q1
 replace q6 := (hfr 6 rfl).trans q6
 replace q12 := (hfr 12 rfl).trans q12
 have q7 := q_; clear q_ hfr
 refine li_nil (nx_then (wp_seq ?_))
 refine' regionT [_, _, _] hA (.cons (fun _ _ hE hK hg => ok_move (kn (hK 7 rfl) rfl q7)) (.cons (fun _ _ hE hK hg => ok_move (kn (hK 0 rfl) rfl q0)) (.cons (fun _ _ hE hK hg => okl_len (r := rStr) ty28 (ksv (j := 1) (hK 14 rfl) rfl rfl rfl) (rd_of (GR.v_ext _ h_0 hE))) .nil))) ?zok3 ?zgd3 ?zk3
 case zok3 | zgd3 => kernel_rfl
 intro a9 w9 hA hE HF
 replace q0 := kn (HF 0) rfl q0
 replace q1 := kn (HF 1) rfl q1
 replace q6 := kn (HF 6) rfl q6
 replace q7 := kn (HF 7) rfl q7
 have q13 := ksv (HF 13) rfl rfl rfl
 have q15 := ksv (HF 15) rfl rfl rfl
 clear HF
 replace h_0 := GR.v_ext _ h_0 hE
 replace h_1 := GR.v_ext _ h_1 hE
 replace f5 := f5.ext hE
 replace f9 := f9.ext hE
 replace h_2 := GR.v_ext _ h_2 hE
 replace hB := Base.step hB hE hO; clear hE
 obtain ⟨x11, hx11, h⟩ := Comp.run_bind h
 refine l_pio (r := r_r1_Draw) (x := (r1_Draw.mk x_2 0)) hO hB (okB_fr hB) fn74 (map2 q13 q15) (ok_r1_Draw_Next hB.ok (BoxO.arg (show BoxO 2 (Fr w0) O8 w9 b10 108 r_r1_Draw (r1_Draw.mk x_2 0) from ⟨_, f9, ⟨_, _, rfl, (rel_ofF (r := (rSl (rInt .i64))) h_2 rfl rfl), ⟨_, _, rfl, rfl, rfl⟩⟩⟩) (by decide)) hx11) ⟨_, f9, ⟨_, _, rfl, (rel_ofF (r := (rSl (rInt .i64))) h_2 rfl rfl), ⟨_, _, rfl, rfl, rfl⟩⟩⟩ fun u12 w10 f14 hB' hX f13 => ?_
 clear hB f9; have hB := hB'; clear hB'
 replace h_0 := GR.kx _ h_0 hX (by decide)
 replace h_1 := GR.kx _ h_1 hX (by decide)
 replace f5 := f5.kx hX (by decide)
 replace h_2 := GR.kx _ h_2 hX (by decide)
 clear hX
 have hz_ := f14; clear f14; obtain ⟨cs_, f15, hr_⟩ := hz_
 obtain ⟨u16, e_, f17⟩ := openR_r1_Draw hr_; subst e_
 replace f13 : _ = _ := f13; subst f13
 refine put_cont hA (by decide) fun a11 hA q_ hfr => ?_
 replace q0 := (hfr 0 rfl).trans q0
 replace q1 := (hfr 1 rfl).trans q1
 replace q6 := (hfr 6 rfl).trans q6
 replace q7 := (hfr 7 rfl).trans q7
 replace q13 := (hfr 13 rfl).trans q13
 replace q15 := (hfr 15 rfl).trans q15
 have q16 := q_; clear q_ hfr
 refine l_ok (φ := SP.isv (.pointer (some ⟨b10, 0, none⟩))) hO hB (by exact ok_move q7) rfl fun u_ w12 hE hB' hv_ => ?_
 replace hv_ := Eq.symm hv_; subst hv_; clear hB; have hB := hB'; clear hB'
 replace h_0 := GR.v_ext _ h_0 hE
 replace h_1 := GR.v_ext _ h_1 hE
 replace f5 := f5.ext hE
 replace f15 := f15.ext hE
 replace f17 := GR.v_ext _ f17 hE
 clear hE
 refine put_cont hA (by decide) fun a13 hA q_ hfr => ?_
 replace q0 := (hfr 0 rfl).trans q0
 replace q1 := (hfr 1 rfl).trans q1
 replace q6 := (hfr 6 rfl).trans q6
 replace q7 := (hfr 7 rfl).trans q7
 replace q16 := (hfr 16 rfl).trans q16
 have q17 := q_; clear q_ hfr
 obtain ⟨x18, hx18, h⟩ := Comp.run_bind h
 refine l_pio (r := r_r1_Draw) (x := x11.1) hO hB (okB_fr hB) fn74 (map2 q17 rfl) (ok_r1_Draw_Next hB.ok (BoxO.arg (show BoxO 2 (Fr w0) O8 w12 b10 108 r_r1_Draw x11.1 from ⟨_, f15, ⟨_, _, rfl, (rel_ofF (r := (rSl (rInt .i64))) f17 rfl rfl), ⟨_, _, rfl, rfl, rfl⟩⟩⟩) (by decide)) hx18) ⟨_, f15, ⟨_, _, rfl, (rel_ofF (r := (rSl (rInt .i64))) f17 rfl rfl), ⟨_, _, rfl, rfl, rfl⟩⟩⟩ fun u19 w14 f21 hB' hX f20 => ?_
 clear hB f15; have hB := hB'; clear hB'
 replace h_0 := GR.kx _ h_0 hX (by decide)
 replace h_1 := GR.kx _ h_1 hX (by decide)
 replace f5 := f5.kx hX (by decide)
 replace f17 := GR.kx _ f17 hX (by decide)
 clear hX
 have hz_ := f21; clear f21; obtain ⟨cs_, f22, hr_⟩ := hz_
 obtain ⟨u23, e_, f24⟩ := openR_r1_Draw hr_; subst e_
 replace f20 : _ = _ := f20; subst f20
 refine put_cont hA (by decide) fun a15 hA q_ hfr => ?_
 replace q0 := (hfr 0 rfl).trans q0
 replace q1 := (hfr 1 rfl).trans q1
 replace q6 := (hfr 6 rfl).trans q6
 replace q7 := (hfr 7 rfl).trans q7
 replace q16 := (hfr 16 rfl).trans q16
 replace q17 := (hfr 17 rfl).trans q17
 have q18 := q_; clear q_ hfr
 refine l_ok (φ := SP.isv (.pointer (some ⟨b10, 0, none⟩))) hO hB (by exact ok_move q7) rfl fun u_ w16 hE hB' hv_ => ?_
 replace hv_ := Eq.symm hv_; subst hv_; clear hB; have hB := hB'; clear hB'
 replace h_0 := GR.v_ext _ h_0 hE
 replace h_1 := GR.v_ext _ h_1 hE
 replace f5 := f5.ext hE
 replace f22 := f22.ext hE
 replace f24 := GR.v_ext _ f24 hE
 clear hE
 refine put_cont hA (by decide) fun a17 hA q_ hfr => ?_
 replace q0 := (hfr 0 rfl).trans q0
 replace q1 := (hfr 1 rfl).trans q1
 replace q6 := (hfr 6 rfl).trans q6
 replace q7 := (hfr 7 rfl).trans q7
 replace q16 := (hfr 16 rfl).trans q16
 replace q18 := (hfr 18 rfl).trans q18
 have q19 := q_; clear q_ hfr
 obtain ⟨x25, hx25, h⟩ := Comp.run_bind h
 refine l_pio (r := r_r1_Draw) (x := x18.1) hO hB (okB_fr hB) fn74 (map2 q19 rfl) (ok_r1_Draw_Next hB.ok (BoxO.arg (show BoxO 2 (Fr w0) O8 w16 b10 108 r_r1_Draw x18.1 from ⟨_, f22, ⟨_, _, rfl, (rel_ofF (r := (rSl (rInt .i64))) f24 rfl rfl), ⟨_, _, rfl, rfl, rfl⟩⟩⟩) (by decide)) hx25) ⟨_, f22, ⟨_, _, rfl, (rel_ofF (r := (rSl (rInt .i64))) f24 rfl rfl), ⟨_, _, rfl, rfl, rfl⟩⟩⟩ fun u26 w18 f28 hB' hX f27 => ?_
 clear hB f22; have hB := hB'; clear hB'
 replace h_0 := GR.kx _ h_0 hX (by decide)
 replace h_1 := GR.kx _ h_1 hX (by decide)
 replace f5 := f5.kx hX (by decide)
 replace f24 := GR.kx _ f24 hX (by decide)
 clear hX
 have hz_ := f28; clear f28; obtain ⟨cs_, f29, hr_⟩ := hz_
 obtain ⟨u30, e_, f31⟩ := openR_r1_Draw hr_; subst e_
 replace f27 : _ = _ := f27; subst f27
 refine put_cont hA (by decide) fun a19 hA q_ hfr => ?_
 replace q0 := (hfr 0 rfl).trans q0
 replace q1 := (hfr 1 rfl).trans q1
 replace q6 := (hfr 6 rfl).trans q6
 replace q7 := (hfr 7 rfl).trans q7
 replace q16 := (hfr 16 rfl).trans q16
 replace q18 := (hfr 18 rfl).trans q18
 replace q19 := (hfr 19 rfl).trans q19
 have q20 := q_; clear q_ hfr
 obtain ⟨x32, hx32, h⟩ := Comp.run_bind h
 refine l_ok (φ := SP.isv (.string (str x32))) hO hB (by have c_ := ok_r7_Root hB.ok  hx32; exact ok_call1 fn29 q20 c_) rfl fun u_ w20 hE hB' hv_ => ?_
 replace hv_ := Eq.symm hv_; subst hv_; clear hB; have hB := hB'; clear hB'
 replace h_0 := GR.v_ext _ h_0 hE
 replace h_1 := GR.v_ext _ h_1 hE
 replace f5 := f5.ext hE
 replace f29 := f29.ext hE
 replace f31 := GR.v_ext _ f31 hE
 clear hE
 refine put_cont hA (by decide) fun a21 hA q_ hfr => ?_
 replace q0 := (hfr 0 rfl).trans q0
 replace q1 := (hfr 1 rfl).trans q1
 replace q6 := (hfr 6 rfl).trans q6
 replace q7 := (hfr 7 rfl).trans q7
 replace q16 := (hfr 16 rfl).trans q16
 replace q18 := (hfr 18 rfl).trans q18
 replace q20 := (hfr 20 rfl).trans q20
 have q21 := q_; clear q_ hfr
 refine l_ok (φ := SP.isv (.agg #[.int .i64 0, .int .i64 x11.2, .int .i64 1, .int .i64 x18.2, .int .i64 0, .string (str []), .string (str x32), .string (str []), .string (str [])])) hO hB (by refine okl_build (vals := [(2, .int .i64 1), (1, .int .i64 x11.2), (3, .int .i64 x18.2), (6, .string (str x32))]) (out := [.int .i64 0, .int .i64 x11.2, .int .i64 1, .int .i64 x18.2, .int .i64 0, .string (str []), .string (str x32), .string (str []), .string (str [])]) plc26 ty26 ?_ rfl ?_ rfl; exact (pk_cons (v := .int .i64 1) rfl (pk_cons (v := .int .i64 x11.2) q16 (pk_cons (v := .int .i64 x18.2) q18 (pk_cons (v := .string (str x32)) q21 pk_nil)))); exact (.cons rfl rfl rfl (leb rfl) (.cons rfl rfl rfl (leb rfl) (.cons rfl rfl rfl (leb rfl) (.cons rfl rfl rfl (leb rfl) .nil))))) rfl fun u_ w22 hE hB' hv_ => ?_
 replace hv_ := Eq.symm hv_; subst hv_; clear hB; have hB := hB'; clear hB'
 replace h_0 := GR.v_ext _ h_0 hE
 replace h_1 := GR.v_ext _ h_1 hE
 replace f5 := f5.ext hE
 replace f29 := f29.ext hE
 replace f31 := GR.v_ext _ f31 hE
 clear hE
 refine put_cont hA (by decide) fun a23 hA q_ hfr => ?_
 replace q0 := (hfr 0 rfl).trans q0
 replace q1 := (hfr 1 rfl).trans q1
 replace q6 := (hfr 6 rfl).trans q6
 replace q7 := (hfr 7 rfl).trans q7
 replace q16 := (hfr 16 rfl).trans q16
 replace q18 := (hfr 18 rfl).trans q18
 replace q21 := (hfr 21 rfl).trans q21
 have q22 := q_; clear q_ hfr
 refine l_ok (φ := SP.box w22.heap.size #[.int .i64 0, .int .i64 0, .int .i64 0, .int .i64 0, .int .i64 0, .string (str []), .string (str []), .string (str []), .string (str [])] 26) hO hB (by exact ok_alloc (Nat.le_refl _) ty26) rfl fun u33 w24 hE hB' f34 => ?_
 clear hB'; obtain ⟨O35, b37, hB', hX, e_, f36⟩ := boxNew hO hB hE f34 3 (by decide)
 subst e_; clear hB f34; have hB := hB'; clear hB'
 replace h_0 := GR.kx _ h_0 hX (by decide)
 replace h_1 := GR.kx _ h_1 hX (by decide)
 replace f5 := f5.kx hX (by decide)
 replace f29 := f29.kx hX (by decide)
 replace f31 := GR.kx _ f31 hX (by decide)
 clear hX hE
 refine put_cont hA (by decide) fun a25 hA q_ hfr => ?_
 replace q0 := (hfr 0 rfl).trans q0
 replace q1 := (hfr 1 rfl).trans q1
 replace q6 := (hfr 6 rfl).trans q6
 replace q7 := (hfr 7 rfl).trans q7
 replace q22 := (hfr 22 rfl).trans q22
 have q8 := q_; clear q_ hfr
 refine l_storeSub (vs := [.int .i64 0, .int .i64 x11.2, .int .i64 1, .int .i64 x18.2, .int .i64 0, .string (str []), .string (str x32), .string (str []), .string (str [])]) (cs' := #[.int .i64 0, .int .i64 x11.2, .int .i64 1, .int .i64 x18.2, .int .i64 0, .string (str []), .string (str x32), .string (str []), .string (str [])]) hO hB (okB_fr hB) ty26 q8 q22 rfl (by simp [Value.oneCell']) f36 (by simp) rfl fun w26 f38 hB' hX => ?_
 clear hB f36; have hB := hB'; clear hB'
 replace h_0 := GR.kx _ h_0 hX (by decide)
 replace h_1 := GR.kx _ h_1 hX (by decide)
 replace f5 := f5.kx hX (by decide)
 replace f29 := f29.kx hX (by decide)
 replace f31 := GR.kx _ f31 hX (by decide)
 clear hX
 refine li_nil (nx_then ?_)
 refine seq_join (fun a w => ∃ (O102 : Tags) (x93 : Int) (x94 : Int) (x95 : Int) (x96 : Int) (x97 : Int) (x98 : Bytes) (x99 : Bytes) (x100 : Bytes) (x101 : Bytes), a.fit 74 ∧ Base (Fr w0) O w0 O102 w ∧ a.get 0 = v_0 ∧ (rSl rStr).v O102 w v_0 x_0 ∧ a.get 1 = v_1 ∧ (rSl r_aEn).v O102 w v_1 x_1 ∧ a.get 6 = .pointer (some ⟨b4, 0, none⟩) ∧ a.get 8 = .pointer (some ⟨b37, 0, none⟩) ∧ OwnB 3 (Fr w0) O102 w b37 #[.int .i64 x93, .int .i64 x94, .int .i64 x95, .int .i64 x96, .int .i64 x97, .string (str x98), .string (str x99), .string (str x100), .string (str x101)] 26 ∧ OwnB 1 (Fr w0) O102 w b4 #[.int .i64 0, .int .i64 0, .int .i64 0, .int .i64 0, .int .i64 0, .string (str []), .string (str []), .string (str []), .string (str [])] 26 ∧ (r7_Step_j1 x_0 x_1 x93 x94 x95 x96 x97 x98 x99 x100 x101).run n = some y) ?_ ?_
 ·
  refine wp_seq ?_
  refine' region [_, _, _] mixed hA (.cons (fun _ _ hE hK hg => ok_move (kn (hK 1 rfl) rfl q1)) (.cons (fun _ _ hE hK hg => okl_len (r := r_aEn) ty29 (ksv (j := 0) (hK 23 rfl) rfl rfl rfl) (rd_of (GR.v_ext _ h_1 hE))) (.cons (fun _ _ hE hK hg => ok_gtr (ksv (j := 1) (hK 24 rfl) rfl rfl rfl) rfl) .nil))) ?zok4 ?zgd4 ?zk4
  case zok4 | zgd4 => kernel_rfl
  intro a27 w27 hA hE HF
  replace q0 := kn (HF 0) rfl q0
  replace q1 := kn (HF 1) rfl q1
  replace q6 := kn (HF 6) rfl q6
  replace q7 := kn (HF 7) rfl q7
  replace q8 := kn (HF 8) rfl q8
  have q25 := ksv (HF 25) rfl rfl rfl
  clear HF
  replace h_0 := GR.v_ext _ h_0 hE
  replace h_1 := GR.v_ext _ h_1 hE
  replace f5 := f5.ext hE
  replace f29 := f29.ext hE
  replace f31 := GR.v_ext _ f31 hE
  replace f38 := f38.ext hE
  replace hB := Base.step hB hE hO; clear hE
  refine li_nil (nx_then ?_)
  refine wp_cond_b q25 (fun hc => ?_) (fun hc => ?_)
  ·
   replace h := Comp.run_b_t hc h; clear hc
   refine wp_seq ?_
   obtain ⟨x39, hx39, h⟩ := Comp.run_bind h
   refine' regionT [_, _, _, _, SP.ptr r_aEn O35 x39, SP.isv (.agg #[.int .i64 x39.Seq, .int .i64 x39.Shop, .int .i64 x39.Kind, .int .i64 x39.Day, .int .i64 x39.N, .string (str x39.Before), .string (str x39.After), .string (str x39.Prev), .string (str x39.Mark)])] hA (.cons (fun _ _ hE hK hg => ok_move (kn (hK 1 rfl) rfl q1)) (.cons (fun _ _ hE hK hg => ok_move (kn (hK 1 rfl) rfl q1)) (.cons (fun _ _ hE hK hg => okl_len (r := r_aEn) ty29 (ksv (j := 1) (hK 27 rfl) rfl rfl rfl) (rd_of (GR.v_ext _ h_1 hE))) (.cons (fun _ _ hE hK hg => ok_sub (ksv (j := 2) (hK 28 rfl) rfl rfl rfl) rfl) (.cons (fun _ _ hE hK hg => okl_idx (r := r_aEn) (O := O35) ty29 ty26 rfl (ksv (j := 0) (hK 26 rfl) rfl rfl rfl) (rd_of (GR.v_ext _ h_1 hE)) (ksv (j := 3) (hK 29 rfl) rfl rfl rfl) hx39) (.cons (fun _ _ hE hK hg => okl_ldr r_aEn fit_aEn ty26 rfl rfl rfl (kspS (φ := SP.ptr r_aEn O35 x39) (j := 4) (hK 30 rfl) rfl rfl rfl) (fun _ _ _ h => rC_v.1 h)) .nil)))))) ?zok5 ?zgd5 ?zk5
   case zok5 | zgd5 => kernel_rfl
   intro a28 w28 hA hE HF
   replace q0 := kn (HF 0) rfl q0
   replace q1 := kn (HF 1) rfl q1
   replace q6 := kn (HF 6) rfl q6
   replace q7 := kn (HF 7) rfl q7
   replace q8 := kn (HF 8) rfl q8
   have q31 := ksv (HF 31) rfl rfl rfl
   clear q25
   clear HF
   replace h_0 := GR.v_ext _ h_0 hE
   replace h_1 := GR.v_ext _ h_1 hE
   replace f5 := f5.ext hE
   replace f29 := f29.ext hE
   replace f31 := GR.v_ext _ f31 hE
   replace f38 := f38.ext hE
   replace hB := Base.step hB hE hO; clear hE
   refine l_ok (φ := SP.box w28.heap.size #[.int .i64 0, .int .i64 0, .int .i64 0, .int .i64 0, .int .i64 0, .string (str []), .string (str []), .string (str []), .string (str [])] 26) hO hB (by exact ok_alloc (Nat.le_refl _) ty26) rfl fun u40 w29 hE hB' f41 => ?_
   clear hB'; obtain ⟨O42, b44, hB', hX, e_, f43⟩ := boxNew hO hB hE f41 4 (by decide)
   subst e_; clear hB f41; have hB := hB'; clear hB'
   replace h_0 := GR.kx _ h_0 hX (by decide)
   replace h_1 := GR.kx _ h_1 hX (by decide)
   replace f5 := f5.kx hX (by decide)
   replace f29 := f29.kx hX (by decide)
   replace f31 := GR.kx _ f31 hX (by decide)
   replace f38 := f38.kx hX (by decide)
   clear hX hE
   refine put_cont hA (by decide) fun a30 hA q_ hfr => ?_
   replace q0 := (hfr 0 rfl).trans q0
   replace q1 := (hfr 1 rfl).trans q1
   replace q6 := (hfr 6 rfl).trans q6
   replace q7 := (hfr 7 rfl).trans q7
   replace q8 := (hfr 8 rfl).trans q8
   replace q31 := (hfr 31 rfl).trans q31
   have q9 := q_; clear q_ hfr
   refine l_storeSub (vs := [.int .i64 x39.Seq, .int .i64 x39.Shop, .int .i64 x39.Kind, .int .i64 x39.Day, .int .i64 x39.N, .string (str x39.Before), .string (str x39.After), .string (str x39.Prev), .string (str x39.Mark)]) (cs' := #[.int .i64 x39.Seq, .int .i64 x39.Shop, .int .i64 x39.Kind, .int .i64 x39.Day, .int .i64 x39.N, .string (str x39.Before), .string (str x39.After), .string (str x39.Prev), .string (str x39.Mark)]) hO hB (okB_fr hB) ty26 q9 q31 rfl (by simp [Value.oneCell']) f43 (by simp) rfl fun w31 f45 hB' hX => ?_
   clear hB f43; have hB := hB'; clear hB'
   replace h_0 := GR.kx _ h_0 hX (by decide)
   replace h_1 := GR.kx _ h_1 hX (by decide)
   replace f5 := f5.kx hX (by decide)
   replace f29 := f29.kx hX (by decide)
   replace f31 := GR.kx _ f31 hX (by decide)
   replace f38 := f38.kx hX (by decide)
   clear hX
   refine li_nil (nx_then (wp_seq ?_))
   refine' regionT [SP.vl (rSl (rInt .i64)) O42 [2, 2, 3, 4], _] hA (.cons (fun _ _ hE hK hg => okl_buildSliceV (r := (rInt .i64)) (fun _ => rfl) rfl (OkO.ext hB.ok hE) ty58 ty3 (parts_cons rfl (parts_cons rfl (parts_cons rfl (parts_cons rfl parts_nil)))) ⟨(by exact rInt_v.2 rfl), ⟨(by exact rInt_v.2 rfl), ⟨(by exact rInt_v.2 rfl), ⟨(by exact rInt_v.2 rfl), trivial⟩⟩⟩⟩ rfl (by decide)) (.cons (fun _ _ hE hK hg => ok_move (kn (hK 7 rfl) rfl q7)) .nil)) ?zok6 ?zgd6 ?zk6
   case zok6 | zgd6 => kernel_rfl
   intro a32 w32 hA hE HF
   replace q0 := kn (HF 0) rfl q0
   replace q1 := kn (HF 1) rfl q1
   replace q6 := kn (HF 6) rfl q6
   replace q7 := kn (HF 7) rfl q7
   replace q8 := kn (HF 8) rfl q8
   replace q9 := kn (HF 9) rfl q9
   have f47 := ksp (HF 32) rfl rfl rfl
   obtain ⟨u46, q32'⟩ : ∃ u, a32.get 32 = u := ⟨_, rfl⟩
   rw [q32'] at f47
   have q32 := q32'; clear q32'
   have q33 := ksv (HF 33) rfl rfl rfl
   clear HF
   replace h_0 := GR.v_ext _ h_0 hE
   replace h_1 := GR.v_ext _ h_1 hE
   replace f5 := f5.ext hE
   replace f29 := f29.ext hE
   replace f31 := GR.v_ext _ f31 hE
   replace f38 := f38.ext hE
   replace f45 := f45.ext hE
   replace hB := Base.step hB hE hO; clear hE
   obtain ⟨x48, hx48, h⟩ := Comp.run_bind h
   refine l_pio (r := r_r1_Draw) (x := x25.1) hO hB (okB_fr hB) fn74 (map2 q33 rfl) (ok_r1_Draw_Next hB.ok (BoxO.arg (show BoxO 2 (Fr w0) O42 w32 b10 108 r_r1_Draw x25.1 from ⟨_, f29, ⟨_, _, rfl, (rel_ofF (r := (rSl (rInt .i64))) f31 rfl rfl), ⟨_, _, rfl, rfl, rfl⟩⟩⟩) (by decide)) hx48) ⟨_, f29, ⟨_, _, rfl, (rel_ofF (r := (rSl (rInt .i64))) f31 rfl rfl), ⟨_, _, rfl, rfl, rfl⟩⟩⟩ fun u49 w33 f51 hB' hX f50 => ?_
   clear hB f29; have hB := hB'; clear hB'
   replace h_0 := GR.kx _ h_0 hX (by decide)
   replace h_1 := GR.kx _ h_1 hX (by decide)
   replace f47 := GR.kx _ f47 hX (by decide)
   replace f5 := f5.kx hX (by decide)
   replace f31 := GR.kx _ f31 hX (by decide)
   replace f38 := f38.kx hX (by decide)
   replace f45 := f45.kx hX (by decide)
   clear hX
   have hz_ := f51; clear f51; obtain ⟨cs_, f52, hr_⟩ := hz_
   obtain ⟨u53, e_, f54⟩ := openR_r1_Draw hr_; subst e_
   replace f50 : _ = _ := f50; subst f50
   refine put_cont hA (by decide) fun a34 hA q_ hfr => ?_
   replace q0 := (hfr 0 rfl).trans q0
   replace q1 := (hfr 1 rfl).trans q1
   replace q6 := (hfr 6 rfl).trans q6
   replace q7 := (hfr 7 rfl).trans q7
   replace q8 := (hfr 8 rfl).trans q8
   replace q9 := (hfr 9 rfl).trans q9
   replace q32 := (hfr 32 rfl).trans q32
   replace q33 := (hfr 33 rfl).trans q33
   have q34 := q_; clear q_ hfr
   obtain ⟨x55, hx55, h⟩ := Comp.run_bind h
   refine l_ok (φ := SP.ptr (rInt .i64) O42 x55) hO hB (by exact okl_idx (r := (rInt .i64)) (O := O42) ty58 ty3 rfl q32 (rd_of f47) q34 hx55) rfl fun u56 w35 hE hB' f57 => ?_
   clear hB; have hB := hB'; clear hB'
   replace h_0 := GR.v_ext _ h_0 hE
   replace h_1 := GR.v_ext _ h_1 hE
   replace f47 := GR.v_ext _ f47 hE
   replace f5 := f5.ext hE
   replace f52 := f52.ext hE
   replace f54 := GR.v_ext _ f54 hE
   replace f38 := f38.ext hE
   replace f45 := f45.ext hE
   clear hE
   refine put_cont hA (by decide) fun a36 hA q_ hfr => ?_
   replace q0 := (hfr 0 rfl).trans q0
   replace q1 := (hfr 1 rfl).trans q1
   replace q6 := (hfr 6 rfl).trans q6
   replace q7 := (hfr 7 rfl).trans q7
   replace q8 := (hfr 8 rfl).trans q8
   replace q9 := (hfr 9 rfl).trans q9
   replace q32 := (hfr 32 rfl).trans q32
   replace q34 := (hfr 34 rfl).trans q34
   have q35 := q_; clear q_ hfr
   refine l_ok (φ := SP.isv (.int .i64 x55)) hO hB (by exact okl_ldrv (rInt .i64) (fun _ => rfl) ty3 rfl rfl q35 f57 (fun _ _ _ h => rInt_v.1 h)) rfl fun u_ w37 hE hB' hv_ => ?_
   replace hv_ := Eq.symm hv_; subst hv_; clear hB; have hB := hB'; clear hB'
   replace h_0 := GR.v_ext _ h_0 hE
   replace h_1 := GR.v_ext _ h_1 hE
   replace f5 := f5.ext hE
   replace f52 := f52.ext hE
   replace f54 := GR.v_ext _ f54 hE
   replace f38 := f38.ext hE
   replace f45 := f45.ext hE
   clear hE
   refine put_cont hA (by decide) fun a38 hA q_ hfr => ?_
   replace q0 := (hfr 0 rfl).trans q0
   replace q1 := (hfr 1 rfl).trans q1
   replace q6 := (hfr 6 rfl).trans q6
   replace q7 := (hfr 7 rfl).trans q7
   replace q8 := (hfr 8 rfl).trans q8
   replace q9 := (hfr 9 rfl).trans q9
   replace q35 := (hfr 35 rfl).trans q35
   have q36 := q_; clear q_ hfr
   refine l_ok (φ := SP.isv (.pointer (some ⟨b37, 2, none⟩))) hO hB (by exact ok_fieldAddr fl26_2 q8) rfl fun u_ w39 hE hB' hv_ => ?_
   replace hv_ := Eq.symm hv_; subst hv_; clear hB; have hB := hB'; clear hB'
   replace h_0 := GR.v_ext _ h_0 hE
   replace h_1 := GR.v_ext _ h_1 hE
   replace f5 := f5.ext hE
   replace f52 := f52.ext hE
   replace f54 := GR.v_ext _ f54 hE
   replace f38 := f38.ext hE
   replace f45 := f45.ext hE
   clear hE
   refine put_cont hA (by decide) fun a40 hA q_ hfr => ?_
   replace q0 := (hfr 0 rfl).trans q0
   replace q1 := (hfr 1 rfl).trans q1
   replace q6 := (hfr 6 rfl).trans q6
   replace q7 := (hfr 7 rfl).trans q7
   replace q8 := (hfr 8 rfl).trans q8
   replace q9 := (hfr 9 rfl).trans q9
   replace q36 := (hfr 36 rfl).trans q36
   have q37 := q_; clear q_ hfr
   refine l_store1 (cs' := #[.int .i64 ((aEn.mk 0 x11.2 1 x18.2 0 [] x32 [] []).Seq), .int .i64 ((aEn.mk 0 x11.2 1 x18.2 0 [] x32 [] []).Shop), .int .i64 x55, .int .i64 ((aEn.mk 0 x11.2 1 x18.2 0 [] x32 [] []).Day), .int .i64 ((aEn.mk 0 x11.2 1 x18.2 0 [] x32 [] []).N), .string (str ((aEn.mk 0 x11.2 1 x18.2 0 [] x32 [] []).Before)), .string (str ((aEn.mk 0 x11.2 1 x18.2 0 [] x32 [] []).After)), .string (str ((aEn.mk 0 x11.2 1 x18.2 0 [] x32 [] []).Prev)), .string (str ((aEn.mk 0 x11.2 1 x18.2 0 [] x32 [] []).Mark))]) hO hB (okB_fr hB) ty3 q37 q36 rfl rfl f38 (by simp) rfl fun w41 f58 hB' hX => ?_
   clear hB f38; have hB := hB'; clear hB'
   replace h_0 := GR.kx _ h_0 hX (by decide)
   replace h_1 := GR.kx _ h_1 hX (by decide)
   replace f5 := f5.kx hX (by decide)
   replace f52 := f52.kx hX (by decide)
   replace f54 := GR.kx _ f54 hX (by decide)
   replace f45 := f45.kx hX (by decide)
   clear hX
   refine li_nil (nx_then (wp_seq ?_))
   obtain ⟨x59, hx59, h⟩ := Comp.run_bind h
   refine' regionT [SP.isv (.agg #[.int .i64 x39.Seq, .int .i64 x39.Shop, .int .i64 x39.Kind, .int .i64 x39.Day, .int .i64 x39.N, .string (str x39.Before), .string (str x39.After), .string (str x39.Prev), .string (str x39.Mark)]), SP.isv (.int .i64 x59), SP.isv (.pointer (some ⟨b37, 1, none⟩))] hA (.cons (fun _ _ hE hK hg => ok_loadOwnAgg ty26 rfl (kn (hK 9 rfl) rfl q9) (OwnB.ext f45 hE).own rfl) (.cons ?z7_1 (.cons (fun _ _ hE hK hg => ok_fieldAddr fl26_1 (kn (hK 8 rfl) rfl q8)) .nil))) ?zok7 ?zgd7 ?zk7
   case z7_1 => intro a' w' hE hK hg; have c_ := ok_r7_writer (OkO.ext hB.ok hE)  hx59; exact ok_call1 fn75 (ksv (j := 0) (hK 38 rfl) rfl rfl rfl) c_
   case zok7 | zgd7 => kernel_rfl
   intro a42 w42 hA hE HF
   replace q0 := kn (HF 0) rfl q0
   replace q1 := kn (HF 1) rfl q1
   replace q6 := kn (HF 6) rfl q6
   replace q7 := kn (HF 7) rfl q7
   replace q8 := kn (HF 8) rfl q8
   replace q9 := kn (HF 9) rfl q9
   have q39 := ksv (HF 39) rfl rfl rfl
   have q40 := ksv (HF 40) rfl rfl rfl
   clear HF
   replace h_0 := GR.v_ext _ h_0 hE
   replace h_1 := GR.v_ext _ h_1 hE
   replace f5 := f5.ext hE
   replace f52 := f52.ext hE
   replace f54 := GR.v_ext _ f54 hE
   replace f58 := f58.ext hE
   replace f45 := f45.ext hE
   replace hB := Base.step hB hE hO; clear hE
   refine l_store1 (cs' := #[.int .i64 ((aEn.mk 0 x11.2 1 x18.2 0 [] x32 [] []).Seq), .int .i64 x59, .int .i64 x55, .int .i64 ((aEn.mk 0 x11.2 1 x18.2 0 [] x32 [] []).Day), .int .i64 ((aEn.mk 0 x11.2 1 x18.2 0 [] x32 [] []).N), .string (str ((aEn.mk 0 x11.2 1 x18.2 0 [] x32 [] []).Before)), .string (str ((aEn.mk 0 x11.2 1 x18.2 0 [] x32 [] []).After)), .string (str ((aEn.mk 0 x11.2 1 x18.2 0 [] x32 [] []).Prev)), .string (str ((aEn.mk 0 x11.2 1 x18.2 0 [] x32 [] []).Mark))]) hO hB (okB_fr hB) ty3 q40 q39 rfl rfl f58 (by simp) rfl fun w43 f60 hB' hX => ?_
   clear hB f58; have hB := hB'; clear hB'
   replace h_0 := GR.kx _ h_0 hX (by decide)
   replace h_1 := GR.kx _ h_1 hX (by decide)
   replace f5 := f5.kx hX (by decide)
   replace f52 := f52.kx hX (by decide)
   replace f54 := GR.kx _ f54 hX (by decide)
   replace f45 := f45.kx hX (by decide)
   clear hX
   refine li_nil (nx_then (wp_seq ?_))
   refine' regionT [SP.isv (.pointer (some ⟨b44, 3, none⟩)), SP.isv (.int .i64 x39.Day), SP.isv (.pointer (some ⟨b37, 3, none⟩)), SP.isv (.int .i64 ((aEn.mk 0 x11.2 1 x18.2 0 [] x32 [] []).Day)), _, _, SP.isv (.pointer (some ⟨b37, 3, none⟩))] hA (.cons (fun _ _ hE hK hg => ok_fieldAddr fl26_3 (kn (hK 9 rfl) rfl q9)) (.cons (fun _ _ hE hK hg => ok_loadOwn ty3 rfl (ksv (j := 0) (hK 41 rfl) rfl rfl rfl) (OwnB.ext f45 hE).own rfl) (.cons (fun _ _ hE hK hg => ok_fieldAddr fl26_3 (kn (hK 8 rfl) rfl q8)) (.cons (fun _ _ hE hK hg => ok_loadOwn ty3 rfl (ksv (j := 2) (hK 43 rfl) rfl rfl rfl) (OwnB.ext f60 hE).own rfl) (.cons (fun _ _ hE hK hg => ok_quo (ksv (j := 3) (hK 44 rfl) rfl rfl rfl) rfl (by decide)) (.cons (fun _ _ hE hK hg => ok_add (ksv (j := 1) (hK 42 rfl) rfl rfl rfl) (ksv (j := 4) (hK 45 rfl) rfl rfl rfl)) (.cons (fun _ _ hE hK hg => ok_fieldAddr fl26_3 (kn (hK 8 rfl) rfl q8)) .nil))))))) ?zok8 ?zgd8 ?zk8
   case zok8 | zgd8 => kernel_rfl
   intro a44 w44 hA hE HF
   replace q0 := kn (HF 0) rfl q0
   replace q1 := kn (HF 1) rfl q1
   replace q6 := kn (HF 6) rfl q6
   replace q7 := kn (HF 7) rfl q7
   replace q8 := kn (HF 8) rfl q8
   replace q9 := kn (HF 9) rfl q9
   have q46 := ksv (HF 46) rfl rfl rfl
   have q47 := ksv (HF 47) rfl rfl rfl
   clear HF
   replace h_0 := GR.v_ext _ h_0 hE
   replace h_1 := GR.v_ext _ h_1 hE
   replace f5 := f5.ext hE
   replace f52 := f52.ext hE
   replace f54 := GR.v_ext _ f54 hE
   replace f60 := f60.ext hE
   replace f45 := f45.ext hE
   replace hB := Base.step hB hE hO; clear hE
   refine l_store1 (cs' := #[.int .i64 ((aEn.mk 0 x11.2 1 x18.2 0 [] x32 [] []).Seq), .int .i64 x59, .int .i64 x55, .int .i64 (IntKind.wrap .i64 (x39.Day + (IntKind.wrap .i64 (Int.tdiv ((aEn.mk 0 x11.2 1 x18.2 0 [] x32 [] []).Day) 3)))), .int .i64 ((aEn.mk 0 x11.2 1 x18.2 0 [] x32 [] []).N), .string (str ((aEn.mk 0 x11.2 1 x18.2 0 [] x32 [] []).Before)), .string (str ((aEn.mk 0 x11.2 1 x18.2 0 [] x32 [] []).After)), .string (str ((aEn.mk 0 x11.2 1 x18.2 0 [] x32 [] []).Prev)), .string (str ((aEn.mk 0 x11.2 1 x18.2 0 [] x32 [] []).Mark))]) hO hB (okB_fr hB) ty3 q47 q46 rfl rfl f60 (by simp) rfl fun w45 f61 hB' hX => ?_
   clear hB f60; have hB := hB'; clear hB'
   replace h_0 := GR.kx _ h_0 hX (by decide)
   replace h_1 := GR.kx _ h_1 hX (by decide)
   replace f5 := f5.kx hX (by decide)
   replace f52 := f52.kx hX (by decide)
   replace f54 := GR.kx _ f54 hX (by decide)
   replace f45 := f45.kx hX (by decide)
   clear hX
   refine li_nil (nx_then ?_)
   refine seq_join (fun a w => ∃ (O84 : Tags) (x70 : List Int) (x73 : Int) (x74 : Int) (x75 : Int) (x76 : Int) (x77 : Int) (x78 : Int) (x79 : Bytes) (x80 : Bytes) (x81 : Bytes) (x82 : Bytes) (u71 : Value), a.fit 74 ∧ Base (Fr w0) O w0 O84 w ∧ a.get 0 = v_0 ∧ (rSl rStr).v O84 w v_0 x_0 ∧ a.get 1 = v_1 ∧ (rSl r_aEn).v O84 w v_1 x_1 ∧ a.get 6 = .pointer (some ⟨b4, 0, none⟩) ∧ a.get 7 = .pointer (some ⟨b10, 0, none⟩) ∧ a.get 8 = .pointer (some ⟨b37, 0, none⟩) ∧ OwnB 2 (Fr w0) O84 w b10 #[u71, .int .i64 x73] 108 ∧ (rSl (rInt .i64)).v O84 w u71 x70 ∧ OwnB 3 (Fr w0) O84 w b37 #[.int .i64 x74, .int .i64 x75, .int .i64 x76, .int .i64 x77, .int .i64 x78, .string (str x79), .string (str x80), .string (str x81), .string (str x82)] 26 ∧ OwnB 1 (Fr w0) O84 w b4 #[.int .i64 0, .int .i64 0, .int .i64 0, .int .i64 0, .int .i64 0, .string (str []), .string (str []), .string (str []), .string (str [])] 26 ∧ (r7_Step_j2 x_0 x_1 x70 x73 x74 x75 x76 x77 x78 x79 x80 x81 x82).run n = some y) ?_ ?_
   ·
    refine wp_seq ?_
    refine' region [SP.isv (.pointer (some ⟨b37, 2, none⟩)), SP.isv (.int .i64 x55), _] mixed hA (.cons (fun _ _ hE hK hg => ok_fieldAddr fl26_2 (kn (hK 8 rfl) rfl q8)) (.cons (fun _ _ hE hK hg => ok_loadOwn ty3 rfl (ksv (j := 0) (hK 48 rfl) rfl rfl rfl) (OwnB.ext f61 hE).own rfl) (.cons (fun _ _ hE hK hg => ok_eqlI (ksv (j := 1) (hK 49 rfl) rfl rfl rfl) rfl) .nil))) ?zok9 ?zgd9 ?zk9
    case zok9 | zgd9 => kernel_rfl
    intro a46 w46 hA hE HF
    replace q0 := kn (HF 0) rfl q0
    replace q1 := kn (HF 1) rfl q1
    replace q6 := kn (HF 6) rfl q6
    replace q7 := kn (HF 7) rfl q7
    replace q8 := kn (HF 8) rfl q8
    replace q9 := kn (HF 9) rfl q9
    have q50 := ksv (HF 50) rfl rfl rfl
    clear HF
    replace h_0 := GR.v_ext _ h_0 hE
    replace h_1 := GR.v_ext _ h_1 hE
    replace f5 := f5.ext hE
    replace f52 := f52.ext hE
    replace f54 := GR.v_ext _ f54 hE
    replace f61 := f61.ext hE
    replace f45 := f45.ext hE
    replace hB := Base.step hB hE hO; clear hE
    refine li_nil (nx_then ?_)
    refine wp_cond_b q50 (fun hc => ?_) (fun hc => ?_)
    ·
     replace h := Comp.run_b_t hc h; clear hc
     refine' regionT [_] hA (.cons (fun _ _ hE hK hg => ok_move (kn (hK 7 rfl) rfl q7)) .nil) ?zok10 ?zgd10 ?zk10
     case zok10 | zgd10 => kernel_rfl
     intro a47 w47 hA hE HF
     replace q0 := kn (HF 0) rfl q0
     replace q1 := kn (HF 1) rfl q1
     replace q6 := kn (HF 6) rfl q6
     replace q7 := kn (HF 7) rfl q7
     replace q8 := kn (HF 8) rfl q8
     have q51 := ksv (HF 51) rfl rfl rfl
     clear q9
     clear q50
     clear HF
     replace h_0 := GR.v_ext _ h_0 hE
     replace h_1 := GR.v_ext _ h_1 hE
     replace f5 := f5.ext hE
     replace f52 := f52.ext hE
     replace f54 := GR.v_ext _ f54 hE
     replace f61 := f61.ext hE
     replace f45 := f45.ext hE
     replace hB := Base.step hB hE hO; clear hE
     obtain ⟨x62, hx62, h⟩ := Comp.run_bind h
     refine l_pio (r := r_r1_Draw) (x := x48.1) hO hB (okB_fr hB) fn74 (map2 q51 rfl) (ok_r1_Draw_Next hB.ok (BoxO.arg (show BoxO 2 (Fr w0) O42 w47 b10 108 r_r1_Draw x48.1 from ⟨_, f52, ⟨_, _, rfl, (rel_ofF (r := (rSl (rInt .i64))) f54 rfl rfl), ⟨_, _, rfl, rfl, rfl⟩⟩⟩) (by decide)) hx62) ⟨_, f52, ⟨_, _, rfl, (rel_ofF (r := (rSl (rInt .i64))) f54 rfl rfl), ⟨_, _, rfl, rfl, rfl⟩⟩⟩ fun u63 w48 f65 hB' hX f64 => ?_
     clear hB f52; have hB := hB'; clear hB'
     replace h_0 := GR.kx _ h_0 hX (by decide)
     replace h_1 := GR.kx _ h_1 hX (by decide)
     replace f5 := f5.kx hX (by decide)
     replace f54 := GR.kx _ f54 hX (by decide)
     replace f61 := f61.kx hX (by decide)
     clear hX
     have hz_ := f65; clear f65; obtain ⟨cs_, f66, hr_⟩ := hz_
     obtain ⟨u67, e_, f68⟩ := openR_r1_Draw hr_; subst e_
     replace f64 : _ = _ := f64; subst f64
     refine put_cont hA (by decide) fun a49 hA q_ hfr => ?_
     replace q0 := (hfr 0 rfl).trans q0
     replace q1 := (hfr 1 rfl).trans q1
     replace q6 := (hfr 6 rfl).trans q6
     replace q7 := (hfr 7 rfl).trans q7
     replace q8 := (hfr 8 rfl).trans q8
     replace q51 := (hfr 51 rfl).trans q51
     have q52 := q_; clear q_ hfr
     refine l_ok (φ := SP.isv (.pointer (some ⟨b37, 4, none⟩))) hO hB (by exact ok_fieldAddr fl26_4 q8) rfl fun u_ w50 hE hB' hv_ => ?_
     replace hv_ := Eq.symm hv_; subst hv_; clear hB; have hB := hB'; clear hB'
     replace h_0 := GR.v_ext _ h_0 hE
     replace h_1 := GR.v_ext _ h_1 hE
     replace f5 := f5.ext hE
     replace f66 := f66.ext hE
     replace f68 := GR.v_ext _ f68 hE
     replace f61 := f61.ext hE
     clear hE
     refine put_cont hA (by decide) fun a51 hA q_ hfr => ?_
     replace q0 := (hfr 0 rfl).trans q0
     replace q1 := (hfr 1 rfl).trans q1
     replace q6 := (hfr 6 rfl).trans q6
     replace q7 := (hfr 7 rfl).trans q7
     replace q8 := (hfr 8 rfl).trans q8
     replace q52 := (hfr 52 rfl).trans q52
     have q53 := q_; clear q_ hfr
     refine l_store1 (cs' := #[.int .i64 ((aEn.mk 0 x11.2 1 x18.2 0 [] x32 [] []).Seq), .int .i64 x59, .int .i64 x55, .int .i64 (IntKind.wrap .i64 (x39.Day + (IntKind.wrap .i64 (Int.tdiv ((aEn.mk 0 x11.2 1 x18.2 0 [] x32 [] []).Day) 3)))), .int .i64 x62.2, .string (str ((aEn.mk 0 x11.2 1 x18.2 0 [] x32 [] []).Before)), .string (str ((aEn.mk 0 x11.2 1 x18.2 0 [] x32 [] []).After)), .string (str ((aEn.mk 0 x11.2 1 x18.2 0 [] x32 [] []).Prev)), .string (str ((aEn.mk 0 x11.2 1 x18.2 0 [] x32 [] []).Mark))]) hO hB (okB_fr hB) ty3 q53 q52 rfl rfl f61 (by simp) rfl fun w52 f69 hB' hX => ?_
     clear hB f61; have hB := hB'; clear hB'
     replace h_0 := GR.kx _ h_0 hX (by decide)
     replace h_1 := GR.kx _ h_1 hX (by decide)
     replace f5 := f5.kx hX (by decide)
     replace f66 := f66.kx hX (by decide)
     replace f68 := GR.kx _ f68 hX (by decide)
     clear hX
     refine li_nil (nx_then ?_)
     exact ⟨_, _, _, _, _, _, _, _, _, _, _, _, _, hA, hB, q0, h_0, q1, h_1, q6, q7, q8, f66, f68, f69, f5, h⟩
    ·
     replace h := Comp.run_b_f hc h; clear hc
     refine' regionT [SP.isv (.pointer (some ⟨b44, 6, none⟩)), SP.isv (.string (str x39.After)), SP.isv (.pointer (some ⟨b37, 6, none⟩))] hA (.cons (fun _ _ hE hK hg => ok_fieldAddr fl26_6 (kn (hK 9 rfl) rfl q9)) (.cons (fun _ _ hE hK hg => ok_loadOwn ty9 rfl (ksv (j := 0) (hK 54 rfl) rfl rfl rfl) (OwnB.ext f45 hE).own rfl) (.cons (fun _ _ hE hK hg => ok_fieldAddr fl26_6 (kn (hK 8 rfl) rfl q8)) .nil))) ?zok11 ?zgd11 ?zk11
     case zok11 | zgd11 => kernel_rfl
     intro a53 w53 hA hE HF
     replace q0 := kn (HF 0) rfl q0
     replace q1 := kn (HF 1) rfl q1
     replace q6 := kn (HF 6) rfl q6
     replace q7 := kn (HF 7) rfl q7
     replace q8 := kn (HF 8) rfl q8
     have q55 := ksv (HF 55) rfl rfl rfl
     have q56 := ksv (HF 56) rfl rfl rfl
     clear q9
     clear q50
     clear HF
     replace h_0 := GR.v_ext _ h_0 hE
     replace h_1 := GR.v_ext _ h_1 hE
     replace f5 := f5.ext hE
     replace f52 := f52.ext hE
     replace f54 := GR.v_ext _ f54 hE
     replace f61 := f61.ext hE
     replace f45 := f45.ext hE
     replace hB := Base.step hB hE hO; clear hE
     refine l_store1 (cs' := #[.int .i64 ((aEn.mk 0 x11.2 1 x18.2 0 [] x32 [] []).Seq), .int .i64 x59, .int .i64 x55, .int .i64 (IntKind.wrap .i64 (x39.Day + (IntKind.wrap .i64 (Int.tdiv ((aEn.mk 0 x11.2 1 x18.2 0 [] x32 [] []).Day) 3)))), .int .i64 ((aEn.mk 0 x11.2 1 x18.2 0 [] x32 [] []).N), .string (str ((aEn.mk 0 x11.2 1 x18.2 0 [] x32 [] []).Before)), .string (str x39.After), .string (str ((aEn.mk 0 x11.2 1 x18.2 0 [] x32 [] []).Prev)), .string (str ((aEn.mk 0 x11.2 1 x18.2 0 [] x32 [] []).Mark))]) hO hB (okB_fr hB) ty9 q56 q55 rfl rfl f61 (by simp) rfl fun w54 f83 hB' hX => ?_
     clear hB f61; have hB := hB'; clear hB'
     replace h_0 := GR.kx _ h_0 hX (by decide)
     replace h_1 := GR.kx _ h_1 hX (by decide)
     replace f5 := f5.kx hX (by decide)
     replace f52 := f52.kx hX (by decide)
     replace f54 := GR.kx _ f54 hX (by decide)
     clear hX
     refine li_nil (nx_then ?_)
     exact ⟨_, _, _, _, _, _, _, _, _, _, _, _, _, hA, hB, q0, h_0, q1, h_1, q6, q7, q8, f52, f54, f83, f5, h⟩
   intro a55 w55 hI
   clear hA hB h q0 q1 q6 q7 q8 q9 f45 f5 f52 f54 f61 h_0 h_1
   obtain ⟨O84, x70, x73, x74, x75, x76, x77, x78, x79, x80, x81, x82, u71, hA, hB, q0, h_0, q1, h_1, q6, q7, q8, f66, f72, f69, f5, h⟩ := hI
   unfold r7_Step_j2 at h
   refine wp_seq ?_
   refine' region [SP.isv (.pointer (some ⟨b37, 2, none⟩)), SP.isv (.int .i64 x76), _] mixed hA (.cons (fun _ _ hE hK hg => ok_fieldAddr fl26_2 (kn (hK 8 rfl) rfl q8)) (.cons (fun _ _ hE hK hg => ok_loadOwn ty3 rfl (ksv (j := 0) (hK 57 rfl) rfl rfl rfl) (OwnB.ext f69 hE).own rfl) (.cons (fun _ _ hE hK hg => ok_eqlI (ksv (j := 1) (hK 58 rfl) rfl rfl rfl) rfl) .nil))) ?zok12 ?zgd12 ?zk12
   case zok12 | zgd12 => kernel_rfl
   intro a56 w56 hA hE HF
   replace q0 := kn (HF 0) rfl q0
   replace q1 := kn (HF 1) rfl q1
   replace q6 := kn (HF 6) rfl q6
   replace q7 := kn (HF 7) rfl q7
   replace q8 := kn (HF 8) rfl q8
   have q59 := ksv (HF 59) rfl rfl rfl
   clear HF
   replace h_0 := GR.v_ext _ h_0 hE
   replace h_1 := GR.v_ext _ h_1 hE
   replace f5 := f5.ext hE
   replace f66 := f66.ext hE
   replace f72 := GR.v_ext _ f72 hE
   replace f69 := f69.ext hE
   replace hB := Base.step hB hE hO; clear hE
   refine li_nil (nx_then ?_)
   refine wp_cond_b q59 (fun hc => ?_) (fun hc => ?_)
   ·
    replace h := Comp.run_b_t hc h; clear hc
    refine' regionT [_, _, _] hA (.cons (fun _ _ hE hK hg => ok_move (kn (hK 7 rfl) rfl q7)) (.cons (fun _ _ hE hK hg => ok_move (kn (hK 0 rfl) rfl q0)) (.cons (fun _ _ hE hK hg => okl_len (r := rStr) ty28 (ksv (j := 1) (hK 61 rfl) rfl rfl rfl) (rd_of (GR.v_ext _ h_0 hE))) .nil))) ?zok13 ?zgd13 ?zk13
    case zok13 | zgd13 => kernel_rfl
    intro a57 w57 hA hE HF
    replace q0 := kn (HF 0) rfl q0
    replace q1 := kn (HF 1) rfl q1
    replace q6 := kn (HF 6) rfl q6
    replace q8 := kn (HF 8) rfl q8
    have q60 := ksv (HF 60) rfl rfl rfl
    have q62 := ksv (HF 62) rfl rfl rfl
    clear q7
    clear q59
    clear HF
    replace h_0 := GR.v_ext _ h_0 hE
    replace h_1 := GR.v_ext _ h_1 hE
    replace f5 := f5.ext hE
    replace f66 := f66.ext hE
    replace f72 := GR.v_ext _ f72 hE
    replace f69 := f69.ext hE
    replace hB := Base.step hB hE hO; clear hE
    obtain ⟨x85, hx85, h⟩ := Comp.run_bind h
    refine l_pio (r := r_r1_Draw) (x := (r1_Draw.mk x70 x73)) hO hB (okB_fr hB) fn74 (map2 q60 q62) (ok_r1_Draw_Next hB.ok (BoxO.arg (show BoxO 2 (Fr w0) O84 w57 b10 108 r_r1_Draw (r1_Draw.mk x70 x73) from ⟨_, f66, ⟨_, _, rfl, (rel_ofF (r := (rSl (rInt .i64))) f72 rfl rfl), ⟨_, _, rfl, rfl, rfl⟩⟩⟩) (by decide)) hx85) ⟨_, f66, ⟨_, _, rfl, (rel_ofF (r := (rSl (rInt .i64))) f72 rfl rfl), ⟨_, _, rfl, rfl, rfl⟩⟩⟩ fun u86 w58 f88 hB' hX f87 => ?_
    clear hB f66; have hB := hB'; clear hB'
    replace h_0 := GR.kx _ h_0 hX (by decide)
    replace h_1 := GR.kx _ h_1 hX (by decide)
    replace f5 := f5.kx hX (by decide)
    replace f72 := GR.kx _ f72 hX (by decide)
    replace f69 := f69.kx hX (by decide)
    clear hX
    have hz_ := f88; clear f88; obtain ⟨cs_, f89, hr_⟩ := hz_
    obtain ⟨u90, e_, f91⟩ := openR_r1_Draw hr_; subst e_
    replace f87 : _ = _ := f87; subst f87
    refine put_cont hA (by decide) fun a59 hA q_ hfr => ?_
    replace q0 := (hfr 0 rfl).trans q0
    replace q1 := (hfr 1 rfl).trans q1
    replace q6 := (hfr 6 rfl).trans q6
    replace q8 := (hfr 8 rfl).trans q8
    replace q60 := (hfr 60 rfl).trans q60
    replace q62 := (hfr 62 rfl).trans q62
    have q63 := q_; clear q_ hfr
    refine l_ok (φ := SP.isv (.pointer (some ⟨b37, 4, none⟩))) hO hB (by exact ok_fieldAddr fl26_4 q8) rfl fun u_ w60 hE hB' hv_ => ?_
    replace hv_ := Eq.symm hv_; subst hv_; clear hB; have hB := hB'; clear hB'
    replace h_0 := GR.v_ext _ h_0 hE
    replace h_1 := GR.v_ext _ h_1 hE
    replace f5 := f5.ext hE
    replace f69 := f69.ext hE
    clear hE
    refine put_cont hA (by decide) fun a61 hA q_ hfr => ?_
    replace q0 := (hfr 0 rfl).trans q0
    replace q1 := (hfr 1 rfl).trans q1
    replace q6 := (hfr 6 rfl).trans q6
    replace q8 := (hfr 8 rfl).trans q8
    replace q63 := (hfr 63 rfl).trans q63
    have q64 := q_; clear q_ hfr
    refine l_store1 (cs' := #[.int .i64 x74, .int .i64 x75, .int .i64 x76, .int .i64 x77, .int .i64 x85.2, .string (str x79), .string (str x80), .string (str x81), .string (str x82)]) hO hB (okB_fr hB) ty3 q64 q63 rfl rfl f69 (by simp) rfl fun w62 f92 hB' hX => ?_
    clear hB f69; have hB := hB'; clear hB'
    replace h_0 := GR.kx _ h_0 hX (by decide)
    replace h_1 := GR.kx _ h_1 hX (by decide)
    replace f5 := f5.kx hX (by decide)
    clear hX
    refine li_nil (nx_then ?_)
    exact ⟨_, _, _, _, _, _, _, _, _, _, hA, hB, q0, h_0, q1, h_1, q6, q8, f92, f5, h⟩
   ·
    replace h := Comp.run_b_f hc h; clear hc
    refine wp_skip (nx_then ?_)
    exact ⟨_, _, _, _, _, _, _, _, _, _, hA, hB, q0, h_0, q1, h_1, q6, q8, f69, f5, h⟩
  ·
   replace h := Comp.run_b_f hc h; clear hc
   refine wp_skip (nx_then ?_)
   exact ⟨_, _, _, _, _, _, _, _, _, _, hA, hB, q0, h_0, q1, h_1, q6, q8, f38, f5, h⟩
 intro a63 w63 hI
 clear hA hB h q0 q1 q6 q7 q8 f29 f31 f38 f5 h_0 h_1
 obtain ⟨O102, x93, x94, x95, x96, x97, x98, x99, x100, x101, hA, hB, q0, h_0, q1, h_1, q6, q8, f92, f5, h⟩ := hI
 unfold r7_Step_j1 at h
 refine wp_seq ?_
 obtain ⟨x103, hx103, h⟩ := Comp.run_bind h
 obtain ⟨x104, hx104, h⟩ := Comp.run_bind h
 obtain ⟨x105, hx105, h⟩ := Comp.run_bind h
 refine' region [_, SP.isv (.pointer (some ⟨b37, 1, none⟩)), SP.isv (.int .i64 x94), SP.ptr rStr O102 x103, SP.isv (.string (str x103)), _, SP.isv (.agg #[.int .i64 x93, .int .i64 x94, .int .i64 x95, .int .i64 x96, .int .i64 x97, .string (str x98), .string (str x99), .string (str x100), .string (str x101)]), SP.isv (.agg #[.int .i64 x104.Seq, .int .i64 x104.Shop, .int .i64 x104.Kind, .int .i64 x104.Day, .int .i64 x104.N, .string (str x104.Before), .string (str x104.After), .string (str x104.Prev), .string (str x104.Mark)]), SP.isv (.agg #[.int .i64 x105.Seq, .int .i64 x105.Shop, .int .i64 x105.Kind, .int .i64 x105.Day, .int .i64 x105.N, .string (str x105.Before), .string (str x105.After), .string (str x105.Prev), .string (str x105.Mark)])] mixed hA (.cons (fun _ _ hE hK hg => ok_move (kn (hK 0 rfl) rfl q0)) (.cons (fun _ _ hE hK hg => ok_fieldAddr fl26_1 (kn (hK 8 rfl) rfl q8)) (.cons (fun _ _ hE hK hg => ok_loadOwn ty3 rfl (ksv (j := 1) (hK 66 rfl) rfl rfl rfl) (OwnB.ext f92 hE).own rfl) (.cons (fun _ _ hE hK hg => okl_idx (r := rStr) (O := O102) ty28 ty9 rfl (ksv (j := 0) (hK 65 rfl) rfl rfl rfl) (rd_of (GR.v_ext _ h_0 hE)) (ksv (j := 2) (hK 67 rfl) rfl rfl rfl) hx103) (.cons (fun _ _ hE hK hg => okl_ldr rStr (fun _ => rfl) ty9 rfl rfl rfl (kspS (φ := SP.ptr rStr O102 x103) (j := 3) (hK 68 rfl) rfl rfl rfl) (fun _ _ _ h => rStr_v.1 h)) (.cons (fun _ _ hE hK hg => ok_move (kn (hK 1 rfl) rfl q1)) (.cons (fun _ _ hE hK hg => ok_loadOwnAgg ty26 rfl (kn (hK 8 rfl) rfl q8) (OwnB.ext f92 hE).own rfl) (.cons ?z14_7 (.cons ?z14_8 .nil))))))))) ?zok14 ?zgd14 ?zk14
 case z14_7 => intro a' w' hE hK hg; have c_ := ok_r7_Next (OkO.ext hB.ok hE) (GR.v_ext _ h_1 hE) hx104; exact ok_call2 fn22 (ksv (j := 5) (hK 70 rfl) rfl rfl rfl) (ksv (j := 6) (hK 71 rfl) rfl rfl rfl) c_
 case z14_8 => intro a' w' hE hK hg; have c_ := ok_r7_Sign (OkO.ext hB.ok hE)  hx105; exact ok_call2 fn20 (ksv (j := 4) (hK 69 rfl) rfl rfl rfl) (ksv (j := 7) (hK 72 rfl) rfl rfl rfl) c_
 case zok14 | zgd14 => kernel_rfl
 intro a64 w64 hA hE HF
 replace q6 := kn (HF 6) rfl q6
 have q73 := ksv (HF 73) rfl rfl rfl
 clear q0
 clear q1
 clear q8
 clear HF
 replace h_0 := GR.v_ext _ h_0 hE
 replace h_1 := GR.v_ext _ h_1 hE
 replace f5 := f5.ext hE
 replace f92 := f92.ext hE
 replace hB := Base.step hB hE hO; clear hE
 refine l_storeSub (vs := [.int .i64 x105.Seq, .int .i64 x105.Shop, .int .i64 x105.Kind, .int .i64 x105.Day, .int .i64 x105.N, .string (str x105.Before), .string (str x105.After), .string (str x105.Prev), .string (str x105.Mark)]) (cs' := #[.int .i64 x105.Seq, .int .i64 x105.Shop, .int .i64 x105.Kind, .int .i64 x105.Day, .int .i64 x105.N, .string (str x105.Before), .string (str x105.After), .string (str x105.Prev), .string (str x105.Mark)]) hO hB (okB_fr hB) ty26 q6 q73 rfl (by simp [Value.oneCell']) f5 (by simp) rfl fun w65 f106 hB' hX => ?_
 clear hB f5; have hB := hB'; clear hB'
 clear hX
 refine li_nil (nx_then (wp_ret ?_))
 have h := Comp.run_pure h; subst h
 exact retG1 Try.results36 hA (.agg q6 ty26 rfl rfl f106.own) ⟨_, rfl, hB.ext, rfl⟩
theorem ok_r7_Made {O : Tags} {w0 : World} (hO : OkO O w0) {v_0 : Value} {x_0 : List Bytes} (h_0 : (rSl rStr).v O w0 v_0 x_0) {v_1 : Value} {x_1 : List (List Int)} (h_1 : (rSl (rSl (rInt .i64))).v O w0 v_1 x_1) {x_2 : Int} {n : Nat} {y : (List aEn)} (h : (r7_Made x_0 x_1 x_2).run n = some y) : Pure Try.prog 54 #[v_0, v_1, .int .i64 x_2] w0 (SP.ownr r_aEn 26 (w0.heap.size) O y).holds := by
 unfold r7_Made at h
 refine pure_of_wp Try.func54 rfl 31 Try.ntmps54 (by simp) fun a0 hA hs0 => ?_
 have q0 : a0.get 0 = v_0 := hs0 0 _ rfl
 have q1 : a0.get 1 = v_1 := hs0 1 _ rfl
 have q2 : a0.get 2 = .int .i64 x_2 := hs0 2 _ rfl
 clear hs0
 have hB : Base (Fr w0) O w0 O w0 := Base.start hO
 refine wp_seq ?_
 refine' region [_] mixed hA (.cons (fun _ _ hE hK hg => ok_assign rfl) .nil) ?zok1 ?zgd1 ?zk1
 case zok1 | zgd1 => kernel_rfl
 intro a1 w1 hA hE HF
 replace q0 := kn (HF 0) rfl q0
 replace q1 := kn (HF 1) rfl q1
 replace q2 := kn (HF 2) rfl q2
 clear HF
 replace h_0 := GR.v_ext _ h_0 hE
 replace h_1 := GR.v_ext _ h_1 hE
 replace hB := Base.step hB hE hO; clear hE
 refine li_nil (nx_then (wp_seq ?_))
 refine' region [_] mixed hA (.cons (fun _ _ hE hK hg => ok_assign rfl) .nil) ?zok2 ?zgd2 ?zk2
 case zok2 | zgd2 => kernel_rfl
 intro a2 w2 hA hE HF
 replace q0 := kn (HF 0) rfl q0
 replace q1 := kn (HF 1) rfl q1
 replace q2 := kn (HF 2) rfl q2
 have q7 := ksv (HF 7) rfl rfl rfl
 clear HF
 replace h_0 := GR.v_ext _ h_0 hE
 replace h_1 := GR.v_ext _ h_1 hE
 replace hB := Base.step hB hE hO; clear hE
 refine li_nil (nx_then ?_)
 refine seq_join (fun a w => ∃ (O20 : Tags) (x17 : List aEn) (u18 : Value), a.fit 31 ∧ Base (Fr w0) O w0 O20 w ∧ a.get 7 = u18 ∧ OwnL 1 r_aEn 26 (Fr w0) O20 w u18 x17 ∧ (r7_Made_j1 x17).run n = some y) ?_ ?_
 ·
  refine wp_seq ?_
  refine' region [_] mixed hA (.cons (fun _ _ hE hK hg => ok_assign rfl) .nil) ?zok3 ?zgd3 ?zk3
  case zok3 | zgd3 => kernel_rfl
  intro a3 w3 hA hE HF
  replace q0 := kn (HF 0) rfl q0
  replace q1 := kn (HF 1) rfl q1
  replace q2 := kn (HF 2) rfl q2
  replace q7 := kn (HF 7) rfl q7
  have q8 := ksv (HF 8) rfl rfl rfl
  clear HF
  replace h_0 := GR.v_ext _ h_0 hE
  replace h_1 := GR.v_ext _ h_1 hE
  replace hB := Base.step hB hE hO; clear hE
  refine li_nil (nx_then (wp_block ?_))
  obtain ⟨e2, he2, hk2⟩ := Comp.run_bind h; clear h
  refine loop_m (fun m a w => ∃ (O5 : Tags) (x1 : List aEn) (x4 : Int) (u2 : Value), a.fit 31 ∧ Base (Fr w0) O w0 O5 w ∧ a.get 0 = v_0 ∧ (rSl rStr).v O5 w v_0 x_0 ∧ a.get 1 = v_1 ∧ (rSl (rSl (rInt .i64))).v O5 w v_1 x_1 ∧ a.get 2 = .int .i64 x_2 ∧ a.get 7 = u2 ∧ OwnL 1 r_aEn 26 (Fr w0) O5 w u2 x1 ∧ a.get 8 = .int .i64 x4 ∧ Comp.loopN (fun s => r7_Made_l2 x_1 x_2 x_0 s.1 s.2) n m (x1, x4) = some e2) (m := n) ?st2 ?_
  case st2 =>
   exact ⟨_, _, _, _, hA, hB, q0, h_0, q1, h_1, q2, q7, (OwnL.nil _ _ _ _ _ _), q8, Comp.run_loop he2⟩
  intro m_ a4 w4 hI
  clear hA hB he2 q0 q1 q2 q7 q8 h_0 h_1
  obtain ⟨O5, x1, x4, u2, hA, hB, q0, h_0, q1, h_1, q2, q7, f3, q8, hl⟩ := hI
  obtain ⟨m2, hlt2, st2, h, hnext2, hdone2⟩ := Comp.loopN_succ hl; clear hl
  replace h : (r7_Made_l2 x_1 x_2 x_0 x1 x4).run n = some st2 := h
  unfold r7_Made_l2 at h
  refine wp_seq (wp_seq ?_)
  refine' region [_, _, _, _, _, _, _, _, _] mixed hA (.cons (fun _ _ hE hK hg => ok_move (kn (hK 8 rfl) rfl q8)) (.cons (fun _ _ hE hK hg => ok_move (kn (hK 1 rfl) rfl q1)) (.cons (fun _ _ hE hK hg => okl_len (r := (rSl (rInt .i64))) ty22 (ksv (j := 1) (hK 10 rfl) rfl rfl rfl) (rd_of (GR.v_ext _ h_1 hE))) (.cons (fun _ _ hE hK hg => ok_lss (ksv (j := 0) (hK 9 rfl) rfl rfl rfl) (ksv (j := 2) (hK 11 rfl) rfl rfl rfl)) (.cons (fun _ _ hE hK hg => ok_move (ksv (j := 3) (hK 12 rfl) rfl rfl rfl)) (.cons (fun _ _ hE hK hg => ok_move (kn (hK 8 rfl) rfl q8)) (.cons (fun _ _ hE hK hg => ok_move (kn (hK 2 rfl) rfl q2)) (.cons ?z4_7 (.cons ?z4_8 .nil))))))))) ?zok4 ?zgd4 ?zk4
  case z4_7 => intro a' w' hE hK hg; exact ok_lss (ksv (j := 5) (hK 14 rfl) rfl rfl hg) (ksv (j := 6) (hK 15 rfl) rfl rfl hg)
  case z4_8 => intro a' w' hE hK hg; exact ok_pick (ksv (j := 4) (hK 13 rfl) rfl rfl rfl) (fun hb => ksv (j := 7) (hK 16 rfl) rfl rfl (act_g1 rfl rfl hb)) (fun _ => rfl)
  case zok4 | zgd4 => kernel_rfl
  intro a5 w5 hA hE HF
  replace q0 := kn (HF 0) rfl q0
  replace q1 := kn (HF 1) rfl q1
  replace q2 := kn (HF 2) rfl q2
  replace q7 := kn (HF 7) rfl q7
  replace q8 := kn (HF 8) rfl q8
  have q17 := ksv (HF 17) rfl rfl rfl
  clear HF
  replace h_0 := GR.v_ext _ h_0 hE
  replace h_1 := GR.v_ext _ h_1 hE
  replace f3 := f3.ext hE
  replace hB := Base.step hB hE hO; clear hE
  obtain ⟨x6, hx_, h⟩ := Comp.run_bind h; replace hx_ := Comp.run_pure hx_; rw [hx_] at q17; clear hx_
  refine li_nil (nx_then ?_)
  refine wp_cond_b q17 (fun hc => ?_) (fun hc => ?_)
  ·
   replace h := Comp.run_b_t hc h; clear hc
   refine wp_skip (nx_then (wp_seq (wp_block ?_)))
   obtain ⟨x7, hx7, h⟩ := Comp.run_bind h
   obtain ⟨x8, hx8, h⟩ := Comp.run_bind h
   refine' regionT [_, _, _, _, _, SP.ptr (rSl (rInt .i64)) O5 x7, SP.vl (rSl (rInt .i64)) O5 x7, SP.isv (.agg #[.int .i64 x8.Seq, .int .i64 x8.Shop, .int .i64 x8.Kind, .int .i64 x8.Day, .int .i64 x8.N, .string (str x8.Before), .string (str x8.After), .string (str x8.Prev), .string (str x8.Mark)]), SP.vl (rSl r_aEn) O5 [x8]] hA (.cons (fun _ _ hE hK hg => ok_move (kn (hK 7 rfl) rfl q7)) (.cons (fun _ _ hE hK hg => ok_move (kn (hK 0 rfl) rfl q0)) (.cons (fun _ _ hE hK hg => ok_move (kn (hK 7 rfl) rfl q7)) (.cons (fun _ _ hE hK hg => ok_move (kn (hK 1 rfl) rfl q1)) (.cons (fun _ _ hE hK hg => ok_move (kn (hK 8 rfl) rfl q8)) (.cons (fun _ _ hE hK hg => okl_idx (r := (rSl (rInt .i64))) (O := O5) ty22 ty58 rfl (ksv (j := 3) (hK 23 rfl) rfl rfl rfl) (rd_of (GR.v_ext _ h_1 hE)) (ksv (j := 4) (hK 24 rfl) rfl rfl rfl) hx7) (.cons (fun _ _ hE hK hg => okl_ld (r := (rSl (rInt .i64))) (fun _ => rfl) ty58 rfl rfl rfl (kspS (φ := SP.ptr (rSl (rInt .i64)) O5 x7) (j := 5) (hK 25 rfl) rfl rfl rfl)) (.cons ?z5_7 (.cons ?z5_8 .nil))))))))) ?zok5 ?zgd5 ?zk5
   case z5_7 => intro a' w' hE hK hg; have c_ := ok_r7_Step (okO_zero _) (GR.lend _ (GR.v_ext _ h_0 hE)) (OwnL.lend (OwnL.ext f3 hE)) (GR.lend _ (kspS (φ := SP.vl (rSl (rInt .i64)) O5 x7) (j := 6) (hK 26 rfl) rfl rfl rfl)) hx8; exact ok_call3 fn36 (ksv (j := 1) (hK 21 rfl) rfl rfl rfl) (ksv (j := 2) (hK 22 rfl) rfl rfl rfl) rfl c_
   case z5_8 => intro a' w' hE hK hg; exact okl_buildSliceV (r := r_aEn) fit_aEn rfl (OkO.ext hB.ok hE) ty29 ty26 (parts_cons (ksv (j := 7) (hK 27 rfl) rfl rfl rfl) parts_nil) ⟨(by first | exact (rC_v (x := x8)).2 rfl | exact ⟨_, rfl, rfl⟩), trivial⟩ rfl (by decide)
   case zok5 | zgd5 => kernel_rfl
   intro a6 w6 hA hE HF
   replace q0 := kn (HF 0) rfl q0
   replace q1 := kn (HF 1) rfl q1
   replace q2 := kn (HF 2) rfl q2
   replace q7 := kn (HF 7) rfl q7
   replace q8 := kn (HF 8) rfl q8
   have q20 := ksv (HF 20) rfl rfl rfl
   have f10 := ksp (HF 28) rfl rfl rfl
   obtain ⟨u9, q28'⟩ : ∃ u, a6.get 28 = u := ⟨_, rfl⟩
   rw [q28'] at f10
   have q28 := q28'; clear q28'
   clear q17
   clear HF
   replace h_0 := GR.v_ext _ h_0 hE
   replace h_1 := GR.v_ext _ h_1 hE
   replace f3 := f3.ext hE
   replace hB := Base.step hB hE hO; clear hE
   obtain ⟨x11, hx11, h⟩ := Comp.run_bind h
   refine l_append (r := r_aEn) fit_aEn rfl ty29 ty26 rfl (by decide) hO hB (okB_fr hB) q20 f3 q28 (rd_of f10) hx11 (by decide) fun u12 w7 O13 f14 hB' hX => ?_
   clear hB; have hB := hB'; clear hB'
   clear f3
   replace h_0 := GR.kx _ h_0 hX (by decide)
   replace h_1 := GR.kx _ h_1 hX (by decide)
   replace f10 := GR.kx _ f10 hX (by decide)
   clear hX
   refine put_cont hA (by decide) fun a8 hA q_ hfr => ?_
   replace q0 := (hfr 0 rfl).trans q0
   replace q1 := (hfr 1 rfl).trans q1
   replace q2 := (hfr 2 rfl).trans q2
   replace q7 := (hfr 7 rfl).trans q7
   replace q8 := (hfr 8 rfl).trans q8
   replace q20 := (hfr 20 rfl).trans q20
   replace q28 := (hfr 28 rfl).trans q28
   have q29 := q_; clear q_ hfr
   refine l_ok (φ := SP.isv (u12)) hO hB (by exact ok_assign q29) rfl fun u_ w9 hE hB' hv_ => ?_
   replace hv_ := Eq.symm hv_; subst hv_; clear hB; have hB := hB'; clear hB'
   replace h_0 := GR.v_ext _ h_0 hE
   replace h_1 := GR.v_ext _ h_1 hE
   replace f14 := f14.ext hE
   clear hE
   refine put_cont hA (by decide) fun a10 hA q_ hfr => ?_
   replace q0 := (hfr 0 rfl).trans q0
   replace q1 := (hfr 1 rfl).trans q1
   replace q2 := (hfr 2 rfl).trans q2
   replace q8 := (hfr 8 rfl).trans q8
   replace q29 := (hfr 29 rfl).trans q29
   clear q7
   have q7 := q_; clear q_ hfr
   refine li_nil (nx_blk (nx_then ?_))
   refine' region [_, _, _] mixed hA (.cons (fun _ _ hE hK hg => ok_move (kn (hK 8 rfl) rfl q8)) (.cons (fun _ _ hE hK hg => ok_add (ksv (j := 0) (hK 18 rfl) rfl rfl rfl) rfl) (.cons (fun _ _ hE hK hg => ok_assign (ksv (j := 1) (hK 19 rfl) rfl rfl rfl)) .nil))) ?zok6 ?zgd6 ?zk6
   case zok6 | zgd6 => kernel_rfl
   intro a11 w11 hA hE HF
   replace q0 := kn (HF 0) rfl q0
   replace q1 := kn (HF 1) rfl q1
   replace q2 := kn (HF 2) rfl q2
   replace q7 := kn (HF 7) rfl q7
   have q8' := ksv (HF 8) rfl rfl rfl
   replace q8 := q8'; clear q8'
   clear HF
   replace h_0 := GR.v_ext _ h_0 hE
   replace h_1 := GR.v_ext _ h_1 hE
   replace f14 := f14.ext hE
   replace hB := Base.step hB hE hO; clear hE
   refine li_nil (nx_then ?_)
   have h := hnext2 _ (Comp.run_pure h).symm
   refine ⟨m2, hlt2, ?_⟩
   exact ⟨_, _, _, _, hA, hB, q0, h_0, q1, h_1, q2, q7, f14, q8, h⟩
  ·
   replace h := Comp.run_b_f hc h; clear hc
   refine wp_exit (ex_then (ex_then (ex_same ?_)))
   have hd_ := hdone2 _ (Comp.run_pure h).symm; clear h
   subst hd_; have h := hk2; clear hk2; try dsimp only at h
   refine nx_then ?_
   exact ⟨_, _, _, hA, hB, q7, f3, h⟩
 intro a12 w12 hI
 clear hA hB h q0 q1 q2 q7 h_0 h_1
 obtain ⟨O20, x17, u18, hA, hB, q7, f19, h⟩ := hI
 unfold r7_Made_j1 at h
 refine wp_seq ?_
 refine' region [_, _] mixed hA (.cons (fun _ _ hE hK hg => ok_move (kn (hK 7 rfl) rfl q7)) (.cons (fun _ _ hE hK hg => ok_assign (ksv (j := 0) (hK 30 rfl) rfl rfl rfl)) .nil)) ?zok7 ?zgd7 ?zk7
 case zok7 | zgd7 => kernel_rfl
 intro a13 w13 hA hE HF
 have q6 := ksv (HF 6) rfl rfl rfl
 clear q7
 clear HF
 replace f19 := f19.ext hE
 replace hB := Base.step hB hE hO; clear hE
 refine li_nil (nx_then (wp_ret ?_))
 have h := Comp.run_pure h; subst h
 exact retPure Try.results54 hA q6 hB.ext (OwnL.res f19 (by decide) hB.zero)
theorem ok_c7_Case_made {O : Tags} {w0 : World} (hO : OkO O w0) {v_0 : Value} {x_0 : c7_Case} (h_0 : r_c7_Case.v O w0 v_0 x_0) {n : Nat} {y : ((List Bytes) × (List aEn))} (h : (c7_Case_made x_0).run n = some y) : Pure Try.prog 15 #[v_0] w0 (SP.tup2 (SP.ownr rStr 9 (w0.heap.size) O y.1) (SP.vl (rSl r_aEn) O y.2)).holds := by
 unfold c7_Case_made at h
 refine pure_of_wp Try.func15 rfl 16 Try.ntmps15 (by simp) fun a0 hA hs0 => ?_
 have q0 : a0.get 0 = v_0 := hs0 0 _ rfl
 clear hs0
 have hB : Base (Fr w0) O w0 O w0 := Base.start hO
 refine wp_seq ?_
 refine' region [SP.vl (rBox r_c7_Case) O x_0, _, _] mixed hA (.cons (fun _ _ hE hK hg => okl_boxV (r := r_c7_Case) fit_c7_Case (OkO.ext hB.ok hE) (kn (hK 0 rfl) rfl q0) (GR.v_ext _ h_0 hE)) (.cons (fun _ _ hE hK hg => ok_assign rfl) (.cons (fun _ _ hE hK hg => ok_assign rfl) .nil))) ?zok1 ?zgd1 ?zk1
 case zok1 | zgd1 => kernel_rfl
 intro a1 w1 hA hE HF
 have f2 := ksp (HF 1) rfl rfl rfl
 obtain ⟨u1, q1'⟩ : ∃ u, a1.get 1 = u := ⟨_, rfl⟩
 rw [q1'] at f2
 have q1 := q1'; clear q1'
 clear q0
 clear HF
 replace h_0 := GR.v_ext _ h_0 hE
 replace hB := Base.step hB hE hO; clear hE
 refine li_nil (nx_then (wp_seq ?_))
 refine' regionT [SP.ptr (rInt .u8) O x_0.Shops, SP.isv (.int .u8 x_0.Shops), _, _, _] hA (.cons (fun _ _ hE hK hg => okl_fldB (S := r_c7_Case) fit_c7_Case rfl (fun _ => rfl) sb_c7_Case_1 fl24_1 (kn (hK 1 rfl) rfl q1) (GR.v_ext _ f2 hE)) (.cons (fun _ _ hE hK hg => okl_ldr (rInt .u8) (fun _ => rfl) ty5 rfl rfl rfl (kspS (φ := SP.ptr (rInt .u8) O x_0.Shops) (j := 0) (hK 5 rfl) rfl rfl rfl) (fun _ _ _ h => rInt_v.1 h)) (.cons (fun _ _ hE hK hg => ok_convI ty5 ty3 (ksv (j := 1) (hK 6 rfl) rfl rfl rfl)) (.cons (fun _ _ hE hK hg => ok_rem (ksv (j := 2) (hK 7 rfl) rfl rfl rfl) rfl (by decide)) (.cons (fun _ _ hE hK hg => ok_add rfl (ksv (j := 3) (hK 8 rfl) rfl rfl rfl)) .nil))))) ?zok2 ?zgd2 ?zk2
 case zok2 | zgd2 => kernel_rfl
 intro a2 w2 hA hE HF
 replace q1 := kn (HF 1) rfl q1
 have q9 := ksv (HF 9) rfl rfl rfl
 clear HF
 replace f2 := GR.v_ext _ f2 hE
 replace hB := Base.step hB hE hO; clear hE
 obtain ⟨x3, hx3, h⟩ := Comp.run_bind h
 refine l_ok (φ := SP.ownr rStr 9 w2.heap.size O x3) hO hB (by have c_ := ok_r7_Keys hB.ok  hx3; exact ok_weak (ok_call1 fn23 q9 c_) (fun _ _ _ h => h)) rfl fun u4 w3 hE hB' f5 => ?_
 clear hB'; obtain ⟨O6, hB', hX, f7⟩ := ownNew hO hB hE f5 rfl 1 (by decide)
 clear hB f5; have hB := hB'; clear hB'
 replace f2 := GR.kx _ f2 hX (by decide)
 clear hX hE
 refine put_cont hA (by decide) fun a4 hA q_ hfr => ?_
 replace q1 := (hfr 1 rfl).trans q1
 replace q9 := (hfr 9 rfl).trans q9
 have q10 := q_; clear q_ hfr
 refine l_ok (φ := SP.isv (u4)) hO hB (by exact ok_assign q10) rfl fun u_ w5 hE hB' hv_ => ?_
 replace hv_ := Eq.symm hv_; subst hv_; clear hB; have hB := hB'; clear hB'
 replace f2 := GR.v_ext _ f2 hE
 replace f7 := f7.ext hE
 clear hE
 refine put_cont hA (by decide) fun a6 hA q_ hfr => ?_
 replace q1 := (hfr 1 rfl).trans q1
 replace q10 := (hfr 10 rfl).trans q10
 have q4 := q_; clear q_ hfr
 refine li_nil (nx_then (wp_seq ?_))
 obtain ⟨x8, hx8, h⟩ := Comp.run_bind h
 obtain ⟨x9, hx9, h⟩ := Comp.run_bind h
 refine' region [_, _, SP.vl r_c7_Case O6 x_0, SP.vl (rSl (rSl (rInt .i64))) O6 x8, SP.vl (rSl r_aEn) O6 x9, _, SP.vl (rSl r_aEn) O6 x9] mixed hA (.cons (fun _ _ hE hK hg => ok_move (kn (hK 4 rfl) rfl q4)) (.cons (fun _ _ hE hK hg => ok_move (kn (hK 4 rfl) rfl q4)) (.cons (fun _ _ hE hK hg => okl_ld (r := r_c7_Case) fit_c7_Case ty24 rfl rfl (kn (hK 1 rfl) rfl q1) (ptr_of_box fit_c7_Case (GR.v_ext _ f2 hE))) (.cons ?z3_3 (.cons ?z3_4 (.cons (fun _ _ hE hK hg => ok_assign (ksv (j := 0) (hK 11 rfl) rfl rfl rfl)) (.cons (fun _ _ hE hK hg => ok_assign_pr (φ := SP.vl (rSl r_aEn) O6 x9) (kspS (j := 4) (hK 15 rfl) rfl rfl rfl)) .nil))))))) ?zok3 ?zgd3 ?zk3
 case z3_3 => intro a' w' hE hK hg; have c_ := ok_c7_Case_lists (OkO.ext hB.ok hE) (kspS (φ := SP.vl r_c7_Case O6 x_0) (j := 2) (hK 13 rfl) rfl rfl rfl) hx8; exact ok_weak (ok_call1 fn55 rfl c_) (fun _ _ _ h => (OwnR.val h (fun g hg => (OkO.ext hB.ok hE) g (OwnR.ge h g hg).1)))
 case z3_4 => intro a' w' hE hK hg; have c_ := ok_r7_Made (okO_zero _) (OwnL.lend (OwnL.ext f7 hE)) (GR.lend _ (kspS (φ := SP.vl (rSl (rSl (rInt .i64))) O6 x8) (j := 3) (hK 14 rfl) rfl rfl rfl)) hx9; exact ok_weak (ok_call3 fn54 (ksv (j := 1) (hK 12 rfl) rfl rfl rfl) rfl rfl c_) (fun _ _ _ h => (OwnR.val (OwnR.indep O6 h) (fun g hg => (OkO.ext hB.ok hE) g (OwnR.ge (OwnR.indep O6 h) g hg).1)))
 case zok3 | zgd3 => kernel_rfl
 intro a7 w7 hA hE HF
 have q2 := ksv (HF 2) rfl rfl rfl
 have f11 := ksp (HF 3) rfl rfl rfl
 obtain ⟨u10, q3'⟩ : ∃ u, a7.get 3 = u := ⟨_, rfl⟩
 rw [q3'] at f11
 have q3 := q3'; clear q3'
 clear q1
 clear q4
 clear HF
 replace f2 := GR.v_ext _ f2 hE
 replace f7 := f7.ext hE
 replace hB := Base.step hB hE hO; clear hE
 refine li_nil (nx_then (wp_ret ?_))
 have h := Comp.run_pure h; subst h
 exact retPure2 Try.results15 hA q2 q3 hB.ext ⟨_, _, rfl, (OwnL.res f7 (by decide) hB.zero), (hB.res (rSl r_aEn) f11)⟩
theorem ok_c7_short {O : Tags} {w0 : World} (hO : OkO O w0) {x_0 : aEn} {n : Nat} {y : aEn} (h : (c7_short x_0).run n = some y) : Pure Try.prog 16 #[.agg #[.int .i64 x_0.Seq, .int .i64 x_0.Shop, .int .i64 x_0.Kind, .int .i64 x_0.Day, .int .i64 x_0.N, .string (str x_0.Before), .string (str x_0.After), .string (str x_0.Prev), .string (str x_0.Mark)]] w0 (SP.isv (.agg #[.int .i64 y.Seq, .int .i64 y.Shop, .int .i64 y.Kind, .int .i64 y.Day, .int .i64 y.N, .string (str y.Before), .string (str y.After), .string (str y.Prev), .string (str y.Mark)])).holds := by
 unfold c7_short at h
 refine pure_of_wp Try.func16 rfl 36 Try.ntmps16 (by simp) fun a0 hA hs0 => ?_
 have q0 : a0.get 0 = .agg #[.int .i64 x_0.Seq, .int .i64 x_0.Shop, .int .i64 x_0.Kind, .int .i64 x_0.Day, .int .i64 x_0.N, .string (str x_0.Before), .string (str x_0.After), .string (str x_0.Prev), .string (str x_0.Mark)] := hs0 0 _ rfl
 clear hs0
 have hB : Base (Fr w0) O w0 O w0 := Base.start hO
 refine wp_seq ?_
 refine' regionT [SP.box w0.heap.size #[.int .i64 x_0.Seq, .int .i64 x_0.Shop, .int .i64 x_0.Kind, .int .i64 x_0.Day, .int .i64 x_0.N, .string (str x_0.Before), .string (str x_0.After), .string (str x_0.Prev), .string (str x_0.Mark)] 26] hA (.cons (fun _ _ hE hK hg => ok_box (v := .agg #[.int .i64 x_0.Seq, .int .i64 x_0.Shop, .int .i64 x_0.Kind, .int .i64 x_0.Day, .int .i64 x_0.N, .string (str x_0.Before), .string (str x_0.After), .string (str x_0.Prev), .string (str x_0.Mark)]) hE.size (kn (hK 0 rfl) rfl q0)) .nil) ?zok1 ?zgd1 ?zk1
 case zok1 | zgd1 => kernel_rfl
 intro a1 w1 hA hE HF
 have f2 := ksp (HF 1) rfl rfl rfl
 obtain ⟨u1, q1'⟩ : ∃ u, a1.get 1 = u := ⟨_, rfl⟩
 rw [q1'] at f2
 have q1 := q1'; clear q1'
 clear q0
 clear HF
 obtain ⟨O3, b4, hB', hX, e_, f5⟩ := boxNew hO hB hE f2 1 (by decide)
 subst e_
 clear hB f2; have hB := hB'; clear hB'
 clear hX hE
 refine l_ok (φ := SP.box w1.heap.size #[.int .i64 0, .int .i64 0, .int .i64 0, .int .i64 0, .int .i64 0, .string (str []), .string (str []), .string (str []), .string (str [])] 26) hO hB (by exact ok_alloc (Nat.le_refl _) ty26) rfl fun u6 w2 hE hB' f7 => ?_
 clear hB'; obtain ⟨O8, b10, hB', hX, e_, f9⟩ := boxNew hO hB hE f7 2 (by decide)
 subst e_; clear hB f7; have hB := hB'; clear hB'
 replace f5 := f5.kx hX (by decide)
 clear hX hE
 refine put_cont hA (by decide) fun a3 hA q_ hfr => ?_
 replace q1 := (hfr 1 rfl).trans q1
 have q2 := q_; clear q_ hfr
 refine li_nil (nx_then (wp_seq ?_))
 obtain ⟨x11, hx11, h⟩ := Comp.run_bind h
 obtain ⟨x12, hx12, h⟩ := Comp.run_bind h
 obtain ⟨x13, hx13, h⟩ := Comp.run_bind h
 obtain ⟨x14, hx14, h⟩ := Comp.run_bind h
 have hz : ∀ b_, (fun b_ => b_ = b4) b_ → O8 b_ ≠ 0 := by rintro b_ rfl <;> first | (rw [f5.tag]; decide)
 refine' regionJ (E := ET (fun b_ => b_ = b4) w2.heap.size) (fun S_ _ w_ => JBox 1 (Fr w0) O8 b4 26 #[.int .i64 x_0.Seq, .int .i64 x_0.Shop, .int .i64 x_0.Kind, .int .i64 x_0.Day, .int .i64 x_0.N, .string (str x_0.Before), .string (str x_0.After), .string (str x_0.Prev), .string (str x_0.Mark)] [(29, 5, .string (str x11)), (31, 6, .string (str x12)), (33, 7, .string (str x13)), (35, 8, .string (str x14))] S_ w_) (ET.refl _ _) (fun _ _ _ => ET.trans) (ET.drawn _ _) [SP.isv (.pointer (some ⟨b4, 5, none⟩)), SP.isv (.string (str x_0.Before)), SP.isv (.pointer (some ⟨b4, 5, none⟩)), SP.isv (.string (str x_0.Before)), SP.isv (.int .i64 (x_0.Before.length : Int)), SP.isv (.int .i64 (min (x_0.Before.length : Int) 40)), SP.isv (.string (str x11)), SP.isv (.pointer (some ⟨b4, 6, none⟩)), SP.isv (.string (str x_0.After)), SP.isv (.pointer (some ⟨b4, 6, none⟩)), SP.isv (.string (str x_0.After)), SP.isv (.int .i64 (x_0.After.length : Int)), SP.isv (.int .i64 (min (x_0.After.length : Int) 40)), SP.isv (.string (str x12)), SP.isv (.pointer (some ⟨b4, 7, none⟩)), SP.isv (.string (str x_0.Prev)), SP.isv (.pointer (some ⟨b4, 7, none⟩)), SP.isv (.string (str x_0.Prev)), SP.isv (.int .i64 (x_0.Prev.length : Int)), SP.isv (.int .i64 (min (x_0.Prev.length : Int) 40)), SP.isv (.string (str x13)), SP.isv (.pointer (some ⟨b4, 8, none⟩)), SP.isv (.string (str x_0.Mark)), SP.isv (.pointer (some ⟨b4, 8, none⟩)), SP.isv (.string (str x_0.Mark)), SP.isv (.int .i64 (x_0.Mark.length : Int)), SP.isv (.int .i64 (min (x_0.Mark.length : Int) 40)), SP.isv (.string (str x14)), SP.isv (.pointer (some ⟨b4, 5, none⟩)), SP.isv undef, SP.isv (.pointer (some ⟨b4, 6, none⟩)), SP.isv undef, SP.isv (.pointer (some ⟨b4, 7, none⟩)), SP.isv undef, SP.isv (.pointer (some ⟨b4, 8, none⟩)), SP.isv undef] mixed hA (.cons (stE_isv _) (.cons (stE_isv _) (.cons (stE_isv _) (.cons (stE_isv _) (.cons (stE_isv _) (.cons (stE_isv _) (.cons (stE_isv _) (.cons (stE_isv _) (.cons (stE_isv _) (.cons (stE_isv _) (.cons (stE_isv _) (.cons (stE_isv _) (.cons (stE_isv _) (.cons (stE_isv _) (.cons (stE_isv _) (.cons (stE_isv _) (.cons (stE_isv _) (.cons (stE_isv _) (.cons (stE_isv _) (.cons (stE_isv _) (.cons (stE_isv _) (.cons (stE_isv _) (.cons (stE_isv _) (.cons (stE_isv _) (.cons (stE_isv _) (.cons (stE_isv _) (.cons (stE_isv _) (.cons (stE_isv _) (.cons (stE_isv _) (.cons (stE_isv _) (.cons (stE_isv _) (.cons (stE_isv _) (.cons (stE_isv _) (.cons (stE_isv _) (.cons (stE_isv _) (.cons (stE_isv _) .nil)))))))))))))))))))))))))))))))))))) (.cons ?z2_0 (.cons ?z2_1 (.cons ?z2_2 (.cons ?z2_3 (.cons ?z2_4 (.cons ?z2_5 (.cons ?z2_6 (.cons ?z2_7 (.cons ?z2_8 (.cons ?z2_9 (.cons ?z2_10 (.cons ?z2_11 (.cons ?z2_12 (.cons ?z2_13 (.cons ?z2_14 (.cons ?z2_15 (.cons ?z2_16 (.cons ?z2_17 (.cons ?z2_18 (.cons ?z2_19 (.cons ?z2_20 (.cons ?z2_21 (.cons ?z2_22 (.cons ?z2_23 (.cons ?z2_24 (.cons ?z2_25 (.cons ?z2_26 (.cons ?z2_27 (.cons ?z2_28 (.cons ?z2_29 (.cons ?z2_30 (.cons ?z2_31 (.cons ?z2_32 (.cons ?z2_33 (.cons ?z2_34 (.cons ?z2_35 .nil)))))))))))))))))))))))))))))))))))) ?zsk2 ?zst2 ?zok2 ?zgd2 ?zk2
 case z2_0 => intro S_ a' w' hE hJ hS hafter hpre hK hg K_ Q_ hK'; exact okJ (φ := SP.isv (.pointer (some ⟨b4, 5, none⟩))) (by exact ok_fieldAddr fl26_5 (kn (hK 1 rfl) rfl q1)) (fun v2 w2 hE2 => JBox.pure hJ hE2 rfl) hK'
 case z2_1 => intro S_ a' w' hE hJ hS hafter hpre hK hg K_ Q_ hK'; exact okJ (φ := SP.isv (.string (str x_0.Before))) (by exact okl_loadJ ty9 rfl (ksv (j := 0) (hK 3 rfl) rfl rfl rfl) (JBox.own hJ (all_cons (fun _ => hafter 29 (by kernel_rfl)) (all_cons (fun e_ => absurd e_ (by show ¬ (6 : Nat) = 5; decide)) (all_cons (fun e_ => absurd e_ (by show ¬ (7 : Nat) = 5; decide)) (all_cons (fun e_ => absurd e_ (by show ¬ (8 : Nat) = 5; decide)) all_nil)))) rfl)) (fun v2 w2 hE2 => JBox.pure hJ hE2 rfl) hK'
 case z2_2 => intro S_ a' w' hE hJ hS hafter hpre hK hg K_ Q_ hK'; exact okJ (φ := SP.isv (.pointer (some ⟨b4, 5, none⟩))) (by exact ok_fieldAddr fl26_5 (kn (hK 1 rfl) rfl q1)) (fun v2 w2 hE2 => JBox.pure hJ hE2 rfl) hK'
 case z2_3 => intro S_ a' w' hE hJ hS hafter hpre hK hg K_ Q_ hK'; exact okJ (φ := SP.isv (.string (str x_0.Before))) (by exact okl_loadJ ty9 rfl (ksv (j := 2) (hK 5 rfl) rfl rfl rfl) (JBox.own hJ (all_cons (fun _ => hafter 29 (by kernel_rfl)) (all_cons (fun e_ => absurd e_ (by show ¬ (6 : Nat) = 5; decide)) (all_cons (fun e_ => absurd e_ (by show ¬ (7 : Nat) = 5; decide)) (all_cons (fun e_ => absurd e_ (by show ¬ (8 : Nat) = 5; decide)) all_nil)))) rfl)) (fun v2 w2 hE2 => JBox.pure hJ hE2 rfl) hK'
 case z2_4 => intro S_ a' w' hE hJ hS hafter hpre hK hg K_ Q_ hK'; exact okJ (φ := SP.isv (.int .i64 (x_0.Before.length : Int))) (by exact okl_lenS ty9 (ksv (j := 3) (hK 6 rfl) rfl rfl rfl)) (fun v2 w2 hE2 => JBox.pure hJ hE2 rfl) hK'
 case z2_5 => intro S_ a' w' hE hJ hS hafter hpre hK hg K_ Q_ hK'; exact okJ (φ := SP.isv (.int .i64 (min (x_0.Before.length : Int) 40))) (by exact ok_min (ksv (j := 4) (hK 7 rfl) rfl rfl rfl) rfl) (fun v2 w2 hE2 => JBox.pure hJ hE2 rfl) hK'
 case z2_6 => intro S_ a' w' hE hJ hS hafter hpre hK hg K_ Q_ hK'; exact okJ (φ := SP.isv (.string (str x11))) (by exact okl_sliceS_h ty9 (ksv (j := 1) (hK 4 rfl) rfl rfl rfl) (ksv (j := 5) (hK 8 rfl) rfl rfl rfl) hx11) (fun v2 w2 hE2 => JBox.pure hJ hE2 rfl) hK'
 case z2_7 => intro S_ a' w' hE hJ hS hafter hpre hK hg K_ Q_ hK'; exact okJ (φ := SP.isv (.pointer (some ⟨b4, 6, none⟩))) (by exact ok_fieldAddr fl26_6 (kn (hK 1 rfl) rfl q1)) (fun v2 w2 hE2 => JBox.pure hJ hE2 rfl) hK'
 case z2_8 => intro S_ a' w' hE hJ hS hafter hpre hK hg K_ Q_ hK'; exact okJ (φ := SP.isv (.string (str x_0.After))) (by exact okl_loadJ ty9 rfl (ksv (j := 7) (hK 10 rfl) rfl rfl rfl) (JBox.own hJ (all_cons (fun e_ => absurd e_ (by show ¬ (5 : Nat) = 6; decide)) (all_cons (fun _ => hafter 31 (by kernel_rfl)) (all_cons (fun e_ => absurd e_ (by show ¬ (7 : Nat) = 6; decide)) (all_cons (fun e_ => absurd e_ (by show ¬ (8 : Nat) = 6; decide)) all_nil)))) rfl)) (fun v2 w2 hE2 => JBox.pure hJ hE2 rfl) hK'
 case z2_9 => intro S_ a' w' hE hJ hS hafter hpre hK hg K_ Q_ hK'; exact okJ (φ := SP.isv (.pointer (some ⟨b4, 6, none⟩))) (by exact ok_fieldAddr fl26_6 (kn (hK 1 rfl) rfl q1)) (fun v2 w2 hE2 => JBox.pure hJ hE2 rfl) hK'
 case z2_10 => intro S_ a' w' hE hJ hS hafter hpre hK hg K_ Q_ hK'; exact okJ (φ := SP.isv (.string (str x_0.After))) (by exact okl_loadJ ty9 rfl (ksv (j := 9) (hK 12 rfl) rfl rfl rfl) (JBox.own hJ (all_cons (fun e_ => absurd e_ (by show ¬ (5 : Nat) = 6; decide)) (all_cons (fun _ => hafter 31 (by kernel_rfl)) (all_cons (fun e_ => absurd e_ (by show ¬ (7 : Nat) = 6; decide)) (all_cons (fun e_ => absurd e_ (by show ¬ (8 : Nat) = 6; decide)) all_nil)))) rfl)) (fun v2 w2 hE2 => JBox.pure hJ hE2 rfl) hK'
 case z2_11 => intro S_ a' w' hE hJ hS hafter hpre hK hg K_ Q_ hK'; exact okJ (φ := SP.isv (.int .i64 (x_0.After.length : Int))) (by exact okl_lenS ty9 (ksv (j := 10) (hK 13 rfl) rfl rfl rfl)) (fun v2 w2 hE2 => JBox.pure hJ hE2 rfl) hK'
 case z2_12 => intro S_ a' w' hE hJ hS hafter hpre hK hg K_ Q_ hK'; exact okJ (φ := SP.isv (.int .i64 (min (x_0.After.length : Int) 40))) (by exact ok_min (ksv (j := 11) (hK 14 rfl) rfl rfl rfl) rfl) (fun v2 w2 hE2 => JBox.pure hJ hE2 rfl) hK'
 case z2_13 => intro S_ a' w' hE hJ hS hafter hpre hK hg K_ Q_ hK'; exact okJ (φ := SP.isv (.string (str x12))) (by exact okl_sliceS_h ty9 (ksv (j := 8) (hK 11 rfl) rfl rfl rfl) (ksv (j := 12) (hK 15 rfl) rfl rfl rfl) hx12) (fun v2 w2 hE2 => JBox.pure hJ hE2 rfl) hK'
 case z2_14 => intro S_ a' w' hE hJ hS hafter hpre hK hg K_ Q_ hK'; exact okJ (φ := SP.isv (.pointer (some ⟨b4, 7, none⟩))) (by exact ok_fieldAddr fl26_7 (kn (hK 1 rfl) rfl q1)) (fun v2 w2 hE2 => JBox.pure hJ hE2 rfl) hK'
 case z2_15 => intro S_ a' w' hE hJ hS hafter hpre hK hg K_ Q_ hK'; exact okJ (φ := SP.isv (.string (str x_0.Prev))) (by exact okl_loadJ ty9 rfl (ksv (j := 14) (hK 17 rfl) rfl rfl rfl) (JBox.own hJ (all_cons (fun e_ => absurd e_ (by show ¬ (5 : Nat) = 7; decide)) (all_cons (fun e_ => absurd e_ (by show ¬ (6 : Nat) = 7; decide)) (all_cons (fun _ => hafter 33 (by kernel_rfl)) (all_cons (fun e_ => absurd e_ (by show ¬ (8 : Nat) = 7; decide)) all_nil)))) rfl)) (fun v2 w2 hE2 => JBox.pure hJ hE2 rfl) hK'
 case z2_16 => intro S_ a' w' hE hJ hS hafter hpre hK hg K_ Q_ hK'; exact okJ (φ := SP.isv (.pointer (some ⟨b4, 7, none⟩))) (by exact ok_fieldAddr fl26_7 (kn (hK 1 rfl) rfl q1)) (fun v2 w2 hE2 => JBox.pure hJ hE2 rfl) hK'
 case z2_17 => intro S_ a' w' hE hJ hS hafter hpre hK hg K_ Q_ hK'; exact okJ (φ := SP.isv (.string (str x_0.Prev))) (by exact okl_loadJ ty9 rfl (ksv (j := 16) (hK 19 rfl) rfl rfl rfl) (JBox.own hJ (all_cons (fun e_ => absurd e_ (by show ¬ (5 : Nat) = 7; decide)) (all_cons (fun e_ => absurd e_ (by show ¬ (6 : Nat) = 7; decide)) (all_cons (fun _ => hafter 33 (by kernel_rfl)) (all_cons (fun e_ => absurd e_ (by show ¬ (8 : Nat) = 7; decide)) all_nil)))) rfl)) (fun v2 w2 hE2 => JBox.pure hJ hE2 rfl) hK'
 case z2_18 => intro S_ a' w' hE hJ hS hafter hpre hK hg K_ Q_ hK'; exact okJ (φ := SP.isv (.int .i64 (x_0.Prev.length : Int))) (by exact okl_lenS ty9 (ksv (j := 17) (hK 20 rfl) rfl rfl rfl)) (fun v2 w2 hE2 => JBox.pure hJ hE2 rfl) hK'
 case z2_19 => intro S_ a' w' hE hJ hS hafter hpre hK hg K_ Q_ hK'; exact okJ (φ := SP.isv (.int .i64 (min (x_0.Prev.length : Int) 40))) (by exact ok_min (ksv (j := 18) (hK 21 rfl) rfl rfl rfl) rfl) (fun v2 w2 hE2 => JBox.pure hJ hE2 rfl) hK'
 case z2_20 => intro S_ a' w' hE hJ hS hafter hpre hK hg K_ Q_ hK'; exact okJ (φ := SP.isv (.string (str x13))) (by exact okl_sliceS_h ty9 (ksv (j := 15) (hK 18 rfl) rfl rfl rfl) (ksv (j := 19) (hK 22 rfl) rfl rfl rfl) hx13) (fun v2 w2 hE2 => JBox.pure hJ hE2 rfl) hK'
 case z2_21 => intro S_ a' w' hE hJ hS hafter hpre hK hg K_ Q_ hK'; exact okJ (φ := SP.isv (.pointer (some ⟨b4, 8, none⟩))) (by exact ok_fieldAddr fl26_8 (kn (hK 1 rfl) rfl q1)) (fun v2 w2 hE2 => JBox.pure hJ hE2 rfl) hK'
 case z2_22 => intro S_ a' w' hE hJ hS hafter hpre hK hg K_ Q_ hK'; exact okJ (φ := SP.isv (.string (str x_0.Mark))) (by exact okl_loadJ ty9 rfl (ksv (j := 21) (hK 24 rfl) rfl rfl rfl) (JBox.own hJ (all_cons (fun e_ => absurd e_ (by show ¬ (5 : Nat) = 8; decide)) (all_cons (fun e_ => absurd e_ (by show ¬ (6 : Nat) = 8; decide)) (all_cons (fun e_ => absurd e_ (by show ¬ (7 : Nat) = 8; decide)) (all_cons (fun _ => hafter 35 (by kernel_rfl)) all_nil)))) rfl)) (fun v2 w2 hE2 => JBox.pure hJ hE2 rfl) hK'
 case z2_23 => intro S_ a' w' hE hJ hS hafter hpre hK hg K_ Q_ hK'; exact okJ (φ := SP.isv (.pointer (some ⟨b4, 8, none⟩))) (by exact ok_fieldAddr fl26_8 (kn (hK 1 rfl) rfl q1)) (fun v2 w2 hE2 => JBox.pure hJ hE2 rfl) hK'
 case z2_24 => intro S_ a' w' hE hJ hS hafter hpre hK hg K_ Q_ hK'; exact okJ (φ := SP.isv (.string (str x_0.Mark))) (by exact okl_loadJ ty9 rfl (ksv (j := 23) (hK 26 rfl) rfl rfl rfl) (JBox.own hJ (all_cons (fun e_ => absurd e_ (by show ¬ (5 : Nat) = 8; decide)) (all_cons (fun e_ => absurd e_ (by show ¬ (6 : Nat) = 8; decide)) (all_cons (fun e_ => absurd e_ (by show ¬ (7 : Nat) = 8; decide)) (all_cons (fun _ => hafter 35 (by kernel_rfl)) all_nil)))) rfl)) (fun v2 w2 hE2 => JBox.pure hJ hE2 rfl) hK'
 case z2_25 => intro S_ a' w' hE hJ hS hafter hpre hK hg K_ Q_ hK'; exact okJ (φ := SP.isv (.int .i64 (x_0.Mark.length : Int))) (by exact okl_lenS ty9 (ksv (j := 24) (hK 27 rfl) rfl rfl rfl)) (fun v2 w2 hE2 => JBox.pure hJ hE2 rfl) hK'
 case z2_26 => intro S_ a' w' hE hJ hS hafter hpre hK hg K_ Q_ hK'; exact okJ (φ := SP.isv (.int .i64 (min (x_0.Mark.length : Int) 40))) (by exact ok_min (ksv (j := 25) (hK 28 rfl) rfl rfl rfl) rfl) (fun v2 w2 hE2 => JBox.pure hJ hE2 rfl) hK'
 case z2_27 => intro S_ a' w' hE hJ hS hafter hpre hK hg K_ Q_ hK'; exact okJ (φ := SP.isv (.string (str x14))) (by exact okl_sliceS_h ty9 (ksv (j := 22) (hK 25 rfl) rfl rfl rfl) (ksv (j := 26) (hK 29 rfl) rfl rfl rfl) hx14) (fun v2 w2 hE2 => JBox.pure hJ hE2 rfl) hK'
 case z2_28 => intro S_ a' w' hE hJ hS hafter hpre hK hg K_ Q_ hK'; exact okJ (φ := SP.isv (.pointer (some ⟨b4, 5, none⟩))) (by exact ok_fieldAddr fl26_5 (kn (hK 1 rfl) rfl q1)) (fun v2 w2 hE2 => JBox.pure hJ hE2 rfl) hK'
 case z2_29 => intro S_ a' w' hE hJ hS hafter hpre hK hg K_ Q_ hK'; exact storeJ (l1 := []) (l2 := [(31, 6, .string (str x12)), (33, 7, .string (str x13)), (35, 8, .string (str x14))]) ty9 (ksv (j := 28) (hK 31 rfl) rfl rfl rfl) (ksv (j := 6) (hK 9 rfl) rfl rfl rfl) rfl rfl hJ (by simp) hS rfl (all_cons (hafter 31 (by kernel_rfl)) (all_cons (hafter 33 (by kernel_rfl)) (all_cons (hafter 35 (by kernel_rfl)) all_nil))) rfl (by simp) (fun w2 h1 h2 h3 => hK' undef w2 h1 h3 rfl)
 case z2_30 => intro S_ a' w' hE hJ hS hafter hpre hK hg K_ Q_ hK'; exact okJ (φ := SP.isv (.pointer (some ⟨b4, 6, none⟩))) (by exact ok_fieldAddr fl26_6 (kn (hK 1 rfl) rfl q1)) (fun v2 w2 hE2 => JBox.pure hJ hE2 rfl) hK'
 case z2_31 => intro S_ a' w' hE hJ hS hafter hpre hK hg K_ Q_ hK'; exact storeJ (l1 := [(29, 5, .string (str x11))]) (l2 := [(33, 7, .string (str x13)), (35, 8, .string (str x14))]) ty9 (ksv (j := 30) (hK 32 rfl) rfl rfl rfl) (ksv (j := 13) (hK 16 rfl) rfl rfl rfl) rfl rfl hJ (by simp) hS rfl (all_cons (hafter 33 (by kernel_rfl)) (all_cons (hafter 35 (by kernel_rfl)) all_nil)) rfl (by simp) (fun w2 h1 h2 h3 => hK' undef w2 h1 h3 rfl)
 case z2_32 => intro S_ a' w' hE hJ hS hafter hpre hK hg K_ Q_ hK'; exact okJ (φ := SP.isv (.pointer (some ⟨b4, 7, none⟩))) (by exact ok_fieldAddr fl26_7 (kn (hK 1 rfl) rfl q1)) (fun v2 w2 hE2 => JBox.pure hJ hE2 rfl) hK'
 case z2_33 => intro S_ a' w' hE hJ hS hafter hpre hK hg K_ Q_ hK'; exact storeJ (l1 := [(29, 5, .string (str x11)), (31, 6, .string (str x12))]) (l2 := [(35, 8, .string (str x14))]) ty9 (ksv (j := 32) (hK 33 rfl) rfl rfl rfl) (ksv (j := 20) (hK 23 rfl) rfl rfl rfl) rfl rfl hJ (by simp) hS rfl (all_cons (hafter 35 (by kernel_rfl)) all_nil) rfl (by simp) (fun w2 h1 h2 h3 => hK' undef w2 h1 h3 rfl)
 case z2_34 => intro S_ a' w' hE hJ hS hafter hpre hK hg K_ Q_ hK'; exact okJ (φ := SP.isv (.pointer (some ⟨b4, 8, none⟩))) (by exact ok_fieldAddr fl26_8 (kn (hK 1 rfl) rfl q1)) (fun v2 w2 hE2 => JBox.pure hJ hE2 rfl) hK'
 case z2_35 => intro S_ a' w' hE hJ hS hafter hpre hK hg K_ Q_ hK'; exact storeJ (l1 := [(29, 5, .string (str x11)), (31, 6, .string (str x12)), (33, 7, .string (str x13))]) (l2 := []) ty9 (ksv (j := 34) (hK 34 rfl) rfl rfl rfl) (ksv (j := 27) (hK 30 rfl) rfl rfl rfl) rfl rfl hJ (by simp) hS rfl all_nil rfl (by simp) (fun w2 h1 h2 h3 => hK' undef w2 h1 h3 rfl)
 case zsk2 => exact fun i_ o_ S_ a_ w_ ho_ hg_ _ _ _ hJ => JBox.skip (by kernel_rfl) ho_ hg_ hJ
 case zst2 => exact (jstart f5)
 case zok2 | zgd2 => kernel_rfl
 intro a4 w4 hA hE HF hJ
 replace q1 := kn (HF 1) rfl q1
 replace q2 := kn (HF 2) rfl q2
 clear HF
 have f15 : OwnB 1 (Fr w0) O8 w4 b4 #[.int .i64 x_0.Seq, .int .i64 x_0.Shop, .int .i64 x_0.Kind, .int .i64 x_0.Day, .int .i64 x_0.N, .string (str x11), .string (str x12), .string (str x13), .string (str x14)] 26 := hJ
 replace hB := Base.et hB hO hE (by rintro b_ rfl <;> first | exact hB.new _ f5.ge)
 replace f9 := OwnB.keep f9 (ET.keepO hE (by rintro b_ rfl <;> first | (rw [f5.tag]; decide)))
 clear f5
 clear hE hz hJ
 refine nx_then (wp_seq ?_)
 refine' regionT [SP.isv (.agg #[.int .i64 x_0.Seq, .int .i64 x_0.Shop, .int .i64 x_0.Kind, .int .i64 x_0.Day, .int .i64 x_0.N, .string (str x11), .string (str x12), .string (str x13), .string (str x14)])] hA (.cons (fun _ _ hE hK hg => ok_loadOwnAgg ty26 rfl (kn (hK 1 rfl) rfl q1) (OwnB.ext f15 hE).own rfl) .nil) ?zok3 ?zgd3 ?zk3
 case zok3 | zgd3 => kernel_rfl
 intro a5 w5 hA hE HF
 replace q2 := kn (HF 2) rfl q2
 have q35 := ksv (HF 35) rfl rfl rfl
 clear q1
 clear HF
 replace f15 := f15.ext hE
 replace f9 := f9.ext hE
 replace hB := Base.step hB hE hO; clear hE
 refine l_storeSub (vs := [.int .i64 x_0.Seq, .int .i64 x_0.Shop, .int .i64 x_0.Kind, .int .i64 x_0.Day, .int .i64 x_0.N, .string (str x11), .string (str x12), .string (str x13), .string (str x14)]) (cs' := #[.int .i64 x_0.Seq, .int .i64 x_0.Shop, .int .i64 x_0.Kind, .int .i64 x_0.Day, .int .i64 x_0.N, .string (str x11), .string (str x12), .string (str x13), .string (str x14)]) hO hB (okB_fr hB) ty26 q2 q35 rfl (by simp [Value.oneCell']) f9 (by simp) rfl fun w6 f16 hB' hX => ?_
 clear hB f9; have hB := hB'; clear hB'
 clear hX
 refine li_nil (nx_then (wp_ret ?_))
 have h := Comp.run_pure h; subst h
 exact retG1 Try.results16 hA (.agg q2 ty26 rfl rfl f16.own) ⟨_, rfl, hB.ext, rfl⟩
end Go.Proofs.Ytkbipbfncbopnaa
end
