/- Lemmas behind a claim of this seat. No statement of the program stands here. -/
import Derived.Test.YtkbipbfncbopnaaKBindsE
set_option linter.unusedSimpArgs false
set_option linter.unusedVariables false
section
namespace Go.Proofs.Ytkbipbfncbopnaa
open Go Go.RowKit Go.Eng Go.Lift Go.F
set_option linter.unusedVariables false
set_option linter.unusedSimpArgs false
set_option maxRecDepth 100000
theorem ok_colletref01_Draw_Next {O : Tags} {w0 : World} (hO : OkO O w0) {b_0 : Nat} {x_0 : colletref01_Draw} (h_0 : BoxA r_colletref01_Draw 108 O w0 b_0 x_0) {x_1 : Int} {n : Nat} {y : (colletref01_Draw × Int)} (h : (colletref01_Draw_Next x_0 x_1).run n = some y) : Calls Try.prog 74 #[.pointer (some ⟨b_0, 0, none⟩), .int .i64 x_1] w0 (BioPost r_colletref01_Draw 108 O w0 b_0 y.1 (SP.isv (.int .i64 y.2))) := by
 unfold colletref01_Draw_Next at h
 refine bio_of_wp Try.func74 rfl 35 Try.ntmps74 (by simp) fun a0 hA hs0 => ?_
 have q0 : a0.get 0 = .pointer (some ⟨b_0, 0, none⟩) := hs0 0 _ rfl
 have q1 : a0.get 1 = .int .i64 x_1 := hs0 1 _ rfl
 clear hs0
 obtain ⟨Oi_, cs_, hB, hb_, hr_, hk_⟩ := bioStart hO h_0
 clear hk_ h_0
 obtain ⟨u1, e_, f2⟩ := openR_colletref01_Draw hr_; subst e_
 refine wp_seq ?_
 refine' region [_] mixed hA (.cons (fun _ _ hE hK hg => ok_assign rfl) .nil) ?zok1 ?zgd1 ?zk1
 case zok1 | zgd1 => kernel_rfl
 intro a1 w1 hA hE HF
 replace q0 := kn (HF 0) rfl q0
 replace q1 := kn (HF 1) rfl q1
 clear HF
 replace hb_ := hb_.ext hE
 replace f2 := GR.v_ext _ f2 hE
 replace hB := Base.step hB hE hO; clear hE
 refine li_nil (nx_then (wp_seq (wp_seq ?_)))
 refine' region [_, SP.isv (.pointer (some ⟨b_0, 0, none⟩)), SP.isv (.pointer (some ⟨b_0, 1, none⟩)), SP.isv (.int .i64 x_0.At), _, SP.isv (.pointer (some ⟨b_0, 0, none⟩)), SP.isv (.pointer (some ⟨b_0, 0, none⟩)), SP.isv (u1), _, _] mixed hA (.cons (fun _ _ hE hK hg => ok_move (kn (hK 0 rfl) rfl q0)) (.cons (fun _ _ hE hK hg => ok_nilChk (ksv (j := 0) (hK 5 rfl) rfl rfl rfl)) (.cons (fun _ _ hE hK hg => ok_fieldAddr fl108_1 (ksv (j := 1) (hK 6 rfl) rfl rfl rfl)) (.cons (fun _ _ hE hK hg => ok_loadOwn ty3 rfl (ksv (j := 2) (hK 7 rfl) rfl rfl rfl) (OwnB.ext hb_ hE).own rfl) (.cons (fun _ _ hE hK hg => ok_move (kn (hK 0 rfl) rfl q0)) (.cons (fun _ _ hE hK hg => ok_nilChk (ksv (j := 4) (hK 9 rfl) rfl rfl rfl)) (.cons (fun _ _ hE hK hg => ok_fieldAddr fl108_0 (ksv (j := 5) (hK 10 rfl) rfl rfl rfl)) (.cons (fun _ _ hE hK hg => ok_loadOwn ty58 rfl (ksv (j := 6) (hK 11 rfl) rfl rfl rfl) (OwnB.ext hb_ hE).own rfl) (.cons (fun _ _ hE hK hg => okl_len (r := (rInt .i64)) ty58 (ksv (j := 7) (hK 12 rfl) rfl rfl rfl) (rd_of (GR.v_ext _ f2 hE))) (.cons (fun _ _ hE hK hg => ok_geq (ksv (j := 3) (hK 8 rfl) rfl rfl rfl) (ksv (j := 8) (hK 13 rfl) rfl rfl rfl)) .nil)))))))))) ?zok2 ?zgd2 ?zk2
 case zok2 | zgd2 => kernel_rfl
 intro a2 w2 hA hE HF
 replace q0 := kn (HF 0) rfl q0
 replace q1 := kn (HF 1) rfl q1
 have q14 := ksv (HF 14) rfl rfl rfl
 clear HF
 replace hb_ := hb_.ext hE
 replace f2 := GR.v_ext _ f2 hE
 replace hB := Base.step hB hE hO; clear hE
 refine li_nil (nx_then ?_)
 refine wp_cond_b q14 (fun hc => ?_) (fun hc => ?_)
 ·
  replace h := Comp.run_b_t hc h; clear hc
  refine wp_seq ?_
  refine' region [_] mixed hA (.cons (fun _ _ hE hK hg => ok_assign rfl) .nil) ?zok3 ?zgd3 ?zk3
  case zok3 | zgd3 => kernel_rfl
  intro a3 w3 hA hE HF
  have q4 := ksv (HF 4) rfl rfl rfl
  clear q0
  clear q1
  clear q14
  clear HF
  replace hb_ := hb_.ext hE
  replace f2 := GR.v_ext _ f2 hE
  replace hB := Base.step hB hE hO; clear hE
  refine li_nil (nx_then (wp_ret (rt_then ?_)))
  have h := Comp.run_pure h; subst h
  exact retG1 Try.results74 hA (.tmp q4) (bioEnd hB hb_ ⟨_, _, rfl, (rel_ofF (r := (rSl (rInt .i64))) f2 rfl rfl), ⟨_, _, rfl, rfl, rfl⟩⟩ rfl)
 ·
  replace h := Comp.run_b_f hc h; clear hc
  refine wp_skip (nx_then (wp_seq ?_))
  refine' regionT [_, SP.isv (.pointer (some ⟨b_0, 0, none⟩)), SP.isv (.pointer (some ⟨b_0, 1, none⟩)), SP.isv (.int .i64 x_0.At), _, SP.isv (.pointer (some ⟨b_0, 0, none⟩)), SP.isv (.pointer (some ⟨b_0, 1, none⟩))] hA (.cons (fun _ _ hE hK hg => ok_move (kn (hK 0 rfl) rfl q0)) (.cons (fun _ _ hE hK hg => ok_nilChk (ksv (j := 0) (hK 15 rfl) rfl rfl rfl)) (.cons (fun _ _ hE hK hg => ok_fieldAddr fl108_1 (ksv (j := 1) (hK 16 rfl) rfl rfl rfl)) (.cons (fun _ _ hE hK hg => ok_loadOwn ty3 rfl (ksv (j := 2) (hK 17 rfl) rfl rfl rfl) (OwnB.ext hb_ hE).own rfl) (.cons (fun _ _ hE hK hg => ok_add (ksv (j := 3) (hK 18 rfl) rfl rfl rfl) rfl) (.cons (fun _ _ hE hK hg => ok_nilChk (ksv (j := 0) (hK 15 rfl) rfl rfl rfl)) (.cons (fun _ _ hE hK hg => ok_fieldAddr fl108_1 (ksv (j := 5) (hK 20 rfl) rfl rfl rfl)) .nil))))))) ?zok4 ?zgd4 ?zk4
  case zok4 | zgd4 => kernel_rfl
  intro a4 w4 hA hE HF
  replace q0 := kn (HF 0) rfl q0
  replace q1 := kn (HF 1) rfl q1
  have q19 := ksv (HF 19) rfl rfl rfl
  have q21 := ksv (HF 21) rfl rfl rfl
  clear q14
  clear HF
  replace hb_ := hb_.ext hE
  replace f2 := GR.v_ext _ f2 hE
  replace hB := Base.step hB hE hO; clear hE
  refine l_store1 (cs' := #[u1, .int .i64 (IntKind.wrap .i64 (x_0.At + 1))]) hO hB (okB_self hB) ty3 q21 q19 rfl rfl hb_ (by simp) rfl fun w5 f3 hB' hX => ?_
  clear hB hb_; have hB := hB'; clear hB'
  replace f2 := GR.kx _ f2 hX (by decide)
  clear hX
  refine li_nil (nx_then (wp_seq ?_))
  obtain ⟨x4, hx4, h⟩ := Comp.run_bind h
  obtain ⟨x5, hx5, h⟩ := Comp.run_bind h
  refine' region [_, SP.isv (.pointer (some ⟨b_0, 0, none⟩)), SP.isv (.pointer (some ⟨b_0, 0, none⟩)), SP.isv (u1), _, SP.isv (.pointer (some ⟨b_0, 0, none⟩)), SP.isv (.pointer (some ⟨b_0, 1, none⟩)), SP.isv (.int .i64 (IntKind.wrap .i64 (x_0.At + 1))), _, SP.ptr (rInt .i64) Oi_ x4, SP.isv (.int .i64 x4), _, SP.isv (.int .i64 x5), _] mixed hA (.cons (fun _ _ hE hK hg => ok_move (kn (hK 0 rfl) rfl q0)) (.cons (fun _ _ hE hK hg => ok_nilChk (ksv (j := 0) (hK 22 rfl) rfl rfl rfl)) (.cons (fun _ _ hE hK hg => ok_fieldAddr fl108_0 (ksv (j := 1) (hK 23 rfl) rfl rfl rfl)) (.cons (fun _ _ hE hK hg => ok_loadOwn ty58 rfl (ksv (j := 2) (hK 24 rfl) rfl rfl rfl) (OwnB.ext f3 hE).own rfl) (.cons (fun _ _ hE hK hg => ok_move (kn (hK 0 rfl) rfl q0)) (.cons (fun _ _ hE hK hg => ok_nilChk (ksv (j := 4) (hK 26 rfl) rfl rfl rfl)) (.cons (fun _ _ hE hK hg => ok_fieldAddr fl108_1 (ksv (j := 5) (hK 27 rfl) rfl rfl rfl)) (.cons (fun _ _ hE hK hg => ok_loadOwn ty3 rfl (ksv (j := 6) (hK 28 rfl) rfl rfl rfl) (OwnB.ext f3 hE).own rfl) (.cons (fun _ _ hE hK hg => ok_sub (ksv (j := 7) (hK 29 rfl) rfl rfl rfl) rfl) (.cons (fun _ _ hE hK hg => okl_idx (r := (rInt .i64)) (O := Oi_) ty58 ty3 rfl (ksv (j := 3) (hK 25 rfl) rfl rfl rfl) (rd_of (GR.v_ext _ f2 hE)) (ksv (j := 8) (hK 30 rfl) rfl rfl rfl) hx4) (.cons (fun _ _ hE hK hg => okl_ldr (rInt .i64) (fun _ => rfl) ty3 rfl rfl rfl (kspS (φ := SP.ptr (rInt .i64) Oi_ x4) (j := 9) (hK 31 rfl) rfl rfl rfl) (fun _ _ _ h => rInt_v.1 h)) (.cons (fun _ _ hE hK hg => ok_move (kn (hK 1 rfl) rfl q1)) (.cons ?z5_12 (.cons (fun _ _ hE hK hg => ok_assign (ksv (j := 12) (hK 34 rfl) rfl rfl rfl)) .nil)))))))))))))) ?zok5 ?zgd5 ?zk5
  case z5_12 => intro a' w' hE hK hg; have c_ := ok_colletref01_Mod (OkO.ext hB.ok hE)  hx5; exact ok_call2 fn37 (ksv (j := 10) (hK 32 rfl) rfl rfl rfl) (ksv (j := 11) (hK 33 rfl) rfl rfl rfl) c_
  case zok5 | zgd5 => kernel_rfl
  intro a6 w6 hA hE HF
  have q4 := ksv (HF 4) rfl rfl rfl
  clear q0
  clear q1
  clear HF
  replace f3 := f3.ext hE
  replace f2 := GR.v_ext _ f2 hE
  replace hB := Base.step hB hE hO; clear hE
  refine li_nil (nx_then (wp_ret ?_))
  have h := Comp.run_pure h; subst h
  exact retG1 Try.results74 hA (.tmp q4) (bioEnd hB f3 ⟨_, _, rfl, (rel_ofF (r := (rSl (rInt .i64))) f2 rfl rfl), ⟨_, _, rfl, rfl, rfl⟩⟩ rfl)
theorem ok_colletref02_most4 {O : Tags} {w0 : World} (hO : OkO O w0) {x_0 : Int} {n : Nat} {y : Bytes} (h : (colletref02_most4 x_0).run n = some y) : Pure Try.prog 117 #[.int .i64 x_0] w0 (SP.isv (.string (str y))).holds := by
 unfold colletref02_most4 at h
 refine pure_of_wp Try.func117 rfl 16 Try.ntmps117 (by simp) fun a0 hA hs0 => ?_
 have q0 : a0.get 0 = .int .i64 x_0 := hs0 0 _ rfl
 clear hs0
 have hB : Base (Fr w0) O w0 O w0 := Base.start hO
 refine wp_seq ?_
 refine' region [_] mixed hA (.cons (fun _ _ hE hK hg => ok_assign rfl) .nil) ?zok1 ?zgd1 ?zk1
 case zok1 | zgd1 => kernel_rfl
 intro a1 w1 hA hE HF
 replace q0 := kn (HF 0) rfl q0
 clear HF
 replace hB := Base.step hB hE hO; clear hE
 refine li_nil (nx_then (wp_seq ?_))
 obtain ⟨x1, hx1, h⟩ := Comp.run_bind h
 refine' region [_, _, _, _, _, _, _, _, _, _, _, SP.vl (rSl (rInt .u8)) O [(IntKind.wrap .u8 (shrF .i64 x_0 24)), (IntKind.wrap .u8 (shrF .i64 x_0 16)), (IntKind.wrap .u8 (shrF .i64 x_0 8)), (IntKind.wrap .u8 x_0)], SP.isv (.string (str x1)), _] mixed hA (.cons (fun _ _ hE hK hg => ok_move (kn (hK 0 rfl) rfl q0)) (.cons (fun _ _ hE hK hg => okl_shr (ksv (j := 0) (hK 3 rfl) rfl rfl rfl) rfl (by decide)) (.cons (fun _ _ hE hK hg => ok_convI ty3 ty5 (ksv (j := 1) (hK 4 rfl) rfl rfl rfl)) (.cons (fun _ _ hE hK hg => ok_move (kn (hK 0 rfl) rfl q0)) (.cons (fun _ _ hE hK hg => okl_shr (ksv (j := 3) (hK 6 rfl) rfl rfl rfl) rfl (by decide)) (.cons (fun _ _ hE hK hg => ok_convI ty3 ty5 (ksv (j := 4) (hK 7 rfl) rfl rfl rfl)) (.cons (fun _ _ hE hK hg => ok_move (kn (hK 0 rfl) rfl q0)) (.cons (fun _ _ hE hK hg => okl_shr (ksv (j := 6) (hK 9 rfl) rfl rfl rfl) rfl (by decide)) (.cons (fun _ _ hE hK hg => ok_convI ty3 ty5 (ksv (j := 7) (hK 10 rfl) rfl rfl rfl)) (.cons (fun _ _ hE hK hg => ok_move (kn (hK 0 rfl) rfl q0)) (.cons (fun _ _ hE hK hg => ok_convI ty3 ty5 (ksv (j := 9) (hK 12 rfl) rfl rfl rfl)) (.cons (fun _ _ hE hK hg => okl_buildSliceV (r := (rInt .u8)) (fun _ => rfl) rfl (OkO.ext hB.ok hE) ty104 ty5 (parts_cons (ksv (j := 2) (hK 5 rfl) rfl rfl rfl) (parts_cons (ksv (j := 5) (hK 8 rfl) rfl rfl rfl) (parts_cons (ksv (j := 8) (hK 11 rfl) rfl rfl rfl) (parts_cons (ksv (j := 10) (hK 13 rfl) rfl rfl rfl) parts_nil)))) ⟨(by exact rInt_v.2 rfl), ⟨(by exact rInt_v.2 rfl), ⟨(by exact rInt_v.2 rfl), ⟨(by exact rInt_v.2 rfl), trivial⟩⟩⟩⟩ rfl (by decide)) (.cons (fun _ _ hE hK hg => okl_bytesToStr ty104 ty5 ty9 rfl (rd_of (kspS (φ := SP.vl (rSl (rInt .u8)) O [(IntKind.wrap .u8 (shrF .i64 x_0 24)), (IntKind.wrap .u8 (shrF .i64 x_0 16)), (IntKind.wrap .u8 (shrF .i64 x_0 8)), (IntKind.wrap .u8 x_0)]) (j := 11) (hK 14 rfl) rfl rfl rfl)) hx1) (.cons (fun _ _ hE hK hg => ok_assign (ksv (j := 12) (hK 15 rfl) rfl rfl rfl)) .nil)))))))))))))) ?zok2 ?zgd2 ?zk2
 case zok2 | zgd2 => kernel_rfl
 intro a2 w2 hA hE HF
 have q2 := ksv (HF 2) rfl rfl rfl
 clear q0
 clear HF
 replace hB := Base.step hB hE hO; clear hE
 refine li_nil (nx_then (wp_ret ?_))
 have h := Comp.run_pure h; subst h
 exact retPure Try.results117 hA q2 hB.ext rfl
theorem ok_colletref02_Of {O : Tags} {w0 : World} (hO : OkO O w0) {x_0 : Bytes} {n : Nat} {y : Bytes} (h : (colletref02_Of x_0).run n = some y) : Pure Try.prog 71 #[.string (str x_0)] w0 (SP.isv (.string (str y))).holds := by
 unfold colletref02_Of at h
 refine pure_of_wp Try.func71 rfl 35 Try.ntmps71 (by simp) fun a0 hA hs0 => ?_
 have q0 : a0.get 0 = .string (str x_0) := hs0 0 _ rfl
 clear hs0
 have hB : Base (Fr w0) O w0 O w0 := Base.start hO
 refine wp_seq ?_
 refine' region [_] mixed hA (.cons (fun _ _ hE hK hg => ok_assign rfl) .nil) ?zok1 ?zgd1 ?zk1
 case zok1 | zgd1 => kernel_rfl
 intro a1 w1 hA hE HF
 replace q0 := kn (HF 0) rfl q0
 clear HF
 replace hB := Base.step hB hE hO; clear hE
 refine li_nil (nx_then (wp_seq ?_))
 refine' region [_] mixed hA (.cons (fun _ _ hE hK hg => ok_assign rfl) .nil) ?zok2 ?zgd2 ?zk2
 case zok2 | zgd2 => kernel_rfl
 intro a2 w2 hA hE HF
 replace q0 := kn (HF 0) rfl q0
 have q3 := ksv (HF 3) rfl rfl rfl
 clear HF
 replace hB := Base.step hB hE hO; clear hE
 refine li_nil (nx_then (wp_seq ?_))
 refine' region [_] mixed hA (.cons (fun _ _ hE hK hg => ok_assign rfl) .nil) ?zok3 ?zgd3 ?zk3
 case zok3 | zgd3 => kernel_rfl
 intro a3 w3 hA hE HF
 replace q0 := kn (HF 0) rfl q0
 replace q3 := kn (HF 3) rfl q3
 have q4 := ksv (HF 4) rfl rfl rfl
 clear HF
 replace hB := Base.step hB hE hO; clear hE
 refine li_nil (nx_then ?_)
 refine seq_join (fun a w => ∃ (O15 : Tags) (x13 : Int) (x14 : Int), a.fit 35 ∧ Base (Fr w0) O w0 O15 w ∧ a.get 3 = .int .i64 x13 ∧ a.get 4 = .int .i64 x14 ∧ (colletref02_Of_j1 x13 x14).run n = some y) ?_ ?_
 ·
  refine wp_seq ?_
  refine' region [_] mixed hA (.cons (fun _ _ hE hK hg => ok_assign rfl) .nil) ?zok4 ?zgd4 ?zk4
  case zok4 | zgd4 => kernel_rfl
  intro a4 w4 hA hE HF
  replace q0 := kn (HF 0) rfl q0
  replace q3 := kn (HF 3) rfl q3
  replace q4 := kn (HF 4) rfl q4
  have q5 := ksv (HF 5) rfl rfl rfl
  clear HF
  replace hB := Base.step hB hE hO; clear hE
  refine li_nil (nx_then (wp_block ?_))
  obtain ⟨e2, he2, hk2⟩ := Comp.run_bind h; clear h
  refine loop_m (fun m a w => ∃ (O4 : Tags) (x1 : Int) (x2 : Int) (x3 : Int), a.fit 35 ∧ Base (Fr w0) O w0 O4 w ∧ a.get 0 = .string (str x_0) ∧ a.get 3 = .int .i64 x1 ∧ a.get 4 = .int .i64 x2 ∧ a.get 5 = .int .i64 x3 ∧ Comp.loopN (fun s => colletref02_Of_l2 x_0 s.1 s.2.1 s.2.2) n m (x1, x2, x3) = some e2) (m := n) ?st2 ?_
  case st2 =>
   exact ⟨_, _, _, _, hA, hB, q0, q3, q4, q5, Comp.run_loop he2⟩
  intro m_ a5 w5 hI
  clear hA hB he2 q0 q3 q4 q5
  obtain ⟨O4, x1, x2, x3, hA, hB, q0, q3, q4, q5, hl⟩ := hI
  obtain ⟨m2, hlt2, st2, h, hnext2, hdone2⟩ := Comp.loopN_succ hl; clear hl
  replace h : (colletref02_Of_l2 x_0 x1 x2 x3).run n = some st2 := h
  unfold colletref02_Of_l2 at h
  refine wp_seq (wp_seq ?_)
  refine' region [_, _, _, _] mixed hA (.cons (fun _ _ hE hK hg => ok_move (kn (hK 5 rfl) rfl q5)) (.cons (fun _ _ hE hK hg => ok_move (kn (hK 0 rfl) rfl q0)) (.cons (fun _ _ hE hK hg => okl_lenS ty9 (ksv (j := 1) (hK 7 rfl) rfl rfl rfl)) (.cons (fun _ _ hE hK hg => ok_lss (ksv (j := 0) (hK 6 rfl) rfl rfl rfl) (ksv (j := 2) (hK 8 rfl) rfl rfl rfl)) .nil)))) ?zok5 ?zgd5 ?zk5
  case zok5 | zgd5 => kernel_rfl
  intro a6 w6 hA hE HF
  replace q0 := kn (HF 0) rfl q0
  replace q3 := kn (HF 3) rfl q3
  replace q4 := kn (HF 4) rfl q4
  replace q5 := kn (HF 5) rfl q5
  have q9 := ksv (HF 9) rfl rfl rfl
  clear HF
  replace hB := Base.step hB hE hO; clear hE
  refine li_nil (nx_then ?_)
  refine wp_cond_b q9 (fun hc => ?_) (fun hc => ?_)
  ·
   replace h := Comp.run_b_t hc h; clear hc
   refine wp_skip (nx_then (wp_seq (wp_block (wp_seq ?_))))
   obtain ⟨x5, hx5, h⟩ := Comp.run_bind h
   refine' region [_, _, _, _, SP.isv (.int .u8 x5), _, _, _, _, _] mixed hA (.cons (fun _ _ hE hK hg => ok_move (kn (hK 3 rfl) rfl q3)) (.cons (fun _ _ hE hK hg => ok_mul rfl (ksv (j := 0) (hK 12 rfl) rfl rfl rfl)) (.cons (fun _ _ hE hK hg => ok_move (kn (hK 0 rfl) rfl q0)) (.cons (fun _ _ hE hK hg => ok_move (kn (hK 5 rfl) rfl q5)) (.cons (fun _ _ hE hK hg => okl_indexS ty9 (ksv (j := 2) (hK 14 rfl) rfl rfl rfl) (ksv (j := 3) (hK 15 rfl) rfl rfl rfl) hx5) (.cons (fun _ _ hE hK hg => ok_convI ty5 ty3 (ksv (j := 4) (hK 16 rfl) rfl rfl rfl)) (.cons (fun _ _ hE hK hg => ok_add (ksv (j := 1) (hK 13 rfl) rfl rfl rfl) (ksv (j := 5) (hK 17 rfl) rfl rfl rfl)) (.cons (fun _ _ hE hK hg => ok_add (ksv (j := 6) (hK 18 rfl) rfl rfl rfl) rfl) (.cons (fun _ _ hE hK hg => ok_rem (ksv (j := 7) (hK 19 rfl) rfl rfl rfl) rfl (by decide)) (.cons (fun _ _ hE hK hg => ok_assign (ksv (j := 8) (hK 20 rfl) rfl rfl rfl)) .nil)))))))))) ?zok6 ?zgd6 ?zk6
   case zok6 | zgd6 => kernel_rfl
   intro a7 w7 hA hE HF
   replace q0 := kn (HF 0) rfl q0
   have q3' := ksv (HF 3) rfl rfl rfl
   replace q3 := q3'; clear q3'
   replace q4 := kn (HF 4) rfl q4
   replace q5 := kn (HF 5) rfl q5
   clear q9
   clear HF
   replace hB := Base.step hB hE hO; clear hE
   obtain ⟨x6, hx_, h⟩ := Comp.run_bind h; replace hx_ := Comp.run_pure hx_; rw [hx_] at q3; clear hx_
   refine li_nil (nx_then ?_)
   obtain ⟨x7, hx7, h⟩ := Comp.run_bind h
   refine' region [_, _, _, _, SP.isv (.int .u8 x7), _, _, _, _, _] mixed hA (.cons (fun _ _ hE hK hg => ok_move (kn (hK 4 rfl) rfl q4)) (.cons (fun _ _ hE hK hg => ok_mul rfl (ksv (j := 0) (hK 21 rfl) rfl rfl rfl)) (.cons (fun _ _ hE hK hg => ok_move (kn (hK 0 rfl) rfl q0)) (.cons (fun _ _ hE hK hg => ok_move (kn (hK 5 rfl) rfl q5)) (.cons (fun _ _ hE hK hg => okl_indexS ty9 (ksv (j := 2) (hK 23 rfl) rfl rfl rfl) (ksv (j := 3) (hK 24 rfl) rfl rfl rfl) hx7) (.cons (fun _ _ hE hK hg => ok_convI ty5 ty3 (ksv (j := 4) (hK 25 rfl) rfl rfl rfl)) (.cons (fun _ _ hE hK hg => ok_add (ksv (j := 1) (hK 22 rfl) rfl rfl rfl) (ksv (j := 5) (hK 26 rfl) rfl rfl rfl)) (.cons (fun _ _ hE hK hg => ok_add (ksv (j := 6) (hK 27 rfl) rfl rfl rfl) rfl) (.cons (fun _ _ hE hK hg => ok_rem (ksv (j := 7) (hK 28 rfl) rfl rfl rfl) rfl (by decide)) (.cons (fun _ _ hE hK hg => ok_assign (ksv (j := 8) (hK 29 rfl) rfl rfl rfl)) .nil)))))))))) ?zok7 ?zgd7 ?zk7
   case zok7 | zgd7 => kernel_rfl
   intro a8 w8 hA hE HF
   replace q0 := kn (HF 0) rfl q0
   replace q3 := kn (HF 3) rfl q3
   have q4' := ksv (HF 4) rfl rfl rfl
   replace q4 := q4'; clear q4'
   replace q5 := kn (HF 5) rfl q5
   clear HF
   replace hB := Base.step hB hE hO; clear hE
   obtain ⟨x8, hx_, h⟩ := Comp.run_bind h; replace hx_ := Comp.run_pure hx_; rw [hx_] at q4; clear hx_
   refine li_nil (nx_blk (nx_then ?_))
   refine' region [_, _, _] mixed hA (.cons (fun _ _ hE hK hg => ok_move (kn (hK 5 rfl) rfl q5)) (.cons (fun _ _ hE hK hg => ok_add (ksv (j := 0) (hK 10 rfl) rfl rfl rfl) rfl) (.cons (fun _ _ hE hK hg => ok_assign (ksv (j := 1) (hK 11 rfl) rfl rfl rfl)) .nil))) ?zok8 ?zgd8 ?zk8
   case zok8 | zgd8 => kernel_rfl
   intro a9 w9 hA hE HF
   replace q0 := kn (HF 0) rfl q0
   replace q3 := kn (HF 3) rfl q3
   replace q4 := kn (HF 4) rfl q4
   have q5' := ksv (HF 5) rfl rfl rfl
   replace q5 := q5'; clear q5'
   clear HF
   replace hB := Base.step hB hE hO; clear hE
   refine li_nil (nx_then ?_)
   have h := hnext2 _ (Comp.run_pure h).symm
   refine ⟨m2, hlt2, ?_⟩
   exact ⟨_, _, _, _, hA, hB, q0, q3, q4, q5, h⟩
  ·
   replace h := Comp.run_b_f hc h; clear hc
   refine wp_exit (ex_then (ex_then (ex_same ?_)))
   have hd_ := hdone2 _ (Comp.run_pure h).symm; clear h
   subst hd_; have h := hk2; clear hk2; try dsimp only at h
   refine nx_then ?_
   exact ⟨_, _, _, hA, hB, q3, q4, h⟩
 intro a10 w10 hI
 clear hA hB h q0 q3 q4
 obtain ⟨O15, x13, x14, hA, hB, q3, q4, h⟩ := hI
 unfold colletref02_Of_j1 at h
 refine wp_seq ?_
 obtain ⟨x16, hx16, h⟩ := Comp.run_bind h
 obtain ⟨x17, hx17, h⟩ := Comp.run_bind h
 obtain ⟨x18, hx18, h⟩ := Comp.run_bind h
 refine' region [_, SP.isv (.string (str x16)), _, SP.isv (.string (str x17)), SP.isv (.string (str x18)), _] mixed hA (.cons (fun _ _ hE hK hg => ok_move (kn (hK 3 rfl) rfl q3)) (.cons ?z9_1 (.cons (fun _ _ hE hK hg => ok_move (kn (hK 4 rfl) rfl q4)) (.cons ?z9_3 (.cons (fun _ _ hE hK hg => okl_addS (ksv (j := 1) (hK 31 rfl) rfl rfl rfl) (ksv (j := 3) (hK 33 rfl) rfl rfl rfl) hx18) (.cons (fun _ _ hE hK hg => ok_assign (ksv (j := 4) (hK 34 rfl) rfl rfl rfl)) .nil)))))) ?zok9 ?zgd9 ?zk9
 case z9_1 => intro a' w' hE hK hg; have c_ := ok_colletref02_most4 (OkO.ext hB.ok hE)  hx16; exact ok_call1 fn117 (ksv (j := 0) (hK 30 rfl) rfl rfl rfl) c_
 case z9_3 => intro a' w' hE hK hg; have c_ := ok_colletref02_most4 (OkO.ext hB.ok hE)  hx17; exact ok_call1 fn117 (ksv (j := 2) (hK 32 rfl) rfl rfl rfl) c_
 case zok9 | zgd9 => kernel_rfl
 intro a11 w11 hA hE HF
 have q2 := ksv (HF 2) rfl rfl rfl
 clear q3
 clear q4
 clear HF
 replace hB := Base.step hB hE hO; clear hE
 refine li_nil (nx_then (wp_ret ?_))
 have h := Comp.run_pure h; subst h
 exact retPure Try.results71 hA q2 hB.ext rfl
theorem ok_colletref37_Root {O : Tags} {w0 : World} (hO : OkO O w0) {x_0 : Int} {n : Nat} {y : Bytes} (h : (colletref37_Root x_0).run n = some y) : Pure Try.prog 29 #[.int .i64 x_0] w0 (SP.isv (.string (str y))).holds := by
 unfold colletref37_Root at h
 refine pure_of_wp Try.func29 rfl 8 Try.ntmps29 (by simp) fun a0 hA hs0 => ?_
 have q0 : a0.get 0 = .int .i64 x_0 := hs0 0 _ rfl
 clear hs0
 have hB : Base (Fr w0) O w0 O w0 := Base.start hO
 refine wp_seq ?_
 refine' region [_] mixed hA (.cons (fun _ _ hE hK hg => ok_assign rfl) .nil) ?zok1 ?zgd1 ?zk1
 case zok1 | zgd1 => kernel_rfl
 intro a1 w1 hA hE HF
 replace q0 := kn (HF 0) rfl q0
 clear HF
 replace hB := Base.step hB hE hO; clear hE
 refine li_nil (nx_then (wp_seq ?_))
 obtain ⟨x1, hx1, h⟩ := Comp.run_bind h
 obtain ⟨x2, hx2, h⟩ := Comp.run_bind h
 obtain ⟨x3, hx3, h⟩ := Comp.run_bind h
 obtain ⟨x4, hx4, h⟩ := Comp.run_bind h
 refine' region [_, SP.vl r_api_Num O x1, SP.isv (.string (str x2)), SP.isv (.string (str x3)), SP.isv (.string (str x4)), _] mixed hA (.cons (fun _ _ hE hK hg => ok_move (kn (hK 0 rfl) rfl q0)) (.cons ?z2_1 (.cons ?z2_2 (.cons (fun _ _ hE hK hg => okl_addS rfl (ksv (j := 2) (hK 5 rfl) rfl rfl rfl) hx3) (.cons ?z2_4 (.cons (fun _ _ hE hK hg => ok_assign (ksv (j := 4) (hK 7 rfl) rfl rfl rfl)) .nil)))))) ?zok2 ?zgd2 ?zk2
 case z2_1 => intro a' w' hE hK hg; have c_ := ok_colletref01_Of (OkO.ext hB.ok hE)  hx1; exact ok_call1 fn65 (ksv (j := 0) (hK 3 rfl) rfl rfl rfl) c_
 case z2_2 => intro a' w' hE hK hg; have c_ := ok_colletref01_Text (OkO.ext hB.ok hE) (kspS (φ := SP.vl r_api_Num O x1) (j := 1) (hK 4 rfl) rfl rfl rfl) hx2; exact ok_call1 fn64 rfl c_
 case z2_4 => intro a' w' hE hK hg; have c_ := ok_colletref02_Of (OkO.ext hB.ok hE)  hx4; exact ok_call1 fn71 (ksv (j := 3) (hK 6 rfl) rfl rfl rfl) c_
 case zok2 | zgd2 => kernel_rfl
 intro a2 w2 hA hE HF
 have q2 := ksv (HF 2) rfl rfl rfl
 clear q0
 clear HF
 replace hB := Base.step hB hE hO; clear hE
 refine li_nil (nx_then (wp_ret ?_))
 have h := Comp.run_pure h; subst h
 exact retPure Try.results29 hA q2 hB.ext rfl
theorem ok_colletref37_writer {O : Tags} {w0 : World} (hO : OkO O w0) {x_0 : api_Entry} {n : Nat} {y : Int} (h : (colletref37_writer x_0).run n = some y) : Pure Try.prog 75 #[.agg #[.int .i64 x_0.Seq, .int .i64 x_0.Shop, .int .i64 x_0.Kind, .int .i64 x_0.Day, .int .i64 x_0.N, .string (str x_0.Before), .string (str x_0.After), .string (str x_0.Prev), .string (str x_0.Mark)]] w0 (SP.isv (.int .i64 y)).holds := by
 unfold colletref37_writer at h
 refine pure_of_wp Try.func75 rfl 10 Try.ntmps75 (by simp) fun a0 hA hs0 => ?_
 have q0 : a0.get 0 = .agg #[.int .i64 x_0.Seq, .int .i64 x_0.Shop, .int .i64 x_0.Kind, .int .i64 x_0.Day, .int .i64 x_0.N, .string (str x_0.Before), .string (str x_0.After), .string (str x_0.Prev), .string (str x_0.Mark)] := hs0 0 _ rfl
 clear hs0
 have hB : Base (Fr w0) O w0 O w0 := Base.start hO
 refine wp_seq ?_
 refine' region [SP.vl (rBox r_api_Entry) O x_0, _] mixed hA (.cons ?z1_0 (.cons (fun _ _ hE hK hg => ok_assign rfl) .nil)) ?zok1 ?zgd1 ?zk1
 case z1_0 => intro a' w' hE hK hg; exact okl_boxV (r := r_api_Entry) fit_api_Entry (OkO.ext hB.ok hE) (kn (hK 0 rfl) rfl q0) (by first | exact (rC_v (x := x_0)).2 rfl | exact ⟨_, rfl, rfl⟩)
 case zok1 | zgd1 => kernel_rfl
 intro a1 w1 hA hE HF
 have f2 := ksp (HF 1) rfl rfl rfl
 obtain ⟨u1, q1'⟩ : ∃ u, a1.get 1 = u := ⟨_, rfl⟩
 rw [q1'] at f2
 have q1 := q1'; clear q1'
 clear q0
 clear HF
 replace hB := Base.step hB hE hO; clear hE
 refine li_nil (nx_then (wp_seq (wp_seq ?_)))
 refine' region [SP.ptr (rInt .i64) O x_0.Kind, SP.isv (.int .i64 x_0.Kind), _] mixed hA (.cons (fun _ _ hE hK hg => okl_fldB (S := r_api_Entry) fit_api_Entry rfl (fun _ => rfl) sb_api_Entry_2 fl26_2 (kn (hK 1 rfl) rfl q1) (GR.v_ext _ f2 hE)) (.cons (fun _ _ hE hK hg => okl_ldr (rInt .i64) (fun _ => rfl) ty3 rfl rfl rfl (kspS (φ := SP.ptr (rInt .i64) O x_0.Kind) (j := 0) (hK 3 rfl) rfl rfl rfl) (fun _ _ _ h => rInt_v.1 h)) (.cons (fun _ _ hE hK hg => ok_eqlI (ksv (j := 1) (hK 4 rfl) rfl rfl rfl) rfl) .nil))) ?zok2 ?zgd2 ?zk2
 case zok2 | zgd2 => kernel_rfl
 intro a2 w2 hA hE HF
 replace q1 := kn (HF 1) rfl q1
 have q5 := ksv (HF 5) rfl rfl rfl
 clear HF
 replace f2 := GR.v_ext _ f2 hE
 replace hB := Base.step hB hE hO; clear hE
 refine li_nil (nx_then ?_)
 refine wp_cond_b q5 (fun hc => ?_) (fun hc => ?_)
 ·
  replace h := Comp.run_b_t hc h; clear hc
  refine wp_seq ?_
  refine' region [SP.ptr (rInt .i64) O x_0.N, SP.isv (.int .i64 x_0.N), _] mixed hA (.cons (fun _ _ hE hK hg => okl_fldB (S := r_api_Entry) fit_api_Entry rfl (fun _ => rfl) sb_api_Entry_4 fl26_4 (kn (hK 1 rfl) rfl q1) (GR.v_ext _ f2 hE)) (.cons (fun _ _ hE hK hg => okl_ldr (rInt .i64) (fun _ => rfl) ty3 rfl rfl rfl (kspS (φ := SP.ptr (rInt .i64) O x_0.N) (j := 0) (hK 6 rfl) rfl rfl rfl) (fun _ _ _ h => rInt_v.1 h)) (.cons (fun _ _ hE hK hg => ok_assign (ksv (j := 1) (hK 7 rfl) rfl rfl rfl)) .nil))) ?zok3 ?zgd3 ?zk3
  case zok3 | zgd3 => kernel_rfl
  intro a3 w3 hA hE HF
  have q2 := ksv (HF 2) rfl rfl rfl
  clear q1
  clear q5
  clear HF
  replace f2 := GR.v_ext _ f2 hE
  replace hB := Base.step hB hE hO; clear hE
  refine li_nil (nx_then (wp_ret (rt_then ?_)))
  have h := Comp.run_pure h; subst h
  exact retPure Try.results75 hA q2 hB.ext rfl
 ·
  replace h := Comp.run_b_f hc h; clear hc
  refine wp_skip (nx_then (wp_seq ?_))
  refine' region [SP.ptr (rInt .i64) O x_0.Shop, SP.isv (.int .i64 x_0.Shop), _] mixed hA (.cons (fun _ _ hE hK hg => okl_fldB (S := r_api_Entry) fit_api_Entry rfl (fun _ => rfl) sb_api_Entry_1 fl26_1 (kn (hK 1 rfl) rfl q1) (GR.v_ext _ f2 hE)) (.cons (fun _ _ hE hK hg => okl_ldr (rInt .i64) (fun _ => rfl) ty3 rfl rfl rfl (kspS (φ := SP.ptr (rInt .i64) O x_0.Shop) (j := 0) (hK 8 rfl) rfl rfl rfl) (fun _ _ _ h => rInt_v.1 h)) (.cons (fun _ _ hE hK hg => ok_assign (ksv (j := 1) (hK 9 rfl) rfl rfl rfl)) .nil))) ?zok4 ?zgd4 ?zk4
  case zok4 | zgd4 => kernel_rfl
  intro a4 w4 hA hE HF
  have q2 := ksv (HF 2) rfl rfl rfl
  clear q1
  clear q5
  clear HF
  replace f2 := GR.v_ext _ f2 hE
  replace hB := Base.step hB hE hO; clear hE
  refine li_nil (nx_then (wp_ret ?_))
  have h := Comp.run_pure h; subst h
  exact retPure Try.results75 hA q2 hB.ext rfl
theorem ok_colletref04_code {O : Tags} {w0 : World} (hO : OkO O w0) {x_0 : Int} {n : Nat} {y : Int} (h : (colletref04_code x_0).run n = some y) : Pure Try.prog 127 #[.int .i64 x_0] w0 (SP.isv (.int .u64 y)).holds := by
 unfold colletref04_code at h
 refine pure_of_wp Try.func127 rfl 14 Try.ntmps127 (by simp) fun a0 hA hs0 => ?_
 have q0 : a0.get 0 = .int .i64 x_0 := hs0 0 _ rfl
 clear hs0
 have hB : Base (Fr w0) O w0 O w0 := Base.start hO
 refine wp_seq ?_
 refine' region [_] mixed hA (.cons (fun _ _ hE hK hg => ok_assign rfl) .nil) ?zok1 ?zgd1 ?zk1
 case zok1 | zgd1 => kernel_rfl
 intro a1 w1 hA hE HF
 replace q0 := kn (HF 0) rfl q0
 clear HF
 replace hB := Base.step hB hE hO; clear hE
 refine li_nil (nx_then (wp_seq (wp_seq ?_)))
 refine' region [_, _] mixed hA (.cons (fun _ _ hE hK hg => ok_move (kn (hK 0 rfl) rfl q0)) (.cons (fun _ _ hE hK hg => ok_geq (ksv (j := 0) (hK 3 rfl) rfl rfl rfl) rfl) .nil)) ?zok2 ?zgd2 ?zk2
 case zok2 | zgd2 => kernel_rfl
 intro a2 w2 hA hE HF
 replace q0 := kn (HF 0) rfl q0
 have q4 := ksv (HF 4) rfl rfl rfl
 clear HF
 replace hB := Base.step hB hE hO; clear hE
 refine li_nil (nx_then ?_)
 refine wp_cond_b q4 (fun hc => ?_) (fun hc => ?_)
 ·
  replace h := Comp.run_b_t hc h; clear hc
  refine wp_seq ?_
  refine' region [_, _, _, _] mixed hA (.cons (fun _ _ hE hK hg => ok_move (kn (hK 0 rfl) rfl q0)) (.cons (fun _ _ hE hK hg => ok_convI ty3 ty122 (ksv (j := 0) (hK 5 rfl) rfl rfl rfl)) (.cons (fun _ _ hE hK hg => ok_mul rfl (ksv (j := 1) (hK 6 rfl) rfl rfl rfl)) (.cons (fun _ _ hE hK hg => ok_assign (ksv (j := 2) (hK 7 rfl) rfl rfl rfl)) .nil)))) ?zok3 ?zgd3 ?zk3
  case zok3 | zgd3 => kernel_rfl
  intro a3 w3 hA hE HF
  have q2 := ksv (HF 2) rfl rfl rfl
  clear q0
  clear q4
  clear HF
  replace hB := Base.step hB hE hO; clear hE
  obtain ⟨x1, hx_, h⟩ := Comp.run_bind h; replace hx_ := Comp.run_pure hx_; rw [hx_] at q2; clear hx_
  refine li_nil (nx_then (wp_ret (rt_then ?_)))
  have h := Comp.run_pure h; subst h
  exact retPure Try.results127 hA q2 hB.ext rfl
 ·
  replace h := Comp.run_b_f hc h; clear hc
  refine wp_skip (nx_then (wp_seq ?_))
  refine' region [_, _, _, _, _, _, _] mixed hA (.cons (fun _ _ hE hK hg => ok_move (kn (hK 0 rfl) rfl q0)) (.cons (fun _ _ hE hK hg => ok_add (ksv (j := 0) (hK 8 rfl) rfl rfl rfl) rfl) (.cons (fun _ _ hE hK hg => ok_neg (ksv (j := 1) (hK 9 rfl) rfl rfl rfl)) (.cons (fun _ _ hE hK hg => ok_convI ty3 ty122 (ksv (j := 2) (hK 10 rfl) rfl rfl rfl)) (.cons (fun _ _ hE hK hg => ok_mul rfl (ksv (j := 3) (hK 11 rfl) rfl rfl rfl)) (.cons (fun _ _ hE hK hg => ok_add (ksv (j := 4) (hK 12 rfl) rfl rfl rfl) rfl) (.cons (fun _ _ hE hK hg => ok_assign (ksv (j := 5) (hK 13 rfl) rfl rfl rfl)) .nil))))))) ?zok4 ?zgd4 ?zk4
  case zok4 | zgd4 => kernel_rfl
  intro a4 w4 hA hE HF
  have q2 := ksv (HF 2) rfl rfl rfl
  clear q0
  clear q4
  clear HF
  replace hB := Base.step hB hE hO; clear hE
  obtain ⟨x2, hx_, h⟩ := Comp.run_bind h; replace hx_ := Comp.run_pure hx_; rw [hx_] at q2; clear hx_
  refine li_nil (nx_then (wp_ret ?_))
  have h := Comp.run_pure h; subst h
  exact retPure Try.results127 hA q2 hB.ext rfl
theorem ok_colletref04_Int {O : Tags} {w0 : World} (hO : OkO O w0) {x_0 : Int} {n : Nat} {y : Bytes} (h : (colletref04_Int x_0).run n = some y) : Pure Try.prog 96 #[.int .i64 x_0] w0 (SP.isv (.string (str y))).holds := by
 unfold colletref04_Int at h
 refine pure_of_wp Try.func96 rfl 25 Try.ntmps96 (by simp) fun a0 hA hs0 => ?_
 have q0 : a0.get 0 = .int .i64 x_0 := hs0 0 _ rfl
 clear hs0
 have hB : Base (Fr w0) O w0 O w0 := Base.start hO
 refine wp_seq ?_
 refine' region [_] mixed hA (.cons (fun _ _ hE hK hg => ok_assign rfl) .nil) ?zok1 ?zgd1 ?zk1
 case zok1 | zgd1 => kernel_rfl
 intro a1 w1 hA hE HF
 replace q0 := kn (HF 0) rfl q0
 clear HF
 replace hB := Base.step hB hE hO; clear hE
 refine li_nil (nx_then (wp_seq ?_))
 refine' region [_] mixed hA (.cons (fun _ _ hE hK hg => ok_assign rfl) .nil) ?zok2 ?zgd2 ?zk2
 case zok2 | zgd2 => kernel_rfl
 intro a2 w2 hA hE HF
 replace q0 := kn (HF 0) rfl q0
 have q3 := ksv (HF 3) rfl rfl rfl
 clear HF
 replace hB := Base.step hB hE hO; clear hE
 refine li_nil (nx_then (wp_seq ?_))
 obtain ⟨x1, hx1, h⟩ := Comp.run_bind h
 refine' region [_, SP.isv (.int .u64 x1), _] mixed hA (.cons (fun _ _ hE hK hg => ok_move (kn (hK 0 rfl) rfl q0)) (.cons ?z3_1 (.cons (fun _ _ hE hK hg => ok_assign (ksv (j := 1) (hK 6 rfl) rfl rfl rfl)) .nil))) ?zok3 ?zgd3 ?zk3
 case z3_1 => intro a' w' hE hK hg; have c_ := ok_colletref04_code (OkO.ext hB.ok hE)  hx1; exact ok_call1 fn127 (ksv (j := 0) (hK 5 rfl) rfl rfl rfl) c_
 case zok3 | zgd3 => kernel_rfl
 intro a3 w3 hA hE HF
 replace q3 := kn (HF 3) rfl q3
 have q4 := ksv (HF 4) rfl rfl rfl
 clear q0
 clear HF
 replace hB := Base.step hB hE hO; clear hE
 refine li_nil (nx_then ?_)
 refine seq_join (fun a w => ∃ (O13 : Tags) (x11 : Bytes) (x12 : Int), a.fit 25 ∧ Base (Fr w0) O w0 O13 w ∧ a.get 3 = .string (str x11) ∧ a.get 4 = .int .u64 x12 ∧ (colletref04_Int_j1 x11 x12).run n = some y) ?_ ?_
 ·
  refine wp_block ?_
  obtain ⟨e2, he2, hk2⟩ := Comp.run_bind h; clear h
  refine loop_m (fun m a w => ∃ (O4 : Tags) (x2 : Bytes) (x3 : Int), a.fit 25 ∧ Base (Fr w0) O w0 O4 w ∧ a.get 3 = .string (str x2) ∧ a.get 4 = .int .u64 x3 ∧ Comp.loopN (fun s => colletref04_Int_l2 s.1 s.2) n m (x2, x3) = some e2) (m := n) ?st2 ?_
  case st2 =>
   exact ⟨_, _, _, hA, hB, q3, q4, Comp.run_loop he2⟩
  intro m_ a4 w4 hI
  clear hA hB he2 q3 q4
  obtain ⟨O4, x2, x3, hA, hB, q3, q4, hl⟩ := hI
  obtain ⟨m2, hlt2, st2, h, hnext2, hdone2⟩ := Comp.loopN_succ hl; clear hl
  replace h : (colletref04_Int_l2 x2 x3).run n = some st2 := h
  unfold colletref04_Int_l2 at h
  refine wp_seq (wp_seq ?_)
  refine' region [_, _] mixed hA (.cons (fun _ _ hE hK hg => ok_move (kn (hK 4 rfl) rfl q4)) (.cons (fun _ _ hE hK hg => ok_geq (ksv (j := 0) (hK 7 rfl) rfl rfl rfl) rfl) .nil)) ?zok4 ?zgd4 ?zk4
  case zok4 | zgd4 => kernel_rfl
  intro a5 w5 hA hE HF
  replace q3 := kn (HF 3) rfl q3
  replace q4 := kn (HF 4) rfl q4
  have q8 := ksv (HF 8) rfl rfl rfl
  clear HF
  replace hB := Base.step hB hE hO; clear hE
  refine li_nil (nx_then ?_)
  refine wp_cond_b q8 (fun hc => ?_) (fun hc => ?_)
  ·
   replace h := Comp.run_b_t hc h; clear hc
   refine wp_skip (nx_then (wp_block (wp_seq ?_)))
   obtain ⟨x5, hx5, h⟩ := Comp.run_bind h
   obtain ⟨x6, hx6, h⟩ := Comp.run_bind h
   refine' region [_, _, _, _, _, SP.vl (rSl (rInt .u8)) O4 [(IntKind.wrap .u8 (IntKind.wrap .u64 ((Int.tmod x3 128) + 128)))], SP.isv (.string (str x5)), SP.isv (.string (str x6)), _] mixed hA (.cons (fun _ _ hE hK hg => ok_move (kn (hK 3 rfl) rfl q3)) (.cons (fun _ _ hE hK hg => ok_move (kn (hK 4 rfl) rfl q4)) (.cons (fun _ _ hE hK hg => ok_rem (ksv (j := 1) (hK 10 rfl) rfl rfl rfl) rfl (by decide)) (.cons (fun _ _ hE hK hg => ok_add (ksv (j := 2) (hK 11 rfl) rfl rfl rfl) rfl) (.cons (fun _ _ hE hK hg => ok_convI ty122 ty5 (ksv (j := 3) (hK 12 rfl) rfl rfl rfl)) (.cons (fun _ _ hE hK hg => okl_buildSliceV (r := (rInt .u8)) (fun _ => rfl) rfl (OkO.ext hB.ok hE) ty104 ty5 (parts_cons (ksv (j := 4) (hK 13 rfl) rfl rfl rfl) parts_nil) ⟨(by exact rInt_v.2 rfl), trivial⟩ rfl (by decide)) (.cons (fun _ _ hE hK hg => okl_bytesToStr ty104 ty5 ty9 rfl (rd_of (kspS (φ := SP.vl (rSl (rInt .u8)) O4 [(IntKind.wrap .u8 (IntKind.wrap .u64 ((Int.tmod x3 128) + 128)))]) (j := 5) (hK 14 rfl) rfl rfl rfl)) hx5) (.cons (fun _ _ hE hK hg => okl_addS (ksv (j := 0) (hK 9 rfl) rfl rfl rfl) (ksv (j := 6) (hK 15 rfl) rfl rfl rfl) hx6) (.cons (fun _ _ hE hK hg => ok_assign (ksv (j := 7) (hK 16 rfl) rfl rfl rfl)) .nil))))))))) ?zok5 ?zgd5 ?zk5
   case zok5 | zgd5 => kernel_rfl
   intro a6 w6 hA hE HF
   have q3' := ksv (HF 3) rfl rfl rfl
   replace q3 := q3'; clear q3'
   replace q4 := kn (HF 4) rfl q4
   clear q8
   clear HF
   replace hB := Base.step hB hE hO; clear hE
   refine li_nil (nx_then ?_)
   refine' region [_, _, _] mixed hA (.cons (fun _ _ hE hK hg => ok_move (kn (hK 4 rfl) rfl q4)) (.cons (fun _ _ hE hK hg => ok_quo (ksv (j := 0) (hK 17 rfl) rfl rfl rfl) rfl (by decide)) (.cons (fun _ _ hE hK hg => ok_assign (ksv (j := 1) (hK 18 rfl) rfl rfl rfl)) .nil))) ?zok6 ?zgd6 ?zk6
   case zok6 | zgd6 => kernel_rfl
   intro a7 w7 hA hE HF
   replace q3 := kn (HF 3) rfl q3
   have q4' := ksv (HF 4) rfl rfl rfl
   replace q4 := q4'; clear q4'
   clear HF
   replace hB := Base.step hB hE hO; clear hE
   refine li_nil (nx_blk (nx_then ?_))
   have h := hnext2 _ (Comp.run_pure h).symm
   refine ⟨m2, hlt2, ?_⟩
   exact ⟨_, _, _, hA, hB, q3, q4, h⟩
  ·
   replace h := Comp.run_b_f hc h; clear hc
   refine wp_exit (ex_then (ex_then (ex_same ?_)))
   have hd_ := hdone2 _ (Comp.run_pure h).symm; clear h
   subst hd_; have h := hk2; clear hk2; try dsimp only at h
   refine nx_then ?_
   exact ⟨_, _, _, hA, hB, q3, q4, h⟩
 intro a8 w8 hI
 clear hA hB h q3 q4
 obtain ⟨O13, x11, x12, hA, hB, q3, q4, h⟩ := hI
 unfold colletref04_Int_j1 at h
 refine wp_seq ?_
 obtain ⟨x14, hx14, h⟩ := Comp.run_bind h
 obtain ⟨x15, hx15, h⟩ := Comp.run_bind h
 refine' region [_, _, _, SP.vl (rSl (rInt .u8)) O13 [(IntKind.wrap .u8 x12)], SP.isv (.string (str x14)), SP.isv (.string (str x15)), _] mixed hA (.cons (fun _ _ hE hK hg => ok_move (kn (hK 3 rfl) rfl q3)) (.cons (fun _ _ hE hK hg => ok_move (kn (hK 4 rfl) rfl q4)) (.cons (fun _ _ hE hK hg => ok_convI ty122 ty5 (ksv (j := 1) (hK 20 rfl) rfl rfl rfl)) (.cons (fun _ _ hE hK hg => okl_buildSliceV (r := (rInt .u8)) (fun _ => rfl) rfl (OkO.ext hB.ok hE) ty104 ty5 (parts_cons (ksv (j := 2) (hK 21 rfl) rfl rfl rfl) parts_nil) ⟨(by exact rInt_v.2 rfl), trivial⟩ rfl (by decide)) (.cons (fun _ _ hE hK hg => okl_bytesToStr ty104 ty5 ty9 rfl (rd_of (kspS (φ := SP.vl (rSl (rInt .u8)) O13 [(IntKind.wrap .u8 x12)]) (j := 3) (hK 22 rfl) rfl rfl rfl)) hx14) (.cons (fun _ _ hE hK hg => okl_addS (ksv (j := 0) (hK 19 rfl) rfl rfl rfl) (ksv (j := 4) (hK 23 rfl) rfl rfl rfl) hx15) (.cons (fun _ _ hE hK hg => ok_assign (ksv (j := 5) (hK 24 rfl) rfl rfl rfl)) .nil))))))) ?zok7 ?zgd7 ?zk7
 case zok7 | zgd7 => kernel_rfl
 intro a9 w9 hA hE HF
 have q2 := ksv (HF 2) rfl rfl rfl
 clear q3
 clear q4
 clear HF
 replace hB := Base.step hB hE hO; clear hE
 refine li_nil (nx_then (wp_ret ?_))
 have h := Comp.run_pure h; subst h
 exact retPure Try.results96 hA q2 hB.ext rfl
theorem ok_colletref04_Ints {O : Tags} {w0 : World} (hO : OkO O w0) {v_0 : Value} {x_0 : List Int} (h_0 : (rSl (rInt .i64)).v O w0 v_0 x_0) {n : Nat} {y : Bytes} (h : (colletref04_Ints x_0).run n = some y) : Pure Try.prog 58 #[v_0] w0 (SP.isv (.string (str y))).holds := by
 unfold colletref04_Ints at h
 refine pure_of_wp Try.func58 rfl 22 Try.ntmps58 (by simp) fun a0 hA hs0 => ?_
 have q0 : a0.get 0 = v_0 := hs0 0 _ rfl
 clear hs0
 have hB : Base (Fr w0) O w0 O w0 := Base.start hO
 refine wp_seq ?_
 refine' region [_] mixed hA (.cons (fun _ _ hE hK hg => ok_assign rfl) .nil) ?zok1 ?zgd1 ?zk1
 case zok1 | zgd1 => kernel_rfl
 intro a1 w1 hA hE HF
 replace q0 := kn (HF 0) rfl q0
 clear HF
 replace h_0 := GR.v_ext _ h_0 hE
 replace hB := Base.step hB hE hO; clear hE
 refine li_nil (nx_then (wp_seq ?_))
 obtain ⟨x1, hx1, h⟩ := Comp.run_bind h
 refine' region [_, _, SP.isv (.string (str x1)), _] mixed hA (.cons (fun _ _ hE hK hg => ok_move (kn (hK 0 rfl) rfl q0)) (.cons (fun _ _ hE hK hg => okl_len (r := (rInt .i64)) ty58 (ksv (j := 0) (hK 5 rfl) rfl rfl rfl) (rd_of (GR.v_ext _ h_0 hE))) (.cons ?z2_2 (.cons (fun _ _ hE hK hg => ok_assign (ksv (j := 2) (hK 7 rfl) rfl rfl rfl)) .nil)))) ?zok2 ?zgd2 ?zk2
 case z2_2 => intro a' w' hE hK hg; have c_ := ok_colletref04_Int (OkO.ext hB.ok hE)  hx1; exact ok_call1 fn96 (ksv (j := 1) (hK 6 rfl) rfl rfl rfl) c_
 case zok2 | zgd2 => kernel_rfl
 intro a2 w2 hA hE HF
 replace q0 := kn (HF 0) rfl q0
 have q3 := ksv (HF 3) rfl rfl rfl
 clear HF
 replace h_0 := GR.v_ext _ h_0 hE
 replace hB := Base.step hB hE hO; clear hE
 refine li_nil (nx_then ?_)
 refine seq_join (fun a w => ∃ (O11 : Tags) (x10 : Bytes), a.fit 22 ∧ Base (Fr w0) O w0 O11 w ∧ a.get 3 = .string (str x10) ∧ (colletref04_Ints_j1 x10).run n = some y) ?_ ?_
 ·
  refine wp_seq ?_
  refine' region [_] mixed hA (.cons (fun _ _ hE hK hg => ok_assign rfl) .nil) ?zok3 ?zgd3 ?zk3
  case zok3 | zgd3 => kernel_rfl
  intro a3 w3 hA hE HF
  replace q0 := kn (HF 0) rfl q0
  replace q3 := kn (HF 3) rfl q3
  have q4 := ksv (HF 4) rfl rfl rfl
  clear HF
  replace h_0 := GR.v_ext _ h_0 hE
  replace hB := Base.step hB hE hO; clear hE
  refine li_nil (nx_then (wp_block ?_))
  obtain ⟨e2, he2, hk2⟩ := Comp.run_bind h; clear h
  refine loop_m (fun m a w => ∃ (O4 : Tags) (x2 : Bytes) (x3 : Int), a.fit 22 ∧ Base (Fr w0) O w0 O4 w ∧ a.get 0 = v_0 ∧ (rSl (rInt .i64)).v O4 w v_0 x_0 ∧ a.get 3 = .string (str x2) ∧ a.get 4 = .int .i64 x3 ∧ Comp.loopN (fun s => colletref04_Ints_l2 x_0 s.1 s.2) n m (x2, x3) = some e2) (m := n) ?st2 ?_
  case st2 =>
   exact ⟨_, _, _, hA, hB, q0, h_0, q3, q4, Comp.run_loop he2⟩
  intro m_ a4 w4 hI
  clear hA hB he2 q0 q3 q4 h_0
  obtain ⟨O4, x2, x3, hA, hB, q0, h_0, q3, q4, hl⟩ := hI
  obtain ⟨m2, hlt2, st2, h, hnext2, hdone2⟩ := Comp.loopN_succ hl; clear hl
  replace h : (colletref04_Ints_l2 x_0 x2 x3).run n = some st2 := h
  unfold colletref04_Ints_l2 at h
  refine wp_seq (wp_seq ?_)
  refine' region [_, _, _, _] mixed hA (.cons (fun _ _ hE hK hg => ok_move (kn (hK 4 rfl) rfl q4)) (.cons (fun _ _ hE hK hg => ok_move (kn (hK 0 rfl) rfl q0)) (.cons (fun _ _ hE hK hg => okl_len (r := (rInt .i64)) ty58 (ksv (j := 1) (hK 9 rfl) rfl rfl rfl) (rd_of (GR.v_ext _ h_0 hE))) (.cons (fun _ _ hE hK hg => ok_lss (ksv (j := 0) (hK 8 rfl) rfl rfl rfl) (ksv (j := 2) (hK 10 rfl) rfl rfl rfl)) .nil)))) ?zok4 ?zgd4 ?zk4
  case zok4 | zgd4 => kernel_rfl
  intro a5 w5 hA hE HF
  replace q0 := kn (HF 0) rfl q0
  replace q3 := kn (HF 3) rfl q3
  replace q4 := kn (HF 4) rfl q4
  have q11 := ksv (HF 11) rfl rfl rfl
  clear HF
  replace h_0 := GR.v_ext _ h_0 hE
  replace hB := Base.step hB hE hO; clear hE
  refine li_nil (nx_then ?_)
  refine wp_cond_b q11 (fun hc => ?_) (fun hc => ?_)
  ·
   replace h := Comp.run_b_t hc h; clear hc
   refine wp_skip (nx_then (wp_seq (wp_block ?_)))
   obtain ⟨x5, hx5, h⟩ := Comp.run_bind h
   obtain ⟨x6, hx6, h⟩ := Comp.run_bind h
   obtain ⟨x7, hx7, h⟩ := Comp.run_bind h
   refine' region [_, _, _, SP.ptr (rInt .i64) O4 x5, SP.isv (.int .i64 x5), SP.isv (.string (str x6)), SP.isv (.string (str x7)), _] mixed hA (.cons (fun _ _ hE hK hg => ok_move (kn (hK 3 rfl) rfl q3)) (.cons (fun _ _ hE hK hg => ok_move (kn (hK 0 rfl) rfl q0)) (.cons (fun _ _ hE hK hg => ok_move (kn (hK 4 rfl) rfl q4)) (.cons (fun _ _ hE hK hg => okl_idx (r := (rInt .i64)) (O := O4) ty58 ty3 rfl (ksv (j := 1) (hK 15 rfl) rfl rfl rfl) (rd_of (GR.v_ext _ h_0 hE)) (ksv (j := 2) (hK 16 rfl) rfl rfl rfl) hx5) (.cons (fun _ _ hE hK hg => okl_ldr (rInt .i64) (fun _ => rfl) ty3 rfl rfl rfl (kspS (φ := SP.ptr (rInt .i64) O4 x5) (j := 3) (hK 17 rfl) rfl rfl rfl) (fun _ _ _ h => rInt_v.1 h)) (.cons ?z5_5 (.cons (fun _ _ hE hK hg => okl_addS (ksv (j := 0) (hK 14 rfl) rfl rfl rfl) (ksv (j := 5) (hK 19 rfl) rfl rfl rfl) hx7) (.cons (fun _ _ hE hK hg => ok_assign (ksv (j := 6) (hK 20 rfl) rfl rfl rfl)) .nil)))))))) ?zok5 ?zgd5 ?zk5
   case z5_5 => intro a' w' hE hK hg; have c_ := ok_colletref04_Int (OkO.ext hB.ok hE)  hx6; exact ok_call1 fn96 (ksv (j := 4) (hK 18 rfl) rfl rfl rfl) c_
   case zok5 | zgd5 => kernel_rfl
   intro a6 w6 hA hE HF
   replace q0 := kn (HF 0) rfl q0
   have q3' := ksv (HF 3) rfl rfl rfl
   replace q3 := q3'; clear q3'
   replace q4 := kn (HF 4) rfl q4
   clear q11
   clear HF
   replace h_0 := GR.v_ext _ h_0 hE
   replace hB := Base.step hB hE hO; clear hE
   refine li_nil (nx_blk (nx_then ?_))
   refine' region [_, _, _] mixed hA (.cons (fun _ _ hE hK hg => ok_move (kn (hK 4 rfl) rfl q4)) (.cons (fun _ _ hE hK hg => ok_add (ksv (j := 0) (hK 12 rfl) rfl rfl rfl) rfl) (.cons (fun _ _ hE hK hg => ok_assign (ksv (j := 1) (hK 13 rfl) rfl rfl rfl)) .nil))) ?zok6 ?zgd6 ?zk6
   case zok6 | zgd6 => kernel_rfl
   intro a7 w7 hA hE HF
   replace q0 := kn (HF 0) rfl q0
   replace q3 := kn (HF 3) rfl q3
   have q4' := ksv (HF 4) rfl rfl rfl
   replace q4 := q4'; clear q4'
   clear HF
   replace h_0 := GR.v_ext _ h_0 hE
   replace hB := Base.step hB hE hO; clear hE
   refine li_nil (nx_then ?_)
   have h := hnext2 _ (Comp.run_pure h).symm
   refine ⟨m2, hlt2, ?_⟩
   exact ⟨_, _, _, hA, hB, q0, h_0, q3, q4, h⟩
  ·
   replace h := Comp.run_b_f hc h; clear hc
   refine wp_exit (ex_then (ex_then (ex_same ?_)))
   have hd_ := hdone2 _ (Comp.run_pure h).symm; clear h
   subst hd_; have h := hk2; clear hk2; try dsimp only at h
   refine nx_then ?_
   exact ⟨_, _, hA, hB, q3, h⟩
 intro a8 w8 hI
 clear hA hB h q0 q3 h_0
 obtain ⟨O11, x10, hA, hB, q3, h⟩ := hI
 unfold colletref04_Ints_j1 at h
 refine wp_seq ?_
 refine' region [_, _] mixed hA (.cons (fun _ _ hE hK hg => ok_move (kn (hK 3 rfl) rfl q3)) (.cons (fun _ _ hE hK hg => ok_assign (ksv (j := 0) (hK 21 rfl) rfl rfl rfl)) .nil)) ?zok7 ?zgd7 ?zk7
 case zok7 | zgd7 => kernel_rfl
 intro a9 w9 hA hE HF
 have q2 := ksv (HF 2) rfl rfl rfl
 clear q3
 clear HF
 replace hB := Base.step hB hE hO; clear hE
 refine li_nil (nx_then (wp_ret ?_))
 have h := Comp.run_pure h; subst h
 exact retPure Try.results58 hA q2 hB.ext rfl
theorem ok_colletref04_Text {O : Tags} {w0 : World} (hO : OkO O w0) {x_0 : Bytes} {n : Nat} {y : Bytes} (h : (colletref04_Text x_0).run n = some y) : Pure Try.prog 59 #[.string (str x_0)] w0 (SP.isv (.string (str y))).holds := by
 unfold colletref04_Text at h
 refine pure_of_wp Try.func59 rfl 8 Try.ntmps59 (by simp) fun a0 hA hs0 => ?_
 have q0 : a0.get 0 = .string (str x_0) := hs0 0 _ rfl
 clear hs0
 have hB : Base (Fr w0) O w0 O w0 := Base.start hO
 refine wp_seq ?_
 refine' region [_] mixed hA (.cons (fun _ _ hE hK hg => ok_assign rfl) .nil) ?zok1 ?zgd1 ?zk1
 case zok1 | zgd1 => kernel_rfl
 intro a1 w1 hA hE HF
 replace q0 := kn (HF 0) rfl q0
 clear HF
 replace hB := Base.step hB hE hO; clear hE
 refine li_nil (nx_then (wp_seq ?_))
 obtain ⟨x1, hx1, h⟩ := Comp.run_bind h
 obtain ⟨x2, hx2, h⟩ := Comp.run_bind h
 refine' region [_, _, SP.isv (.string (str x1)), _, SP.isv (.string (str x2)), _] mixed hA (.cons (fun _ _ hE hK hg => ok_move (kn (hK 0 rfl) rfl q0)) (.cons (fun _ _ hE hK hg => okl_lenS ty9 (ksv (j := 0) (hK 3 rfl) rfl rfl rfl)) (.cons ?z2_2 (.cons (fun _ _ hE hK hg => ok_move (kn (hK 0 rfl) rfl q0)) (.cons (fun _ _ hE hK hg => okl_addS (ksv (j := 2) (hK 5 rfl) rfl rfl rfl) (ksv (j := 3) (hK 6 rfl) rfl rfl rfl) hx2) (.cons (fun _ _ hE hK hg => ok_assign (ksv (j := 4) (hK 7 rfl) rfl rfl rfl)) .nil)))))) ?zok2 ?zgd2 ?zk2
 case z2_2 => intro a' w' hE hK hg; have c_ := ok_colletref04_Int (OkO.ext hB.ok hE)  hx1; exact ok_call1 fn96 (ksv (j := 1) (hK 4 rfl) rfl rfl rfl) c_
 case zok2 | zgd2 => kernel_rfl
 intro a2 w2 hA hE HF
 have q2 := ksv (HF 2) rfl rfl rfl
 clear q0
 clear HF
 replace hB := Base.step hB hE hO; clear hE
 refine li_nil (nx_then (wp_ret ?_))
 have h := Comp.run_pure h; subst h
 exact retPure Try.results59 hA q2 hB.ext rfl
theorem ok_colletref37_Bytes {O : Tags} {w0 : World} (hO : OkO O w0) {x_0 : api_Entry} {n : Nat} {y : Bytes} (h : (colletref37_Bytes x_0).run n = some y) : Pure Try.prog 18 #[.agg #[.int .i64 x_0.Seq, .int .i64 x_0.Shop, .int .i64 x_0.Kind, .int .i64 x_0.Day, .int .i64 x_0.N, .string (str x_0.Before), .string (str x_0.After), .string (str x_0.Prev), .string (str x_0.Mark)]] w0 (SP.isv (.string (str y))).holds := by
 unfold colletref37_Bytes at h
 refine pure_of_wp Try.func18 rfl 27 Try.ntmps18 (by simp) fun a0 hA hs0 => ?_
 have q0 : a0.get 0 = .agg #[.int .i64 x_0.Seq, .int .i64 x_0.Shop, .int .i64 x_0.Kind, .int .i64 x_0.Day, .int .i64 x_0.N, .string (str x_0.Before), .string (str x_0.After), .string (str x_0.Prev), .string (str x_0.Mark)] := hs0 0 _ rfl
 clear hs0
 have hB : Base (Fr w0) O w0 O w0 := Base.start hO
 refine wp_seq ?_
 refine' region [SP.vl (rBox r_api_Entry) O x_0, _] mixed hA (.cons ?z1_0 (.cons (fun _ _ hE hK hg => ok_assign rfl) .nil)) ?zok1 ?zgd1 ?zk1
 case z1_0 => intro a' w' hE hK hg; exact okl_boxV (r := r_api_Entry) fit_api_Entry (OkO.ext hB.ok hE) (kn (hK 0 rfl) rfl q0) (by first | exact (rC_v (x := x_0)).2 rfl | exact ⟨_, rfl, rfl⟩)
 case zok1 | zgd1 => kernel_rfl
 intro a1 w1 hA hE HF
 have f2 := ksp (HF 1) rfl rfl rfl
 obtain ⟨u1, q1'⟩ : ∃ u, a1.get 1 = u := ⟨_, rfl⟩
 rw [q1'] at f2
 have q1 := q1'; clear q1'
 clear q0
 clear HF
 replace hB := Base.step hB hE hO; clear hE
 refine li_nil (nx_then (wp_seq ?_))
 obtain ⟨x3, hx3, h⟩ := Comp.run_bind h
 obtain ⟨x4, hx4, h⟩ := Comp.run_bind h
 obtain ⟨x5, hx5, h⟩ := Comp.run_bind h
 obtain ⟨x6, hx6, h⟩ := Comp.run_bind h
 obtain ⟨x7, hx7, h⟩ := Comp.run_bind h
 obtain ⟨x8, hx8, h⟩ := Comp.run_bind h
 obtain ⟨x9, hx9, h⟩ := Comp.run_bind h
 refine' region [SP.ptr (rInt .i64) O x_0.Seq, SP.isv (.int .i64 x_0.Seq), SP.ptr (rInt .i64) O x_0.Shop, SP.isv (.int .i64 x_0.Shop), SP.ptr (rInt .i64) O x_0.Kind, SP.isv (.int .i64 x_0.Kind), SP.ptr (rInt .i64) O x_0.Day, SP.isv (.int .i64 x_0.Day), SP.ptr (rInt .i64) O x_0.N, SP.isv (.int .i64 x_0.N), SP.vl (rSl (rInt .i64)) O [x_0.Seq, x_0.Shop, x_0.Kind, x_0.Day, x_0.N], SP.isv (.string (str x3)), SP.ptr rStr O x_0.Before, SP.isv (.string (str x_0.Before)), SP.isv (.string (str x4)), SP.isv (.string (str x5)), SP.ptr rStr O x_0.After, SP.isv (.string (str x_0.After)), SP.isv (.string (str x6)), SP.isv (.string (str x7)), SP.ptr rStr O x_0.Prev, SP.isv (.string (str x_0.Prev)), SP.isv (.string (str x8)), SP.isv (.string (str x9)), _] mixed hA (.cons (fun _ _ hE hK hg => okl_fldB (S := r_api_Entry) fit_api_Entry rfl (fun _ => rfl) sb_api_Entry_0 fl26_0 (kn (hK 1 rfl) rfl q1) (GR.v_ext _ f2 hE)) (.cons (fun _ _ hE hK hg => okl_ldr (rInt .i64) (fun _ => rfl) ty3 rfl rfl rfl (kspS (φ := SP.ptr (rInt .i64) O x_0.Seq) (j := 0) (hK 3 rfl) rfl rfl rfl) (fun _ _ _ h => rInt_v.1 h)) (.cons (fun _ _ hE hK hg => okl_fldB (S := r_api_Entry) fit_api_Entry rfl (fun _ => rfl) sb_api_Entry_1 fl26_1 (kn (hK 1 rfl) rfl q1) (GR.v_ext _ f2 hE)) (.cons (fun _ _ hE hK hg => okl_ldr (rInt .i64) (fun _ => rfl) ty3 rfl rfl rfl (kspS (φ := SP.ptr (rInt .i64) O x_0.Shop) (j := 2) (hK 5 rfl) rfl rfl rfl) (fun _ _ _ h => rInt_v.1 h)) (.cons (fun _ _ hE hK hg => okl_fldB (S := r_api_Entry) fit_api_Entry rfl (fun _ => rfl) sb_api_Entry_2 fl26_2 (kn (hK 1 rfl) rfl q1) (GR.v_ext _ f2 hE)) (.cons (fun _ _ hE hK hg => okl_ldr (rInt .i64) (fun _ => rfl) ty3 rfl rfl rfl (kspS (φ := SP.ptr (rInt .i64) O x_0.Kind) (j := 4) (hK 7 rfl) rfl rfl rfl) (fun _ _ _ h => rInt_v.1 h)) (.cons (fun _ _ hE hK hg => okl_fldB (S := r_api_Entry) fit_api_Entry rfl (fun _ => rfl) sb_api_Entry_3 fl26_3 (kn (hK 1 rfl) rfl q1) (GR.v_ext _ f2 hE)) (.cons (fun _ _ hE hK hg => okl_ldr (rInt .i64) (fun _ => rfl) ty3 rfl rfl rfl (kspS (φ := SP.ptr (rInt .i64) O x_0.Day) (j := 6) (hK 9 rfl) rfl rfl rfl) (fun _ _ _ h => rInt_v.1 h)) (.cons (fun _ _ hE hK hg => okl_fldB (S := r_api_Entry) fit_api_Entry rfl (fun _ => rfl) sb_api_Entry_4 fl26_4 (kn (hK 1 rfl) rfl q1) (GR.v_ext _ f2 hE)) (.cons (fun _ _ hE hK hg => okl_ldr (rInt .i64) (fun _ => rfl) ty3 rfl rfl rfl (kspS (φ := SP.ptr (rInt .i64) O x_0.N) (j := 8) (hK 11 rfl) rfl rfl rfl) (fun _ _ _ h => rInt_v.1 h)) (.cons (fun _ _ hE hK hg => okl_buildSliceV (r := (rInt .i64)) (fun _ => rfl) rfl (OkO.ext hB.ok hE) ty58 ty3 (parts_cons (ksv (j := 1) (hK 4 rfl) rfl rfl rfl) (parts_cons (ksv (j := 3) (hK 6 rfl) rfl rfl rfl) (parts_cons (ksv (j := 5) (hK 8 rfl) rfl rfl rfl) (parts_cons (ksv (j := 7) (hK 10 rfl) rfl rfl rfl) (parts_cons (ksv (j := 9) (hK 12 rfl) rfl rfl rfl) parts_nil))))) ⟨(by exact rInt_v.2 rfl), ⟨(by exact rInt_v.2 rfl), ⟨(by exact rInt_v.2 rfl), ⟨(by exact rInt_v.2 rfl), ⟨(by exact rInt_v.2 rfl), trivial⟩⟩⟩⟩⟩ rfl (by decide)) (.cons ?z2_11 (.cons (fun _ _ hE hK hg => okl_fldB (S := r_api_Entry) fit_api_Entry rfl (fun _ => rfl) sb_api_Entry_5 fl26_5 (kn (hK 1 rfl) rfl q1) (GR.v_ext _ f2 hE)) (.cons (fun _ _ hE hK hg => okl_ldr rStr (fun _ => rfl) ty9 rfl rfl rfl (kspS (φ := SP.ptr rStr O x_0.Before) (j := 12) (hK 15 rfl) rfl rfl rfl) (fun _ _ _ h => rStr_v.1 h)) (.cons ?z2_14 (.cons (fun _ _ hE hK hg => okl_addS (ksv (j := 11) (hK 14 rfl) rfl rfl rfl) (ksv (j := 14) (hK 17 rfl) rfl rfl rfl) hx5) (.cons (fun _ _ hE hK hg => okl_fldB (S := r_api_Entry) fit_api_Entry rfl (fun _ => rfl) sb_api_Entry_6 fl26_6 (kn (hK 1 rfl) rfl q1) (GR.v_ext _ f2 hE)) (.cons (fun _ _ hE hK hg => okl_ldr rStr (fun _ => rfl) ty9 rfl rfl rfl (kspS (φ := SP.ptr rStr O x_0.After) (j := 16) (hK 19 rfl) rfl rfl rfl) (fun _ _ _ h => rStr_v.1 h)) (.cons ?z2_18 (.cons (fun _ _ hE hK hg => okl_addS (ksv (j := 15) (hK 18 rfl) rfl rfl rfl) (ksv (j := 18) (hK 21 rfl) rfl rfl rfl) hx7) (.cons (fun _ _ hE hK hg => okl_fldB (S := r_api_Entry) fit_api_Entry rfl (fun _ => rfl) sb_api_Entry_7 fl26_7 (kn (hK 1 rfl) rfl q1) (GR.v_ext _ f2 hE)) (.cons (fun _ _ hE hK hg => okl_ldr rStr (fun _ => rfl) ty9 rfl rfl rfl (kspS (φ := SP.ptr rStr O x_0.Prev) (j := 20) (hK 23 rfl) rfl rfl rfl) (fun _ _ _ h => rStr_v.1 h)) (.cons ?z2_22 (.cons (fun _ _ hE hK hg => okl_addS (ksv (j := 19) (hK 22 rfl) rfl rfl rfl) (ksv (j := 22) (hK 25 rfl) rfl rfl rfl) hx9) (.cons (fun _ _ hE hK hg => ok_assign (ksv (j := 23) (hK 26 rfl) rfl rfl rfl)) .nil))))))))))))))))))))))))) ?zok2 ?zgd2 ?zk2
 case z2_11 => intro a' w' hE hK hg; have c_ := ok_colletref04_Ints (OkO.ext hB.ok hE) (kspS (φ := SP.vl (rSl (rInt .i64)) O [x_0.Seq, x_0.Shop, x_0.Kind, x_0.Day, x_0.N]) (j := 10) (hK 13 rfl) rfl rfl rfl) hx3; exact ok_call1 fn58 rfl c_
 case z2_14 => intro a' w' hE hK hg; have c_ := ok_colletref04_Text (OkO.ext hB.ok hE)  hx4; exact ok_call1 fn59 (ksv (j := 13) (hK 16 rfl) rfl rfl rfl) c_
 case z2_18 => intro a' w' hE hK hg; have c_ := ok_colletref04_Text (OkO.ext hB.ok hE)  hx6; exact ok_call1 fn59 (ksv (j := 17) (hK 20 rfl) rfl rfl rfl) c_
 case z2_22 => intro a' w' hE hK hg; have c_ := ok_colletref04_Text (OkO.ext hB.ok hE)  hx8; exact ok_call1 fn59 (ksv (j := 21) (hK 24 rfl) rfl rfl rfl) c_
 case zok2 | zgd2 => kernel_rfl
 intro a2 w2 hA hE HF
 have q2 := ksv (HF 2) rfl rfl rfl
 clear q1
 clear HF
 replace f2 := GR.v_ext _ f2 hE
 replace hB := Base.step hB hE hO; clear hE
 refine li_nil (nx_then (wp_ret ?_))
 have h := Comp.run_pure h; subst h
 exact retPure Try.results18 hA q2 hB.ext rfl
theorem ok_colletref02_least4 {O : Tags} {w0 : World} (hO : OkO O w0) {x_0 : Int} {n : Nat} {y : Bytes} (h : (colletref02_least4 x_0).run n = some y) : Pure Try.prog 72 #[.int .i64 x_0] w0 (SP.isv (.string (str y))).holds := by
 unfold colletref02_least4 at h
 refine pure_of_wp Try.func72 rfl 16 Try.ntmps72 (by simp) fun a0 hA hs0 => ?_
 have q0 : a0.get 0 = .int .i64 x_0 := hs0 0 _ rfl
 clear hs0
 have hB : Base (Fr w0) O w0 O w0 := Base.start hO
 refine wp_seq ?_
 refine' region [_] mixed hA (.cons (fun _ _ hE hK hg => ok_assign rfl) .nil) ?zok1 ?zgd1 ?zk1
 case zok1 | zgd1 => kernel_rfl
 intro a1 w1 hA hE HF
 replace q0 := kn (HF 0) rfl q0
 clear HF
 replace hB := Base.step hB hE hO; clear hE
 refine li_nil (nx_then (wp_seq ?_))
 obtain ⟨x1, hx1, h⟩ := Comp.run_bind h
 refine' region [_, _, _, _, _, _, _, _, _, _, _, SP.vl (rSl (rInt .u8)) O [(IntKind.wrap .u8 x_0), (IntKind.wrap .u8 (shrF .i64 x_0 8)), (IntKind.wrap .u8 (shrF .i64 x_0 16)), (IntKind.wrap .u8 (shrF .i64 x_0 24))], SP.isv (.string (str x1)), _] mixed hA (.cons (fun _ _ hE hK hg => ok_move (kn (hK 0 rfl) rfl q0)) (.cons (fun _ _ hE hK hg => ok_convI ty3 ty5 (ksv (j := 0) (hK 3 rfl) rfl rfl rfl)) (.cons (fun _ _ hE hK hg => ok_move (kn (hK 0 rfl) rfl q0)) (.cons (fun _ _ hE hK hg => okl_shr (ksv (j := 2) (hK 5 rfl) rfl rfl rfl) rfl (by decide)) (.cons (fun _ _ hE hK hg => ok_convI ty3 ty5 (ksv (j := 3) (hK 6 rfl) rfl rfl rfl)) (.cons (fun _ _ hE hK hg => ok_move (kn (hK 0 rfl) rfl q0)) (.cons (fun _ _ hE hK hg => okl_shr (ksv (j := 5) (hK 8 rfl) rfl rfl rfl) rfl (by decide)) (.cons (fun _ _ hE hK hg => ok_convI ty3 ty5 (ksv (j := 6) (hK 9 rfl) rfl rfl rfl)) (.cons (fun _ _ hE hK hg => ok_move (kn (hK 0 rfl) rfl q0)) (.cons (fun _ _ hE hK hg => okl_shr (ksv (j := 8) (hK 11 rfl) rfl rfl rfl) rfl (by decide)) (.cons (fun _ _ hE hK hg => ok_convI ty3 ty5 (ksv (j := 9) (hK 12 rfl) rfl rfl rfl)) (.cons (fun _ _ hE hK hg => okl_buildSliceV (r := (rInt .u8)) (fun _ => rfl) rfl (OkO.ext hB.ok hE) ty104 ty5 (parts_cons (ksv (j := 1) (hK 4 rfl) rfl rfl rfl) (parts_cons (ksv (j := 4) (hK 7 rfl) rfl rfl rfl) (parts_cons (ksv (j := 7) (hK 10 rfl) rfl rfl rfl) (parts_cons (ksv (j := 10) (hK 13 rfl) rfl rfl rfl) parts_nil)))) ⟨(by exact rInt_v.2 rfl), ⟨(by exact rInt_v.2 rfl), ⟨(by exact rInt_v.2 rfl), ⟨(by exact rInt_v.2 rfl), trivial⟩⟩⟩⟩ rfl (by decide)) (.cons (fun _ _ hE hK hg => okl_bytesToStr ty104 ty5 ty9 rfl (rd_of (kspS (φ := SP.vl (rSl (rInt .u8)) O [(IntKind.wrap .u8 x_0), (IntKind.wrap .u8 (shrF .i64 x_0 8)), (IntKind.wrap .u8 (shrF .i64 x_0 16)), (IntKind.wrap .u8 (shrF .i64 x_0 24))]) (j := 11) (hK 14 rfl) rfl rfl rfl)) hx1) (.cons (fun _ _ hE hK hg => ok_assign (ksv (j := 12) (hK 15 rfl) rfl rfl rfl)) .nil)))))))))))))) ?zok2 ?zgd2 ?zk2
 case zok2 | zgd2 => kernel_rfl
 intro a2 w2 hA hE HF
 have q2 := ksv (HF 2) rfl rfl rfl
 clear q0
 clear HF
 replace hB := Base.step hB hE hO; clear hE
 refine li_nil (nx_then (wp_ret ?_))
 have h := Comp.run_pure h; subst h
 exact retPure Try.results72 hA q2 hB.ext rfl
theorem ok_colletref02_Chain {O : Tags} {w0 : World} (hO : OkO O w0) {x_0 : Bytes} {x_1 : Bytes} {n : Nat} {y : Bytes} (h : (colletref02_Chain x_0 x_1).run n = some y) : Pure Try.prog 32 #[.string (str x_0), .string (str x_1)] w0 (SP.isv (.string (str y))).holds := by
 unfold colletref02_Chain at h
 refine pure_of_wp Try.func32 rfl 14 Try.ntmps32 (by simp) fun a0 hA hs0 => ?_
 have q0 : a0.get 0 = .string (str x_0) := hs0 0 _ rfl
 have q1 : a0.get 1 = .string (str x_1) := hs0 1 _ rfl
 clear hs0
 have hB : Base (Fr w0) O w0 O w0 := Base.start hO
 refine wp_seq ?_
 refine' region [_] mixed hA (.cons (fun _ _ hE hK hg => ok_assign rfl) .nil) ?zok1 ?zgd1 ?zk1
 case zok1 | zgd1 => kernel_rfl
 intro a1 w1 hA hE HF
 replace q0 := kn (HF 0) rfl q0
 replace q1 := kn (HF 1) rfl q1
 clear HF
 replace hB := Base.step hB hE hO; clear hE
 refine li_nil (nx_then (wp_seq ?_))
 obtain ⟨x1, hx1, h⟩ := Comp.run_bind h
 obtain ⟨x2, hx2, h⟩ := Comp.run_bind h
 obtain ⟨x3, hx3, h⟩ := Comp.run_bind h
 obtain ⟨x4, hx4, h⟩ := Comp.run_bind h
 obtain ⟨x5, hx5, h⟩ := Comp.run_bind h
 refine' region [_, _, SP.isv (.string (str x1)), SP.isv (.string (str x2)), _, SP.isv (.string (str x3)), _, SP.isv (.string (str x4)), SP.isv (.string (str x5)), _] mixed hA (.cons (fun _ _ hE hK hg => ok_move (kn (hK 0 rfl) rfl q0)) (.cons (fun _ _ hE hK hg => okl_lenS ty9 (ksv (j := 0) (hK 5 rfl) rfl rfl rfl)) (.cons ?z2_2 (.cons (fun _ _ hE hK hg => okl_addS rfl (ksv (j := 2) (hK 7 rfl) rfl rfl rfl) hx2) (.cons (fun _ _ hE hK hg => ok_move (kn (hK 0 rfl) rfl q0)) (.cons (fun _ _ hE hK hg => okl_addS (ksv (j := 3) (hK 8 rfl) rfl rfl rfl) (ksv (j := 4) (hK 9 rfl) rfl rfl rfl) hx3) (.cons (fun _ _ hE hK hg => ok_move (kn (hK 1 rfl) rfl q1)) (.cons (fun _ _ hE hK hg => okl_addS (ksv (j := 5) (hK 10 rfl) rfl rfl rfl) (ksv (j := 6) (hK 11 rfl) rfl rfl rfl) hx4) (.cons ?z2_8 (.cons (fun _ _ hE hK hg => ok_assign (ksv (j := 8) (hK 13 rfl) rfl rfl rfl)) .nil)))))))))) ?zok2 ?zgd2 ?zk2
 case z2_2 => intro a' w' hE hK hg; have c_ := ok_colletref02_least4 (OkO.ext hB.ok hE)  hx1; exact ok_call1 fn72 (ksv (j := 1) (hK 6 rfl) rfl rfl rfl) c_
 case z2_8 => intro a' w' hE hK hg; have c_ := ok_colletref02_Of (OkO.ext hB.ok hE)  hx5; exact ok_call1 fn71 (ksv (j := 7) (hK 12 rfl) rfl rfl rfl) c_
 case zok2 | zgd2 => kernel_rfl
 intro a2 w2 hA hE HF
 have q4 := ksv (HF 4) rfl rfl rfl
 clear q0
 clear q1
 clear HF
 replace hB := Base.step hB hE hO; clear hE
 refine li_nil (nx_then (wp_ret ?_))
 have h := Comp.run_pure h; subst h
 exact retPure Try.results32 hA q4 hB.ext rfl
theorem ok_colletref37_link {O : Tags} {w0 : World} (hO : OkO O w0) {x_0 : api_Entry} {n : Nat} {y : Bytes} (h : (colletref37_link x_0).run n = some y) : Pure Try.prog 63 #[.agg #[.int .i64 x_0.Seq, .int .i64 x_0.Shop, .int .i64 x_0.Kind, .int .i64 x_0.Day, .int .i64 x_0.N, .string (str x_0.Before), .string (str x_0.After), .string (str x_0.Prev), .string (str x_0.Mark)]] w0 (SP.isv (.string (str y))).holds := by
 unfold colletref37_link at h
 refine pure_of_wp Try.func63 rfl 8 Try.ntmps63 (by simp) fun a0 hA hs0 => ?_
 have q0 : a0.get 0 = .agg #[.int .i64 x_0.Seq, .int .i64 x_0.Shop, .int .i64 x_0.Kind, .int .i64 x_0.Day, .int .i64 x_0.N, .string (str x_0.Before), .string (str x_0.After), .string (str x_0.Prev), .string (str x_0.Mark)] := hs0 0 _ rfl
 clear hs0
 have hB : Base (Fr w0) O w0 O w0 := Base.start hO
 refine wp_seq ?_
 refine' region [SP.vl (rBox r_api_Entry) O x_0, _] mixed hA (.cons ?z1_0 (.cons (fun _ _ hE hK hg => ok_assign rfl) .nil)) ?zok1 ?zgd1 ?zk1
 case z1_0 => intro a' w' hE hK hg; exact okl_boxV (r := r_api_Entry) fit_api_Entry (OkO.ext hB.ok hE) (kn (hK 0 rfl) rfl q0) (by first | exact (rC_v (x := x_0)).2 rfl | exact ⟨_, rfl, rfl⟩)
 case zok1 | zgd1 => kernel_rfl
 intro a1 w1 hA hE HF
 have f2 := ksp (HF 1) rfl rfl rfl
 obtain ⟨u1, q1'⟩ : ∃ u, a1.get 1 = u := ⟨_, rfl⟩
 rw [q1'] at f2
 have q1 := q1'; clear q1'
 clear q0
 clear HF
 replace hB := Base.step hB hE hO; clear hE
 refine li_nil (nx_then (wp_seq ?_))
 obtain ⟨x3, hx3, h⟩ := Comp.run_bind h
 obtain ⟨x4, hx4, h⟩ := Comp.run_bind h
 refine' region [SP.isv (.agg #[.int .i64 x_0.Seq, .int .i64 x_0.Shop, .int .i64 x_0.Kind, .int .i64 x_0.Day, .int .i64 x_0.N, .string (str x_0.Before), .string (str x_0.After), .string (str x_0.Prev), .string (str x_0.Mark)]), SP.isv (.string (str x3)), SP.ptr rStr O x_0.Mark, SP.isv (.string (str x_0.Mark)), SP.isv (.string (str x4)), _] mixed hA (.cons (fun _ _ hE hK hg => okl_ldr r_api_Entry fit_api_Entry ty26 rfl rfl (kn (hK 1 rfl) rfl q1) (ptr_of_box fit_api_Entry (GR.v_ext _ f2 hE)) (fun _ _ _ h => rC_v.1 h)) (.cons ?z2_1 (.cons (fun _ _ hE hK hg => okl_fldB (S := r_api_Entry) fit_api_Entry rfl (fun _ => rfl) sb_api_Entry_8 fl26_8 (kn (hK 1 rfl) rfl q1) (GR.v_ext _ f2 hE)) (.cons (fun _ _ hE hK hg => okl_ldr rStr (fun _ => rfl) ty9 rfl rfl rfl (kspS (φ := SP.ptr rStr O x_0.Mark) (j := 2) (hK 5 rfl) rfl rfl rfl) (fun _ _ _ h => rStr_v.1 h)) (.cons ?z2_4 (.cons (fun _ _ hE hK hg => ok_assign (ksv (j := 4) (hK 7 rfl) rfl rfl rfl)) .nil)))))) ?zok2 ?zgd2 ?zk2
 case z2_1 => intro a' w' hE hK hg; have c_ := ok_colletref37_Bytes (OkO.ext hB.ok hE)  hx3; exact ok_call1 fn18 (ksv (j := 0) (hK 3 rfl) rfl rfl rfl) c_
 case z2_4 => intro a' w' hE hK hg; have c_ := ok_colletref02_Chain (OkO.ext hB.ok hE)  hx4; exact ok_call2 fn32 (ksv (j := 1) (hK 4 rfl) rfl rfl rfl) (ksv (j := 3) (hK 6 rfl) rfl rfl rfl) c_
 case zok2 | zgd2 => kernel_rfl
 intro a2 w2 hA hE HF
 have q2 := ksv (HF 2) rfl rfl rfl
 clear q1
 clear HF
 replace f2 := GR.v_ext _ f2 hE
 replace hB := Base.step hB hE hO; clear hE
 refine li_nil (nx_then (wp_ret ?_))
 have h := Comp.run_pure h; subst h
 exact retPure Try.results63 hA q2 hB.ext rfl
theorem ok_colletref37_Next {O : Tags} {w0 : World} (hO : OkO O w0) {v_0 : Value} {x_0 : List api_Entry} (h_0 : (rSl r_api_Entry).v O w0 v_0 x_0) {x_1 : api_Entry} {n : Nat} {y : api_Entry} (h : (colletref37_Next x_0 x_1).run n = some y) : Pure Try.prog 22 #[v_0, .agg #[.int .i64 x_1.Seq, .int .i64 x_1.Shop, .int .i64 x_1.Kind, .int .i64 x_1.Day, .int .i64 x_1.N, .string (str x_1.Before), .string (str x_1.After), .string (str x_1.Prev), .string (str x_1.Mark)]] w0 (SP.isv (.agg #[.int .i64 y.Seq, .int .i64 y.Shop, .int .i64 y.Kind, .int .i64 y.Day, .int .i64 y.N, .string (str y.Before), .string (str y.After), .string (str y.Prev), .string (str y.Mark)])).holds := by
 unfold colletref37_Next at h
 refine pure_of_wp Try.func22 rfl 27 Try.ntmps22 (by simp) fun a0 hA hs0 => ?_
 have q0 : a0.get 0 = v_0 := hs0 0 _ rfl
 have q1 : a0.get 1 = .agg #[.int .i64 x_1.Seq, .int .i64 x_1.Shop, .int .i64 x_1.Kind, .int .i64 x_1.Day, .int .i64 x_1.N, .string (str x_1.Before), .string (str x_1.After), .string (str x_1.Prev), .string (str x_1.Mark)] := hs0 1 _ rfl
 clear hs0
 have hB : Base (Fr w0) O w0 O w0 := Base.start hO
 refine wp_seq ?_
 refine' regionT [SP.box w0.heap.size #[.int .i64 x_1.Seq, .int .i64 x_1.Shop, .int .i64 x_1.Kind, .int .i64 x_1.Day, .int .i64 x_1.N, .string (str x_1.Before), .string (str x_1.After), .string (str x_1.Prev), .string (str x_1.Mark)] 26] hA (.cons (fun _ _ hE hK hg => ok_box (v := .agg #[.int .i64 x_1.Seq, .int .i64 x_1.Shop, .int .i64 x_1.Kind, .int .i64 x_1.Day, .int .i64 x_1.N, .string (str x_1.Before), .string (str x_1.After), .string (str x_1.Prev), .string (str x_1.Mark)]) hE.size (kn (hK 1 rfl) rfl q1)) .nil) ?zok1 ?zgd1 ?zk1
 case zok1 | zgd1 => kernel_rfl
 intro a1 w1 hA hE HF
 replace q0 := kn (HF 0) rfl q0
 have f2 := ksp (HF 3) rfl rfl rfl
 obtain ⟨u1, q3'⟩ : ∃ u, a1.get 3 = u := ⟨_, rfl⟩
 rw [q3'] at f2
 have q3 := q3'; clear q3'
 clear q1
 clear HF
 obtain ⟨O3, b4, hB', hX, e_, f5⟩ := boxNew hO hB hE f2 1 (by decide)
 subst e_
 clear hB f2; have hB := hB'; clear hB'
 replace h_0 := GR.kx _ h_0 hX (by decide)
 clear hX hE
 refine l_ok (φ := SP.box w1.heap.size #[.int .i64 0, .int .i64 0, .int .i64 0, .int .i64 0, .int .i64 0, .string (str []), .string (str []), .string (str []), .string (str [])] 26) hO hB (by exact ok_alloc (Nat.le_refl _) ty26) rfl fun u6 w2 hE hB' f7 => ?_
 clear hB'; obtain ⟨O8, b10, hB', hX, e_, f9⟩ := boxNew hO hB hE f7 2 (by decide)
 subst e_; clear hB f7; have hB := hB'; clear hB'
 replace h_0 := GR.kx _ h_0 hX (by decide)
 replace f5 := f5.kx hX (by decide)
 clear hX hE
 refine put_cont hA (by decide) fun a3 hA q_ hfr => ?_
 replace q0 := (hfr 0 rfl).trans q0
 replace q3 := (hfr 3 rfl).trans q3
 have q4 := q_; clear q_ hfr
 refine li_nil (nx_then (wp_seq ?_))
 refine' regionT [_, _, SP.isv (.pointer (some ⟨b4, 0, none⟩))] hA (.cons (fun _ _ hE hK hg => ok_move (kn (hK 0 rfl) rfl q0)) (.cons (fun _ _ hE hK hg => okl_len (r := r_api_Entry) ty29 (ksv (j := 0) (hK 6 rfl) rfl rfl rfl) (rd_of (GR.v_ext _ h_0 hE))) (.cons (fun _ _ hE hK hg => ok_fieldAddr fl26_0 (kn (hK 3 rfl) rfl q3)) .nil))) ?zok2 ?zgd2 ?zk2
 case zok2 | zgd2 => kernel_rfl
 intro a4 w4 hA hE HF
 replace q0 := kn (HF 0) rfl q0
 replace q3 := kn (HF 3) rfl q3
 replace q4 := kn (HF 4) rfl q4
 have q7 := ksv (HF 7) rfl rfl rfl
 have q8 := ksv (HF 8) rfl rfl rfl
 clear HF
 replace h_0 := GR.v_ext _ h_0 hE
 replace f5 := f5.ext hE
 replace f9 := f9.ext hE
 replace hB := Base.step hB hE hO; clear hE
 refine l_store1 (cs' := #[.int .i64 (x_0.length : Int), .int .i64 x_1.Shop, .int .i64 x_1.Kind, .int .i64 x_1.Day, .int .i64 x_1.N, .string (str x_1.Before), .string (str x_1.After), .string (str x_1.Prev), .string (str x_1.Mark)]) hO hB (okB_fr hB) ty3 q8 q7 rfl rfl f5 (by simp) rfl fun w5 f11 hB' hX => ?_
 clear hB f5; have hB := hB'; clear hB'
 replace h_0 := GR.kx _ h_0 hX (by decide)
 replace f9 := f9.kx hX (by decide)
 clear hX
 refine li_nil (nx_then (wp_seq ?_))
 refine' regionT [SP.isv (.pointer (some ⟨b4, 8, none⟩))] hA (.cons (fun _ _ hE hK hg => ok_fieldAddr fl26_8 (kn (hK 3 rfl) rfl q3)) .nil) ?zok3 ?zgd3 ?zk3
 case zok3 | zgd3 => kernel_rfl
 intro a6 w6 hA hE HF
 replace q0 := kn (HF 0) rfl q0
 replace q3 := kn (HF 3) rfl q3
 replace q4 := kn (HF 4) rfl q4
 have q9 := ksv (HF 9) rfl rfl rfl
 clear HF
 replace h_0 := GR.v_ext _ h_0 hE
 replace f11 := f11.ext hE
 replace f9 := f9.ext hE
 replace hB := Base.step hB hE hO; clear hE
 refine l_store1 (cs' := #[.int .i64 (x_0.length : Int), .int .i64 x_1.Shop, .int .i64 x_1.Kind, .int .i64 x_1.Day, .int .i64 x_1.N, .string (str x_1.Before), .string (str x_1.After), .string (str x_1.Prev), .string (str ([] : Bytes))]) hO hB (okB_fr hB) ty9 q9 rfl rfl rfl f11 (by simp) rfl fun w7 f12 hB' hX => ?_
 clear hB f11; have hB := hB'; clear hB'
 replace h_0 := GR.kx _ h_0 hX (by decide)
 replace f9 := f9.kx hX (by decide)
 clear hX
 refine li_nil (nx_then (wp_seq ?_))
 refine' regionT [SP.isv (.pointer (some ⟨b4, 7, none⟩))] hA (.cons (fun _ _ hE hK hg => ok_fieldAddr fl26_7 (kn (hK 3 rfl) rfl q3)) .nil) ?zok4 ?zgd4 ?zk4
 case zok4 | zgd4 => kernel_rfl
 intro a8 w8 hA hE HF
 replace q0 := kn (HF 0) rfl q0
 replace q3 := kn (HF 3) rfl q3
 replace q4 := kn (HF 4) rfl q4
 have q10 := ksv (HF 10) rfl rfl rfl
 clear HF
 replace h_0 := GR.v_ext _ h_0 hE
 replace f12 := f12.ext hE
 replace f9 := f9.ext hE
 replace hB := Base.step hB hE hO; clear hE
 refine l_store1 (cs' := #[.int .i64 (x_0.length : Int), .int .i64 x_1.Shop, .int .i64 x_1.Kind, .int .i64 x_1.Day, .int .i64 x_1.N, .string (str x_1.Before), .string (str x_1.After), .string (str ([] : Bytes)), .string (str ([] : Bytes))]) hO hB (okB_fr hB) ty9 q10 rfl rfl rfl f12 (by simp) rfl fun w9 f13 hB' hX => ?_
 clear hB f12; have hB := hB'; clear hB'
 replace h_0 := GR.kx _ h_0 hX (by decide)
 replace f9 := f9.kx hX (by decide)
 clear hX
 refine li_nil (nx_then ?_)
 refine seq_join (fun a w => ∃ (O33 : Tags) (x24 : Int) (x25 : Int) (x26 : Int) (x27 : Int) (x28 : Int) (x29 : Bytes) (x30 : Bytes) (x31 : Bytes) (x32 : Bytes), a.fit 27 ∧ Base (Fr w0) O w0 O33 w ∧ a.get 3 = .pointer (some ⟨b4, 0, none⟩) ∧ a.get 4 = .pointer (some ⟨b10, 0, none⟩) ∧ OwnB 2 (Fr w0) O33 w b10 #[.int .i64 0, .int .i64 0, .int .i64 0, .int .i64 0, .int .i64 0, .string (str []), .string (str []), .string (str []), .string (str [])] 26 ∧ OwnB 1 (Fr w0) O33 w b4 #[.int .i64 x24, .int .i64 x25, .int .i64 x26, .int .i64 x27, .int .i64 x28, .string (str x29), .string (str x30), .string (str x31), .string (str x32)] 26 ∧ (colletref37_Next_j1 x24 x25 x26 x27 x28 x29 x30 x31 x32).run n = some y) ?_ ?_
 ·
  refine wp_seq ?_
  refine' region [_, _, _] mixed hA (.cons (fun _ _ hE hK hg => ok_move (kn (hK 0 rfl) rfl q0)) (.cons (fun _ _ hE hK hg => okl_len (r := r_api_Entry) ty29 (ksv (j := 0) (hK 11 rfl) rfl rfl rfl) (rd_of (GR.v_ext _ h_0 hE))) (.cons (fun _ _ hE hK hg => ok_gtr (ksv (j := 1) (hK 12 rfl) rfl rfl rfl) rfl) .nil))) ?zok5 ?zgd5 ?zk5
  case zok5 | zgd5 => kernel_rfl
  intro a10 w10 hA hE HF
  replace q0 := kn (HF 0) rfl q0
  replace q3 := kn (HF 3) rfl q3
  replace q4 := kn (HF 4) rfl q4
  have q13 := ksv (HF 13) rfl rfl rfl
  clear HF
  replace h_0 := GR.v_ext _ h_0 hE
  replace f13 := f13.ext hE
  replace f9 := f9.ext hE
  replace hB := Base.step hB hE hO; clear hE
  refine li_nil (nx_then ?_)
  refine wp_cond_b q13 (fun hc => ?_) (fun hc => ?_)
  ·
   replace h := Comp.run_b_t hc h; clear hc
   refine wp_seq ?_
   obtain ⟨x14, hx14, h⟩ := Comp.run_bind h
   refine' regionT [_, _, _, _, SP.ptr r_api_Entry O8 x14, SP.isv (.agg #[.int .i64 x14.Seq, .int .i64 x14.Shop, .int .i64 x14.Kind, .int .i64 x14.Day, .int .i64 x14.N, .string (str x14.Before), .string (str x14.After), .string (str x14.Prev), .string (str x14.Mark)])] hA (.cons (fun _ _ hE hK hg => ok_move (kn (hK 0 rfl) rfl q0)) (.cons (fun _ _ hE hK hg => ok_move (kn (hK 0 rfl) rfl q0)) (.cons (fun _ _ hE hK hg => okl_len (r := r_api_Entry) ty29 (ksv (j := 1) (hK 15 rfl) rfl rfl rfl) (rd_of (GR.v_ext _ h_0 hE))) (.cons (fun _ _ hE hK hg => ok_sub (ksv (j := 2) (hK 16 rfl) rfl rfl rfl) rfl) (.cons (fun _ _ hE hK hg => okl_idx (r := r_api_Entry) (O := O8) ty29 ty26 rfl (ksv (j := 0) (hK 14 rfl) rfl rfl rfl) (rd_of (GR.v_ext _ h_0 hE)) (ksv (j := 3) (hK 17 rfl) rfl rfl rfl) hx14) (.cons (fun _ _ hE hK hg => okl_ldr r_api_Entry fit_api_Entry ty26 rfl rfl rfl (kspS (φ := SP.ptr r_api_Entry O8 x14) (j := 4) (hK 18 rfl) rfl rfl rfl) (fun _ _ _ h => rC_v.1 h)) .nil)))))) ?zok6 ?zgd6 ?zk6
   case zok6 | zgd6 => kernel_rfl
   intro a11 w11 hA hE HF
   replace q3 := kn (HF 3) rfl q3
   replace q4 := kn (HF 4) rfl q4
   have q19 := ksv (HF 19) rfl rfl rfl
   clear q0
   clear q13
   clear HF
   replace h_0 := GR.v_ext _ h_0 hE
   replace f13 := f13.ext hE
   replace f9 := f9.ext hE
   replace hB := Base.step hB hE hO; clear hE
   refine l_ok (φ := SP.box w11.heap.size #[.int .i64 0, .int .i64 0, .int .i64 0, .int .i64 0, .int .i64 0, .string (str []), .string (str []), .string (str []), .string (str [])] 26) hO hB (by exact ok_alloc (Nat.le_refl _) ty26) rfl fun u15 w12 hE hB' f16 => ?_
   clear hB'; obtain ⟨O17, b19, hB', hX, e_, f18⟩ := boxNew hO hB hE f16 3 (by decide)
   subst e_; clear hB f16; have hB := hB'; clear hB'
   replace f13 := f13.kx hX (by decide)
   replace f9 := f9.kx hX (by decide)
   clear hX hE
   refine put_cont hA (by decide) fun a13 hA q_ hfr => ?_
   replace q3 := (hfr 3 rfl).trans q3
   replace q4 := (hfr 4 rfl).trans q4
   replace q19 := (hfr 19 rfl).trans q19
   have q5 := q_; clear q_ hfr
   refine l_storeSub (vs := [.int .i64 x14.Seq, .int .i64 x14.Shop, .int .i64 x14.Kind, .int .i64 x14.Day, .int .i64 x14.N, .string (str x14.Before), .string (str x14.After), .string (str x14.Prev), .string (str x14.Mark)]) (cs' := #[.int .i64 x14.Seq, .int .i64 x14.Shop, .int .i64 x14.Kind, .int .i64 x14.Day, .int .i64 x14.N, .string (str x14.Before), .string (str x14.After), .string (str x14.Prev), .string (str x14.Mark)]) hO hB (okB_fr hB) ty26 q5 q19 rfl (by simp [Value.oneCell']) f18 (by simp) rfl fun w14 f20 hB' hX => ?_
   clear hB f18; have hB := hB'; clear hB'
   replace f13 := f13.kx hX (by decide)
   replace f9 := f9.kx hX (by decide)
   clear hX
   refine li_nil (nx_then (wp_seq ?_))
   obtain ⟨x21, hx21, h⟩ := Comp.run_bind h
   refine' regionT [SP.isv (.agg #[.int .i64 x14.Seq, .int .i64 x14.Shop, .int .i64 x14.Kind, .int .i64 x14.Day, .int .i64 x14.N, .string (str x14.Before), .string (str x14.After), .string (str x14.Prev), .string (str x14.Mark)]), SP.isv (.string (str x21)), SP.isv (.pointer (some ⟨b4, 7, none⟩))] hA (.cons (fun _ _ hE hK hg => ok_loadOwnAgg ty26 rfl (kn (hK 5 rfl) rfl q5) (OwnB.ext f20 hE).own rfl) (.cons ?z7_1 (.cons (fun _ _ hE hK hg => ok_fieldAddr fl26_7 (kn (hK 3 rfl) rfl q3)) .nil))) ?zok7 ?zgd7 ?zk7
   case z7_1 => intro a' w' hE hK hg; have c_ := ok_colletref37_link (OkO.ext hB.ok hE)  hx21; exact ok_call1 fn63 (ksv (j := 0) (hK 20 rfl) rfl rfl rfl) c_
   case zok7 | zgd7 => kernel_rfl
   intro a15 w15 hA hE HF
   replace q3 := kn (HF 3) rfl q3
   replace q4 := kn (HF 4) rfl q4
   replace q5 := kn (HF 5) rfl q5
   have q21 := ksv (HF 21) rfl rfl rfl
   have q22 := ksv (HF 22) rfl rfl rfl
   clear HF
   replace f13 := f13.ext hE
   replace f9 := f9.ext hE
   replace f20 := f20.ext hE
   replace hB := Base.step hB hE hO; clear hE
   refine l_store1 (cs' := #[.int .i64 (x_0.length : Int), .int .i64 x_1.Shop, .int .i64 x_1.Kind, .int .i64 x_1.Day, .int .i64 x_1.N, .string (str x_1.Before), .string (str x_1.After), .string (str x21), .string (str ([] : Bytes))]) hO hB (okB_fr hB) ty9 q22 q21 rfl rfl f13 (by simp) rfl fun w16 f22 hB' hX => ?_
   clear hB f13; have hB := hB'; clear hB'
   replace f9 := f9.kx hX (by decide)
   replace f20 := f20.kx hX (by decide)
   clear hX
   refine li_nil (nx_then ?_)
   refine' regionT [SP.isv (.pointer (some ⟨b19, 6, none⟩)), SP.isv (.string (str x14.After)), SP.isv (.pointer (some ⟨b4, 5, none⟩))] hA (.cons (fun _ _ hE hK hg => ok_fieldAddr fl26_6 (kn (hK 5 rfl) rfl q5)) (.cons (fun _ _ hE hK hg => ok_loadOwn ty9 rfl (ksv (j := 0) (hK 23 rfl) rfl rfl rfl) (OwnB.ext f20 hE).own rfl) (.cons (fun _ _ hE hK hg => ok_fieldAddr fl26_5 (kn (hK 3 rfl) rfl q3)) .nil))) ?zok8 ?zgd8 ?zk8
   case zok8 | zgd8 => kernel_rfl
   intro a17 w17 hA hE HF
   replace q3 := kn (HF 3) rfl q3
   replace q4 := kn (HF 4) rfl q4
   have q24 := ksv (HF 24) rfl rfl rfl
   have q25 := ksv (HF 25) rfl rfl rfl
   clear q5
   clear HF
   replace f22 := f22.ext hE
   replace f9 := f9.ext hE
   replace f20 := f20.ext hE
   replace hB := Base.step hB hE hO; clear hE
   refine l_store1 (cs' := #[.int .i64 (x_0.length : Int), .int .i64 x_1.Shop, .int .i64 x_1.Kind, .int .i64 x_1.Day, .int .i64 x_1.N, .string (str x14.After), .string (str x_1.After), .string (str x21), .string (str ([] : Bytes))]) hO hB (okB_fr hB) ty9 q25 q24 rfl rfl f22 (by simp) rfl fun w18 f23 hB' hX => ?_
   clear hB f22; have hB := hB'; clear hB'
   replace f9 := f9.kx hX (by decide)
   clear hX
   refine li_nil (nx_then ?_)
   exact ⟨_, _, _, _, _, _, _, _, _, _, hA, hB, q3, q4, f9, f23, h⟩
  ·
   replace h := Comp.run_b_f hc h; clear hc
   refine wp_skip (nx_then ?_)
   exact ⟨_, _, _, _, _, _, _, _, _, _, hA, hB, q3, q4, f9, f13, h⟩
 intro a19 w19 hI
 clear hA hB h q0 q3 q4 f13 f9 h_0
 obtain ⟨O33, x24, x25, x26, x27, x28, x29, x30, x31, x32, hA, hB, q3, q4, f9, f23, h⟩ := hI
 unfold colletref37_Next_j1 at h
 refine wp_seq ?_
 refine' regionT [SP.isv (.agg #[.int .i64 x24, .int .i64 x25, .int .i64 x26, .int .i64 x27, .int .i64 x28, .string (str x29), .string (str x30), .string (str x31), .string (str x32)])] hA (.cons (fun _ _ hE hK hg => ok_loadOwnAgg ty26 rfl (kn (hK 3 rfl) rfl q3) (OwnB.ext f23 hE).own rfl) .nil) ?zok9 ?zgd9 ?zk9
 case zok9 | zgd9 => kernel_rfl
 intro a20 w20 hA hE HF
 replace q4 := kn (HF 4) rfl q4
 have q26 := ksv (HF 26) rfl rfl rfl
 clear q3
 clear HF
 replace f23 := f23.ext hE
 replace f9 := f9.ext hE
 replace hB := Base.step hB hE hO; clear hE
 refine l_storeSub (vs := [.int .i64 x24, .int .i64 x25, .int .i64 x26, .int .i64 x27, .int .i64 x28, .string (str x29), .string (str x30), .string (str x31), .string (str x32)]) (cs' := #[.int .i64 x24, .int .i64 x25, .int .i64 x26, .int .i64 x27, .int .i64 x28, .string (str x29), .string (str x30), .string (str x31), .string (str x32)]) hO hB (okB_fr hB) ty26 q4 q26 rfl (by simp [Value.oneCell']) f9 (by simp) rfl fun w21 f34 hB' hX => ?_
 clear hB f9; have hB := hB'; clear hB'
 clear hX
 refine li_nil (nx_then (wp_ret ?_))
 have h := Comp.run_pure h; subst h
 exact retG1 Try.results22 hA (.agg q4 ty26 rfl rfl f34.own) ⟨_, rfl, hB.ext, rfl⟩
theorem ok_colletref02_Mark {O : Tags} {w0 : World} (hO : OkO O w0) {x_0 : Bytes} {x_1 : Bytes} {n : Nat} {y : Bytes} (h : (colletref02_Mark x_0 x_1).run n = some y) : Pure Try.prog 61 #[.string (str x_0), .string (str x_1)] w0 (SP.isv (.string (str y))).holds := by
 unfold colletref02_Mark at h
 refine pure_of_wp Try.func61 rfl 20 Try.ntmps61 (by simp) fun a0 hA hs0 => ?_
 have q0 : a0.get 0 = .string (str x_0) := hs0 0 _ rfl
 have q1 : a0.get 1 = .string (str x_1) := hs0 1 _ rfl
 clear hs0
 have hB : Base (Fr w0) O w0 O w0 := Base.start hO
 refine wp_seq ?_
 refine' region [_] mixed hA (.cons (fun _ _ hE hK hg => ok_assign rfl) .nil) ?zok1 ?zgd1 ?zk1
 case zok1 | zgd1 => kernel_rfl
 intro a1 w1 hA hE HF
 replace q0 := kn (HF 0) rfl q0
 replace q1 := kn (HF 1) rfl q1
 clear HF
 replace hB := Base.step hB hE hO; clear hE
 refine li_nil (nx_then (wp_seq ?_))
 obtain ⟨x1, hx1, h⟩ := Comp.run_bind h
 obtain ⟨x2, hx2, h⟩ := Comp.run_bind h
 obtain ⟨x3, hx3, h⟩ := Comp.run_bind h
 obtain ⟨x4, hx4, h⟩ := Comp.run_bind h
 obtain ⟨x5, hx5, h⟩ := Comp.run_bind h
 obtain ⟨x6, hx6, h⟩ := Comp.run_bind h
 obtain ⟨x7, hx7, h⟩ := Comp.run_bind h
 obtain ⟨x8, hx8, h⟩ := Comp.run_bind h
 refine' region [_, _, SP.isv (.string (str x1)), SP.isv (.string (str x2)), _, SP.isv (.string (str x3)), _, _, SP.isv (.string (str x4)), SP.isv (.string (str x5)), _, SP.isv (.string (str x6)), _, SP.isv (.string (str x7)), SP.isv (.string (str x8)), _] mixed hA (.cons (fun _ _ hE hK hg => ok_move (kn (hK 0 rfl) rfl q0)) (.cons (fun _ _ hE hK hg => okl_lenS ty9 (ksv (j := 0) (hK 5 rfl) rfl rfl rfl)) (.cons ?z2_2 (.cons (fun _ _ hE hK hg => okl_addS rfl (ksv (j := 2) (hK 7 rfl) rfl rfl rfl) hx2) (.cons (fun _ _ hE hK hg => ok_move (kn (hK 0 rfl) rfl q0)) (.cons (fun _ _ hE hK hg => okl_addS (ksv (j := 3) (hK 8 rfl) rfl rfl rfl) (ksv (j := 4) (hK 9 rfl) rfl rfl rfl) hx3) (.cons (fun _ _ hE hK hg => ok_move (kn (hK 1 rfl) rfl q1)) (.cons (fun _ _ hE hK hg => okl_lenS ty9 (ksv (j := 6) (hK 11 rfl) rfl rfl rfl)) (.cons ?z2_8 (.cons (fun _ _ hE hK hg => okl_addS (ksv (j := 5) (hK 10 rfl) rfl rfl rfl) (ksv (j := 8) (hK 13 rfl) rfl rfl rfl) hx5) (.cons (fun _ _ hE hK hg => ok_move (kn (hK 1 rfl) rfl q1)) (.cons (fun _ _ hE hK hg => okl_addS (ksv (j := 9) (hK 14 rfl) rfl rfl rfl) (ksv (j := 10) (hK 15 rfl) rfl rfl rfl) hx6) (.cons (fun _ _ hE hK hg => ok_move (kn (hK 0 rfl) rfl q0)) (.cons (fun _ _ hE hK hg => okl_addS (ksv (j := 11) (hK 16 rfl) rfl rfl rfl) (ksv (j := 12) (hK 17 rfl) rfl rfl rfl) hx7) (.cons ?z2_14 (.cons (fun _ _ hE hK hg => ok_assign (ksv (j := 14) (hK 19 rfl) rfl rfl rfl)) .nil)))))))))))))))) ?zok2 ?zgd2 ?zk2
 case z2_2 => intro a' w' hE hK hg; have c_ := ok_colletref02_least4 (OkO.ext hB.ok hE)  hx1; exact ok_call1 fn72 (ksv (j := 1) (hK 6 rfl) rfl rfl rfl) c_
 case z2_8 => intro a' w' hE hK hg; have c_ := ok_colletref02_least4 (OkO.ext hB.ok hE)  hx4; exact ok_call1 fn72 (ksv (j := 7) (hK 12 rfl) rfl rfl rfl) c_
 case z2_14 => intro a' w' hE hK hg; have c_ := ok_colletref02_Of (OkO.ext hB.ok hE)  hx8; exact ok_call1 fn71 (ksv (j := 13) (hK 18 rfl) rfl rfl rfl) c_
 case zok2 | zgd2 => kernel_rfl
 intro a2 w2 hA hE HF
 have q4 := ksv (HF 4) rfl rfl rfl
 clear q0
 clear q1
 clear HF
 replace hB := Base.step hB hE hO; clear hE
 refine li_nil (nx_then (wp_ret ?_))
 have h := Comp.run_pure h; subst h
 exact retPure Try.results61 hA q4 hB.ext rfl
theorem ok_colletref37_Sign {O : Tags} {w0 : World} (hO : OkO O w0) {x_0 : Bytes} {x_1 : api_Entry} {n : Nat} {y : api_Entry} (h : (colletref37_Sign x_0 x_1).run n = some y) : Pure Try.prog 20 #[.string (str x_0), .agg #[.int .i64 x_1.Seq, .int .i64 x_1.Shop, .int .i64 x_1.Kind, .int .i64 x_1.Day, .int .i64 x_1.N, .string (str x_1.Before), .string (str x_1.After), .string (str x_1.Prev), .string (str x_1.Mark)]] w0 (SP.isv (.agg #[.int .i64 y.Seq, .int .i64 y.Shop, .int .i64 y.Kind, .int .i64 y.Day, .int .i64 y.N, .string (str y.Before), .string (str y.After), .string (str y.Prev), .string (str y.Mark)])).holds := by
 unfold colletref37_Sign at h
 refine pure_of_wp Try.func20 rfl 11 Try.ntmps20 (by simp) fun a0 hA hs0 => ?_
 have q0 : a0.get 0 = .string (str x_0) := hs0 0 _ rfl
 have q1 : a0.get 1 = .agg #[.int .i64 x_1.Seq, .int .i64 x_1.Shop, .int .i64 x_1.Kind, .int .i64 x_1.Day, .int .i64 x_1.N, .string (str x_1.Before), .string (str x_1.After), .string (str x_1.Prev), .string (str x_1.Mark)] := hs0 1 _ rfl
 clear hs0
 have hB : Base (Fr w0) O w0 O w0 := Base.start hO
 refine wp_seq ?_
 refine' regionT [SP.box w0.heap.size #[.int .i64 x_1.Seq, .int .i64 x_1.Shop, .int .i64 x_1.Kind, .int .i64 x_1.Day, .int .i64 x_1.N, .string (str x_1.Before), .string (str x_1.After), .string (str x_1.Prev), .string (str x_1.Mark)] 26] hA (.cons (fun _ _ hE hK hg => ok_box (v := .agg #[.int .i64 x_1.Seq, .int .i64 x_1.Shop, .int .i64 x_1.Kind, .int .i64 x_1.Day, .int .i64 x_1.N, .string (str x_1.Before), .string (str x_1.After), .string (str x_1.Prev), .string (str x_1.Mark)]) hE.size (kn (hK 1 rfl) rfl q1)) .nil) ?zok1 ?zgd1 ?zk1
 case zok1 | zgd1 => kernel_rfl
 intro a1 w1 hA hE HF
 replace q0 := kn (HF 0) rfl q0
 have f2 := ksp (HF 3) rfl rfl rfl
 obtain ⟨u1, q3'⟩ : ∃ u, a1.get 3 = u := ⟨_, rfl⟩
 rw [q3'] at f2
 have q3 := q3'; clear q3'
 clear q1
 clear HF
 obtain ⟨O3, b4, hB', hX, e_, f5⟩ := boxNew hO hB hE f2 1 (by decide)
 subst e_
 clear hB f2; have hB := hB'; clear hB'
 clear hX hE
 refine l_ok (φ := SP.box w1.heap.size #[.int .i64 0, .int .i64 0, .int .i64 0, .int .i64 0, .int .i64 0, .string (str []), .string (str []), .string (str []), .string (str [])] 26) hO hB (by exact ok_alloc (Nat.le_refl _) ty26) rfl fun u6 w2 hE hB' f7 => ?_
 clear hB'; obtain ⟨O8, b10, hB', hX, e_, f9⟩ := boxNew hO hB hE f7 2 (by decide)
 subst e_; clear hB f7; have hB := hB'; clear hB'
 replace f5 := f5.kx hX (by decide)
 clear hX hE
 refine put_cont hA (by decide) fun a3 hA q_ hfr => ?_
 replace q0 := (hfr 0 rfl).trans q0
 replace q3 := (hfr 3 rfl).trans q3
 have q4 := q_; clear q_ hfr
 refine li_nil (nx_then (wp_seq ?_))
 obtain ⟨x11, hx11, h⟩ := Comp.run_bind h
 obtain ⟨x12, hx12, h⟩ := Comp.run_bind h
 refine' regionT [_, SP.isv (.agg #[.int .i64 x_1.Seq, .int .i64 x_1.Shop, .int .i64 x_1.Kind, .int .i64 x_1.Day, .int .i64 x_1.N, .string (str x_1.Before), .string (str x_1.After), .string (str x_1.Prev), .string (str x_1.Mark)]), SP.isv (.string (str x11)), SP.isv (.string (str x12)), SP.isv (.pointer (some ⟨b4, 8, none⟩))] hA (.cons (fun _ _ hE hK hg => ok_move (kn (hK 0 rfl) rfl q0)) (.cons (fun _ _ hE hK hg => ok_loadOwnAgg ty26 rfl (kn (hK 3 rfl) rfl q3) (OwnB.ext f5 hE).own rfl) (.cons ?z2_2 (.cons ?z2_3 (.cons (fun _ _ hE hK hg => ok_fieldAddr fl26_8 (kn (hK 3 rfl) rfl q3)) .nil))))) ?zok2 ?zgd2 ?zk2
 case z2_2 => intro a' w' hE hK hg; have c_ := ok_colletref37_Bytes (OkO.ext hB.ok hE)  hx11; exact ok_call1 fn18 (ksv (j := 1) (hK 6 rfl) rfl rfl rfl) c_
 case z2_3 => intro a' w' hE hK hg; have c_ := ok_colletref02_Mark (OkO.ext hB.ok hE)  hx12; exact ok_call2 fn61 (ksv (j := 0) (hK 5 rfl) rfl rfl rfl) (ksv (j := 2) (hK 7 rfl) rfl rfl rfl) c_
 case zok2 | zgd2 => kernel_rfl
 intro a4 w4 hA hE HF
 replace q3 := kn (HF 3) rfl q3
 replace q4 := kn (HF 4) rfl q4
 have q8 := ksv (HF 8) rfl rfl rfl
 have q9 := ksv (HF 9) rfl rfl rfl
 clear q0
 clear HF
 replace f5 := f5.ext hE
 replace f9 := f9.ext hE
 replace hB := Base.step hB hE hO; clear hE
 refine l_store1 (cs' := #[.int .i64 x_1.Seq, .int .i64 x_1.Shop, .int .i64 x_1.Kind, .int .i64 x_1.Day, .int .i64 x_1.N, .string (str x_1.Before), .string (str x_1.After), .string (str x_1.Prev), .string (str x12)]) hO hB (okB_fr hB) ty9 q9 q8 rfl rfl f5 (by simp) rfl fun w5 f13 hB' hX => ?_
 clear hB f5; have hB := hB'; clear hB'
 replace f9 := f9.kx hX (by decide)
 clear hX
 refine li_nil (nx_then (wp_seq ?_))
 refine' regionT [SP.isv (.agg #[.int .i64 x_1.Seq, .int .i64 x_1.Shop, .int .i64 x_1.Kind, .int .i64 x_1.Day, .int .i64 x_1.N, .string (str x_1.Before), .string (str x_1.After), .string (str x_1.Prev), .string (str x12)])] hA (.cons (fun _ _ hE hK hg => ok_loadOwnAgg ty26 rfl (kn (hK 3 rfl) rfl q3) (OwnB.ext f13 hE).own rfl) .nil) ?zok3 ?zgd3 ?zk3
 case zok3 | zgd3 => kernel_rfl
 intro a6 w6 hA hE HF
 replace q4 := kn (HF 4) rfl q4
 have q10 := ksv (HF 10) rfl rfl rfl
 clear q3
 clear HF
 replace f13 := f13.ext hE
 replace f9 := f9.ext hE
 replace hB := Base.step hB hE hO; clear hE
 refine l_storeSub (vs := [.int .i64 x_1.Seq, .int .i64 x_1.Shop, .int .i64 x_1.Kind, .int .i64 x_1.Day, .int .i64 x_1.N, .string (str x_1.Before), .string (str x_1.After), .string (str x_1.Prev), .string (str x12)]) (cs' := #[.int .i64 x_1.Seq, .int .i64 x_1.Shop, .int .i64 x_1.Kind, .int .i64 x_1.Day, .int .i64 x_1.N, .string (str x_1.Before), .string (str x_1.After), .string (str x_1.Prev), .string (str x12)]) hO hB (okB_fr hB) ty26 q4 q10 rfl (by simp [Value.oneCell']) f9 (by simp) rfl fun w7 f14 hB' hX => ?_
 clear hB f9; have hB := hB'; clear hB'
 clear hX
 refine li_nil (nx_then (wp_ret ?_))
 have h := Comp.run_pure h; subst h
 exact retG1 Try.results20 hA (.agg q4 ty26 rfl rfl f14.own) ⟨_, rfl, hB.ext, rfl⟩
set_option maxHeartbeats 4000000 in
theorem ok_colletref37_Step {O : Tags} {w0 : World} (hO : OkO O w0) {v_0 : Value} {x_0 : List Bytes} (h_0 : (rSl rStr).v O w0 v_0 x_0) {v_1 : Value} {x_1 : List api_Entry} (h_1 : (rSl r_api_Entry).v O w0 v_1 x_1) {v_2 : Value} {x_2 : List Int} (h_2 : (rSl (rInt .i64)).v O w0 v_2 x_2) {n : Nat} {y : api_Entry} (h : (colletref37_Step x_0 x_1 x_2).run n = some y) : Pure Try.prog 36 #[v_0, v_1, v_2] w0 (SP.isv (.agg #[.int .i64 y.Seq, .int .i64 y.Shop, .int .i64 y.Kind, .int .i64 y.Day, .int .i64 y.N, .string (str y.Before), .string (str y.After), .string (str y.Prev), .string (str y.Mark)])).holds := by
 unfold colletref37_Step at h
 refine pure_of_wp Try.func36 rfl 74 Try.ntmps36 (by simp) fun a0 hA hs0 => ?_
 have q0 : a0.get 0 = v_0 := hs0 0 _ rfl
 have q1 : a0.get 1 = v_1 := hs0 1 _ rfl
 have q2 : a0.get 2 = v_2 := hs0 2 _ rfl
 clear hs0
 have hB : Base (Fr w0) O w0 O w0 := Base.start hO
 refine wp_seq ?_
 refine' region [SP.box w0.heap.size #[.int .i64 0, .int .i64 0, .int .i64 0, .int .i64 0, .int .i64 0, .string (str []), .string (str []), .string (str []), .string (str [])] 26] mixed hA (.cons (fun _ _ hE hK hg => ok_alloc hE.size ty26) .nil) ?zok1 ?zgd1 ?zk1
 case zok1 | zgd1 => kernel_rfl
 intro a1 w1 hA hE HF
 replace q0 := kn (HF 0) rfl q0
 replace q1 := kn (HF 1) rfl q1
 replace q2 := kn (HF 2) rfl q2
 have f2 := ksp (HF 6) rfl rfl rfl
 obtain ⟨u1, q6'⟩ : ∃ u, a1.get 6 = u := ⟨_, rfl⟩
 rw [q6'] at f2
 have q6 := q6'; clear q6'
 clear HF
 obtain ⟨O3, b4, hB', hX, e_, f5⟩ := boxNew hO hB hE f2 1 (by decide)
 subst e_
 clear hB f2; have hB := hB'; clear hB'
 replace h_0 := GR.kx _ h_0 hX (by decide)
 replace h_1 := GR.kx _ h_1 hX (by decide)
 replace h_2 := GR.kx _ h_2 hX (by decide)
 clear hX hE
 refine li_nil (nx_then (wp_seq ?_))
 refine' regionT [_] hA (.cons (fun _ _ hE hK hg => ok_move (kn (hK 2 rfl) rfl q2)) .nil) ?zok2 ?zgd2 ?zk2
 case zok2 | zgd2 => kernel_rfl
 intro a2 w2 hA hE HF
 replace q0 := kn (HF 0) rfl q0
 replace q1 := kn (HF 1) rfl q1
 replace q6 := kn (HF 6) rfl q6
 have q10 := ksv (HF 10) rfl rfl rfl
 clear q2
 clear HF
 replace h_0 := GR.v_ext _ h_0 hE
 replace h_1 := GR.v_ext _ h_1 hE
 replace h_2 := GR.v_ext _ h_2 hE
 replace f5 := f5.ext hE
 replace hB := Base.step hB hE hO; clear hE
 refine l_ok (φ := SP.isv (.agg #[v_2, .int .i64 0])) hO hB (by refine okl_build (vals := [(0, v_2)]) (out := [v_2, .int .i64 0]) plc108 ty108 ?_ rfl ?_ rfl; exact (pk_cons (v := v_2) q10 pk_nil); exact (.cons rfl (sl_cells h_2 rfl rfl) rfl (leb rfl) .nil)) rfl fun u_ w3 hE hB' hv_ => ?_
 replace hv_ := Eq.symm hv_; subst hv_; clear hB; have hB := hB'; clear hB'
 replace h_0 := GR.v_ext _ h_0 hE
 replace h_1 := GR.v_ext _ h_1 hE
 replace h_2 := GR.v_ext _ h_2 hE
 replace f5 := f5.ext hE
 clear hE
 refine put_cont hA (by decide) fun a4 hA q_ hfr => ?_
 replace q0 := (hfr 0 rfl).trans q0
 replace q1 := (hfr 1 rfl).trans q1
 replace q6 := (hfr 6 rfl).trans q6
 replace q10 := (hfr 10 rfl).trans q10
 have q11 := q_; clear q_ hfr
 refine l_ok (φ := SP.box w3.heap.size #[v_2, .int .i64 0] 108) hO hB (by exact ok_box (v := .agg #[v_2, .int .i64 0]) (Nat.le_refl _) q11) rfl fun u6 w5 hE hB' f7 => ?_
 clear hB'; obtain ⟨O8, b10, hB', hX, e_, f9⟩ := boxNew hO hB hE f7 2 (by decide)
 subst e_; clear hB f7; have hB := hB'; clear hB'
 replace h_0 := GR.kx _ h_0 hX (by decide)
 replace h_1 := GR.kx _ h_1 hX (by decide)
 replace h_2 := GR.kx _ h_2 hX (by decide)
 replace f5 := f5.kx hX (by decide)
 clear hX hE
 refine put_cont hA (by decide) fun a6 hA q_ hfr => ?_
 replace q0 := (hfr 0 rfl).trans q0
 replace q1 := (hfr 1 rfl).trans q1
 replace q6 := (hfr 6 rfl).trans q6
 replace q11 := (hfr 11 rfl).trans q11
 have q12 := q_; clear q_ hfr
 refine l_ok (φ := SP.isv (.pointer (some ⟨b10, 0, none⟩))) hO hB (by exact ok_assign q12) rfl fun u_ w7 hE hB' hv_ => ?_
 replace hv_ := Eq.symm hv_; subst hv_; clear hB; have hB := hB'; clear hB'
 replace h_0 := GR.v_ext _ h_0 hE
 replace h_1 := GR.v_ext _ h_1 hE
 replace f5 := f5.ext hE
 replace f9 := f9.ext hE
 replace h_2 := GR.v_ext _ h_2 hE
 clear hE
 refine put_cont hA (by decide) fun a8 hA q_ hfr => ?_
 replace q0 := (hfr 0 rfl).trans q0
 replace q1 := (hfr 1 rfl).trans q1
 replace q6 := (hfr 6 rfl).trans q6
 replace q12 := (hfr 12 rfl).trans q12
 have q7 := q_; clear q_ hfr
 refine li_nil (nx_then (wp_seq ?_))
 refine' regionT [_, _, _] hA (.cons (fun _ _ hE hK hg => ok_move (kn (hK 7 rfl) rfl q7)) (.cons (fun _ _ hE hK hg => ok_move (kn (hK 0 rfl) rfl q0)) (.cons (fun _ _ hE hK hg => okl_len (r := rStr) ty28 (ksv (j := 1) (hK 14 rfl) rfl rfl rfl) (rd_of (GR.v_ext _ h_0 hE))) .nil))) ?zok3 ?zgd3 ?zk3
 case zok3 | zgd3 => kernel_rfl
 intro a9 w9 hA hE HF
 replace q0 := kn (HF 0) rfl q0
 replace q1 := kn (HF 1) rfl q1
 replace q6 := kn (HF 6) rfl q6
 replace q7 := kn (HF 7) rfl q7
 have q13 := ksv (HF 13) rfl rfl rfl
 have q15 := ksv (HF 15) rfl rfl rfl
 clear HF
 replace h_0 := GR.v_ext _ h_0 hE
 replace h_1 := GR.v_ext _ h_1 hE
 replace f5 := f5.ext hE
 replace f9 := f9.ext hE
 replace h_2 := GR.v_ext _ h_2 hE
 replace hB := Base.step hB hE hO; clear hE
 obtain ⟨x11, hx11, h⟩ := Comp.run_bind h
 refine l_pio (r := r_colletref01_Draw) (x := (colletref01_Draw.mk x_2 0)) hO hB (okB_fr hB) fn74 (map2 q13 q15) (ok_colletref01_Draw_Next hB.ok (BoxO.arg (show BoxO 2 (Fr w0) O8 w9 b10 108 r_colletref01_Draw (colletref01_Draw.mk x_2 0) from ⟨_, f9, ⟨_, _, rfl, (rel_ofF (r := (rSl (rInt .i64))) h_2 rfl rfl), ⟨_, _, rfl, rfl, rfl⟩⟩⟩) (by decide)) hx11) ⟨_, f9, ⟨_, _, rfl, (rel_ofF (r := (rSl (rInt .i64))) h_2 rfl rfl), ⟨_, _, rfl, rfl, rfl⟩⟩⟩ fun u12 w10 f14 hB' hX f13 => ?_
 clear hB f9; have hB := hB'; clear hB'
 replace h_0 := GR.kx _ h_0 hX (by decide)
 replace h_1 := GR.kx _ h_1 hX (by decide)
 replace f5 := f5.kx hX (by decide)
 replace h_2 := GR.kx _ h_2 hX (by decide)
 clear hX
 have hz_ := f14; clear f14; obtain ⟨cs_, f15, hr_⟩ := hz_
 obtain ⟨u16, e_, f17⟩ := openR_colletref01_Draw hr_; subst e_
 replace f13 : _ = _ := f13; subst f13
 refine put_cont hA (by decide) fun a11 hA q_ hfr => ?_
 replace q0 := (hfr 0 rfl).trans q0
 replace q1 := (hfr 1 rfl).trans q1
 replace q6 := (hfr 6 rfl).trans q6
 replace q7 := (hfr 7 rfl).trans q7
 replace q13 := (hfr 13 rfl).trans q13
 replace q15 := (hfr 15 rfl).trans q15
 have q16 := q_; clear q_ hfr
 refine l_ok (φ := SP.isv (.pointer (some ⟨b10, 0, none⟩))) hO hB (by exact ok_move q7) rfl fun u_ w12 hE hB' hv_ => ?_
 replace hv_ := Eq.symm hv_; subst hv_; clear hB; have hB := hB'; clear hB'
 replace h_0 := GR.v_ext _ h_0 hE
 replace h_1 := GR.v_ext _ h_1 hE
 replace f5 := f5.ext hE
 replace f15 := f15.ext hE
 replace f17 := GR.v_ext _ f17 hE
 clear hE
 refine put_cont hA (by decide) fun a13 hA q_ hfr => ?_
 replace q0 := (hfr 0 rfl).trans q0
 replace q1 := (hfr 1 rfl).trans q1
 replace q6 := (hfr 6 rfl).trans q6
 replace q7 := (hfr 7 rfl).trans q7
 replace q16 := (hfr 16 rfl).trans q16
 have q17 := q_; clear q_ hfr
 obtain ⟨x18, hx18, h⟩ := Comp.run_bind h
 refine l_pio (r := r_colletref01_Draw) (x := x11.1) hO hB (okB_fr hB) fn74 (map2 q17 rfl) (ok_colletref01_Draw_Next hB.ok (BoxO.arg (show BoxO 2 (Fr w0) O8 w12 b10 108 r_colletref01_Draw x11.1 from ⟨_, f15, ⟨_, _, rfl, (rel_ofF (r := (rSl (rInt .i64))) f17 rfl rfl), ⟨_, _, rfl, rfl, rfl⟩⟩⟩) (by decide)) hx18) ⟨_, f15, ⟨_, _, rfl, (rel_ofF (r := (rSl (rInt .i64))) f17 rfl rfl), ⟨_, _, rfl, rfl, rfl⟩⟩⟩ fun u19 w14 f21 hB' hX f20 => ?_
 clear hB f15; have hB := hB'; clear hB'
 replace h_0 := GR.kx _ h_0 hX (by decide)
 replace h_1 := GR.kx _ h_1 hX (by decide)
 replace f5 := f5.kx hX (by decide)
 replace f17 := GR.kx _ f17 hX (by decide)
 clear hX
 have hz_ := f21; clear f21; obtain ⟨cs_, f22, hr_⟩ := hz_
 obtain ⟨u23, e_, f24⟩ := openR_colletref01_Draw hr_; subst e_
 replace f20 : _ = _ := f20; subst f20
 refine put_cont hA (by decide) fun a15 hA q_ hfr => ?_
 replace q0 := (hfr 0 rfl).trans q0
 replace q1 := (hfr 1 rfl).trans q1
 replace q6 := (hfr 6 rfl).trans q6
 replace q7 := (hfr 7 rfl).trans q7
 replace q16 := (hfr 16 rfl).trans q16
 replace q17 := (hfr 17 rfl).trans q17
 have q18 := q_; clear q_ hfr
 refine l_ok (φ := SP.isv (.pointer (some ⟨b10, 0, none⟩))) hO hB (by exact ok_move q7) rfl fun u_ w16 hE hB' hv_ => ?_
 replace hv_ := Eq.symm hv_; subst hv_; clear hB; have hB := hB'; clear hB'
 replace h_0 := GR.v_ext _ h_0 hE
 replace h_1 := GR.v_ext _ h_1 hE
 replace f5 := f5.ext hE
 replace f22 := f22.ext hE
 replace f24 := GR.v_ext _ f24 hE
 clear hE
 refine put_cont hA (by decide) fun a17 hA q_ hfr => ?_
 replace q0 := (hfr 0 rfl).trans q0
 replace q1 := (hfr 1 rfl).trans q1
 replace q6 := (hfr 6 rfl).trans q6
 replace q7 := (hfr 7 rfl).trans q7
 replace q16 := (hfr 16 rfl).trans q16
 replace q18 := (hfr 18 rfl).trans q18
 have q19 := q_; clear q_ hfr
 obtain ⟨x25, hx25, h⟩ := Comp.run_bind h
 refine l_pio (r := r_colletref01_Draw) (x := x18.1) hO hB (okB_fr hB) fn74 (map2 q19 rfl) (ok_colletref01_Draw_Next hB.ok (BoxO.arg (show BoxO 2 (Fr w0) O8 w16 b10 108 r_colletref01_Draw x18.1 from ⟨_, f22, ⟨_, _, rfl, (rel_ofF (r := (rSl (rInt .i64))) f24 rfl rfl), ⟨_, _, rfl, rfl, rfl⟩⟩⟩) (by decide)) hx25) ⟨_, f22, ⟨_, _, rfl, (rel_ofF (r := (rSl (rInt .i64))) f24 rfl rfl), ⟨_, _, rfl, rfl, rfl⟩⟩⟩ fun u26 w18 f28 hB' hX f27 => ?_
 clear hB f22; have hB := hB'; clear hB'
 replace h_0 := GR.kx _ h_0 hX (by decide)
 replace h_1 := GR.kx _ h_1 hX (by decide)
 replace f5 := f5.kx hX (by decide)
 replace f24 := GR.kx _ f24 hX (by decide)
 clear hX
 have hz_ := f28; clear f28; obtain ⟨cs_, f29, hr_⟩ := hz_
 obtain ⟨u30, e_, f31⟩ := openR_colletref01_Draw hr_; subst e_
 replace f27 : _ = _ := f27; subst f27
 refine put_cont hA (by decide) fun a19 hA q_ hfr => ?_
 replace q0 := (hfr 0 rfl).trans q0
 replace q1 := (hfr 1 rfl).trans q1
 replace q6 := (hfr 6 rfl).trans q6
 replace q7 := (hfr 7 rfl).trans q7
 replace q16 := (hfr 16 rfl).trans q16
 replace q18 := (hfr 18 rfl).trans q18
 replace q19 := (hfr 19 rfl).trans q19
 have q20 := q_; clear q_ hfr
 obtain ⟨x32, hx32, h⟩ := Comp.run_bind h
 refine l_ok (φ := SP.isv (.string (str x32))) hO hB (by have c_ := ok_colletref37_Root hB.ok  hx32; exact ok_call1 fn29 q20 c_) rfl fun u_ w20 hE hB' hv_ => ?_
 replace hv_ := Eq.symm hv_; subst hv_; clear hB; have hB := hB'; clear hB'
 replace h_0 := GR.v_ext _ h_0 hE
 replace h_1 := GR.v_ext _ h_1 hE
 replace f5 := f5.ext hE
 replace f29 := f29.ext hE
 replace f31 := GR.v_ext _ f31 hE
 clear hE
 refine put_cont hA (by decide) fun a21 hA q_ hfr => ?_
 replace q0 := (hfr 0 rfl).trans q0
 replace q1 := (hfr 1 rfl).trans q1
 replace q6 := (hfr 6 rfl).trans q6
 replace q7 := (hfr 7 rfl).trans q7
 replace q16 := (hfr 16 rfl).trans q16
 replace q18 := (hfr 18 rfl).trans q18
 replace q20 := (hfr 20 rfl).trans q20
 have q21 := q_; clear q_ hfr
 refine l_ok (φ := SP.isv (.agg #[.int .i64 0, .int .i64 x11.2, .int .i64 1, .int .i64 x18.2, .int .i64 0, .string (str []), .string (str x32), .string (str []), .string (str [])])) hO hB (by refine okl_build (vals := [(2, .int .i64 1), (1, .int .i64 x11.2), (3, .int .i64 x18.2), (6, .string (str x32))]) (out := [.int .i64 0, .int .i64 x11.2, .int .i64 1, .int .i64 x18.2, .int .i64 0, .string (str []), .string (str x32), .string (str []), .string (str [])]) plc26 ty26 ?_ rfl ?_ rfl; exact (pk_cons (v := .int .i64 1) rfl (pk_cons (v := .int .i64 x11.2) q16 (pk_cons (v := .int .i64 x18.2) q18 (pk_cons (v := .string (str x32)) q21 pk_nil)))); exact (.cons rfl rfl rfl (leb rfl) (.cons rfl rfl rfl (leb rfl) (.cons rfl rfl rfl (leb rfl) (.cons rfl rfl rfl (leb rfl) .nil))))) rfl fun u_ w22 hE hB' hv_ => ?_
 replace hv_ := Eq.symm hv_; subst hv_; clear hB; have hB := hB'; clear hB'
 replace h_0 := GR.v_ext _ h_0 hE
 replace h_1 := GR.v_ext _ h_1 hE
 replace f5 := f5.ext hE
 replace f29 := f29.ext hE
 replace f31 := GR.v_ext _ f31 hE
 clear hE
 refine put_cont hA (by decide) fun a23 hA q_ hfr => ?_
 replace q0 := (hfr 0 rfl).trans q0
 replace q1 := (hfr 1 rfl).trans q1
 replace q6 := (hfr 6 rfl).trans q6
 replace q7 := (hfr 7 rfl).trans q7
 replace q16 := (hfr 16 rfl).trans q16
 replace q18 := (hfr 18 rfl).trans q18
 replace q21 := (hfr 21 rfl).trans q21
 have q22 := q_; clear q_ hfr
 refine l_ok (φ := SP.box w22.heap.size #[.int .i64 0, .int .i64 0, .int .i64 0, .int .i64 0, .int .i64 0, .string (str []), .string (str []), .string (str []), .string (str [])] 26) hO hB (by exact ok_alloc (Nat.le_refl _) ty26) rfl fun u33 w24 hE hB' f34 => ?_
 clear hB'; obtain ⟨O35, b37, hB', hX, e_, f36⟩ := boxNew hO hB hE f34 3 (by decide)
 subst e_; clear hB f34; have hB := hB'; clear hB'
 replace h_0 := GR.kx _ h_0 hX (by decide)
 replace h_1 := GR.kx _ h_1 hX (by decide)
 replace f5 := f5.kx hX (by decide)
 replace f29 := f29.kx hX (by decide)
 replace f31 := GR.kx _ f31 hX (by decide)
 clear hX hE
 refine put_cont hA (by decide) fun a25 hA q_ hfr => ?_
 replace q0 := (hfr 0 rfl).trans q0
 replace q1 := (hfr 1 rfl).trans q1
 replace q6 := (hfr 6 rfl).trans q6
 replace q7 := (hfr 7 rfl).trans q7
 replace q22 := (hfr 22 rfl).trans q22
 have q8 := q_; clear q_ hfr
 refine l_storeSub (vs := [.int .i64 0, .int .i64 x11.2, .int .i64 1, .int .i64 x18.2, .int .i64 0, .string (str []), .string (str x32), .string (str []), .string (str [])]) (cs' := #[.int .i64 0, .int .i64 x11.2, .int .i64 1, .int .i64 x18.2, .int .i64 0, .string (str []), .string (str x32), .string (str []), .string (str [])]) hO hB (okB_fr hB) ty26 q8 q22 rfl (by simp [Value.oneCell']) f36 (by simp) rfl fun w26 f38 hB' hX => ?_
 clear hB f36; have hB := hB'; clear hB'
 replace h_0 := GR.kx _ h_0 hX (by decide)
 replace h_1 := GR.kx _ h_1 hX (by decide)
 replace f5 := f5.kx hX (by decide)
 replace f29 := f29.kx hX (by decide)
 replace f31 := GR.kx _ f31 hX (by decide)
 clear hX
 refine li_nil (nx_then ?_)
 refine seq_join (fun a w => ∃ (O102 : Tags) (x93 : Int) (x94 : Int) (x95 : Int) (x96 : Int) (x97 : Int) (x98 : Bytes) (x99 : Bytes) (x100 : Bytes) (x101 : Bytes), a.fit 74 ∧ Base (Fr w0) O w0 O102 w ∧ a.get 0 = v_0 ∧ (rSl rStr).v O102 w v_0 x_0 ∧ a.get 1 = v_1 ∧ (rSl r_api_Entry).v O102 w v_1 x_1 ∧ a.get 6 = .pointer (some ⟨b4, 0, none⟩) ∧ a.get 8 = .pointer (some ⟨b37, 0, none⟩) ∧ OwnB 3 (Fr w0) O102 w b37 #[.int .i64 x93, .int .i64 x94, .int .i64 x95, .int .i64 x96, .int .i64 x97, .string (str x98), .string (str x99), .string (str x100), .string (str x101)] 26 ∧ OwnB 1 (Fr w0) O102 w b4 #[.int .i64 0, .int .i64 0, .int .i64 0, .int .i64 0, .int .i64 0, .string (str []), .string (str []), .string (str []), .string (str [])] 26 ∧ (colletref37_Step_j1 x_0 x_1 x93 x94 x95 x96 x97 x98 x99 x100 x101).run n = some y) ?_ ?_
 ·
  refine wp_seq ?_
  refine' region [_, _, _] mixed hA (.cons (fun _ _ hE hK hg => ok_move (kn (hK 1 rfl) rfl q1)) (.cons (fun _ _ hE hK hg => okl_len (r := r_api_Entry) ty29 (ksv (j := 0) (hK 23 rfl) rfl rfl rfl) (rd_of (GR.v_ext _ h_1 hE))) (.cons (fun _ _ hE hK hg => ok_gtr (ksv (j := 1) (hK 24 rfl) rfl rfl rfl) rfl) .nil))) ?zok4 ?zgd4 ?zk4
  case zok4 | zgd4 => kernel_rfl
  intro a27 w27 hA hE HF
  replace q0 := kn (HF 0) rfl q0
  replace q1 := kn (HF 1) rfl q1
  replace q6 := kn (HF 6) rfl q6
  replace q7 := kn (HF 7) rfl q7
  replace q8 := kn (HF 8) rfl q8
  have q25 := ksv (HF 25) rfl rfl rfl
  clear HF
  replace h_0 := GR.v_ext _ h_0 hE
  replace h_1 := GR.v_ext _ h_1 hE
  replace f5 := f5.ext hE
  replace f29 := f29.ext hE
  replace f31 := GR.v_ext _ f31 hE
  replace f38 := f38.ext hE
  replace hB := Base.step hB hE hO; clear hE
  refine li_nil (nx_then ?_)
  refine wp_cond_b q25 (fun hc => ?_) (fun hc => ?_)
  ·
   replace h := Comp.run_b_t hc h; clear hc
   refine wp_seq ?_
   obtain ⟨x39, hx39, h⟩ := Comp.run_bind h
   refine' regionT [_, _, _, _, SP.ptr r_api_Entry O35 x39, SP.isv (.agg #[.int .i64 x39.Seq, .int .i64 x39.Shop, .int .i64 x39.Kind, .int .i64 x39.Day, .int .i64 x39.N, .string (str x39.Before), .string (str x39.After), .string (str x39.Prev), .string (str x39.Mark)])] hA (.cons (fun _ _ hE hK hg => ok_move (kn (hK 1 rfl) rfl q1)) (.cons (fun _ _ hE hK hg => ok_move (kn (hK 1 rfl) rfl q1)) (.cons (fun _ _ hE hK hg => okl_len (r := r_api_Entry) ty29 (ksv (j := 1) (hK 27 rfl) rfl rfl rfl) (rd_of (GR.v_ext _ h_1 hE))) (.cons (fun _ _ hE hK hg => ok_sub (ksv (j := 2) (hK 28 rfl) rfl rfl rfl) rfl) (.cons (fun _ _ hE hK hg => okl_idx (r := r_api_Entry) (O := O35) ty29 ty26 rfl (ksv (j := 0) (hK 26 rfl) rfl rfl rfl) (rd_of (GR.v_ext _ h_1 hE)) (ksv (j := 3) (hK 29 rfl) rfl rfl rfl) hx39) (.cons (fun _ _ hE hK hg => okl_ldr r_api_Entry fit_api_Entry ty26 rfl rfl rfl (kspS (φ := SP.ptr r_api_Entry O35 x39) (j := 4) (hK 30 rfl) rfl rfl rfl) (fun _ _ _ h => rC_v.1 h)) .nil)))))) ?zok5 ?zgd5 ?zk5
   case zok5 | zgd5 => kernel_rfl
   intro a28 w28 hA hE HF
   replace q0 := kn (HF 0) rfl q0
   replace q1 := kn (HF 1) rfl q1
   replace q6 := kn (HF 6) rfl q6
   replace q7 := kn (HF 7) rfl q7
   replace q8 := kn (HF 8) rfl q8
   have q31 := ksv (HF 31) rfl rfl rfl
   clear q25
   clear HF
   replace h_0 := GR.v_ext _ h_0 hE
   replace h_1 := GR.v_ext _ h_1 hE
   replace f5 := f5.ext hE
   replace f29 := f29.ext hE
   replace f31 := GR.v_ext _ f31 hE
   replace f38 := f38.ext hE
   replace hB := Base.step hB hE hO; clear hE
   refine l_ok (φ := SP.box w28.heap.size #[.int .i64 0, .int .i64 0, .int .i64 0, .int .i64 0, .int .i64 0, .string (str []), .string (str []), .string (str []), .string (str [])] 26) hO hB (by exact ok_alloc (Nat.le_refl _) ty26) rfl fun u40 w29 hE hB' f41 => ?_
   clear hB'; obtain ⟨O42, b44, hB', hX, e_, f43⟩ := boxNew hO hB hE f41 4 (by decide)
   subst e_; clear hB f41; have hB := hB'; clear hB'
   replace h_0 := GR.kx _ h_0 hX (by decide)
   replace h_1 := GR.kx _ h_1 hX (by decide)
   replace f5 := f5.kx hX (by decide)
   replace f29 := f29.kx hX (by decide)
   replace f31 := GR.kx _ f31 hX (by decide)
   replace f38 := f38.kx hX (by decide)
   clear hX hE
   refine put_cont hA (by decide) fun a30 hA q_ hfr => ?_
   replace q0 := (hfr 0 rfl).trans q0
   replace q1 := (hfr 1 rfl).trans q1
   replace q6 := (hfr 6 rfl).trans q6
   replace q7 := (hfr 7 rfl).trans q7
   replace q8 := (hfr 8 rfl).trans q8
   replace q31 := (hfr 31 rfl).trans q31
   have q9 := q_; clear q_ hfr
   refine l_storeSub (vs := [.int .i64 x39.Seq, .int .i64 x39.Shop, .int .i64 x39.Kind, .int .i64 x39.Day, .int .i64 x39.N, .string (str x39.Before), .string (str x39.After), .string (str x39.Prev), .string (str x39.Mark)]) (cs' := #[.int .i64 x39.Seq, .int .i64 x39.Shop, .int .i64 x39.Kind, .int .i64 x39.Day, .int .i64 x39.N, .string (str x39.Before), .string (str x39.After), .string (str x39.Prev), .string (str x39.Mark)]) hO hB (okB_fr hB) ty26 q9 q31 rfl (by simp [Value.oneCell']) f43 (by simp) rfl fun w31 f45 hB' hX => ?_
   clear hB f43; have hB := hB'; clear hB'
   replace h_0 := GR.kx _ h_0 hX (by decide)
   replace h_1 := GR.kx _ h_1 hX (by decide)
   replace f5 := f5.kx hX (by decide)
   replace f29 := f29.kx hX (by decide)
   replace f31 := GR.kx _ f31 hX (by decide)
   replace f38 := f38.kx hX (by decide)
   clear hX
   refine li_nil (nx_then (wp_seq ?_))
   refine' regionT [SP.vl (rSl (rInt .i64)) O42 [2, 2, 3, 4], _] hA (.cons (fun _ _ hE hK hg => okl_buildSliceV (r := (rInt .i64)) (fun _ => rfl) rfl (OkO.ext hB.ok hE) ty58 ty3 (parts_cons rfl (parts_cons rfl (parts_cons rfl (parts_cons rfl parts_nil)))) ⟨(by exact rInt_v.2 rfl), ⟨(by exact rInt_v.2 rfl), ⟨(by exact rInt_v.2 rfl), ⟨(by exact rInt_v.2 rfl), trivial⟩⟩⟩⟩ rfl (by decide)) (.cons (fun _ _ hE hK hg => ok_move (kn (hK 7 rfl) rfl q7)) .nil)) ?zok6 ?zgd6 ?zk6
   case zok6 | zgd6 => kernel_rfl
   intro a32 w32 hA hE HF
   replace q0 := kn (HF 0) rfl q0
   replace q1 := kn (HF 1) rfl q1
   replace q6 := kn (HF 6) rfl q6
   replace q7 := kn (HF 7) rfl q7
   replace q8 := kn (HF 8) rfl q8
   replace q9 := kn (HF 9) rfl q9
   have f47 := ksp (HF 32) rfl rfl rfl
   obtain ⟨u46, q32'⟩ : ∃ u, a32.get 32 = u := ⟨_, rfl⟩
   rw [q32'] at f47
   have q32 := q32'; clear q32'
   have q33 := ksv (HF 33) rfl rfl rfl
   clear HF
   replace h_0 := GR.v_ext _ h_0 hE
   replace h_1 := GR.v_ext _ h_1 hE
   replace f5 := f5.ext hE
   replace f29 := f29.ext hE
   replace f31 := GR.v_ext _ f31 hE
   replace f38 := f38.ext hE
   replace f45 := f45.ext hE
   replace hB := Base.step hB hE hO; clear hE
   obtain ⟨x48, hx48, h⟩ := Comp.run_bind h
   refine l_pio (r := r_colletref01_Draw) (x := x25.1) hO hB (okB_fr hB) fn74 (map2 q33 rfl) (ok_colletref01_Draw_Next hB.ok (BoxO.arg (show BoxO 2 (Fr w0) O42 w32 b10 108 r_colletref01_Draw x25.1 from ⟨_, f29, ⟨_, _, rfl, (rel_ofF (r := (rSl (rInt .i64))) f31 rfl rfl), ⟨_, _, rfl, rfl, rfl⟩⟩⟩) (by decide)) hx48) ⟨_, f29, ⟨_, _, rfl, (rel_ofF (r := (rSl (rInt .i64))) f31 rfl rfl), ⟨_, _, rfl, rfl, rfl⟩⟩⟩ fun u49 w33 f51 hB' hX f50 => ?_
   clear hB f29; have hB := hB'; clear hB'
   replace h_0 := GR.kx _ h_0 hX (by decide)
   replace h_1 := GR.kx _ h_1 hX (by decide)
   replace f47 := GR.kx _ f47 hX (by decide)
   replace f5 := f5.kx hX (by decide)
   replace f31 := GR.kx _ f31 hX (by decide)
   replace f38 := f38.kx hX (by decide)
   replace f45 := f45.kx hX (by decide)
   clear hX
   have hz_ := f51; clear f51; obtain ⟨cs_, f52, hr_⟩ := hz_
   obtain ⟨u53, e_, f54⟩ := openR_colletref01_Draw hr_; subst e_
   replace f50 : _ = _ := f50; subst f50
   refine put_cont hA (by decide) fun a34 hA q_ hfr => ?_
   replace q0 := (hfr 0 rfl).trans q0
   replace q1 := (hfr 1 rfl).trans q1
   replace q6 := (hfr 6 rfl).trans q6
   replace q7 := (hfr 7 rfl).trans q7
   replace q8 := (hfr 8 rfl).trans q8
   replace q9 := (hfr 9 rfl).trans q9
   replace q32 := (hfr 32 rfl).trans q32
   replace q33 := (hfr 33 rfl).trans q33
   have q34 := q_; clear q_ hfr
   obtain ⟨x55, hx55, h⟩ := Comp.run_bind h
   refine l_ok (φ := SP.ptr (rInt .i64) O42 x55) hO hB (by exact okl_idx (r := (rInt .i64)) (O := O42) ty58 ty3 rfl q32 (rd_of f47) q34 hx55) rfl fun u56 w35 hE hB' f57 => ?_
   clear hB; have hB := hB'; clear hB'
   replace h_0 := GR.v_ext _ h_0 hE
   replace h_1 := GR.v_ext _ h_1 hE
   replace f47 := GR.v_ext _ f47 hE
   replace f5 := f5.ext hE
   replace f52 := f52.ext hE
   replace f54 := GR.v_ext _ f54 hE
   replace f38 := f38.ext hE
   replace f45 := f45.ext hE
   clear hE
   refine put_cont hA (by decide) fun a36 hA q_ hfr => ?_
   replace q0 := (hfr 0 rfl).trans q0
   replace q1 := (hfr 1 rfl).trans q1
   replace q6 := (hfr 6 rfl).trans q6
   replace q7 := (hfr 7 rfl).trans q7
   replace q8 := (hfr 8 rfl).trans q8
   replace q9 := (hfr 9 rfl).trans q9
   replace q32 := (hfr 32 rfl).trans q32
   replace q34 := (hfr 34 rfl).trans q34
   have q35 := q_; clear q_ hfr
   refine l_ok (φ := SP.isv (.int .i64 x55)) hO hB (by exact okl_ldrv (rInt .i64) (fun _ => rfl) ty3 rfl rfl q35 f57 (fun _ _ _ h => rInt_v.1 h)) rfl fun u_ w37 hE hB' hv_ => ?_
   replace hv_ := Eq.symm hv_; subst hv_; clear hB; have hB := hB'; clear hB'
   replace h_0 := GR.v_ext _ h_0 hE
   replace h_1 := GR.v_ext _ h_1 hE
   replace f5 := f5.ext hE
   replace f52 := f52.ext hE
   replace f54 := GR.v_ext _ f54 hE
   replace f38 := f38.ext hE
   replace f45 := f45.ext hE
   clear hE
   refine put_cont hA (by decide) fun a38 hA q_ hfr => ?_
   replace q0 := (hfr 0 rfl).trans q0
   replace q1 := (hfr 1 rfl).trans q1
   replace q6 := (hfr 6 rfl).trans q6
   replace q7 := (hfr 7 rfl).trans q7
   replace q8 := (hfr 8 rfl).trans q8
   replace q9 := (hfr 9 rfl).trans q9
   replace q35 := (hfr 35 rfl).trans q35
   have q36 := q_; clear q_ hfr
   refine l_ok (φ := SP.isv (.pointer (some ⟨b37, 2, none⟩))) hO hB (by exact ok_fieldAddr fl26_2 q8) rfl fun u_ w39 hE hB' hv_ => ?_
   replace hv_ := Eq.symm hv_; subst hv_; clear hB; have hB := hB'; clear hB'
   replace h_0 := GR.v_ext _ h_0 hE
   replace h_1 := GR.v_ext _ h_1 hE
   replace f5 := f5.ext hE
   replace f52 := f52.ext hE
   replace f54 := GR.v_ext _ f54 hE
   replace f38 := f38.ext hE
   replace f45 := f45.ext hE
   clear hE
   refine put_cont hA (by decide) fun a40 hA q_ hfr => ?_
   replace q0 := (hfr 0 rfl).trans q0
   replace q1 := (hfr 1 rfl).trans q1
   replace q6 := (hfr 6 rfl).trans q6
   replace q7 := (hfr 7 rfl).trans q7
   replace q8 := (hfr 8 rfl).trans q8
   replace q9 := (hfr 9 rfl).trans q9
   replace q36 := (hfr 36 rfl).trans q36
   have q37 := q_; clear q_ hfr
   refine l_store1 (cs' := #[.int .i64 ((api_Entry.mk 0 x11.2 1 x18.2 0 [] x32 [] []).Seq), .int .i64 ((api_Entry.mk 0 x11.2 1 x18.2 0 [] x32 [] []).Shop), .int .i64 x55, .int .i64 ((api_Entry.mk 0 x11.2 1 x18.2 0 [] x32 [] []).Day), .int .i64 ((api_Entry.mk 0 x11.2 1 x18.2 0 [] x32 [] []).N), .string (str ((api_Entry.mk 0 x11.2 1 x18.2 0 [] x32 [] []).Before)), .string (str ((api_Entry.mk 0 x11.2 1 x18.2 0 [] x32 [] []).After)), .string (str ((api_Entry.mk 0 x11.2 1 x18.2 0 [] x32 [] []).Prev)), .string (str ((api_Entry.mk 0 x11.2 1 x18.2 0 [] x32 [] []).Mark))]) hO hB (okB_fr hB) ty3 q37 q36 rfl rfl f38 (by simp) rfl fun w41 f58 hB' hX => ?_
   clear hB f38; have hB := hB'; clear hB'
   replace h_0 := GR.kx _ h_0 hX (by decide)
   replace h_1 := GR.kx _ h_1 hX (by decide)
   replace f5 := f5.kx hX (by decide)
   replace f52 := f52.kx hX (by decide)
   replace f54 := GR.kx _ f54 hX (by decide)
   replace f45 := f45.kx hX (by decide)
   clear hX
   refine li_nil (nx_then (wp_seq ?_))
   obtain ⟨x59, hx59, h⟩ := Comp.run_bind h
   refine' regionT [SP.isv (.agg #[.int .i64 x39.Seq, .int .i64 x39.Shop, .int .i64 x39.Kind, .int .i64 x39.Day, .int .i64 x39.N, .string (str x39.Before), .string (str x39.After), .string (str x39.Prev), .string (str x39.Mark)]), SP.isv (.int .i64 x59), SP.isv (.pointer (some ⟨b37, 1, none⟩))] hA (.cons (fun _ _ hE hK hg => ok_loadOwnAgg ty26 rfl (kn (hK 9 rfl) rfl q9) (OwnB.ext f45 hE).own rfl) (.cons ?z7_1 (.cons (fun _ _ hE hK hg => ok_fieldAddr fl26_1 (kn (hK 8 rfl) rfl q8)) .nil))) ?zok7 ?zgd7 ?zk7
   case z7_1 => intro a' w' hE hK hg; have c_ := ok_colletref37_writer (OkO.ext hB.ok hE)  hx59; exact ok_call1 fn75 (ksv (j := 0) (hK 38 rfl) rfl rfl rfl) c_
   case zok7 | zgd7 => kernel_rfl
   intro a42 w42 hA hE HF
   replace q0 := kn (HF 0) rfl q0
   replace q1 := kn (HF 1) rfl q1
   replace q6 := kn (HF 6) rfl q6
   replace q7 := kn (HF 7) rfl q7
   replace q8 := kn (HF 8) rfl q8
   replace q9 := kn (HF 9) rfl q9
   have q39 := ksv (HF 39) rfl rfl rfl
   have q40 := ksv (HF 40) rfl rfl rfl
   clear HF
   replace h_0 := GR.v_ext _ h_0 hE
   replace h_1 := GR.v_ext _ h_1 hE
   replace f5 := f5.ext hE
   replace f52 := f52.ext hE
   replace f54 := GR.v_ext _ f54 hE
   replace f58 := f58.ext hE
   replace f45 := f45.ext hE
   replace hB := Base.step hB hE hO; clear hE
   refine l_store1 (cs' := #[.int .i64 ((api_Entry.mk 0 x11.2 1 x18.2 0 [] x32 [] []).Seq), .int .i64 x59, .int .i64 x55, .int .i64 ((api_Entry.mk 0 x11.2 1 x18.2 0 [] x32 [] []).Day), .int .i64 ((api_Entry.mk 0 x11.2 1 x18.2 0 [] x32 [] []).N), .string (str ((api_Entry.mk 0 x11.2 1 x18.2 0 [] x32 [] []).Before)), .string (str ((api_Entry.mk 0 x11.2 1 x18.2 0 [] x32 [] []).After)), .string (str ((api_Entry.mk 0 x11.2 1 x18.2 0 [] x32 [] []).Prev)), .string (str ((api_Entry.mk 0 x11.2 1 x18.2 0 [] x32 [] []).Mark))]) hO hB (okB_fr hB) ty3 q40 q39 rfl rfl f58 (by simp) rfl fun w43 f60 hB' hX => ?_
   clear hB f58; have hB := hB'; clear hB'
   replace h_0 := GR.kx _ h_0 hX (by decide)
   replace h_1 := GR.kx _ h_1 hX (by decide)
   replace f5 := f5.kx hX (by decide)
   replace f52 := f52.kx hX (by decide)
   replace f54 := GR.kx _ f54 hX (by decide)
   replace f45 := f45.kx hX (by decide)
   clear hX
   refine li_nil (nx_then (wp_seq ?_))
   refine' regionT [SP.isv (.pointer (some ⟨b44, 3, none⟩)), SP.isv (.int .i64 x39.Day), SP.isv (.pointer (some ⟨b37, 3, none⟩)), SP.isv (.int .i64 ((api_Entry.mk 0 x11.2 1 x18.2 0 [] x32 [] []).Day)), _, _, SP.isv (.pointer (some ⟨b37, 3, none⟩))] hA (.cons (fun _ _ hE hK hg => ok_fieldAddr fl26_3 (kn (hK 9 rfl) rfl q9)) (.cons (fun _ _ hE hK hg => ok_loadOwn ty3 rfl (ksv (j := 0) (hK 41 rfl) rfl rfl rfl) (OwnB.ext f45 hE).own rfl) (.cons (fun _ _ hE hK hg => ok_fieldAddr fl26_3 (kn (hK 8 rfl) rfl q8)) (.cons (fun _ _ hE hK hg => ok_loadOwn ty3 rfl (ksv (j := 2) (hK 43 rfl) rfl rfl rfl) (OwnB.ext f60 hE).own rfl) (.cons (fun _ _ hE hK hg => ok_quo (ksv (j := 3) (hK 44 rfl) rfl rfl rfl) rfl (by decide)) (.cons (fun _ _ hE hK hg => ok_add (ksv (j := 1) (hK 42 rfl) rfl rfl rfl) (ksv (j := 4) (hK 45 rfl) rfl rfl rfl)) (.cons (fun _ _ hE hK hg => ok_fieldAddr fl26_3 (kn (hK 8 rfl) rfl q8)) .nil))))))) ?zok8 ?zgd8 ?zk8
   case zok8 | zgd8 => kernel_rfl
   intro a44 w44 hA hE HF
   replace q0 := kn (HF 0) rfl q0
   replace q1 := kn (HF 1) rfl q1
   replace q6 := kn (HF 6) rfl q6
   replace q7 := kn (HF 7) rfl q7
   replace q8 := kn (HF 8) rfl q8
   replace q9 := kn (HF 9) rfl q9
   have q46 := ksv (HF 46) rfl rfl rfl
   have q47 := ksv (HF 47) rfl rfl rfl
   clear HF
   replace h_0 := GR.v_ext _ h_0 hE
   replace h_1 := GR.v_ext _ h_1 hE
   replace f5 := f5.ext hE
   replace f52 := f52.ext hE
   replace f54 := GR.v_ext _ f54 hE
   replace f60 := f60.ext hE
   replace f45 := f45.ext hE
   replace hB := Base.step hB hE hO; clear hE
   refine l_store1 (cs' := #[.int .i64 ((api_Entry.mk 0 x11.2 1 x18.2 0 [] x32 [] []).Seq), .int .i64 x59, .int .i64 x55, .int .i64 (IntKind.wrap .i64 (x39.Day + (IntKind.wrap .i64 (Int.tdiv ((api_Entry.mk 0 x11.2 1 x18.2 0 [] x32 [] []).Day) 3)))), .int .i64 ((api_Entry.mk 0 x11.2 1 x18.2 0 [] x32 [] []).N), .string (str ((api_Entry.mk 0 x11.2 1 x18.2 0 [] x32 [] []).Before)), .string (str ((api_Entry.mk 0 x11.2 1 x18.2 0 [] x32 [] []).After)), .string (str ((api_Entry.mk 0 x11.2 1 x18.2 0 [] x32 [] []).Prev)), .string (str ((api_Entry.mk 0 x11.2 1 x18.2 0 [] x32 [] []).Mark))]) hO hB (okB_fr hB) ty3 q47 q46 rfl rfl f60 (by simp) rfl fun w45 f61 hB' hX => ?_
   clear hB f60; have hB := hB'; clear hB'
   replace h_0 := GR.kx _ h_0 hX (by decide)
   replace h_1 := GR.kx _ h_1 hX (by decide)
   replace f5 := f5.kx hX (by decide)
   replace f52 := f52.kx hX (by decide)
   replace f54 := GR.kx _ f54 hX (by decide)
   replace f45 := f45.kx hX (by decide)
   clear hX
   refine li_nil (nx_then ?_)
   refine seq_join (fun a w => ∃ (O84 : Tags) (x70 : List Int) (x73 : Int) (x74 : Int) (x75 : Int) (x76 : Int) (x77 : Int) (x78 : Int) (x79 : Bytes) (x80 : Bytes) (x81 : Bytes) (x82 : Bytes) (u71 : Value), a.fit 74 ∧ Base (Fr w0) O w0 O84 w ∧ a.get 0 = v_0 ∧ (rSl rStr).v O84 w v_0 x_0 ∧ a.get 1 = v_1 ∧ (rSl r_api_Entry).v O84 w v_1 x_1 ∧ a.get 6 = .pointer (some ⟨b4, 0, none⟩) ∧ a.get 7 = .pointer (some ⟨b10, 0, none⟩) ∧ a.get 8 = .pointer (some ⟨b37, 0, none⟩) ∧ OwnB 2 (Fr w0) O84 w b10 #[u71, .int .i64 x73] 108 ∧ (rSl (rInt .i64)).v O84 w u71 x70 ∧ OwnB 3 (Fr w0) O84 w b37 #[.int .i64 x74, .int .i64 x75, .int .i64 x76, .int .i64 x77, .int .i64 x78, .string (str x79), .string (str x80), .string (str x81), .string (str x82)] 26 ∧ OwnB 1 (Fr w0) O84 w b4 #[.int .i64 0, .int .i64 0, .int .i64 0, .int .i64 0, .int .i64 0, .string (str []), .string (str []), .string (str []), .string (str [])] 26 ∧ (colletref37_Step_j2 x_0 x_1 x70 x73 x74 x75 x76 x77 x78 x79 x80 x81 x82).run n = some y) ?_ ?_
   ·
    refine wp_seq ?_
    refine' region [SP.isv (.pointer (some ⟨b37, 2, none⟩)), SP.isv (.int .i64 x55), _] mixed hA (.cons (fun _ _ hE hK hg => ok_fieldAddr fl26_2 (kn (hK 8 rfl) rfl q8)) (.cons (fun _ _ hE hK hg => ok_loadOwn ty3 rfl (ksv (j := 0) (hK 48 rfl) rfl rfl rfl) (OwnB.ext f61 hE).own rfl) (.cons (fun _ _ hE hK hg => ok_eqlI (ksv (j := 1) (hK 49 rfl) rfl rfl rfl) rfl) .nil))) ?zok9 ?zgd9 ?zk9
    case zok9 | zgd9 => kernel_rfl
    intro a46 w46 hA hE HF
    replace q0 := kn (HF 0) rfl q0
    replace q1 := kn (HF 1) rfl q1
    replace q6 := kn (HF 6) rfl q6
    replace q7 := kn (HF 7) rfl q7
    replace q8 := kn (HF 8) rfl q8
    replace q9 := kn (HF 9) rfl q9
    have q50 := ksv (HF 50) rfl rfl rfl
    clear HF
    replace h_0 := GR.v_ext _ h_0 hE
    replace h_1 := GR.v_ext _ h_1 hE
    replace f5 := f5.ext hE
    replace f52 := f52.ext hE
    replace f54 := GR.v_ext _ f54 hE
    replace f61 := f61.ext hE
    replace f45 := f45.ext hE
    replace hB := Base.step hB hE hO; clear hE
    refine li_nil (nx_then ?_)
    refine wp_cond_b q50 (fun hc => ?_) (fun hc => ?_)
    ·
     replace h := Comp.run_b_t hc h; clear hc
     refine' regionT [_] hA (.cons (fun _ _ hE hK hg => ok_move (kn (hK 7 rfl) rfl q7)) .nil) ?zok10 ?zgd10 ?zk10
     case zok10 | zgd10 => kernel_rfl
     intro a47 w47 hA hE HF
     replace q0 := kn (HF 0) rfl q0
     replace q1 := kn (HF 1) rfl q1
     replace q6 := kn (HF 6) rfl q6
     replace q7 := kn (HF 7) rfl q7
     replace q8 := kn (HF 8) rfl q8
     have q51 := ksv (HF 51) rfl rfl rfl
     clear q9
     clear q50
     clear HF
     replace h_0 := GR.v_ext _ h_0 hE
     replace h_1 := GR.v_ext _ h_1 hE
     replace f5 := f5.ext hE
     replace f52 := f52.ext hE
     replace f54 := GR.v_ext _ f54 hE
     replace f61 := f61.ext hE
     replace f45 := f45.ext hE
     replace hB := Base.step hB hE hO; clear hE
     obtain ⟨x62, hx62, h⟩ := Comp.run_bind h
     refine l_pio (r := r_colletref01_Draw) (x := x48.1) hO hB (okB_fr hB) fn74 (map2 q51 rfl) (ok_colletref01_Draw_Next hB.ok (BoxO.arg (show BoxO 2 (Fr w0) O42 w47 b10 108 r_colletref01_Draw x48.1 from ⟨_, f52, ⟨_, _, rfl, (rel_ofF (r := (rSl (rInt .i64))) f54 rfl rfl), ⟨_, _, rfl, rfl, rfl⟩⟩⟩) (by decide)) hx62) ⟨_, f52, ⟨_, _, rfl, (rel_ofF (r := (rSl (rInt .i64))) f54 rfl rfl), ⟨_, _, rfl, rfl, rfl⟩⟩⟩ fun u63 w48 f65 hB' hX f64 => ?_
     clear hB f52; have hB := hB'; clear hB'
     replace h_0 := GR.kx _ h_0 hX (by decide)
     replace h_1 := GR.kx _ h_1 hX (by decide)
     replace f5 := f5.kx hX (by decide)
     replace f54 := GR.kx _ f54 hX (by decide)
     replace f61 := f61.kx hX (by decide)
     clear hX
     have hz_ := f65; clear f65; obtain ⟨cs_, f66, hr_⟩ := hz_
     obtain ⟨u67, e_, f68⟩ := openR_colletref01_Draw hr_; subst e_
     replace f64 : _ = _ := f64; subst f64
     refine put_cont hA (by decide) fun a49 hA q_ hfr => ?_
     replace q0 := (hfr 0 rfl).trans q0
     replace q1 := (hfr 1 rfl).trans q1
     replace q6 := (hfr 6 rfl).trans q6
     replace q7 := (hfr 7 rfl).trans q7
     replace q8 := (hfr 8 rfl).trans q8
     replace q51 := (hfr 51 rfl).trans q51
     have q52 := q_; clear q_ hfr
     refine l_ok (φ := SP.isv (.pointer (some ⟨b37, 4, none⟩))) hO hB (by exact ok_fieldAddr fl26_4 q8) rfl fun u_ w50 hE hB' hv_ => ?_
     replace hv_ := Eq.symm hv_; subst hv_; clear hB; have hB := hB'; clear hB'
     replace h_0 := GR.v_ext _ h_0 hE
     replace h_1 := GR.v_ext _ h_1 hE
     replace f5 := f5.ext hE
     replace f66 := f66.ext hE
     replace f68 := GR.v_ext _ f68 hE
     replace f61 := f61.ext hE
     clear hE
     refine put_cont hA (by decide) fun a51 hA q_ hfr => ?_
     replace q0 := (hfr 0 rfl).trans q0
     replace q1 := (hfr 1 rfl).trans q1
     replace q6 := (hfr 6 rfl).trans q6
     replace q7 := (hfr 7 rfl).trans q7
     replace q8 := (hfr 8 rfl).trans q8
     replace q52 := (hfr 52 rfl).trans q52
     have q53 := q_; clear q_ hfr
     refine l_store1 (cs' := #[.int .i64 ((api_Entry.mk 0 x11.2 1 x18.2 0 [] x32 [] []).Seq), .int .i64 x59, .int .i64 x55, .int .i64 (IntKind.wrap .i64 (x39.Day + (IntKind.wrap .i64 (Int.tdiv ((api_Entry.mk 0 x11.2 1 x18.2 0 [] x32 [] []).Day) 3)))), .int .i64 x62.2, .string (str ((api_Entry.mk 0 x11.2 1 x18.2 0 [] x32 [] []).Before)), .string (str ((api_Entry.mk 0 x11.2 1 x18.2 0 [] x32 [] []).After)), .string (str ((api_Entry.mk 0 x11.2 1 x18.2 0 [] x32 [] []).Prev)), .string (str ((api_Entry.mk 0 x11.2 1 x18.2 0 [] x32 [] []).Mark))]) hO hB (okB_fr hB) ty3 q53 q52 rfl rfl f61 (by simp) rfl fun w52 f69 hB' hX => ?_
     clear hB f61; have hB := hB'; clear hB'
     replace h_0 := GR.kx _ h_0 hX (by decide)
     replace h_1 := GR.kx _ h_1 hX (by decide)
     replace f5 := f5.kx hX (by decide)
     replace f66 := f66.kx hX (by decide)
     replace f68 := GR.kx _ f68 hX (by decide)
     clear hX
     refine li_nil (nx_then ?_)
     exact ⟨_, _, _, _, _, _, _, _, _, _, _, _, _, hA, hB, q0, h_0, q1, h_1, q6, q7, q8, f66, f68, f69, f5, h⟩
    ·
     replace h := Comp.run_b_f hc h; clear hc
     refine' regionT [SP.isv (.pointer (some ⟨b44, 6, none⟩)), SP.isv (.string (str x39.After)), SP.isv (.pointer (some ⟨b37, 6, none⟩))] hA (.cons (fun _ _ hE hK hg => ok_fieldAddr fl26_6 (kn (hK 9 rfl) rfl q9)) (.cons (fun _ _ hE hK hg => ok_loadOwn ty9 rfl (ksv (j := 0) (hK 54 rfl) rfl rfl rfl) (OwnB.ext f45 hE).own rfl) (.cons (fun _ _ hE hK hg => ok_fieldAddr fl26_6 (kn (hK 8 rfl) rfl q8)) .nil))) ?zok11 ?zgd11 ?zk11
     case zok11 | zgd11 => kernel_rfl
     intro a53 w53 hA hE HF
     replace q0 := kn (HF 0) rfl q0
     replace q1 := kn (HF 1) rfl q1
     replace q6 := kn (HF 6) rfl q6
     replace q7 := kn (HF 7) rfl q7
     replace q8 := kn (HF 8) rfl q8
     have q55 := ksv (HF 55) rfl rfl rfl
     have q56 := ksv (HF 56) rfl rfl rfl
     clear q9
     clear q50
     clear HF
     replace h_0 := GR.v_ext _ h_0 hE
     replace h_1 := GR.v_ext _ h_1 hE
     replace f5 := f5.ext hE
     replace f52 := f52.ext hE
     replace f54 := GR.v_ext _ f54 hE
     replace f61 := f61.ext hE
     replace f45 := f45.ext hE
     replace hB := Base.step hB hE hO; clear hE
     refine l_store1 (cs' := #[.int .i64 ((api_Entry.mk 0 x11.2 1 x18.2 0 [] x32 [] []).Seq), .int .i64 x59, .int .i64 x55, .int .i64 (IntKind.wrap .i64 (x39.Day + (IntKind.wrap .i64 (Int.tdiv ((api_Entry.mk 0 x11.2 1 x18.2 0 [] x32 [] []).Day) 3)))), .int .i64 ((api_Entry.mk 0 x11.2 1 x18.2 0 [] x32 [] []).N), .string (str ((api_Entry.mk 0 x11.2 1 x18.2 0 [] x32 [] []).Before)), .string (str x39.After), .string (str ((api_Entry.mk 0 x11.2 1 x18.2 0 [] x32 [] []).Prev)), .string (str ((api_Entry.mk 0 x11.2 1 x18.2 0 [] x32 [] []).Mark))]) hO hB (okB_fr hB) ty9 q56 q55 rfl rfl f61 (by simp) rfl fun w54 f83 hB' hX => ?_
     clear hB f61; have hB := hB'; clear hB'
     replace h_0 := GR.kx _ h_0 hX (by decide)
     replace h_1 := GR.kx _ h_1 hX (by decide)
     replace f5 := f5.kx hX (by decide)
     replace f52 := f52.kx hX (by decide)
     replace f54 := GR.kx _ f54 hX (by decide)
     clear hX
     refine li_nil (nx_then ?_)
     exact ⟨_, _, _, _, _, _, _, _, _, _, _, _, _, hA, hB, q0, h_0, q1, h_1, q6, q7, q8, f52, f54, f83, f5, h⟩
   intro a55 w55 hI
   clear hA hB h q0 q1 q6 q7 q8 q9 f45 f5 f52 f54 f61 h_0 h_1
   obtain ⟨O84, x70, x73, x74, x75, x76, x77, x78, x79, x80, x81, x82, u71, hA, hB, q0, h_0, q1, h_1, q6, q7, q8, f66, f72, f69, f5, h⟩ := hI
   unfold colletref37_Step_j2 at h
   refine wp_seq ?_
   refine' region [SP.isv (.pointer (some ⟨b37, 2, none⟩)), SP.isv (.int .i64 x76), _] mixed hA (.cons (fun _ _ hE hK hg => ok_fieldAddr fl26_2 (kn (hK 8 rfl) rfl q8)) (.cons (fun _ _ hE hK hg => ok_loadOwn ty3 rfl (ksv (j := 0) (hK 57 rfl) rfl rfl rfl) (OwnB.ext f69 hE).own rfl) (.cons (fun _ _ hE hK hg => ok_eqlI (ksv (j := 1) (hK 58 rfl) rfl rfl rfl) rfl) .nil))) ?zok12 ?zgd12 ?zk12
   case zok12 | zgd12 => kernel_rfl
   intro a56 w56 hA hE HF
   replace q0 := kn (HF 0) rfl q0
   replace q1 := kn (HF 1) rfl q1
   replace q6 := kn (HF 6) rfl q6
   replace q7 := kn (HF 7) rfl q7
   replace q8 := kn (HF 8) rfl q8
   have q59 := ksv (HF 59) rfl rfl rfl
   clear HF
   replace h_0 := GR.v_ext _ h_0 hE
   replace h_1 := GR.v_ext _ h_1 hE
   replace f5 := f5.ext hE
   replace f66 := f66.ext hE
   replace f72 := GR.v_ext _ f72 hE
   replace f69 := f69.ext hE
   replace hB := Base.step hB hE hO; clear hE
   refine li_nil (nx_then ?_)
   refine wp_cond_b q59 (fun hc => ?_) (fun hc => ?_)
   ·
    replace h := Comp.run_b_t hc h; clear hc
    refine' regionT [_, _, _] hA (.cons (fun _ _ hE hK hg => ok_move (kn (hK 7 rfl) rfl q7)) (.cons (fun _ _ hE hK hg => ok_move (kn (hK 0 rfl) rfl q0)) (.cons (fun _ _ hE hK hg => okl_len (r := rStr) ty28 (ksv (j := 1) (hK 61 rfl) rfl rfl rfl) (rd_of (GR.v_ext _ h_0 hE))) .nil))) ?zok13 ?zgd13 ?zk13
    case zok13 | zgd13 => kernel_rfl
    intro a57 w57 hA hE HF
    replace q0 := kn (HF 0) rfl q0
    replace q1 := kn (HF 1) rfl q1
    replace q6 := kn (HF 6) rfl q6
    replace q8 := kn (HF 8) rfl q8
    have q60 := ksv (HF 60) rfl rfl rfl
    have q62 := ksv (HF 62) rfl rfl rfl
    clear q7
    clear q59
    clear HF
    replace h_0 := GR.v_ext _ h_0 hE
    replace h_1 := GR.v_ext _ h_1 hE
    replace f5 := f5.ext hE
    replace f66 := f66.ext hE
    replace f72 := GR.v_ext _ f72 hE
    replace f69 := f69.ext hE
    replace hB := Base.step hB hE hO; clear hE
    obtain ⟨x85, hx85, h⟩ := Comp.run_bind h
    refine l_pio (r := r_colletref01_Draw) (x := (colletref01_Draw.mk x70 x73)) hO hB (okB_fr hB) fn74 (map2 q60 q62) (ok_colletref01_Draw_Next hB.ok (BoxO.arg (show BoxO 2 (Fr w0) O84 w57 b10 108 r_colletref01_Draw (colletref01_Draw.mk x70 x73) from ⟨_, f66, ⟨_, _, rfl, (rel_ofF (r := (rSl (rInt .i64))) f72 rfl rfl), ⟨_, _, rfl, rfl, rfl⟩⟩⟩) (by decide)) hx85) ⟨_, f66, ⟨_, _, rfl, (rel_ofF (r := (rSl (rInt .i64))) f72 rfl rfl), ⟨_, _, rfl, rfl, rfl⟩⟩⟩ fun u86 w58 f88 hB' hX f87 => ?_
    clear hB f66; have hB := hB'; clear hB'
    replace h_0 := GR.kx _ h_0 hX (by decide)
    replace h_1 := GR.kx _ h_1 hX (by decide)
    replace f5 := f5.kx hX (by decide)
    replace f72 := GR.kx _ f72 hX (by decide)
    replace f69 := f69.kx hX (by decide)
    clear hX
    have hz_ := f88; clear f88; obtain ⟨cs_, f89, hr_⟩ := hz_
    obtain ⟨u90, e_, f91⟩ := openR_colletref01_Draw hr_; subst e_
    replace f87 : _ = _ := f87; subst f87
    refine put_cont hA (by decide) fun a59 hA q_ hfr => ?_
    replace q0 := (hfr 0 rfl).trans q0
    replace q1 := (hfr 1 rfl).trans q1
    replace q6 := (hfr 6 rfl).trans q6
    replace q8 := (hfr 8 rfl).trans q8
    replace q60 := (hfr 60 rfl).trans q60
    replace q62 := (hfr 62 rfl).trans q62
    have q63 := q_; clear q_ hfr
    refine l_ok (φ := SP.isv (.pointer (some ⟨b37, 4, none⟩))) hO hB (by exact ok_fieldAddr fl26_4 q8) rfl fun u_ w60 hE hB' hv_ => ?_
    replace hv_ := Eq.symm hv_; subst hv_; clear hB; have hB := hB'; clear hB'
    replace h_0 := GR.v_ext _ h_0 hE
    replace h_1 := GR.v_ext _ h_1 hE
    replace f5 := f5.ext hE
    replace f69 := f69.ext hE
    clear hE
    refine put_cont hA (by decide) fun a61 hA q_ hfr => ?_
    replace q0 := (hfr 0 rfl).trans q0
    replace q1 := (hfr 1 rfl).trans q1
    replace q6 := (hfr 6 rfl).trans q6
    replace q8 := (hfr 8 rfl).trans q8
    replace q63 := (hfr 63 rfl).trans q63
    have q64 := q_; clear q_ hfr
    refine l_store1 (cs' := #[.int .i64 x74, .int .i64 x75, .int .i64 x76, .int .i64 x77, .int .i64 x85.2, .string (str x79), .string (str x80), .string (str x81), .string (str x82)]) hO hB (okB_fr hB) ty3 q64 q63 rfl rfl f69 (by simp) rfl fun w62 f92 hB' hX => ?_
    clear hB f69; have hB := hB'; clear hB'
    replace h_0 := GR.kx _ h_0 hX (by decide)
    replace h_1 := GR.kx _ h_1 hX (by decide)
    replace f5 := f5.kx hX (by decide)
    clear hX
    refine li_nil (nx_then ?_)
    exact ⟨_, _, _, _, _, _, _, _, _, _, hA, hB, q0, h_0, q1, h_1, q6, q8, f92, f5, h⟩
   ·
    replace h := Comp.run_b_f hc h; clear hc
    refine wp_skip (nx_then ?_)
    exact ⟨_, _, _, _, _, _, _, _, _, _, hA, hB, q0, h_0, q1, h_1, q6, q8, f69, f5, h⟩
  ·
   replace h := Comp.run_b_f hc h; clear hc
   refine wp_skip (nx_then ?_)
   exact ⟨_, _, _, _, _, _, _, _, _, _, hA, hB, q0, h_0, q1, h_1, q6, q8, f38, f5, h⟩
 intro a63 w63 hI
 clear hA hB h q0 q1 q6 q7 q8 f29 f31 f38 f5 h_0 h_1
 obtain ⟨O102, x93, x94, x95, x96, x97, x98, x99, x100, x101, hA, hB, q0, h_0, q1, h_1, q6, q8, f92, f5, h⟩ := hI
 unfold colletref37_Step_j1 at h
 refine wp_seq ?_
 obtain ⟨x103, hx103, h⟩ := Comp.run_bind h
 obtain ⟨x104, hx104, h⟩ := Comp.run_bind h
 obtain ⟨x105, hx105, h⟩ := Comp.run_bind h
 refine' region [_, SP.isv (.pointer (some ⟨b37, 1, none⟩)), SP.isv (.int .i64 x94), SP.ptr rStr O102 x103, SP.isv (.string (str x103)), _, SP.isv (.agg #[.int .i64 x93, .int .i64 x94, .int .i64 x95, .int .i64 x96, .int .i64 x97, .string (str x98), .string (str x99), .string (str x100), .string (str x101)]), SP.isv (.agg #[.int .i64 x104.Seq, .int .i64 x104.Shop, .int .i64 x104.Kind, .int .i64 x104.Day, .int .i64 x104.N, .string (str x104.Before), .string (str x104.After), .string (str x104.Prev), .string (str x104.Mark)]), SP.isv (.agg #[.int .i64 x105.Seq, .int .i64 x105.Shop, .int .i64 x105.Kind, .int .i64 x105.Day, .int .i64 x105.N, .string (str x105.Before), .string (str x105.After), .string (str x105.Prev), .string (str x105.Mark)])] mixed hA (.cons (fun _ _ hE hK hg => ok_move (kn (hK 0 rfl) rfl q0)) (.cons (fun _ _ hE hK hg => ok_fieldAddr fl26_1 (kn (hK 8 rfl) rfl q8)) (.cons (fun _ _ hE hK hg => ok_loadOwn ty3 rfl (ksv (j := 1) (hK 66 rfl) rfl rfl rfl) (OwnB.ext f92 hE).own rfl) (.cons (fun _ _ hE hK hg => okl_idx (r := rStr) (O := O102) ty28 ty9 rfl (ksv (j := 0) (hK 65 rfl) rfl rfl rfl) (rd_of (GR.v_ext _ h_0 hE)) (ksv (j := 2) (hK 67 rfl) rfl rfl rfl) hx103) (.cons (fun _ _ hE hK hg => okl_ldr rStr (fun _ => rfl) ty9 rfl rfl rfl (kspS (φ := SP.ptr rStr O102 x103) (j := 3) (hK 68 rfl) rfl rfl rfl) (fun _ _ _ h => rStr_v.1 h)) (.cons (fun _ _ hE hK hg => ok_move (kn (hK 1 rfl) rfl q1)) (.cons (fun _ _ hE hK hg => ok_loadOwnAgg ty26 rfl (kn (hK 8 rfl) rfl q8) (OwnB.ext f92 hE).own rfl) (.cons ?z14_7 (.cons ?z14_8 .nil))))))))) ?zok14 ?zgd14 ?zk14
 case z14_7 => intro a' w' hE hK hg; have c_ := ok_colletref37_Next (OkO.ext hB.ok hE) (GR.v_ext _ h_1 hE) hx104; exact ok_call2 fn22 (ksv (j := 5) (hK 70 rfl) rfl rfl rfl) (ksv (j := 6) (hK 71 rfl) rfl rfl rfl) c_
 case z14_8 => intro a' w' hE hK hg; have c_ := ok_colletref37_Sign (OkO.ext hB.ok hE)  hx105; exact ok_call2 fn20 (ksv (j := 4) (hK 69 rfl) rfl rfl rfl) (ksv (j := 7) (hK 72 rfl) rfl rfl rfl) c_
 case zok14 | zgd14 => kernel_rfl
 intro a64 w64 hA hE HF
 replace q6 := kn (HF 6) rfl q6
 have q73 := ksv (HF 73) rfl rfl rfl
 clear q0
 clear q1
 clear q8
 clear HF
 replace h_0 := GR.v_ext _ h_0 hE
 replace h_1 := GR.v_ext _ h_1 hE
 replace f5 := f5.ext hE
 replace f92 := f92.ext hE
 replace hB := Base.step hB hE hO; clear hE
 refine l_storeSub (vs := [.int .i64 x105.Seq, .int .i64 x105.Shop, .int .i64 x105.Kind, .int .i64 x105.Day, .int .i64 x105.N, .string (str x105.Before), .string (str x105.After), .string (str x105.Prev), .string (str x105.Mark)]) (cs' := #[.int .i64 x105.Seq, .int .i64 x105.Shop, .int .i64 x105.Kind, .int .i64 x105.Day, .int .i64 x105.N, .string (str x105.Before), .string (str x105.After), .string (str x105.Prev), .string (str x105.Mark)]) hO hB (okB_fr hB) ty26 q6 q73 rfl (by simp [Value.oneCell']) f5 (by simp) rfl fun w65 f106 hB' hX => ?_
 clear hB f5; have hB := hB'; clear hB'
 clear hX
 refine li_nil (nx_then (wp_ret ?_))
 have h := Comp.run_pure h; subst h
 exact retG1 Try.results36 hA (.agg q6 ty26 rfl rfl f106.own) ⟨_, rfl, hB.ext, rfl⟩
theorem ok_colletref37_Made {O : Tags} {w0 : World} (hO : OkO O w0) {v_0 : Value} {x_0 : List Bytes} (h_0 : (rSl rStr).v O w0 v_0 x_0) {v_1 : Value} {x_1 : List (List Int)} (h_1 : (rSl (rSl (rInt .i64))).v O w0 v_1 x_1) {x_2 : Int} {n : Nat} {y : (List api_Entry)} (h : (colletref37_Made x_0 x_1 x_2).run n = some y) : Pure Try.prog 54 #[v_0, v_1, .int .i64 x_2] w0 (SP.ownr r_api_Entry 26 (w0.heap.size) O y).holds := by
 unfold colletref37_Made at h
 refine pure_of_wp Try.func54 rfl 31 Try.ntmps54 (by simp) fun a0 hA hs0 => ?_
 have q0 : a0.get 0 = v_0 := hs0 0 _ rfl
 have q1 : a0.get 1 = v_1 := hs0 1 _ rfl
 have q2 : a0.get 2 = .int .i64 x_2 := hs0 2 _ rfl
 clear hs0
 have hB : Base (Fr w0) O w0 O w0 := Base.start hO
 refine wp_seq ?_
 refine' region [_] mixed hA (.cons (fun _ _ hE hK hg => ok_assign rfl) .nil) ?zok1 ?zgd1 ?zk1
 case zok1 | zgd1 => kernel_rfl
 intro a1 w1 hA hE HF
 replace q0 := kn (HF 0) rfl q0
 replace q1 := kn (HF 1) rfl q1
 replace q2 := kn (HF 2) rfl q2
 clear HF
 replace h_0 := GR.v_ext _ h_0 hE
 replace h_1 := GR.v_ext _ h_1 hE
 replace hB := Base.step hB hE hO; clear hE
 refine li_nil (nx_then (wp_seq ?_))
 refine' region [_] mixed hA (.cons (fun _ _ hE hK hg => ok_assign rfl) .nil) ?zok2 ?zgd2 ?zk2
 case zok2 | zgd2 => kernel_rfl
 intro a2 w2 hA hE HF
 replace q0 := kn (HF 0) rfl q0
 replace q1 := kn (HF 1) rfl q1
 replace q2 := kn (HF 2) rfl q2
 have q7 := ksv (HF 7) rfl rfl rfl
 clear HF
 replace h_0 := GR.v_ext _ h_0 hE
 replace h_1 := GR.v_ext _ h_1 hE
 replace hB := Base.step hB hE hO; clear hE
 refine li_nil (nx_then ?_)
 refine seq_join (fun a w => ∃ (O20 : Tags) (x17 : List api_Entry) (u18 : Value), a.fit 31 ∧ Base (Fr w0) O w0 O20 w ∧ a.get 7 = u18 ∧ OwnL 1 r_api_Entry 26 (Fr w0) O20 w u18 x17 ∧ (colletref37_Made_j1 x17).run n = some y) ?_ ?_
 ·
  refine wp_seq ?_
  refine' region [_] mixed hA (.cons (fun _ _ hE hK hg => ok_assign rfl) .nil) ?zok3 ?zgd3 ?zk3
  case zok3 | zgd3 => kernel_rfl
  intro a3 w3 hA hE HF
  replace q0 := kn (HF 0) rfl q0
  replace q1 := kn (HF 1) rfl q1
  replace q2 := kn (HF 2) rfl q2
  replace q7 := kn (HF 7) rfl q7
  have q8 := ksv (HF 8) rfl rfl rfl
  clear HF
  replace h_0 := GR.v_ext _ h_0 hE
  replace h_1 := GR.v_ext _ h_1 hE
  replace hB := Base.step hB hE hO; clear hE
  refine li_nil (nx_then (wp_block ?_))
  obtain ⟨e2, he2, hk2⟩ := Comp.run_bind h; clear h
  refine loop_m (fun m a w => ∃ (O5 : Tags) (x1 : List api_Entry) (x4 : Int) (u2 : Value), a.fit 31 ∧ Base (Fr w0) O w0 O5 w ∧ a.get 0 = v_0 ∧ (rSl rStr).v O5 w v_0 x_0 ∧ a.get 1 = v_1 ∧ (rSl (rSl (rInt .i64))).v O5 w v_1 x_1 ∧ a.get 2 = .int .i64 x_2 ∧ a.get 7 = u2 ∧ OwnL 1 r_api_Entry 26 (Fr w0) O5 w u2 x1 ∧ a.get 8 = .int .i64 x4 ∧ Comp.loopN (fun s => colletref37_Made_l2 x_1 x_2 x_0 s.1 s.2) n m (x1, x4) = some e2) (m := n) ?st2 ?_
  case st2 =>
   exact ⟨_, _, _, _, hA, hB, q0, h_0, q1, h_1, q2, q7, (OwnL.nil _ _ _ _ _ _), q8, Comp.run_loop he2⟩
  intro m_ a4 w4 hI
  clear hA hB he2 q0 q1 q2 q7 q8 h_0 h_1
  obtain ⟨O5, x1, x4, u2, hA, hB, q0, h_0, q1, h_1, q2, q7, f3, q8, hl⟩ := hI
  obtain ⟨m2, hlt2, st2, h, hnext2, hdone2⟩ := Comp.loopN_succ hl; clear hl
  replace h : (colletref37_Made_l2 x_1 x_2 x_0 x1 x4).run n = some st2 := h
  unfold colletref37_Made_l2 at h
  refine wp_seq (wp_seq ?_)
  refine' region [_, _, _, _, _, _, _, _, _] mixed hA (.cons (fun _ _ hE hK hg => ok_move (kn (hK 8 rfl) rfl q8)) (.cons (fun _ _ hE hK hg => ok_move (kn (hK 1 rfl) rfl q1)) (.cons (fun _ _ hE hK hg => okl_len (r := (rSl (rInt .i64))) ty22 (ksv (j := 1) (hK 10 rfl) rfl rfl rfl) (rd_of (GR.v_ext _ h_1 hE))) (.cons (fun _ _ hE hK hg => ok_lss (ksv (j := 0) (hK 9 rfl) rfl rfl rfl) (ksv (j := 2) (hK 11 rfl) rfl rfl rfl)) (.cons (fun _ _ hE hK hg => ok_move (ksv (j := 3) (hK 12 rfl) rfl rfl rfl)) (.cons (fun _ _ hE hK hg => ok_move (kn (hK 8 rfl) rfl q8)) (.cons (fun _ _ hE hK hg => ok_move (kn (hK 2 rfl) rfl q2)) (.cons ?z4_7 (.cons ?z4_8 .nil))))))))) ?zok4 ?zgd4 ?zk4
  case z4_7 => intro a' w' hE hK hg; exact ok_lss (ksv (j := 5) (hK 14 rfl) rfl rfl hg) (ksv (j := 6) (hK 15 rfl) rfl rfl hg)
  case z4_8 => intro a' w' hE hK hg; exact ok_pick (ksv (j := 4) (hK 13 rfl) rfl rfl rfl) (fun hb => ksv (j := 7) (hK 16 rfl) rfl rfl (act_g1 rfl rfl hb)) (fun _ => rfl)
  case zok4 | zgd4 => kernel_rfl
  intro a5 w5 hA hE HF
  replace q0 := kn (HF 0) rfl q0
  replace q1 := kn (HF 1) rfl q1
  replace q2 := kn (HF 2) rfl q2
  replace q7 := kn (HF 7) rfl q7
  replace q8 := kn (HF 8) rfl q8
  have q17 := ksv (HF 17) rfl rfl rfl
  clear HF
  replace h_0 := GR.v_ext _ h_0 hE
  replace h_1 := GR.v_ext _ h_1 hE
  replace f3 := f3.ext hE
  replace hB := Base.step hB hE hO; clear hE
  obtain ⟨x6, hx_, h⟩ := Comp.run_bind h; replace hx_ := Comp.run_pure hx_; rw [hx_] at q17; clear hx_
  refine li_nil (nx_then ?_)
  refine wp_cond_b q17 (fun hc => ?_) (fun hc => ?_)
  ·
   replace h := Comp.run_b_t hc h; clear hc
   refine wp_skip (nx_then (wp_seq (wp_block ?_)))
   obtain ⟨x7, hx7, h⟩ := Comp.run_bind h
   obtain ⟨x8, hx8, h⟩ := Comp.run_bind h
   refine' regionT [_, _, _, _, _, SP.ptr (rSl (rInt .i64)) O5 x7, SP.vl (rSl (rInt .i64)) O5 x7, SP.isv (.agg #[.int .i64 x8.Seq, .int .i64 x8.Shop, .int .i64 x8.Kind, .int .i64 x8.Day, .int .i64 x8.N, .string (str x8.Before), .string (str x8.After), .string (str x8.Prev), .string (str x8.Mark)]), SP.vl (rSl r_api_Entry) O5 [x8]] hA (.cons (fun _ _ hE hK hg => ok_move (kn (hK 7 rfl) rfl q7)) (.cons (fun _ _ hE hK hg => ok_move (kn (hK 0 rfl) rfl q0)) (.cons (fun _ _ hE hK hg => ok_move (kn (hK 7 rfl) rfl q7)) (.cons (fun _ _ hE hK hg => ok_move (kn (hK 1 rfl) rfl q1)) (.cons (fun _ _ hE hK hg => ok_move (kn (hK 8 rfl) rfl q8)) (.cons (fun _ _ hE hK hg => okl_idx (r := (rSl (rInt .i64))) (O := O5) ty22 ty58 rfl (ksv (j := 3) (hK 23 rfl) rfl rfl rfl) (rd_of (GR.v_ext _ h_1 hE)) (ksv (j := 4) (hK 24 rfl) rfl rfl rfl) hx7) (.cons (fun _ _ hE hK hg => okl_ld (r := (rSl (rInt .i64))) (fun _ => rfl) ty58 rfl rfl rfl (kspS (φ := SP.ptr (rSl (rInt .i64)) O5 x7) (j := 5) (hK 25 rfl) rfl rfl rfl)) (.cons ?z5_7 (.cons ?z5_8 .nil))))))))) ?zok5 ?zgd5 ?zk5
   case z5_7 => intro a' w' hE hK hg; have c_ := ok_colletref37_Step (okO_zero _) (GR.lend _ (GR.v_ext _ h_0 hE)) (OwnL.lend (OwnL.ext f3 hE)) (GR.lend _ (kspS (φ := SP.vl (rSl (rInt .i64)) O5 x7) (j := 6) (hK 26 rfl) rfl rfl rfl)) hx8; exact ok_call3 fn36 (ksv (j := 1) (hK 21 rfl) rfl rfl rfl) (ksv (j := 2) (hK 22 rfl) rfl rfl rfl) rfl c_
   case z5_8 => intro a' w' hE hK hg; exact okl_buildSliceV (r := r_api_Entry) fit_api_Entry rfl (OkO.ext hB.ok hE) ty29 ty26 (parts_cons (ksv (j := 7) (hK 27 rfl) rfl rfl rfl) parts_nil) ⟨(by first | exact (rC_v (x := x8)).2 rfl | exact ⟨_, rfl, rfl⟩), trivial⟩ rfl (by decide)
   case zok5 | zgd5 => kernel_rfl
   intro a6 w6 hA hE HF
   replace q0 := kn (HF 0) rfl q0
   replace q1 := kn (HF 1) rfl q1
   replace q2 := kn (HF 2) rfl q2
   replace q7 := kn (HF 7) rfl q7
   replace q8 := kn (HF 8) rfl q8
   have q20 := ksv (HF 20) rfl rfl rfl
   have f10 := ksp (HF 28) rfl rfl rfl
   obtain ⟨u9, q28'⟩ : ∃ u, a6.get 28 = u := ⟨_, rfl⟩
   rw [q28'] at f10
   have q28 := q28'; clear q28'
   clear q17
   clear HF
   replace h_0 := GR.v_ext _ h_0 hE
   replace h_1 := GR.v_ext _ h_1 hE
   replace f3 := f3.ext hE
   replace hB := Base.step hB hE hO; clear hE
   obtain ⟨x11, hx11, h⟩ := Comp.run_bind h
   refine l_append (r := r_api_Entry) fit_api_Entry rfl ty29 ty26 rfl (by decide) hO hB (okB_fr hB) q20 f3 q28 (rd_of f10) hx11 (by decide) fun u12 w7 O13 f14 hB' hX => ?_
   clear hB; have hB := hB'; clear hB'
   clear f3
   replace h_0 := GR.kx _ h_0 hX (by decide)
   replace h_1 := GR.kx _ h_1 hX (by decide)
   replace f10 := GR.kx _ f10 hX (by decide)
   clear hX
   refine put_cont hA (by decide) fun a8 hA q_ hfr => ?_
   replace q0 := (hfr 0 rfl).trans q0
   replace q1 := (hfr 1 rfl).trans q1
   replace q2 := (hfr 2 rfl).trans q2
   replace q7 := (hfr 7 rfl).trans q7
   replace q8 := (hfr 8 rfl).trans q8
   replace q20 := (hfr 20 rfl).trans q20
   replace q28 := (hfr 28 rfl).trans q28
   have q29 := q_; clear q_ hfr
   refine l_ok (φ := SP.isv (u12)) hO hB (by exact ok_assign q29) rfl fun u_ w9 hE hB' hv_ => ?_
   replace hv_ := Eq.symm hv_; subst hv_; clear hB; have hB := hB'; clear hB'
   replace h_0 := GR.v_ext _ h_0 hE
   replace h_1 := GR.v_ext _ h_1 hE
   replace f14 := f14.ext hE
   clear hE
   refine put_cont hA (by decide) fun a10 hA q_ hfr => ?_
   replace q0 := (hfr 0 rfl).trans q0
   replace q1 := (hfr 1 rfl).trans q1
   replace q2 := (hfr 2 rfl).trans q2
   replace q8 := (hfr 8 rfl).trans q8
   replace q29 := (hfr 29 rfl).trans q29
   clear q7
   have q7 := q_; clear q_ hfr
   refine li_nil (nx_blk (nx_then ?_))
   refine' region [_, _, _] mixed hA (.cons (fun _ _ hE hK hg => ok_move (kn (hK 8 rfl) rfl q8)) (.cons (fun _ _ hE hK hg => ok_add (ksv (j := 0) (hK 18 rfl) rfl rfl rfl) rfl) (.cons (fun _ _ hE hK hg => ok_assign (ksv (j := 1) (hK 19 rfl) rfl rfl rfl)) .nil))) ?zok6 ?zgd6 ?zk6
   case zok6 | zgd6 => kernel_rfl
   intro a11 w11 hA hE HF
   replace q0 := kn (HF 0) rfl q0
   replace q1 := kn (HF 1) rfl q1
   replace q2 := kn (HF 2) rfl q2
   replace q7 := kn (HF 7) rfl q7
   have q8' := ksv (HF 8) rfl rfl rfl
   replace q8 := q8'; clear q8'
   clear HF
   replace h_0 := GR.v_ext _ h_0 hE
   replace h_1 := GR.v_ext _ h_1 hE
   replace f14 := f14.ext hE
   replace hB := Base.step hB hE hO; clear hE
   refine li_nil (nx_then ?_)
   have h := hnext2 _ (Comp.run_pure h).symm
   refine ⟨m2, hlt2, ?_⟩
   exact ⟨_, _, _, _, hA, hB, q0, h_0, q1, h_1, q2, q7, f14, q8, h⟩
  ·
   replace h := Comp.run_b_f hc h; clear hc
   refine wp_exit (ex_then (ex_then (ex_same ?_)))
   have hd_ := hdone2 _ (Comp.run_pure h).symm; clear h
   subst hd_; have h := hk2; clear hk2; try dsimp only at h
   refine nx_then ?_
   exact ⟨_, _, _, hA, hB, q7, f3, h⟩
 intro a12 w12 hI
 clear hA hB h q0 q1 q2 q7 h_0 h_1
 obtain ⟨O20, x17, u18, hA, hB, q7, f19, h⟩ := hI
 unfold colletref37_Made_j1 at h
 refine wp_seq ?_
 refine' region [_, _] mixed hA (.cons (fun _ _ hE hK hg => ok_move (kn (hK 7 rfl) rfl q7)) (.cons (fun _ _ hE hK hg => ok_assign (ksv (j := 0) (hK 30 rfl) rfl rfl rfl)) .nil)) ?zok7 ?zgd7 ?zk7
 case zok7 | zgd7 => kernel_rfl
 intro a13 w13 hA hE HF
 have q6 := ksv (HF 6) rfl rfl rfl
 clear q7
 clear HF
 replace f19 := f19.ext hE
 replace hB := Base.step hB hE hO; clear hE
 refine li_nil (nx_then (wp_ret ?_))
 have h := Comp.run_pure h; subst h
 exact retPure Try.results54 hA q6 hB.ext (OwnL.res f19 (by decide) hB.zero)
theorem ok_colletlaw37_Case_made {O : Tags} {w0 : World} (hO : OkO O w0) {v_0 : Value} {x_0 : colletlaw37_Case} (h_0 : r_colletlaw37_Case.v O w0 v_0 x_0) {n : Nat} {y : ((List Bytes) × (List api_Entry))} (h : (colletlaw37_Case_made x_0).run n = some y) : Pure Try.prog 15 #[v_0] w0 (SP.tup2 (SP.ownr rStr 9 (w0.heap.size) O y.1) (SP.vl (rSl r_api_Entry) O y.2)).holds := by
 unfold colletlaw37_Case_made at h
 refine pure_of_wp Try.func15 rfl 16 Try.ntmps15 (by simp) fun a0 hA hs0 => ?_
 have q0 : a0.get 0 = v_0 := hs0 0 _ rfl
 clear hs0
 have hB : Base (Fr w0) O w0 O w0 := Base.start hO
 refine wp_seq ?_
 refine' region [SP.vl (rBox r_colletlaw37_Case) O x_0, _, _] mixed hA (.cons (fun _ _ hE hK hg => okl_boxV (r := r_colletlaw37_Case) fit_colletlaw37_Case (OkO.ext hB.ok hE) (kn (hK 0 rfl) rfl q0) (GR.v_ext _ h_0 hE)) (.cons (fun _ _ hE hK hg => ok_assign rfl) (.cons (fun _ _ hE hK hg => ok_assign rfl) .nil))) ?zok1 ?zgd1 ?zk1
 case zok1 | zgd1 => kernel_rfl
 intro a1 w1 hA hE HF
 have f2 := ksp (HF 1) rfl rfl rfl
 obtain ⟨u1, q1'⟩ : ∃ u, a1.get 1 = u := ⟨_, rfl⟩
 rw [q1'] at f2
 have q1 := q1'; clear q1'
 clear q0
 clear HF
 replace h_0 := GR.v_ext _ h_0 hE
 replace hB := Base.step hB hE hO; clear hE
 refine li_nil (nx_then (wp_seq ?_))
 refine' regionT [SP.ptr (rInt .u8) O x_0.Shops, SP.isv (.int .u8 x_0.Shops), _, _, _] hA (.cons (fun _ _ hE hK hg => okl_fldB (S := r_colletlaw37_Case) fit_colletlaw37_Case rfl (fun _ => rfl) sb_colletlaw37_Case_1 fl24_1 (kn (hK 1 rfl) rfl q1) (GR.v_ext _ f2 hE)) (.cons (fun _ _ hE hK hg => okl_ldr (rInt .u8) (fun _ => rfl) ty5 rfl rfl rfl (kspS (φ := SP.ptr (rInt .u8) O x_0.Shops) (j := 0) (hK 5 rfl) rfl rfl rfl) (fun _ _ _ h => rInt_v.1 h)) (.cons (fun _ _ hE hK hg => ok_convI ty5 ty3 (ksv (j := 1) (hK 6 rfl) rfl rfl rfl)) (.cons (fun _ _ hE hK hg => ok_rem (ksv (j := 2) (hK 7 rfl) rfl rfl rfl) rfl (by decide)) (.cons (fun _ _ hE hK hg => ok_add rfl (ksv (j := 3) (hK 8 rfl) rfl rfl rfl)) .nil))))) ?zok2 ?zgd2 ?zk2
 case zok2 | zgd2 => kernel_rfl
 intro a2 w2 hA hE HF
 replace q1 := kn (HF 1) rfl q1
 have q9 := ksv (HF 9) rfl rfl rfl
 clear HF
 replace f2 := GR.v_ext _ f2 hE
 replace hB := Base.step hB hE hO; clear hE
 obtain ⟨x3, hx3, h⟩ := Comp.run_bind h
 refine l_ok (φ := SP.ownr rStr 9 w2.heap.size O x3) hO hB (by have c_ := ok_colletref37_Keys hB.ok  hx3; exact ok_weak (ok_call1 fn23 q9 c_) (fun _ _ _ h => h)) rfl fun u4 w3 hE hB' f5 => ?_
 clear hB'; obtain ⟨O6, hB', hX, f7⟩ := ownNew hO hB hE f5 rfl 1 (by decide)
 clear hB f5; have hB := hB'; clear hB'
 replace f2 := GR.kx _ f2 hX (by decide)
 clear hX hE
 refine put_cont hA (by decide) fun a4 hA q_ hfr => ?_
 replace q1 := (hfr 1 rfl).trans q1
 replace q9 := (hfr 9 rfl).trans q9
 have q10 := q_; clear q_ hfr
 refine l_ok (φ := SP.isv (u4)) hO hB (by exact ok_assign q10) rfl fun u_ w5 hE hB' hv_ => ?_
 replace hv_ := Eq.symm hv_; subst hv_; clear hB; have hB := hB'; clear hB'
 replace f2 := GR.v_ext _ f2 hE
 replace f7 := f7.ext hE
 clear hE
 refine put_cont hA (by decide) fun a6 hA q_ hfr => ?_
 replace q1 := (hfr 1 rfl).trans q1
 replace q10 := (hfr 10 rfl).trans q10
 have q4 := q_; clear q_ hfr
 refine li_nil (nx_then (wp_seq ?_))
 obtain ⟨x8, hx8, h⟩ := Comp.run_bind h
 obtain ⟨x9, hx9, h⟩ := Comp.run_bind h
 refine' region [_, _, SP.vl r_colletlaw37_Case O6 x_0, SP.vl (rSl (rSl (rInt .i64))) O6 x8, SP.vl (rSl r_api_Entry) O6 x9, _, SP.vl (rSl r_api_Entry) O6 x9] mixed hA (.cons (fun _ _ hE hK hg => ok_move (kn (hK 4 rfl) rfl q4)) (.cons (fun _ _ hE hK hg => ok_move (kn (hK 4 rfl) rfl q4)) (.cons (fun _ _ hE hK hg => okl_ld (r := r_colletlaw37_Case) fit_colletlaw37_Case ty24 rfl rfl (kn (hK 1 rfl) rfl q1) (ptr_of_box fit_colletlaw37_Case (GR.v_ext _ f2 hE))) (.cons ?z3_3 (.cons ?z3_4 (.cons (fun _ _ hE hK hg => ok_assign (ksv (j := 0) (hK 11 rfl) rfl rfl rfl)) (.cons (fun _ _ hE hK hg => ok_assign_pr (φ := SP.vl (rSl r_api_Entry) O6 x9) (kspS (j := 4) (hK 15 rfl) rfl rfl rfl)) .nil))))))) ?zok3 ?zgd3 ?zk3
 case z3_3 => intro a' w' hE hK hg; have c_ := ok_colletlaw37_Case_lists (OkO.ext hB.ok hE) (kspS (φ := SP.vl r_colletlaw37_Case O6 x_0) (j := 2) (hK 13 rfl) rfl rfl rfl) hx8; exact ok_weak (ok_call1 fn55 rfl c_) (fun _ _ _ h => (OwnR.val h (fun g hg => (OkO.ext hB.ok hE) g (OwnR.ge h g hg).1)))
 case z3_4 => intro a' w' hE hK hg; have c_ := ok_colletref37_Made (okO_zero _) (OwnL.lend (OwnL.ext f7 hE)) (GR.lend _ (kspS (φ := SP.vl (rSl (rSl (rInt .i64))) O6 x8) (j := 3) (hK 14 rfl) rfl rfl rfl)) hx9; exact ok_weak (ok_call3 fn54 (ksv (j := 1) (hK 12 rfl) rfl rfl rfl) rfl rfl c_) (fun _ _ _ h => (OwnR.val (OwnR.indep O6 h) (fun g hg => (OkO.ext hB.ok hE) g (OwnR.ge (OwnR.indep O6 h) g hg).1)))
 case zok3 | zgd3 => kernel_rfl
 intro a7 w7 hA hE HF
 have q2 := ksv (HF 2) rfl rfl rfl
 have f11 := ksp (HF 3) rfl rfl rfl
 obtain ⟨u10, q3'⟩ : ∃ u, a7.get 3 = u := ⟨_, rfl⟩
 rw [q3'] at f11
 have q3 := q3'; clear q3'
 clear q1
 clear q4
 clear HF
 replace f2 := GR.v_ext _ f2 hE
 replace f7 := f7.ext hE
 replace hB := Base.step hB hE hO; clear hE
 refine li_nil (nx_then (wp_ret ?_))
 have h := Comp.run_pure h; subst h
 exact retPure2 Try.results15 hA q2 q3 hB.ext ⟨_, _, rfl, (OwnL.res f7 (by decide) hB.zero), (hB.res (rSl r_api_Entry) f11)⟩
end Go.Proofs.Ytkbipbfncbopnaa
end
section
namespace Go.Proofs.Ytkbipbfncbopnaa
open Go Go.RowKit Go.Eng Go.Lift Go.F
set_option linter.unusedVariables false
set_option linter.unusedSimpArgs false
set_option maxRecDepth 100000
theorem ok_colletref37_Odd {O : Tags} {w0 : World} (hO : OkO O w0) {x_0 : api_Entry} {x_1 : Vector Int 2} {x_2 : Bytes} {n : Nat} {y : api_Entry} (h : (colletref37_Odd x_0 x_1 x_2).run n = some y) : Pure Try.prog 24 #[.agg #[.int .i64 x_0.Seq, .int .i64 x_0.Shop, .int .i64 x_0.Kind, .int .i64 x_0.Day, .int .i64 x_0.N, .string (str x_0.Before), .string (str x_0.After), .string (str x_0.Prev), .string (str x_0.Mark)], .agg (cellsA (fun x => [.int .i64 x]) x_1).toArray, .string (str x_2)] w0 (SP.isv (.agg #[.int .i64 y.Seq, .int .i64 y.Shop, .int .i64 y.Kind, .int .i64 y.Day, .int .i64 y.N, .string (str y.Before), .string (str y.After), .string (str y.Prev), .string (str y.Mark)])).holds := by
 unfold colletref37_Odd at h
 refine pure_of_wp Try.func24 rfl 59 Try.ntmps24 (by simp) fun a0 hA hs0 => ?_
 have q0 : a0.get 0 = .agg #[.int .i64 x_0.Seq, .int .i64 x_0.Shop, .int .i64 x_0.Kind, .int .i64 x_0.Day, .int .i64 x_0.N, .string (str x_0.Before), .string (str x_0.After), .string (str x_0.Prev), .string (str x_0.Mark)] := hs0 0 _ rfl
 have q1 : a0.get 1 = .agg (cellsA (fun x => [.int .i64 x]) x_1).toArray := hs0 1 _ rfl
 have q2 : a0.get 2 = .string (str x_2) := hs0 2 _ rfl
 clear hs0
 have hB : Base (Fr w0) O w0 O w0 := Base.start hO
 refine wp_seq ?_
 refine' regionT [] hA .nil ?zok1 ?zgd1 ?zk1
 case zok1 | zgd1 => kernel_rfl
 intro a1 w1 hA hE HF
 replace q0 := kn (HF 0) rfl q0
 replace q1 := kn (HF 1) rfl q1
 replace q2 := kn (HF 2) rfl q2
 clear HF
 replace hB := Base.step hB hE hO; clear hE
 refine l_ok (φ := SP.box w1.heap.size #[.int .i64 x_0.Seq, .int .i64 x_0.Shop, .int .i64 x_0.Kind, .int .i64 x_0.Day, .int .i64 x_0.N, .string (str x_0.Before), .string (str x_0.After), .string (str x_0.Prev), .string (str x_0.Mark)] 26) hO hB (by exact ok_box (v := .agg #[.int .i64 x_0.Seq, .int .i64 x_0.Shop, .int .i64 x_0.Kind, .int .i64 x_0.Day, .int .i64 x_0.N, .string (str x_0.Before), .string (str x_0.After), .string (str x_0.Prev), .string (str x_0.Mark)]) (Nat.le_refl _) q0) rfl fun u1 w2 hE hB' f2 => ?_
 clear hB'; obtain ⟨O3, b5, hB', hX, e_, f4⟩ := boxNew hO hB hE f2 1 (by decide)
 subst e_; clear hB f2; have hB := hB'; clear hB'
 clear hX hE
 refine put_cont hA (by decide) fun a3 hA q_ hfr => ?_
 replace q0 := (hfr 0 rfl).trans q0
 replace q1 := (hfr 1 rfl).trans q1
 replace q2 := (hfr 2 rfl).trans q2
 have q3 := q_; clear q_ hfr
 refine l_ok (φ := SP.vl (rBox (rVec 2 1 (fun x => [.int .i64 x]) (fun _ => rfl) (fun _ => by simp [Value.oneCell']))) O3 x_1) hO hB (by exact okl_boxV (r := (rVec 2 1 (fun x => [.int .i64 x]) (fun _ => rfl) (fun _ => by simp [Value.oneCell']))) (by intro h; cases h) hB.ok q1 (by first | exact (rC_v (x := x_1)).2 rfl | exact ⟨_, rfl, rfl⟩)) rfl fun u6 w4 hE hB' f7 => ?_
 clear hB; have hB := hB'; clear hB'
 replace f4 := f4.ext hE
 clear hE
 refine put_cont hA (by decide) fun a5 hA q_ hfr => ?_
 replace q1 := (hfr 1 rfl).trans q1
 replace q2 := (hfr 2 rfl).trans q2
 replace q3 := (hfr 3 rfl).trans q3
 have q4 := q_; clear q_ hfr
 refine l_ok (φ := SP.box w4.heap.size #[.int .i64 0, .int .i64 0, .int .i64 0, .int .i64 0, .int .i64 0, .string (str []), .string (str []), .string (str []), .string (str [])] 26) hO hB (by exact ok_alloc (Nat.le_refl _) ty26) rfl fun u8 w6 hE hB' f9 => ?_
 clear hB'; obtain ⟨O10, b12, hB', hX, e_, f11⟩ := boxNew hO hB hE f9 2 (by decide)
 subst e_; clear hB f9; have hB := hB'; clear hB'
 replace f7 := GR.kx _ f7 hX (by decide)
 replace f4 := f4.kx hX (by decide)
 clear hX hE
 refine put_cont hA (by decide) fun a7 hA q_ hfr => ?_
 replace q2 := (hfr 2 rfl).trans q2
 replace q3 := (hfr 3 rfl).trans q3
 replace q4 := (hfr 4 rfl).trans q4
 have q6 := q_; clear q_ hfr
 refine li_nil (nx_then (wp_seq ?_))
 obtain ⟨x13, hx13, h⟩ := Comp.run_bind h
 obtain ⟨x14, hx14, h⟩ := Comp.run_bind h
 obtain ⟨x15, hx15, h⟩ := Comp.run_bind h
 obtain ⟨x16, hx16, h⟩ := Comp.run_bind h
 refine' region [SP.ptrz (rInt .i64) O10 x13 (of_decide_eq_true rfl) (fun _ => rfl), SP.isv (.int .i64 x13), SP.isv (.pointer (some ⟨b5, 3, none⟩)), SP.isv (.int .i64 x_0.Day), _, SP.vl (rSl (rInt .i64)) O10 [x13, 0, 1, 2, 3, 4, 5, (-1), 100000, 100001, (IntKind.wrap .i64 (x_0.Day - 1))], SP.ptrz (rInt .i64) O10 x14 (of_decide_eq_true rfl) (fun _ => rfl), SP.isv (.int .i64 x14), SP.isv (.int .i64 x15), SP.ptr (rInt .i64) O10 x16, SP.isv (.int .i64 x16), _] mixed hA (.cons ?z2_0 (.cons (fun _ _ hE hK hg => okl_ldr (rInt .i64) (fun _ => rfl) ty3 rfl rfl rfl (PtrZ.ptr (kspS (φ := SP.ptrz (rInt .i64) O10 x13 (of_decide_eq_true rfl) (fun _ => rfl)) (j := 0) (hK 8 rfl) rfl rfl rfl)) (fun _ _ _ h => rInt_v.1 h)) (.cons (fun _ _ hE hK hg => ok_fieldAddr fl26_3 (kn (hK 3 rfl) rfl q3)) (.cons (fun _ _ hE hK hg => ok_loadOwn ty3 rfl (ksv (j := 2) (hK 10 rfl) rfl rfl rfl) (OwnB.ext f4 hE).own rfl) (.cons (fun _ _ hE hK hg => ok_sub (ksv (j := 3) (hK 11 rfl) rfl rfl rfl) rfl) (.cons (fun _ _ hE hK hg => okl_buildSliceV (r := (rInt .i64)) (fun _ => rfl) rfl (OkO.ext hB.ok hE) ty58 ty3 (parts_cons (ksv (j := 1) (hK 9 rfl) rfl rfl rfl) (parts_cons rfl (parts_cons rfl (parts_cons rfl (parts_cons rfl (parts_cons rfl (parts_cons rfl (parts_cons rfl (parts_cons rfl (parts_cons rfl (parts_cons (ksv (j := 4) (hK 12 rfl) rfl rfl rfl) parts_nil))))))))))) ⟨(by exact rInt_v.2 rfl), ⟨(by exact rInt_v.2 rfl), ⟨(by exact rInt_v.2 rfl), ⟨(by exact rInt_v.2 rfl), ⟨(by exact rInt_v.2 rfl), ⟨(by exact rInt_v.2 rfl), ⟨(by exact rInt_v.2 rfl), ⟨(by exact rInt_v.2 rfl), ⟨(by exact rInt_v.2 rfl), ⟨(by exact rInt_v.2 rfl), ⟨(by exact rInt_v.2 rfl), trivial⟩⟩⟩⟩⟩⟩⟩⟩⟩⟩⟩ rfl (by decide)) (.cons ?z2_6 (.cons (fun _ _ hE hK hg => okl_ldr (rInt .i64) (fun _ => rfl) ty3 rfl rfl rfl (PtrZ.ptr (kspS (φ := SP.ptrz (rInt .i64) O10 x14 (of_decide_eq_true rfl) (fun _ => rfl)) (j := 6) (hK 14 rfl) rfl rfl rfl)) (fun _ _ _ h => rInt_v.1 h)) (.cons ?z2_8 (.cons (fun _ _ hE hK hg => okl_idx (r := (rInt .i64)) (O := O10) ty58 ty3 rfl rfl (rd_of (kspS (φ := SP.vl (rSl (rInt .i64)) O10 [x13, 0, 1, 2, 3, 4, 5, (-1), 100000, 100001, (IntKind.wrap .i64 (x_0.Day - 1))]) (j := 5) (hK 13 rfl) rfl rfl rfl)) (ksv (j := 8) (hK 16 rfl) rfl rfl rfl) hx16) (.cons (fun _ _ hE hK hg => okl_ldr (rInt .i64) (fun _ => rfl) ty3 rfl rfl rfl (kspS (φ := SP.ptr (rInt .i64) O10 x16) (j := 9) (hK 17 rfl) rfl rfl rfl) (fun _ _ _ h => rInt_v.1 h)) (.cons (fun _ _ hE hK hg => ok_assign (ksv (j := 10) (hK 18 rfl) rfl rfl rfl)) .nil)))))))))))) ?zok2 ?zgd2 ?zk2
 case z2_0 => intro a' w' hE hK hg; exact okl_idxArrZ (r := (rInt .i64)) (f := (fun x => [.int .i64 x])) (hl := (fun _ => rfl)) (ho := (fun _ => by simp [Value.oneCell'])) (by decide) (fun _ => rfl) (fun _ _ _ => rfl) ty38 ty3 (kn (hK 4 rfl) rfl q4) (ptrz_of_box (by intro h; cases h) (GR.v_ext _ f7 hE)) rfl hx13
 case z2_6 => intro a' w' hE hK hg; exact okl_idxArrZ (r := (rInt .i64)) (f := (fun x => [.int .i64 x])) (hl := (fun _ => rfl)) (ho := (fun _ => by simp [Value.oneCell'])) (by decide) (fun _ => rfl) (fun _ _ _ => rfl) ty38 ty3 (kn (hK 4 rfl) rfl q4) (ptrz_of_box (by intro h; cases h) (GR.v_ext _ f7 hE)) rfl hx14
 case z2_8 => intro a' w' hE hK hg; have c_ := ok_colletref01_Mod (OkO.ext hB.ok hE)  hx15; exact ok_call2 fn37 (ksv (j := 7) (hK 15 rfl) rfl rfl rfl) rfl c_
 case zok2 | zgd2 => kernel_rfl
 intro a8 w8 hA hE HF
 replace q2 := kn (HF 2) rfl q2
 replace q3 := kn (HF 3) rfl q3
 replace q4 := kn (HF 4) rfl q4
 replace q6 := kn (HF 6) rfl q6
 have q7 := ksv (HF 7) rfl rfl rfl
 clear HF
 replace f7 := GR.v_ext _ f7 hE
 replace f4 := f4.ext hE
 replace f11 := f11.ext hE
 replace hB := Base.step hB hE hO; clear hE
 refine li_nil (nx_then ?_)
 refine seq_join (fun a w => ∃ (O37 : Tags) (x20 : Int) (x21 : Int) (x22 : Int) (x23 : Int) (x24 : Int) (x25 : Bytes) (x26 : Bytes) (x27 : Bytes) (x28 : Bytes), a.fit 59 ∧ Base (Fr w0) O w0 O37 w ∧ a.get 3 = .pointer (some ⟨b5, 0, none⟩) ∧ a.get 6 = .pointer (some ⟨b12, 0, none⟩) ∧ OwnB 2 (Fr w0) O37 w b12 #[.int .i64 0, .int .i64 0, .int .i64 0, .int .i64 0, .int .i64 0, .string (str []), .string (str []), .string (str []), .string (str [])] 26 ∧ OwnB 1 (Fr w0) O37 w b5 #[.int .i64 x20, .int .i64 x21, .int .i64 x22, .int .i64 x23, .int .i64 x24, .string (str x25), .string (str x26), .string (str x27), .string (str x28)] 26 ∧ (colletref37_Odd_j1 x20 x21 x22 x23 x24 x25 x26 x27 x28).run n = some y) ?_ ?_
 ·
  refine wp_seq ?_
  obtain ⟨x17, hx17, h⟩ := Comp.run_bind h
  obtain ⟨x18, hx18, h⟩ := Comp.run_bind h
  refine' region [SP.ptrz (rInt .i64) O10 x17 (of_decide_eq_true rfl) (fun _ => rfl), SP.isv (.int .i64 x17), SP.isv (.int .i64 x18)] mixed hA (.cons ?z3_0 (.cons (fun _ _ hE hK hg => okl_ldr (rInt .i64) (fun _ => rfl) ty3 rfl rfl rfl (PtrZ.ptr (kspS (φ := SP.ptrz (rInt .i64) O10 x17 (of_decide_eq_true rfl) (fun _ => rfl)) (j := 0) (hK 19 rfl) rfl rfl rfl)) (fun _ _ _ h => rInt_v.1 h)) (.cons ?z3_2 .nil))) ?zok3 ?zgd3 ?zk3
  case z3_0 => intro a' w' hE hK hg; exact okl_idxArrZ (r := (rInt .i64)) (f := (fun x => [.int .i64 x])) (hl := (fun _ => rfl)) (ho := (fun _ => by simp [Value.oneCell'])) (by decide) (fun _ => rfl) (fun _ _ _ => rfl) ty38 ty3 (kn (hK 4 rfl) rfl q4) (ptrz_of_box (by intro h; cases h) (GR.v_ext _ f7 hE)) rfl hx17
  case z3_2 => intro a' w' hE hK hg; have c_ := ok_colletref01_Mod (OkO.ext hB.ok hE)  hx18; exact ok_call2 fn37 (ksv (j := 1) (hK 20 rfl) rfl rfl rfl) rfl c_
  case zok3 | zgd3 => kernel_rfl
  intro a9 w9 hA hE HF
  replace q2 := kn (HF 2) rfl q2
  replace q3 := kn (HF 3) rfl q3
  replace q6 := kn (HF 6) rfl q6
  replace q7 := kn (HF 7) rfl q7
  have q21 := ksv (HF 21) rfl rfl rfl
  clear q4
  clear HF
  replace f7 := GR.v_ext _ f7 hE
  replace f4 := f4.ext hE
  replace f11 := f11.ext hE
  replace hB := Base.step hB hE hO; clear hE
  refine li_nil (nx_then (wp_block (wp_seq ?_)))
  refine' region [_, _] mixed hA (.cons (fun _ _ hE hK hg => ok_eqlI (kn (hK 21 rfl) rfl q21) rfl) (.cons (fun _ _ hE hK hg => ok_assign (ksv (j := 0) (hK 23 rfl) rfl rfl rfl)) .nil)) ?zok4 ?zgd4 ?zk4
  case zok4 | zgd4 => kernel_rfl
  intro a10 w10 hA hE HF
  replace q2 := kn (HF 2) rfl q2
  replace q3 := kn (HF 3) rfl q3
  replace q6 := kn (HF 6) rfl q6
  replace q7 := kn (HF 7) rfl q7
  replace q21 := kn (HF 21) rfl q21
  have q22 := ksv (HF 22) rfl rfl rfl
  clear HF
  replace f4 := f4.ext hE
  replace f11 := f11.ext hE
  replace hB := Base.step hB hE hO; clear hE
  refine li_nil (nx_then ?_)
  refine wp_cond_b q22 (fun hc => ?_) (fun hc => ?_)
  ·
   replace h := Comp.run_b_t hc h; clear hc
   refine' regionT [_, SP.isv (.pointer (some ⟨b5, 0, none⟩))] hA (.cons (fun _ _ hE hK hg => ok_move (kn (hK 7 rfl) rfl q7)) (.cons (fun _ _ hE hK hg => ok_fieldAddr fl26_0 (kn (hK 3 rfl) rfl q3)) .nil)) ?zok5 ?zgd5 ?zk5
   case zok5 | zgd5 => kernel_rfl
   intro a11 w11 hA hE HF
   replace q3 := kn (HF 3) rfl q3
   replace q6 := kn (HF 6) rfl q6
   have q24 := ksv (HF 24) rfl rfl rfl
   have q25 := ksv (HF 25) rfl rfl rfl
   clear q2
   clear q7
   clear q21
   clear q22
   clear HF
   replace f4 := f4.ext hE
   replace f11 := f11.ext hE
   replace hB := Base.step hB hE hO; clear hE
   refine l_store1 (cs' := #[.int .i64 x16, .int .i64 x_0.Shop, .int .i64 x_0.Kind, .int .i64 x_0.Day, .int .i64 x_0.N, .string (str x_0.Before), .string (str x_0.After), .string (str x_0.Prev), .string (str x_0.Mark)]) hO hB (okB_fr hB) ty3 q25 q24 rfl rfl f4 (by simp) rfl fun w12 f19 hB' hX => ?_
   clear hB f4; have hB := hB'; clear hB'
   replace f11 := f11.kx hX (by decide)
   clear hX
   refine li_nil (nx_blk (nx_then ?_))
   exact ⟨_, _, _, _, _, _, _, _, _, _, hA, hB, q3, q6, f11, f19, h⟩
  ·
   replace h := Comp.run_b_f hc h; clear hc
   refine wp_seq ?_
   refine' region [_, _] mixed hA (.cons (fun _ _ hE hK hg => ok_eqlI (kn (hK 21 rfl) rfl q21) rfl) (.cons (fun _ _ hE hK hg => ok_assign (ksv (j := 0) (hK 27 rfl) rfl rfl rfl)) .nil)) ?zok6 ?zgd6 ?zk6
   case zok6 | zgd6 => kernel_rfl
   intro a13 w13 hA hE HF
   replace q2 := kn (HF 2) rfl q2
   replace q3 := kn (HF 3) rfl q3
   replace q6 := kn (HF 6) rfl q6
   replace q7 := kn (HF 7) rfl q7
   replace q21 := kn (HF 21) rfl q21
   have q26 := ksv (HF 26) rfl rfl rfl
   clear q22
   clear HF
   replace f4 := f4.ext hE
   replace f11 := f11.ext hE
   replace hB := Base.step hB hE hO; clear hE
   refine li_nil (nx_then ?_)
   refine wp_cond_b q26 (fun hc => ?_) (fun hc => ?_)
   ·
    replace h := Comp.run_b_t hc h; clear hc
    refine' regionT [_, SP.isv (.pointer (some ⟨b5, 1, none⟩))] hA (.cons (fun _ _ hE hK hg => ok_move (kn (hK 7 rfl) rfl q7)) (.cons (fun _ _ hE hK hg => ok_fieldAddr fl26_1 (kn (hK 3 rfl) rfl q3)) .nil)) ?zok7 ?zgd7 ?zk7
    case zok7 | zgd7 => kernel_rfl
    intro a14 w14 hA hE HF
    replace q3 := kn (HF 3) rfl q3
    replace q6 := kn (HF 6) rfl q6
    have q28 := ksv (HF 28) rfl rfl rfl
    have q29 := ksv (HF 29) rfl rfl rfl
    clear q2
    clear q7
    clear q21
    clear q26
    clear HF
    replace f4 := f4.ext hE
    replace f11 := f11.ext hE
    replace hB := Base.step hB hE hO; clear hE
    refine l_store1 (cs' := #[.int .i64 x_0.Seq, .int .i64 x16, .int .i64 x_0.Kind, .int .i64 x_0.Day, .int .i64 x_0.N, .string (str x_0.Before), .string (str x_0.After), .string (str x_0.Prev), .string (str x_0.Mark)]) hO hB (okB_fr hB) ty3 q29 q28 rfl rfl f4 (by simp) rfl fun w15 f29 hB' hX => ?_
    clear hB f4; have hB := hB'; clear hB'
    replace f11 := f11.kx hX (by decide)
    clear hX
    refine li_nil (nx_blk (nx_then ?_))
    exact ⟨_, _, _, _, _, _, _, _, _, _, hA, hB, q3, q6, f11, f29, h⟩
   ·
    replace h := Comp.run_b_f hc h; clear hc
    refine wp_seq ?_
    refine' region [_, _] mixed hA (.cons (fun _ _ hE hK hg => ok_eqlI (kn (hK 21 rfl) rfl q21) rfl) (.cons (fun _ _ hE hK hg => ok_assign (ksv (j := 0) (hK 31 rfl) rfl rfl rfl)) .nil)) ?zok8 ?zgd8 ?zk8
    case zok8 | zgd8 => kernel_rfl
    intro a16 w16 hA hE HF
    replace q2 := kn (HF 2) rfl q2
    replace q3 := kn (HF 3) rfl q3
    replace q6 := kn (HF 6) rfl q6
    replace q7 := kn (HF 7) rfl q7
    replace q21 := kn (HF 21) rfl q21
    have q30 := ksv (HF 30) rfl rfl rfl
    clear q26
    clear HF
    replace f4 := f4.ext hE
    replace f11 := f11.ext hE
    replace hB := Base.step hB hE hO; clear hE
    refine li_nil (nx_then ?_)
    refine wp_cond_b q30 (fun hc => ?_) (fun hc => ?_)
    ·
     replace h := Comp.run_b_t hc h; clear hc
     refine' regionT [_, SP.isv (.pointer (some ⟨b5, 2, none⟩))] hA (.cons (fun _ _ hE hK hg => ok_move (kn (hK 7 rfl) rfl q7)) (.cons (fun _ _ hE hK hg => ok_fieldAddr fl26_2 (kn (hK 3 rfl) rfl q3)) .nil)) ?zok9 ?zgd9 ?zk9
     case zok9 | zgd9 => kernel_rfl
     intro a17 w17 hA hE HF
     replace q3 := kn (HF 3) rfl q3
     replace q6 := kn (HF 6) rfl q6
     have q32 := ksv (HF 32) rfl rfl rfl
     have q33 := ksv (HF 33) rfl rfl rfl
     clear q2
     clear q7
     clear q21
     clear q30
     clear HF
     replace f4 := f4.ext hE
     replace f11 := f11.ext hE
     replace hB := Base.step hB hE hO; clear hE
     refine l_store1 (cs' := #[.int .i64 x_0.Seq, .int .i64 x_0.Shop, .int .i64 x16, .int .i64 x_0.Day, .int .i64 x_0.N, .string (str x_0.Before), .string (str x_0.After), .string (str x_0.Prev), .string (str x_0.Mark)]) hO hB (okB_fr hB) ty3 q33 q32 rfl rfl f4 (by simp) rfl fun w18 f30 hB' hX => ?_
     clear hB f4; have hB := hB'; clear hB'
     replace f11 := f11.kx hX (by decide)
     clear hX
     refine li_nil (nx_blk (nx_then ?_))
     exact ⟨_, _, _, _, _, _, _, _, _, _, hA, hB, q3, q6, f11, f30, h⟩
    ·
     replace h := Comp.run_b_f hc h; clear hc
     refine wp_seq ?_
     refine' region [_, _] mixed hA (.cons (fun _ _ hE hK hg => ok_eqlI (kn (hK 21 rfl) rfl q21) rfl) (.cons (fun _ _ hE hK hg => ok_assign (ksv (j := 0) (hK 35 rfl) rfl rfl rfl)) .nil)) ?zok10 ?zgd10 ?zk10
     case zok10 | zgd10 => kernel_rfl
     intro a19 w19 hA hE HF
     replace q2 := kn (HF 2) rfl q2
     replace q3 := kn (HF 3) rfl q3
     replace q6 := kn (HF 6) rfl q6
     replace q7 := kn (HF 7) rfl q7
     replace q21 := kn (HF 21) rfl q21
     have q34 := ksv (HF 34) rfl rfl rfl
     clear q30
     clear HF
     replace f4 := f4.ext hE
     replace f11 := f11.ext hE
     replace hB := Base.step hB hE hO; clear hE
     refine li_nil (nx_then ?_)
     refine wp_cond_b q34 (fun hc => ?_) (fun hc => ?_)
     ·
      replace h := Comp.run_b_t hc h; clear hc
      refine' regionT [_, SP.isv (.pointer (some ⟨b5, 3, none⟩))] hA (.cons (fun _ _ hE hK hg => ok_move (kn (hK 7 rfl) rfl q7)) (.cons (fun _ _ hE hK hg => ok_fieldAddr fl26_3 (kn (hK 3 rfl) rfl q3)) .nil)) ?zok11 ?zgd11 ?zk11
      case zok11 | zgd11 => kernel_rfl
      intro a20 w20 hA hE HF
      replace q3 := kn (HF 3) rfl q3
      replace q6 := kn (HF 6) rfl q6
      have q36 := ksv (HF 36) rfl rfl rfl
      have q37 := ksv (HF 37) rfl rfl rfl
      clear q2
      clear q7
      clear q21
      clear q34
      clear HF
      replace f4 := f4.ext hE
      replace f11 := f11.ext hE
      replace hB := Base.step hB hE hO; clear hE
      refine l_store1 (cs' := #[.int .i64 x_0.Seq, .int .i64 x_0.Shop, .int .i64 x_0.Kind, .int .i64 x16, .int .i64 x_0.N, .string (str x_0.Before), .string (str x_0.After), .string (str x_0.Prev), .string (str x_0.Mark)]) hO hB (okB_fr hB) ty3 q37 q36 rfl rfl f4 (by simp) rfl fun w21 f31 hB' hX => ?_
      clear hB f4; have hB := hB'; clear hB'
      replace f11 := f11.kx hX (by decide)
      clear hX
      refine li_nil (nx_blk (nx_then ?_))
      exact ⟨_, _, _, _, _, _, _, _, _, _, hA, hB, q3, q6, f11, f31, h⟩
     ·
      replace h := Comp.run_b_f hc h; clear hc
      refine wp_seq ?_
      refine' region [_, _] mixed hA (.cons (fun _ _ hE hK hg => ok_eqlI (kn (hK 21 rfl) rfl q21) rfl) (.cons (fun _ _ hE hK hg => ok_assign (ksv (j := 0) (hK 39 rfl) rfl rfl rfl)) .nil)) ?zok12 ?zgd12 ?zk12
      case zok12 | zgd12 => kernel_rfl
      intro a22 w22 hA hE HF
      replace q2 := kn (HF 2) rfl q2
      replace q3 := kn (HF 3) rfl q3
      replace q6 := kn (HF 6) rfl q6
      replace q7 := kn (HF 7) rfl q7
      replace q21 := kn (HF 21) rfl q21
      have q38 := ksv (HF 38) rfl rfl rfl
      clear q34
      clear HF
      replace f4 := f4.ext hE
      replace f11 := f11.ext hE
      replace hB := Base.step hB hE hO; clear hE
      refine li_nil (nx_then ?_)
      refine wp_cond_b q38 (fun hc => ?_) (fun hc => ?_)
      ·
       replace h := Comp.run_b_t hc h; clear hc
       refine' regionT [_, SP.isv (.pointer (some ⟨b5, 4, none⟩))] hA (.cons (fun _ _ hE hK hg => ok_move (kn (hK 7 rfl) rfl q7)) (.cons (fun _ _ hE hK hg => ok_fieldAddr fl26_4 (kn (hK 3 rfl) rfl q3)) .nil)) ?zok13 ?zgd13 ?zk13
       case zok13 | zgd13 => kernel_rfl
       intro a23 w23 hA hE HF
       replace q3 := kn (HF 3) rfl q3
       replace q6 := kn (HF 6) rfl q6
       have q40 := ksv (HF 40) rfl rfl rfl
       have q41 := ksv (HF 41) rfl rfl rfl
       clear q2
       clear q7
       clear q21
       clear q38
       clear HF
       replace f4 := f4.ext hE
       replace f11 := f11.ext hE
       replace hB := Base.step hB hE hO; clear hE
       refine l_store1 (cs' := #[.int .i64 x_0.Seq, .int .i64 x_0.Shop, .int .i64 x_0.Kind, .int .i64 x_0.Day, .int .i64 x16, .string (str x_0.Before), .string (str x_0.After), .string (str x_0.Prev), .string (str x_0.Mark)]) hO hB (okB_fr hB) ty3 q41 q40 rfl rfl f4 (by simp) rfl fun w24 f32 hB' hX => ?_
       clear hB f4; have hB := hB'; clear hB'
       replace f11 := f11.kx hX (by decide)
       clear hX
       refine li_nil (nx_blk (nx_then ?_))
       exact ⟨_, _, _, _, _, _, _, _, _, _, hA, hB, q3, q6, f11, f32, h⟩
      ·
       replace h := Comp.run_b_f hc h; clear hc
       refine wp_seq ?_
       refine' region [_, _] mixed hA (.cons (fun _ _ hE hK hg => ok_eqlI (kn (hK 21 rfl) rfl q21) rfl) (.cons (fun _ _ hE hK hg => ok_assign (ksv (j := 0) (hK 43 rfl) rfl rfl rfl)) .nil)) ?zok14 ?zgd14 ?zk14
       case zok14 | zgd14 => kernel_rfl
       intro a25 w25 hA hE HF
       replace q2 := kn (HF 2) rfl q2
       replace q3 := kn (HF 3) rfl q3
       replace q6 := kn (HF 6) rfl q6
       replace q21 := kn (HF 21) rfl q21
       have q42 := ksv (HF 42) rfl rfl rfl
       clear q7
       clear q38
       clear HF
       replace f4 := f4.ext hE
       replace f11 := f11.ext hE
       replace hB := Base.step hB hE hO; clear hE
       refine li_nil (nx_then ?_)
       refine wp_cond_b q42 (fun hc => ?_) (fun hc => ?_)
       ·
        replace h := Comp.run_b_t hc h; clear hc
        refine' regionT [_, SP.isv (.pointer (some ⟨b5, 5, none⟩))] hA (.cons (fun _ _ hE hK hg => ok_move (kn (hK 2 rfl) rfl q2)) (.cons (fun _ _ hE hK hg => ok_fieldAddr fl26_5 (kn (hK 3 rfl) rfl q3)) .nil)) ?zok15 ?zgd15 ?zk15
        case zok15 | zgd15 => kernel_rfl
        intro a26 w26 hA hE HF
        replace q3 := kn (HF 3) rfl q3
        replace q6 := kn (HF 6) rfl q6
        have q44 := ksv (HF 44) rfl rfl rfl
        have q45 := ksv (HF 45) rfl rfl rfl
        clear q2
        clear q21
        clear q42
        clear HF
        replace f4 := f4.ext hE
        replace f11 := f11.ext hE
        replace hB := Base.step hB hE hO; clear hE
        refine l_store1 (cs' := #[.int .i64 x_0.Seq, .int .i64 x_0.Shop, .int .i64 x_0.Kind, .int .i64 x_0.Day, .int .i64 x_0.N, .string (str x_2), .string (str x_0.After), .string (str x_0.Prev), .string (str x_0.Mark)]) hO hB (okB_fr hB) ty9 q45 q44 rfl rfl f4 (by simp) rfl fun w27 f33 hB' hX => ?_
        clear hB f4; have hB := hB'; clear hB'
        replace f11 := f11.kx hX (by decide)
        clear hX
        refine li_nil (nx_blk (nx_then ?_))
        exact ⟨_, _, _, _, _, _, _, _, _, _, hA, hB, q3, q6, f11, f33, h⟩
       ·
        replace h := Comp.run_b_f hc h; clear hc
        refine wp_seq ?_
        refine' region [_, _] mixed hA (.cons (fun _ _ hE hK hg => ok_eqlI (kn (hK 21 rfl) rfl q21) rfl) (.cons (fun _ _ hE hK hg => ok_assign (ksv (j := 0) (hK 47 rfl) rfl rfl rfl)) .nil)) ?zok16 ?zgd16 ?zk16
        case zok16 | zgd16 => kernel_rfl
        intro a28 w28 hA hE HF
        replace q2 := kn (HF 2) rfl q2
        replace q3 := kn (HF 3) rfl q3
        replace q6 := kn (HF 6) rfl q6
        replace q21 := kn (HF 21) rfl q21
        have q46 := ksv (HF 46) rfl rfl rfl
        clear q42
        clear HF
        replace f4 := f4.ext hE
        replace f11 := f11.ext hE
        replace hB := Base.step hB hE hO; clear hE
        refine li_nil (nx_then ?_)
        refine wp_cond_b q46 (fun hc => ?_) (fun hc => ?_)
        ·
         replace h := Comp.run_b_t hc h; clear hc
         refine' regionT [_, SP.isv (.pointer (some ⟨b5, 6, none⟩))] hA (.cons (fun _ _ hE hK hg => ok_move (kn (hK 2 rfl) rfl q2)) (.cons (fun _ _ hE hK hg => ok_fieldAddr fl26_6 (kn (hK 3 rfl) rfl q3)) .nil)) ?zok17 ?zgd17 ?zk17
         case zok17 | zgd17 => kernel_rfl
         intro a29 w29 hA hE HF
         replace q3 := kn (HF 3) rfl q3
         replace q6 := kn (HF 6) rfl q6
         have q48 := ksv (HF 48) rfl rfl rfl
         have q49 := ksv (HF 49) rfl rfl rfl
         clear q2
         clear q21
         clear q46
         clear HF
         replace f4 := f4.ext hE
         replace f11 := f11.ext hE
         replace hB := Base.step hB hE hO; clear hE
         refine l_store1 (cs' := #[.int .i64 x_0.Seq, .int .i64 x_0.Shop, .int .i64 x_0.Kind, .int .i64 x_0.Day, .int .i64 x_0.N, .string (str x_0.Before), .string (str x_2), .string (str x_0.Prev), .string (str x_0.Mark)]) hO hB (okB_fr hB) ty9 q49 q48 rfl rfl f4 (by simp) rfl fun w30 f34 hB' hX => ?_
         clear hB f4; have hB := hB'; clear hB'
         replace f11 := f11.kx hX (by decide)
         clear hX
         refine li_nil (nx_blk (nx_then ?_))
         exact ⟨_, _, _, _, _, _, _, _, _, _, hA, hB, q3, q6, f11, f34, h⟩
        ·
         replace h := Comp.run_b_f hc h; clear hc
         refine wp_seq ?_
         refine' region [_, _] mixed hA (.cons (fun _ _ hE hK hg => ok_eqlI (kn (hK 21 rfl) rfl q21) rfl) (.cons (fun _ _ hE hK hg => ok_assign (ksv (j := 0) (hK 51 rfl) rfl rfl rfl)) .nil)) ?zok18 ?zgd18 ?zk18
         case zok18 | zgd18 => kernel_rfl
         intro a31 w31 hA hE HF
         replace q2 := kn (HF 2) rfl q2
         replace q3 := kn (HF 3) rfl q3
         replace q6 := kn (HF 6) rfl q6
         replace q21 := kn (HF 21) rfl q21
         have q50 := ksv (HF 50) rfl rfl rfl
         clear q46
         clear HF
         replace f4 := f4.ext hE
         replace f11 := f11.ext hE
         replace hB := Base.step hB hE hO; clear hE
         refine li_nil (nx_then ?_)
         refine wp_cond_b q50 (fun hc => ?_) (fun hc => ?_)
         ·
          replace h := Comp.run_b_t hc h; clear hc
          refine' regionT [_, SP.isv (.pointer (some ⟨b5, 7, none⟩))] hA (.cons (fun _ _ hE hK hg => ok_move (kn (hK 2 rfl) rfl q2)) (.cons (fun _ _ hE hK hg => ok_fieldAddr fl26_7 (kn (hK 3 rfl) rfl q3)) .nil)) ?zok19 ?zgd19 ?zk19
          case zok19 | zgd19 => kernel_rfl
          intro a32 w32 hA hE HF
          replace q3 := kn (HF 3) rfl q3
          replace q6 := kn (HF 6) rfl q6
          have q52 := ksv (HF 52) rfl rfl rfl
          have q53 := ksv (HF 53) rfl rfl rfl
          clear q2
          clear q21
          clear q50
          clear HF
          replace f4 := f4.ext hE
          replace f11 := f11.ext hE
          replace hB := Base.step hB hE hO; clear hE
          refine l_store1 (cs' := #[.int .i64 x_0.Seq, .int .i64 x_0.Shop, .int .i64 x_0.Kind, .int .i64 x_0.Day, .int .i64 x_0.N, .string (str x_0.Before), .string (str x_0.After), .string (str x_2), .string (str x_0.Mark)]) hO hB (okB_fr hB) ty9 q53 q52 rfl rfl f4 (by simp) rfl fun w33 f35 hB' hX => ?_
          clear hB f4; have hB := hB'; clear hB'
          replace f11 := f11.kx hX (by decide)
          clear hX
          refine li_nil (nx_blk (nx_then ?_))
          exact ⟨_, _, _, _, _, _, _, _, _, _, hA, hB, q3, q6, f11, f35, h⟩
         ·
          replace h := Comp.run_b_f hc h; clear hc
          refine wp_seq ?_
          refine' region [_, _] mixed hA (.cons (fun _ _ hE hK hg => ok_eqlI (kn (hK 21 rfl) rfl q21) rfl) (.cons (fun _ _ hE hK hg => ok_assign (ksv (j := 0) (hK 55 rfl) rfl rfl rfl)) .nil)) ?zok20 ?zgd20 ?zk20
          case zok20 | zgd20 => kernel_rfl
          intro a34 w34 hA hE HF
          replace q2 := kn (HF 2) rfl q2
          replace q3 := kn (HF 3) rfl q3
          replace q6 := kn (HF 6) rfl q6
          have q54 := ksv (HF 54) rfl rfl rfl
          clear q21
          clear q50
          clear HF
          replace f4 := f4.ext hE
          replace f11 := f11.ext hE
          replace hB := Base.step hB hE hO; clear hE
          refine li_nil (nx_then ?_)
          refine wp_cond_b q54 (fun hc => ?_) (fun hc => ?_)
          ·
           replace h := Comp.run_b_t hc h; clear hc
           refine' regionT [_, SP.isv (.pointer (some ⟨b5, 8, none⟩))] hA (.cons (fun _ _ hE hK hg => ok_move (kn (hK 2 rfl) rfl q2)) (.cons (fun _ _ hE hK hg => ok_fieldAddr fl26_8 (kn (hK 3 rfl) rfl q3)) .nil)) ?zok21 ?zgd21 ?zk21
           case zok21 | zgd21 => kernel_rfl
           intro a35 w35 hA hE HF
           replace q3 := kn (HF 3) rfl q3
           replace q6 := kn (HF 6) rfl q6
           have q56 := ksv (HF 56) rfl rfl rfl
           have q57 := ksv (HF 57) rfl rfl rfl
           clear q2
           clear q54
           clear HF
           replace f4 := f4.ext hE
           replace f11 := f11.ext hE
           replace hB := Base.step hB hE hO; clear hE
           refine l_store1 (cs' := #[.int .i64 x_0.Seq, .int .i64 x_0.Shop, .int .i64 x_0.Kind, .int .i64 x_0.Day, .int .i64 x_0.N, .string (str x_0.Before), .string (str x_0.After), .string (str x_0.Prev), .string (str x_2)]) hO hB (okB_fr hB) ty9 q57 q56 rfl rfl f4 (by simp) rfl fun w36 f36 hB' hX => ?_
           clear hB f4; have hB := hB'; clear hB'
           replace f11 := f11.kx hX (by decide)
           clear hX
           refine li_nil (nx_blk (nx_then ?_))
           exact ⟨_, _, _, _, _, _, _, _, _, _, hA, hB, q3, q6, f11, f36, h⟩
          ·
           replace h := Comp.run_b_f hc h; clear hc
           refine wp_skip (nx_blk (nx_then ?_))
           exact ⟨_, _, _, _, _, _, _, _, _, _, hA, hB, q3, q6, f11, f4, h⟩
 intro a37 w37 hI
 clear hA hB h q2 q3 q4 q6 q7 f11 f4 f7
 obtain ⟨O37, x20, x21, x22, x23, x24, x25, x26, x27, x28, hA, hB, q3, q6, f11, f19, h⟩ := hI
 unfold colletref37_Odd_j1 at h
 refine wp_seq ?_
 refine' regionT [SP.isv (.agg #[.int .i64 x20, .int .i64 x21, .int .i64 x22, .int .i64 x23, .int .i64 x24, .string (str x25), .string (str x26), .string (str x27), .string (str x28)])] hA (.cons (fun _ _ hE hK hg => ok_loadOwnAgg ty26 rfl (kn (hK 3 rfl) rfl q3) (OwnB.ext f19 hE).own rfl) .nil) ?zok22 ?zgd22 ?zk22
 case zok22 | zgd22 => kernel_rfl
 intro a38 w38 hA hE HF
 replace q6 := kn (HF 6) rfl q6
 have q58 := ksv (HF 58) rfl rfl rfl
 clear q3
 clear HF
 replace f19 := f19.ext hE
 replace f11 := f11.ext hE
 replace hB := Base.step hB hE hO; clear hE
 refine l_storeSub (vs := [.int .i64 x20, .int .i64 x21, .int .i64 x22, .int .i64 x23, .int .i64 x24, .string (str x25), .string (str x26), .string (str x27), .string (str x28)]) (cs' := #[.int .i64 x20, .int .i64 x21, .int .i64 x22, .int .i64 x23, .int .i64 x24, .string (str x25), .string (str x26), .string (str x27), .string (str x28)]) hO hB (okB_fr hB) ty26 q6 q58 rfl (by simp [Value.oneCell']) f11 (by simp) rfl fun w39 f38 hB' hX => ?_
 clear hB f11; have hB := hB'; clear hB'
 clear hX
 refine li_nil (nx_then (wp_ret ?_))
 have h := Comp.run_pure h; subst h
 exact retG1 Try.results24 hA (.agg q6 ty26 rfl rfl f38.own) ⟨_, rfl, hB.ext, rfl⟩
theorem ok_colletref02_Check {O : Tags} {w0 : World} (hO : OkO O w0) {x_0 : Bytes} {x_1 : Bytes} {x_2 : Bytes} {n : Nat} {y : Bool} (h : (colletref02_Check x_0 x_1 x_2).run n = some y) : Pure Try.prog 33 #[.string (str x_0), .string (str x_1), .string (str x_2)] w0 (SP.isv (.bool y)).holds := by
 unfold colletref02_Check at h
 refine pure_of_wp Try.func33 rfl 16 Try.ntmps33 (by simp) fun a0 hA hs0 => ?_
 have q0 : a0.get 0 = .string (str x_0) := hs0 0 _ rfl
 have q1 : a0.get 1 = .string (str x_1) := hs0 1 _ rfl
 have q2 : a0.get 2 = .string (str x_2) := hs0 2 _ rfl
 clear hs0
 have hB : Base (Fr w0) O w0 O w0 := Base.start hO
 refine wp_seq ?_
 refine' region [_] mixed hA (.cons (fun _ _ hE hK hg => ok_assign rfl) .nil) ?zok1 ?zgd1 ?zk1
 case zok1 | zgd1 => kernel_rfl
 intro a1 w1 hA hE HF
 replace q0 := kn (HF 0) rfl q0
 replace q1 := kn (HF 1) rfl q1
 replace q2 := kn (HF 2) rfl q2
 clear HF
 replace hB := Base.step hB hE hO; clear hE
 refine li_nil (nx_then (wp_seq ?_))
 obtain ⟨x1, hx1, h⟩ := Comp.run_bind h
 refine' region [_, _, _, _, _, _, SP.isv (.string (str x1)), _, _, _] mixed hA (.cons (fun _ _ hE hK hg => ok_move (kn (hK 0 rfl) rfl q0)) (.cons (fun _ _ hE hK hg => okl_neqS (ksv (j := 0) (hK 7 rfl) rfl rfl rfl) rfl) (.cons (fun _ _ hE hK hg => ok_move (ksv (j := 1) (hK 8 rfl) rfl rfl rfl)) (.cons (fun _ _ hE hK hg => ok_move (kn (hK 2 rfl) rfl q2)) (.cons (fun _ _ hE hK hg => ok_move (kn (hK 0 rfl) rfl q0)) (.cons (fun _ _ hE hK hg => ok_move (kn (hK 1 rfl) rfl q1)) (.cons ?z2_6 (.cons ?z2_7 (.cons ?z2_8 (.cons (fun _ _ hE hK hg => ok_assign (ksv (j := 8) (hK 15 rfl) rfl rfl rfl)) .nil)))))))))) ?zok2 ?zgd2 ?zk2
 case z2_6 => intro a' w' hE hK hg; have c_ := ok_colletref02_Mark (OkO.ext hB.ok hE)  (run_gdb hx1 hg); exact ok_call2 fn61 (ksv (j := 4) (hK 11 rfl) rfl rfl hg) (ksv (j := 5) (hK 12 rfl) rfl rfl hg) c_
 case z2_7 => intro a' w' hE hK hg; exact okl_eqlS (ksv (j := 3) (hK 10 rfl) rfl rfl hg) (ksv (j := 6) (hK 13 rfl) rfl rfl hg)
 case z2_8 => intro a' w' hE hK hg; exact ok_pick (ksv (j := 2) (hK 9 rfl) rfl rfl rfl) (fun hb => ksv (j := 7) (hK 14 rfl) rfl rfl (act_g1 rfl rfl hb)) (fun _ => rfl)
 case zok2 | zgd2 => kernel_rfl
 intro a2 w2 hA hE HF
 have q6 := ksv (HF 6) rfl rfl rfl
 clear q0
 clear q1
 clear q2
 clear HF
 replace hB := Base.step hB hE hO; clear hE
 obtain ⟨x2, hx_, h⟩ := Comp.run_bind h; replace hx_ := Comp.run_pure hx_; rw [hx_] at q6; clear hx_
 refine li_nil (nx_then (wp_ret ?_))
 have h := Comp.run_pure h; subst h
 exact retPure Try.results33 hA q6 hB.ext rfl
end Go.Proofs.Ytkbipbfncbopnaa
end
section
namespace Go.Proofs.Ytkbipbfncbopnaa
open Go Go.RowKit Go.Eng Go.Lift Go.F
set_option linter.unusedVariables false
set_option linter.unusedSimpArgs false
set_option maxRecDepth 100000
set_option maxHeartbeats 4000000 in
theorem ok_colletlaw37_PassportBinds {O : Tags} {w0 : World} (hO : OkO O w0) {v_0 : Value} {x_0 : colletlaw37_Case} (h_0 : r_colletlaw37_Case.v O w0 v_0 x_0) {x_1 : Int} {x_2 : Vector Int 2} {x_3 : Bytes} {x_4 : Bool} {n : Nat} {y : Bool} (h : (colletlaw37_PassportBinds x_0 x_1 x_2 x_3 x_4).run n = some y) : Pure Try.prog 6 #[v_0, .int .u8 x_1, .agg (cellsA (fun x => [.int .i64 x]) x_2).toArray, .string (str x_3), .bool x_4] w0 (SP.isv (.bool y)).holds := by
 unfold colletlaw37_PassportBinds at h
 refine pure_of_wp Try.func6 rfl 201 Try.ntmps6 (by simp) fun a0 hA hs0 => ?_
 have q0 : a0.get 0 = v_0 := hs0 0 _ rfl
 have q1 : a0.get 1 = .int .u8 x_1 := hs0 1 _ rfl
 have q2 : a0.get 2 = .agg (cellsA (fun x => [.int .i64 x]) x_2).toArray := hs0 2 _ rfl
 have q3 : a0.get 3 = .string (str x_3) := hs0 3 _ rfl
 have q4 : a0.get 4 = .bool x_4 := hs0 4 _ rfl
 clear hs0
 have hB : Base (Fr w0) O w0 O w0 := Base.start hO
 refine wp_seq ?_
 refine' region [SP.vl (rBox r_colletlaw37_Case) O x_0, SP.vl (rBox (rVec 2 1 (fun x => [.int .i64 x]) (fun _ => rfl) (fun _ => by simp [Value.oneCell']))) O x_2, _] mixed hA (.cons (fun _ _ hE hK hg => okl_boxV (r := r_colletlaw37_Case) fit_colletlaw37_Case (OkO.ext hB.ok hE) (kn (hK 0 rfl) rfl q0) (GR.v_ext _ h_0 hE)) (.cons ?z1_1 (.cons (fun _ _ hE hK hg => ok_assign rfl) .nil))) ?zok1 ?zgd1 ?zk1
 case z1_1 => intro a' w' hE hK hg; exact okl_boxV (r := (rVec 2 1 (fun x => [.int .i64 x]) (fun _ => rfl) (fun _ => by simp [Value.oneCell']))) (by intro h; cases h) (OkO.ext hB.ok hE) (kn (hK 2 rfl) rfl q2) (by first | exact (rC_v (x := x_2)).2 rfl | exact ⟨_, rfl, rfl⟩)
 case zok1 | zgd1 => kernel_rfl
 intro a1 w1 hA hE HF
 replace q1 := kn (HF 1) rfl q1
 replace q3 := kn (HF 3) rfl q3
 replace q4 := kn (HF 4) rfl q4
 have f2 := ksp (HF 5) rfl rfl rfl
 obtain ⟨u1, q5'⟩ : ∃ u, a1.get 5 = u := ⟨_, rfl⟩
 rw [q5'] at f2
 have q5 := q5'; clear q5'
 have f4 := ksp (HF 7) rfl rfl rfl
 obtain ⟨u3, q7'⟩ : ∃ u, a1.get 7 = u := ⟨_, rfl⟩
 rw [q7'] at f4
 have q7 := q7'; clear q7'
 clear q0
 clear q2
 clear HF
 replace h_0 := GR.v_ext _ h_0 hE
 replace hB := Base.step hB hE hO; clear hE
 refine li_nil (nx_then (wp_seq ?_))
 obtain ⟨x5, hx5, h⟩ := Comp.run_bind h
 refine' region [SP.isv (.bool x5), _] mixed hA (.cons ?z2_0 (.cons (fun _ _ hE hK hg => ok_assign (ksv (j := 0) (hK 23 rfl) rfl rfl rfl)) .nil)) ?zok2 ?zgd2 ?zk2
 case z2_0 => intro a' w' hE hK hg; have c_ := ok_colletlaw37_sanity (OkO.ext hB.ok hE)  hx5; exact ok_call0 fn14  c_
 case zok2 | zgd2 => kernel_rfl
 intro a2 w2 hA hE HF
 replace q1 := kn (HF 1) rfl q1
 replace q3 := kn (HF 3) rfl q3
 replace q4 := kn (HF 4) rfl q4
 replace q5 := kn (HF 5) rfl q5
 replace q7 := kn (HF 7) rfl q7
 have q11 := ksv (HF 11) rfl rfl rfl
 clear HF
 replace f2 := GR.v_ext _ f2 hE
 replace f4 := GR.v_ext _ f4 hE
 replace hB := Base.step hB hE hO; clear hE
 refine li_nil (nx_then (wp_seq ?_))
 obtain ⟨x6, hx6, h⟩ := Comp.run_bind h
 refine' region [SP.vl r_colletlaw37_Case O x_0, SP.tup2 (SP.vl (rSl rStr) O x6.1) (SP.vl (rSl r_api_Entry) O x6.2), SP.tup2 (SP.vl (rSl rStr) O x6.1) (SP.vl (rSl r_api_Entry) O x6.2), SP.vl (rSl rStr) O x6.1, SP.vl (rSl r_api_Entry) O x6.2, SP.vl (rSl rStr) O x6.1, SP.vl (rSl r_api_Entry) O x6.2] mixed hA (.cons (fun _ _ hE hK hg => okl_ld (r := r_colletlaw37_Case) fit_colletlaw37_Case ty24 rfl rfl (kn (hK 5 rfl) rfl q5) (ptr_of_box fit_colletlaw37_Case (GR.v_ext _ f2 hE))) (.cons ?z3_1 (.cons (fun _ _ hE hK hg => ok_move_pr (φ := SP.tup2 (SP.vl (rSl rStr) O x6.1) (SP.vl (rSl r_api_Entry) O x6.2)) (kspS (j := 1) (hK 26 rfl) rfl rfl rfl)) (.cons (fun _ _ hE hK hg => okl_ext0 (kspS (φ := SP.tup2 (SP.vl (rSl rStr) O x6.1) (SP.vl (rSl r_api_Entry) O x6.2)) (j := 2) (hK 24 rfl) rfl rfl rfl)) (.cons (fun _ _ hE hK hg => okl_ext1 (kspS (φ := SP.tup2 (SP.vl (rSl rStr) O x6.1) (SP.vl (rSl r_api_Entry) O x6.2)) (j := 2) (hK 24 rfl) rfl rfl rfl)) (.cons (fun _ _ hE hK hg => ok_assign_pr (φ := SP.vl (rSl rStr) O x6.1) (kspS (j := 3) (hK 27 rfl) rfl rfl rfl)) (.cons (fun _ _ hE hK hg => ok_assign_pr (φ := SP.vl (rSl r_api_Entry) O x6.2) (kspS (j := 4) (hK 28 rfl) rfl rfl rfl)) .nil))))))) ?zok3 ?zgd3 ?zk3
 case z3_1 => intro a' w' hE hK hg; have c_ := ok_colletlaw37_Case_made (OkO.ext hB.ok hE) (kspS (φ := SP.vl r_colletlaw37_Case O x_0) (j := 0) (hK 25 rfl) rfl rfl rfl) hx6; exact ok_weak (ok_call1 fn15 rfl c_) (fun _ _ _ ⟨a_, b_, e0_, h0_, h1_⟩ => ⟨a_, b_, e0_, (fun h => (OwnR.val h (fun g hg => (OkO.ext hB.ok hE) g (OwnR.ge h g hg).1))) h0_, h1_⟩)
 case zok3 | zgd3 => kernel_rfl
 intro a3 w3 hA hE HF
 replace q1 := kn (HF 1) rfl q1
 replace q3 := kn (HF 3) rfl q3
 replace q4 := kn (HF 4) rfl q4
 replace q7 := kn (HF 7) rfl q7
 replace q11 := kn (HF 11) rfl q11
 have f8 := ksp (HF 12) rfl rfl rfl
 obtain ⟨u7, q12'⟩ : ∃ u, a3.get 12 = u := ⟨_, rfl⟩
 rw [q12'] at f8
 have q12 := q12'; clear q12'
 have f10 := ksp (HF 13) rfl rfl rfl
 obtain ⟨u9, q13'⟩ : ∃ u, a3.get 13 = u := ⟨_, rfl⟩
 rw [q13'] at f10
 have q13 := q13'; clear q13'
 clear q5
 clear HF
 replace f2 := GR.v_ext _ f2 hE
 replace f4 := GR.v_ext _ f4 hE
 replace hB := Base.step hB hE hO; clear hE
 refine li_nil (nx_then (wp_seq (wp_seq ?_)))
 refine' region [_, _, _] mixed hA (.cons (fun _ _ hE hK hg => ok_move (kn (hK 13 rfl) rfl q13)) (.cons (fun _ _ hE hK hg => okl_len (r := r_api_Entry) ty29 (ksv (j := 0) (hK 29 rfl) rfl rfl rfl) (rd_of (GR.v_ext _ f10 hE))) (.cons (fun _ _ hE hK hg => ok_eqlI (ksv (j := 1) (hK 30 rfl) rfl rfl rfl) rfl) .nil))) ?zok4 ?zgd4 ?zk4
 case zok4 | zgd4 => kernel_rfl
 intro a4 w4 hA hE HF
 replace q1 := kn (HF 1) rfl q1
 replace q3 := kn (HF 3) rfl q3
 replace q4 := kn (HF 4) rfl q4
 replace q7 := kn (HF 7) rfl q7
 replace q11 := kn (HF 11) rfl q11
 replace q12 := kn (HF 12) rfl q12
 replace q13 := kn (HF 13) rfl q13
 have q31 := ksv (HF 31) rfl rfl rfl
 clear HF
 replace f4 := GR.v_ext _ f4 hE
 replace f8 := GR.v_ext _ f8 hE
 replace f10 := GR.v_ext _ f10 hE
 replace hB := Base.step hB hE hO; clear hE
 refine li_nil (nx_then ?_)
 refine wp_cond_b q31 (fun hc => ?_) (fun hc => ?_)
 ·
  replace h := Comp.run_b_t hc h; clear hc
  refine wp_seq ?_
  obtain ⟨x11, hx11, h⟩ := Comp.run_bind h
  refine' region [_, _, _, _, SP.isv (.bool x11), _, _] mixed hA (.cons (fun _ _ hE hK hg => ok_move (kn (hK 11 rfl) rfl q11)) (.cons (fun _ _ hE hK hg => ok_move (ksv (j := 0) (hK 32 rfl) rfl rfl rfl)) (.cons (fun _ _ hE hK hg => ok_move (kn (hK 12 rfl) rfl q12)) (.cons (fun _ _ hE hK hg => ok_move (kn (hK 13 rfl) rfl q13)) (.cons ?z5_4 (.cons ?z5_5 (.cons (fun _ _ hE hK hg => ok_assign (ksv (j := 5) (hK 37 rfl) rfl rfl rfl)) .nil))))))) ?zok5 ?zgd5 ?zk5
  case z5_4 => intro a' w' hE hK hg; have c_ := ok_colletlaw37_finds (OkO.ext hB.ok hE) (GR.v_ext _ f8 hE) (GR.v_ext _ f10 hE) (run_gdb hx11 hg); exact ok_call4 fn31 (ksv (j := 2) (hK 34 rfl) rfl rfl hg) (ksv (j := 3) (hK 35 rfl) rfl rfl hg) rfl rfl c_
  case z5_5 => intro a' w' hE hK hg; exact ok_pick (ksv (j := 1) (hK 33 rfl) rfl rfl rfl) (fun hb => ksv (j := 4) (hK 36 rfl) rfl rfl (act_g1 rfl rfl hb)) (fun _ => rfl)
  case zok5 | zgd5 => kernel_rfl
  intro a5 w5 hA hE HF
  have q10 := ksv (HF 10) rfl rfl rfl
  clear q1
  clear q3
  clear q4
  clear q7
  clear q11
  clear q12
  clear q13
  clear q31
  clear HF
  replace f4 := GR.v_ext _ f4 hE
  replace f8 := GR.v_ext _ f8 hE
  replace f10 := GR.v_ext _ f10 hE
  replace hB := Base.step hB hE hO; clear hE
  refine li_nil (nx_then (wp_ret (rt_then ?_)))
  have h := Comp.run_pure h; subst h
  exact retPure Try.results6 hA q10 hB.ext rfl
 ·
  replace h := Comp.run_b_f hc h; clear hc
  refine wp_skip (nx_then (wp_seq ?_))
  obtain ⟨x12, hx12, h⟩ := Comp.run_bind h
  refine' region [_, _, _, _, SP.isv (.int .i64 x12), _] mixed hA (.cons (fun _ _ hE hK hg => ok_move (kn (hK 1 rfl) rfl q1)) (.cons (fun _ _ hE hK hg => ok_convI ty5 ty3 (ksv (j := 0) (hK 38 rfl) rfl rfl rfl)) (.cons (fun _ _ hE hK hg => ok_move (kn (hK 13 rfl) rfl q13)) (.cons (fun _ _ hE hK hg => okl_len (r := r_api_Entry) ty29 (ksv (j := 2) (hK 40 rfl) rfl rfl rfl) (rd_of (GR.v_ext _ f10 hE))) (.cons (fun _ _ hE hK hg => ok_isv (ok_rem (ksv (j := 1) (hK 39 rfl) rfl rfl rfl) (ksv (j := 3) (hK 41 rfl) rfl rfl rfl) (run_rem hx12).1) (congrArg _ (run_rem hx12).2)) (.cons (fun _ _ hE hK hg => ok_assign (ksv (j := 4) (hK 42 rfl) rfl rfl rfl)) .nil)))))) ?zok6 ?zgd6 ?zk6
  case zok6 | zgd6 => kernel_rfl
  intro a6 w6 hA hE HF
  replace q3 := kn (HF 3) rfl q3
  replace q4 := kn (HF 4) rfl q4
  replace q7 := kn (HF 7) rfl q7
  replace q11 := kn (HF 11) rfl q11
  replace q12 := kn (HF 12) rfl q12
  replace q13 := kn (HF 13) rfl q13
  have q14 := ksv (HF 14) rfl rfl rfl
  clear q1
  clear q31
  clear HF
  replace f4 := GR.v_ext _ f4 hE
  replace f8 := GR.v_ext _ f8 hE
  replace f10 := GR.v_ext _ f10 hE
  replace hB := Base.step hB hE hO; clear hE
  refine li_nil (nx_then (wp_seq ?_))
  obtain ⟨x13, hx13, h⟩ := Comp.run_bind h
  obtain ⟨x14, hx14, h⟩ := Comp.run_bind h
  obtain ⟨x15, hx15, h⟩ := Comp.run_bind h
  refine' region [_, _, SP.ptr r_api_Entry O x13, SP.isv (.agg #[.int .i64 x13.Seq, .int .i64 x13.Shop, .int .i64 x13.Kind, .int .i64 x13.Day, .int .i64 x13.N, .string (str x13.Before), .string (str x13.After), .string (str x13.Prev), .string (str x13.Mark)]), SP.isv (.agg (cellsA (fun x => [.int .i64 x]) x_2).toArray), _, _, _, _, SP.isv (.string (str x14)), SP.isv (.agg #[.int .i64 x15.Seq, .int .i64 x15.Shop, .int .i64 x15.Kind, .int .i64 x15.Day, .int .i64 x15.N, .string (str x15.Before), .string (str x15.After), .string (str x15.Prev), .string (str x15.Mark)]), SP.box w6.heap.size #[.int .i64 0, .int .i64 0, .int .i64 0, .int .i64 0, .int .i64 0, .string (str []), .string (str []), .string (str []), .string (str [])] 26] mixed hA (.cons (fun _ _ hE hK hg => ok_move (kn (hK 13 rfl) rfl q13)) (.cons (fun _ _ hE hK hg => ok_move (kn (hK 14 rfl) rfl q14)) (.cons (fun _ _ hE hK hg => okl_idx (r := r_api_Entry) (O := O) ty29 ty26 rfl (ksv (j := 0) (hK 43 rfl) rfl rfl rfl) (rd_of (GR.v_ext _ f10 hE)) (ksv (j := 1) (hK 44 rfl) rfl rfl rfl) hx13) (.cons (fun _ _ hE hK hg => okl_ldr r_api_Entry fit_api_Entry ty26 rfl rfl rfl (kspS (φ := SP.ptr r_api_Entry O x13) (j := 2) (hK 45 rfl) rfl rfl rfl) (fun _ _ _ h => rC_v.1 h)) (.cons ?z7_4 (.cons (fun _ _ hE hK hg => ok_move (kn (hK 3 rfl) rfl q3)) (.cons (fun _ _ hE hK hg => ok_move (kn (hK 3 rfl) rfl q3)) (.cons (fun _ _ hE hK hg => okl_lenS ty9 (ksv (j := 6) (hK 49 rfl) rfl rfl rfl)) (.cons (fun _ _ hE hK hg => ok_min (ksv (j := 7) (hK 50 rfl) rfl rfl rfl) rfl) (.cons (fun _ _ hE hK hg => okl_sliceS_h ty9 (ksv (j := 5) (hK 48 rfl) rfl rfl rfl) (ksv (j := 8) (hK 51 rfl) rfl rfl rfl) hx14) (.cons ?z7_10 (.cons (fun _ _ hE hK hg => ok_alloc hE.size ty26) .nil)))))))))))) ?zok7 ?zgd7 ?zk7
  case z7_4 => intro a' w' hE hK hg; exact okl_ldr (rVec 2 1 (fun x => [.int .i64 x]) (fun _ => rfl) (fun _ => by simp [Value.oneCell'])) (by intro h; cases h) ty38 rfl rfl (kn (hK 7 rfl) rfl q7) (ptr_of_box (by intro h; cases h) (GR.v_ext _ f4 hE)) (fun _ _ _ h => rC_v.1 h)
  case z7_10 => intro a' w' hE hK hg; have c_ := ok_colletref37_Odd (OkO.ext hB.ok hE)  hx15; exact ok_call3 fn24 (ksv (j := 3) (hK 46 rfl) rfl rfl rfl) (ksv (j := 4) (hK 47 rfl) rfl rfl rfl) (ksv (j := 9) (hK 52 rfl) rfl rfl rfl) c_
  case zok7 | zgd7 => kernel_rfl
  intro a7 w7 hA hE HF
  replace q4 := kn (HF 4) rfl q4
  replace q11 := kn (HF 11) rfl q11
  replace q12 := kn (HF 12) rfl q12
  replace q13 := kn (HF 13) rfl q13
  replace q14 := kn (HF 14) rfl q14
  have f17 := ksp (HF 15) rfl rfl rfl
  obtain ⟨u16, q15'⟩ : ∃ u, a7.get 15 = u := ⟨_, rfl⟩
  rw [q15'] at f17
  have q15 := q15'; clear q15'
  have q53 := ksv (HF 53) rfl rfl rfl
  clear q3
  clear q7
  clear HF
  obtain ⟨O18, b19, hB', hX, e_, f20⟩ := boxNew hO hB hE f17 1 (by decide)
  subst e_
  clear hB f17; have hB := hB'; clear hB'
  replace f4 := GR.kx _ f4 hX (by decide)
  replace f8 := GR.kx _ f8 hX (by decide)
  replace f10 := GR.kx _ f10 hX (by decide)
  clear hX hE
  refine l_storeSub (vs := [.int .i64 x15.Seq, .int .i64 x15.Shop, .int .i64 x15.Kind, .int .i64 x15.Day, .int .i64 x15.N, .string (str x15.Before), .string (str x15.After), .string (str x15.Prev), .string (str x15.Mark)]) (cs' := #[.int .i64 x15.Seq, .int .i64 x15.Shop, .int .i64 x15.Kind, .int .i64 x15.Day, .int .i64 x15.N, .string (str x15.Before), .string (str x15.After), .string (str x15.Prev), .string (str x15.Mark)]) hO hB (okB_fr hB) ty26 q15 q53 rfl (by simp [Value.oneCell']) f20 (by simp) rfl fun w8 f21 hB' hX => ?_
  clear hB f20; have hB := hB'; clear hB'
  replace f8 := GR.kx _ f8 hX (by decide)
  replace f10 := GR.kx _ f10 hX (by decide)
  clear hX
  refine li_nil (nx_then (wp_seq ?_))
  refine' region [SP.isv (.pointer (some ⟨b19, 1, none⟩)), SP.isv (.int .i64 x15.Shop), _] mixed hA (.cons (fun _ _ hE hK hg => ok_fieldAddr fl26_1 (kn (hK 15 rfl) rfl q15)) (.cons (fun _ _ hE hK hg => ok_loadOwn ty3 rfl (ksv (j := 0) (hK 54 rfl) rfl rfl rfl) (OwnB.ext f21 hE).own rfl) (.cons (fun _ _ hE hK hg => ok_assign (ksv (j := 1) (hK 55 rfl) rfl rfl rfl)) .nil))) ?zok8 ?zgd8 ?zk8
  case zok8 | zgd8 => kernel_rfl
  intro a9 w9 hA hE HF
  replace q4 := kn (HF 4) rfl q4
  replace q11 := kn (HF 11) rfl q11
  replace q12 := kn (HF 12) rfl q12
  replace q13 := kn (HF 13) rfl q13
  replace q14 := kn (HF 14) rfl q14
  replace q15 := kn (HF 15) rfl q15
  have q16 := ksv (HF 16) rfl rfl rfl
  clear HF
  replace f8 := GR.v_ext _ f8 hE
  replace f10 := GR.v_ext _ f10 hE
  replace f21 := f21.ext hE
  replace hB := Base.step hB hE hO; clear hE
  refine li_nil (nx_then (wp_seq ?_))
  refine' region [_, _, _, _, _, _, _, _, _, _, _, _] mixed hA (.cons (fun _ _ hE hK hg => ok_move (kn (hK 4 rfl) rfl q4)) (.cons (fun _ _ hE hK hg => ok_move (ksv (j := 0) (hK 56 rfl) rfl rfl rfl)) (.cons (fun _ _ hE hK hg => ok_move (kn (hK 16 rfl) rfl q16)) (.cons ?z9_3 (.cons ?z9_4 (.cons (fun _ _ hE hK hg => ok_move (ksv (j := 4) (hK 60 rfl) rfl rfl rfl)) (.cons (fun _ _ hE hK hg => ok_move (kn (hK 16 rfl) rfl q16)) (.cons (fun _ _ hE hK hg => ok_move (kn (hK 12 rfl) rfl q12)) (.cons ?z9_8 (.cons ?z9_9 (.cons ?z9_10 (.cons (fun _ _ hE hK hg => ok_assign (ksv (j := 10) (hK 66 rfl) rfl rfl rfl)) .nil)))))))))))) ?zok9 ?zgd9 ?zk9
  case z9_3 => intro a' w' hE hK hg; exact ok_geq (ksv (j := 2) (hK 58 rfl) rfl rfl hg) rfl
  case z9_4 => intro a' w' hE hK hg; exact ok_pick (ksv (j := 1) (hK 57 rfl) rfl rfl rfl) (fun hb => ksv (j := 3) (hK 59 rfl) rfl rfl (act_g1 rfl rfl hb)) (fun _ => rfl)
  case z9_8 => intro a' w' hE hK hg; exact okl_len (r := rStr) ty28 (ksv (j := 7) (hK 63 rfl) rfl rfl hg) (rd_of (GR.v_ext _ f8 hE))
  case z9_9 => intro a' w' hE hK hg; exact ok_lss (ksv (j := 6) (hK 62 rfl) rfl rfl hg) (ksv (j := 8) (hK 64 rfl) rfl rfl hg)
  case z9_10 => intro a' w' hE hK hg; exact ok_pick (ksv (j := 5) (hK 61 rfl) rfl rfl rfl) (fun hb => ksv (j := 9) (hK 65 rfl) rfl rfl (act_g1 rfl rfl hb)) (fun _ => rfl)
  case zok9 | zgd9 => kernel_rfl
  intro a10 w10 hA hE HF
  replace q11 := kn (HF 11) rfl q11
  replace q12 := kn (HF 12) rfl q12
  replace q13 := kn (HF 13) rfl q13
  replace q14 := kn (HF 14) rfl q14
  replace q15 := kn (HF 15) rfl q15
  replace q16 := kn (HF 16) rfl q16
  have q17 := ksv (HF 17) rfl rfl rfl
  clear q4
  clear HF
  replace f8 := GR.v_ext _ f8 hE
  replace f10 := GR.v_ext _ f10 hE
  replace f21 := f21.ext hE
  replace hB := Base.step hB hE hO; clear hE
  obtain ⟨x22, hx_, h⟩ := Comp.run_bind h; replace hx_ := Comp.run_pure hx_; rw [hx_] at q17; clear hx_
  refine li_nil (nx_then ?_)
  refine seq_join (fun a w => ∃ (O27 : Tags) (x26 : api_Entry), a.fit 201 ∧ Base (Fr w0) O w0 O27 w ∧ a.get 11 = .bool x5 ∧ a.get 12 = u7 ∧ (rSl rStr).v O27 w u7 x6.1 ∧ a.get 13 = u9 ∧ (rSl r_api_Entry).v O27 w u9 x6.2 ∧ a.get 14 = .int .i64 x12 ∧ a.get 15 = .pointer (some ⟨b19, 0, none⟩) ∧ a.get 16 = .int .i64 x15.Shop ∧ a.get 17 = .bool x22 ∧ OwnB 1 (Fr w0) O27 w b19 #[.int .i64 x26.Seq, .int .i64 x26.Shop, .int .i64 x26.Kind, .int .i64 x26.Day, .int .i64 x26.N, .string (str x26.Before), .string (str x26.After), .string (str x26.Prev), .string (str x26.Mark)] 26 ∧ (colletlaw37_PassportBinds_j1 x6 x12 x5 x22 x15 x26).run n = some y) ?_ ?_
  ·
   refine wp_seq ?_
   refine' region [_] mixed hA (.cons (fun _ _ hE hK hg => ok_move (kn (hK 17 rfl) rfl q17)) .nil) ?zok10 ?zgd10 ?zk10
   case zok10 | zgd10 => kernel_rfl
   intro a11 w11 hA hE HF
   replace q11 := kn (HF 11) rfl q11
   replace q12 := kn (HF 12) rfl q12
   replace q13 := kn (HF 13) rfl q13
   replace q14 := kn (HF 14) rfl q14
   replace q15 := kn (HF 15) rfl q15
   replace q16 := kn (HF 16) rfl q16
   replace q17 := kn (HF 17) rfl q17
   have q67 := ksv (HF 67) rfl rfl rfl
   clear HF
   replace f8 := GR.v_ext _ f8 hE
   replace f10 := GR.v_ext _ f10 hE
   replace f21 := f21.ext hE
   replace hB := Base.step hB hE hO; clear hE
   refine li_nil (nx_then ?_)
   refine wp_cond_b q67 (fun hc => ?_) (fun hc => ?_)
   ·
    replace h := Comp.run_b_t hc h; clear hc
    obtain ⟨x23, hx23, h⟩ := Comp.run_bind h
    obtain ⟨x24, hx24, h⟩ := Comp.run_bind h
    refine' region [_, _, SP.ptr rStr O18 x23, SP.isv (.string (str x23)), SP.isv (.agg #[.int .i64 x15.Seq, .int .i64 x15.Shop, .int .i64 x15.Kind, .int .i64 x15.Day, .int .i64 x15.N, .string (str x15.Before), .string (str x15.After), .string (str x15.Prev), .string (str x15.Mark)]), SP.isv (.agg #[.int .i64 x24.Seq, .int .i64 x24.Shop, .int .i64 x24.Kind, .int .i64 x24.Day, .int .i64 x24.N, .string (str x24.Before), .string (str x24.After), .string (str x24.Prev), .string (str x24.Mark)])] mixed hA (.cons (fun _ _ hE hK hg => ok_move (kn (hK 12 rfl) rfl q12)) (.cons (fun _ _ hE hK hg => ok_move (kn (hK 16 rfl) rfl q16)) (.cons (fun _ _ hE hK hg => okl_idx (r := rStr) (O := O18) ty28 ty9 rfl (ksv (j := 0) (hK 68 rfl) rfl rfl rfl) (rd_of (GR.v_ext _ f8 hE)) (ksv (j := 1) (hK 69 rfl) rfl rfl rfl) hx23) (.cons (fun _ _ hE hK hg => okl_ldr rStr (fun _ => rfl) ty9 rfl rfl rfl (kspS (φ := SP.ptr rStr O18 x23) (j := 2) (hK 70 rfl) rfl rfl rfl) (fun _ _ _ h => rStr_v.1 h)) (.cons (fun _ _ hE hK hg => ok_loadOwnAgg ty26 rfl (kn (hK 15 rfl) rfl q15) (OwnB.ext f21 hE).own rfl) (.cons ?z11_5 .nil)))))) ?zok11 ?zgd11 ?zk11
    case z11_5 => intro a' w' hE hK hg; have c_ := ok_passport_Sign (OkO.ext hB.ok hE)  hx24; exact ok_call2 fn19 (ksv (j := 3) (hK 71 rfl) rfl rfl rfl) (ksv (j := 4) (hK 72 rfl) rfl rfl rfl) c_
    case zok11 | zgd11 => kernel_rfl
    intro a12 w12 hA hE HF
    replace q11 := kn (HF 11) rfl q11
    replace q12 := kn (HF 12) rfl q12
    replace q13 := kn (HF 13) rfl q13
    replace q14 := kn (HF 14) rfl q14
    replace q15 := kn (HF 15) rfl q15
    replace q16 := kn (HF 16) rfl q16
    replace q17 := kn (HF 17) rfl q17
    have q73 := ksv (HF 73) rfl rfl rfl
    clear q67
    clear HF
    replace f8 := GR.v_ext _ f8 hE
    replace f10 := GR.v_ext _ f10 hE
    replace f21 := f21.ext hE
    replace hB := Base.step hB hE hO; clear hE
    refine l_storeSub (vs := [.int .i64 x24.Seq, .int .i64 x24.Shop, .int .i64 x24.Kind, .int .i64 x24.Day, .int .i64 x24.N, .string (str x24.Before), .string (str x24.After), .string (str x24.Prev), .string (str x24.Mark)]) (cs' := #[.int .i64 x24.Seq, .int .i64 x24.Shop, .int .i64 x24.Kind, .int .i64 x24.Day, .int .i64 x24.N, .string (str x24.Before), .string (str x24.After), .string (str x24.Prev), .string (str x24.Mark)]) hO hB (okB_fr hB) ty26 q15 q73 rfl (by simp [Value.oneCell']) f21 (by simp) rfl fun w13 f25 hB' hX => ?_
    clear hB f21; have hB := hB'; clear hB'
    replace f8 := GR.kx _ f8 hX (by decide)
    replace f10 := GR.kx _ f10 hX (by decide)
    clear hX
    refine li_nil (nx_then ?_)
    exact ⟨_, _, hA, hB, q11, q12, f8, q13, f10, q14, q15, q16, q17, f25, h⟩
   ·
    replace h := Comp.run_b_f hc h; clear hc
    refine wp_skip (nx_then ?_)
    exact ⟨_, _, hA, hB, q11, q12, f8, q13, f10, q14, q15, q16, q17, f21, h⟩
  intro a14 w14 hI
  clear hA hB h q11 q12 q13 q14 q15 q16 q17 f10 f21 f8
  obtain ⟨O27, x26, hA, hB, q11, q12, f8, q13, f10, q14, q15, q16, q17, f25, h⟩ := hI
  unfold colletlaw37_PassportBinds_j1 at h
  refine wp_seq (wp_seq ?_)
  obtain ⟨x28, hx28, h⟩ := Comp.run_bind h
  refine' region [SP.isv (.agg #[.int .i64 x26.Seq, .int .i64 x26.Shop, .int .i64 x26.Kind, .int .i64 x26.Day, .int .i64 x26.N, .string (str x26.Before), .string (str x26.After), .string (str x26.Prev), .string (str x26.Mark)]), _, _, SP.ptr r_api_Entry O27 x28, SP.isv (.agg #[.int .i64 x28.Seq, .int .i64 x28.Shop, .int .i64 x28.Kind, .int .i64 x28.Day, .int .i64 x28.N, .string (str x28.Before), .string (str x28.After), .string (str x28.Prev), .string (str x28.Mark)]), _] mixed hA (.cons (fun _ _ hE hK hg => ok_loadOwnAgg ty26 rfl (kn (hK 15 rfl) rfl q15) (OwnB.ext f25 hE).own rfl) (.cons (fun _ _ hE hK hg => ok_move (kn (hK 13 rfl) rfl q13)) (.cons (fun _ _ hE hK hg => ok_move (kn (hK 14 rfl) rfl q14)) (.cons (fun _ _ hE hK hg => okl_idx (r := r_api_Entry) (O := O27) ty29 ty26 rfl (ksv (j := 1) (hK 75 rfl) rfl rfl rfl) (rd_of (GR.v_ext _ f10 hE)) (ksv (j := 2) (hK 76 rfl) rfl rfl rfl) hx28) (.cons (fun _ _ hE hK hg => okl_ldr r_api_Entry fit_api_Entry ty26 rfl rfl rfl (kspS (φ := SP.ptr r_api_Entry O27 x28) (j := 3) (hK 77 rfl) rfl rfl rfl) (fun _ _ _ h => rC_v.1 h)) (.cons (fun _ _ hE hK hg => okl_eqlR (O1 := O27) (O2 := O27) (w1 := w14) (w2 := w14) eq_api_Entry rfl (by decide) (by kernel_rfl) (ksv (j := 0) (hK 74 rfl) rfl rfl rfl) (ksv (j := 4) (hK 78 rfl) rfl rfl rfl) ((rC_v (x := x26)).2 rfl) ((rC_v (x := x28)).2 rfl)) .nil)))))) ?zok12 ?zgd12 ?zk12
  case zok12 | zgd12 => kernel_rfl
  intro a15 w15 hA hE HF
  replace q11 := kn (HF 11) rfl q11
  replace q12 := kn (HF 12) rfl q12
  replace q13 := kn (HF 13) rfl q13
  replace q14 := kn (HF 14) rfl q14
  replace q15 := kn (HF 15) rfl q15
  replace q16 := kn (HF 16) rfl q16
  replace q17 := kn (HF 17) rfl q17
  have q79 := ksv (HF 79) rfl rfl rfl
  clear HF
  replace f8 := GR.v_ext _ f8 hE
  replace f10 := GR.v_ext _ f10 hE
  replace f25 := f25.ext hE
  replace hB := Base.step hB hE hO; clear hE
  refine li_nil (nx_then ?_)
  refine wp_cond_b q79 (fun hc => ?_) (fun hc => ?_)
  ·
   replace h := Comp.run_b_t hc h; clear hc
   refine wp_seq ?_
   obtain ⟨x29, hx29, h⟩ := Comp.run_bind h
   refine' region [_, _, _, _, SP.isv (.bool x29), _, _] mixed hA (.cons (fun _ _ hE hK hg => ok_move (kn (hK 11 rfl) rfl q11)) (.cons (fun _ _ hE hK hg => ok_move (ksv (j := 0) (hK 80 rfl) rfl rfl rfl)) (.cons (fun _ _ hE hK hg => ok_move (kn (hK 12 rfl) rfl q12)) (.cons (fun _ _ hE hK hg => ok_move (kn (hK 13 rfl) rfl q13)) (.cons ?z13_4 (.cons ?z13_5 (.cons (fun _ _ hE hK hg => ok_assign (ksv (j := 5) (hK 85 rfl) rfl rfl rfl)) .nil))))))) ?zok13 ?zgd13 ?zk13
   case z13_4 => intro a' w' hE hK hg; have c_ := ok_colletlaw37_finds (OkO.ext hB.ok hE) (GR.v_ext _ f8 hE) (GR.v_ext _ f10 hE) (run_gdb hx29 hg); exact ok_call4 fn31 (ksv (j := 2) (hK 82 rfl) rfl rfl hg) (ksv (j := 3) (hK 83 rfl) rfl rfl hg) rfl rfl c_
   case z13_5 => intro a' w' hE hK hg; exact ok_pick (ksv (j := 1) (hK 81 rfl) rfl rfl rfl) (fun hb => ksv (j := 4) (hK 84 rfl) rfl rfl (act_g1 rfl rfl hb)) (fun _ => rfl)
   case zok13 | zgd13 => kernel_rfl
   intro a16 w16 hA hE HF
   have q10 := ksv (HF 10) rfl rfl rfl
   clear q11
   clear q12
   clear q13
   clear q14
   clear q15
   clear q16
   clear q17
   clear q79
   clear HF
   replace f8 := GR.v_ext _ f8 hE
   replace f10 := GR.v_ext _ f10 hE
   replace f25 := f25.ext hE
   replace hB := Base.step hB hE hO; clear hE
   refine li_nil (nx_then (wp_ret (rt_then ?_)))
   have h := Comp.run_pure h; subst h
   exact retPure Try.results6 hA q10 hB.ext rfl
  ·
   replace h := Comp.run_b_f hc h; clear hc
   refine wp_skip (nx_then (wp_seq ?_))
   refine' regionT [] hA .nil ?zok14 ?zgd14 ?zk14
   case zok14 | zgd14 => kernel_rfl
   intro a17 w17 hA hE HF
   replace q11 := kn (HF 11) rfl q11
   replace q12 := kn (HF 12) rfl q12
   replace q13 := kn (HF 13) rfl q13
   replace q14 := kn (HF 14) rfl q14
   replace q15 := kn (HF 15) rfl q15
   replace q16 := kn (HF 16) rfl q16
   replace q17 := kn (HF 17) rfl q17
   clear q79
   clear HF
   replace f8 := GR.v_ext _ f8 hE
   replace f10 := GR.v_ext _ f10 hE
   replace f25 := f25.ext hE
   replace hB := Base.step hB hE hO; clear hE
   refine l_ok (φ := SP.ownr r_api_Entry 26 w17.heap.size O27 []) hO hB (by exact okl_buildSlice (r := r_api_Entry) fit_api_Entry rfl hB.ok ty29 ty26 (Nat.le_refl _) parts_nil trivial rfl (by decide)) rfl fun u30 w18 hE hB' f31 => ?_
   clear hB'; obtain ⟨O32, hB', hX, f33⟩ := ownNew hO hB hE f31 rfl 2 (by decide)
   clear hB f31; have hB := hB'; clear hB'
   replace f8 := GR.kx _ f8 hX (by decide)
   replace f10 := GR.kx _ f10 hX (by decide)
   replace f25 := f25.kx hX (by decide)
   clear hX hE
   refine put_cont hA (by decide) fun a19 hA q_ hfr => ?_
   replace q11 := (hfr 11 rfl).trans q11
   replace q12 := (hfr 12 rfl).trans q12
   replace q13 := (hfr 13 rfl).trans q13
   replace q14 := (hfr 14 rfl).trans q14
   replace q15 := (hfr 15 rfl).trans q15
   replace q16 := (hfr 16 rfl).trans q16
   replace q17 := (hfr 17 rfl).trans q17
   have q86 := q_; clear q_ hfr
   refine l_ok (φ := SP.isv (u9)) hO hB (by exact ok_move q13) rfl fun u_ w20 hE hB' hv_ => ?_
   replace hv_ := Eq.symm hv_; subst hv_; clear hB; have hB := hB'; clear hB'
   replace f8 := GR.v_ext _ f8 hE
   replace f10 := GR.v_ext _ f10 hE
   replace f33 := f33.ext hE
   replace f25 := f25.ext hE
   clear hE
   refine put_cont hA (by decide) fun a21 hA q_ hfr => ?_
   replace q11 := (hfr 11 rfl).trans q11
   replace q12 := (hfr 12 rfl).trans q12
   replace q13 := (hfr 13 rfl).trans q13
   replace q14 := (hfr 14 rfl).trans q14
   replace q15 := (hfr 15 rfl).trans q15
   replace q16 := (hfr 16 rfl).trans q16
   replace q17 := (hfr 17 rfl).trans q17
   replace q86 := (hfr 86 rfl).trans q86
   have q87 := q_; clear q_ hfr
   obtain ⟨x34, hx34, h⟩ := Comp.run_bind h
   refine l_append (r := r_api_Entry) fit_api_Entry rfl ty29 ty26 rfl (by decide) hO hB (okB_fr hB) q86 f33 q87 (rd_of f10) hx34 (by decide) fun u35 w22 O36 f37 hB' hX => ?_
   clear hB; have hB := hB'; clear hB'
   clear f33
   replace f8 := GR.kx _ f8 hX (by decide)
   replace f10 := GR.kx _ f10 hX (by decide)
   replace f25 := f25.kx hX (by decide)
   clear hX
   refine put_cont hA (by decide) fun a23 hA q_ hfr => ?_
   replace q11 := (hfr 11 rfl).trans q11
   replace q12 := (hfr 12 rfl).trans q12
   replace q13 := (hfr 13 rfl).trans q13
   replace q14 := (hfr 14 rfl).trans q14
   replace q15 := (hfr 15 rfl).trans q15
   replace q16 := (hfr 16 rfl).trans q16
   replace q17 := (hfr 17 rfl).trans q17
   replace q86 := (hfr 86 rfl).trans q86
   replace q87 := (hfr 87 rfl).trans q87
   have q88 := q_; clear q_ hfr
   refine l_ok (φ := SP.isv (u35)) hO hB (by exact ok_assign q88) rfl fun u_ w24 hE hB' hv_ => ?_
   replace hv_ := Eq.symm hv_; subst hv_; clear hB; have hB := hB'; clear hB'
   replace f8 := GR.v_ext _ f8 hE
   replace f10 := GR.v_ext _ f10 hE
   replace f37 := f37.ext hE
   replace f25 := f25.ext hE
   clear hE
   refine put_cont hA (by decide) fun a25 hA q_ hfr => ?_
   replace q11 := (hfr 11 rfl).trans q11
   replace q12 := (hfr 12 rfl).trans q12
   replace q13 := (hfr 13 rfl).trans q13
   replace q14 := (hfr 14 rfl).trans q14
   replace q15 := (hfr 15 rfl).trans q15
   replace q16 := (hfr 16 rfl).trans q16
   replace q17 := (hfr 17 rfl).trans q17
   replace q88 := (hfr 88 rfl).trans q88
   have q18 := q_; clear q_ hfr
   refine li_nil (nx_then (wp_seq ?_))
   obtain ⟨x38, hx38, h⟩ := Comp.run_bind h
   refine' regionT [_, _, SP.isv (.agg #[.int .i64 x26.Seq, .int .i64 x26.Shop, .int .i64 x26.Kind, .int .i64 x26.Day, .int .i64 x26.N, .string (str x26.Before), .string (str x26.After), .string (str x26.Prev), .string (str x26.Mark)]), SP.elt (u35) (Int.toNat x12 * 9)] hA (.cons (fun _ _ hE hK hg => ok_move (kn (hK 18 rfl) rfl q18)) (.cons (fun _ _ hE hK hg => ok_move (kn (hK 14 rfl) rfl q14)) (.cons (fun _ _ hE hK hg => ok_loadOwnAgg ty26 rfl (kn (hK 15 rfl) rfl q15) (OwnB.ext f25 hE).own rfl) (.cons (fun _ _ hE hK hg => okl_idxOwn rfl ty29 ty26 (ksv (j := 0) (hK 89 rfl) rfl rfl rfl) (OwnL.ext f37 hE) (ksv (j := 1) (hK 90 rfl) rfl rfl rfl) (idx_lt hx38)) .nil)))) ?zok15 ?zgd15 ?zk15
   case zok15 | zgd15 => kernel_rfl
   intro a26 w26 hA hE HF
   replace q11 := kn (HF 11) rfl q11
   replace q12 := kn (HF 12) rfl q12
   replace q13 := kn (HF 13) rfl q13
   replace q14 := kn (HF 14) rfl q14
   replace q15 := kn (HF 15) rfl q15
   replace q16 := kn (HF 16) rfl q16
   replace q17 := kn (HF 17) rfl q17
   replace q18 := kn (HF 18) rfl q18
   have q91 := ksv (HF 91) rfl rfl rfl
   have f40 := ksp (HF 92) rfl rfl rfl
   obtain ⟨u39, q92'⟩ : ∃ u, a26.get 92 = u := ⟨_, rfl⟩
   rw [q92'] at f40
   have q92 := q92'; clear q92'
   clear HF
   replace f8 := GR.v_ext _ f8 hE
   replace f10 := GR.v_ext _ f10 hE
   replace f37 := f37.ext hE
   replace f25 := f25.ext hE
   replace hB := Base.step hB hE hO; clear hE
   obtain ⟨x42, hx42, h⟩ := Comp.run_bind h
   refine l_storeElt (r := r_api_Entry) fit_api_Entry rfl hO hB (okB_fr hB) ty26 q92 f40 f37 q91 (by first | exact (rC_v (x := x26)).2 rfl | exact ⟨_, rfl, rfl⟩) hx42 (by decide) fun w27 f41 hB' hX => ?_
   clear hB; have hB := hB'; clear hB'
   replace f8 := GR.kx _ f8 hX (by decide)
   replace f10 := GR.kx _ f10 hX (by decide)
   replace f25 := f25.kx hX (by decide)
   clear hX f37
   refine li_nil (nx_then (wp_seq ?_))
   obtain ⟨x43, hx43, h⟩ := Comp.run_bind h
   refine' regionT [_, _, SP.isv (.agg #[.int .i64 x43.Entry, .int .i64 x43.Why])] hA (.cons (fun _ _ hE hK hg => ok_move (kn (hK 12 rfl) rfl q12)) (.cons (fun _ _ hE hK hg => ok_move (kn (hK 18 rfl) rfl q18)) (.cons ?z16_2 .nil))) ?zok16 ?zgd16 ?zk16
   case z16_2 => intro a' w' hE hK hg; have c_ := ok_passport_Check (okO_zero _) (GR.lend _ (GR.v_ext _ f8 hE)) (OwnL.lend (OwnL.ext f41 hE)) hx43; exact ok_call2 fn25 (ksv (j := 0) (hK 93 rfl) rfl rfl rfl) (ksv (j := 1) (hK 94 rfl) rfl rfl rfl) c_
   case zok16 | zgd16 => kernel_rfl
   intro a28 w28 hA hE HF
   replace q11 := kn (HF 11) rfl q11
   replace q12 := kn (HF 12) rfl q12
   replace q13 := kn (HF 13) rfl q13
   replace q14 := kn (HF 14) rfl q14
   replace q15 := kn (HF 15) rfl q15
   replace q16 := kn (HF 16) rfl q16
   replace q17 := kn (HF 17) rfl q17
   have q95 := ksv (HF 95) rfl rfl rfl
   clear q18
   clear HF
   replace f8 := GR.v_ext _ f8 hE
   replace f10 := GR.v_ext _ f10 hE
   replace f41 := f41.ext hE
   replace f25 := f25.ext hE
   replace hB := Base.step hB hE hO; clear hE
   refine l_ok (φ := SP.box w28.heap.size #[.int .i64 0, .int .i64 0] 44) hO hB (by exact ok_alloc (Nat.le_refl _) ty44) rfl fun u44 w29 hE hB' f45 => ?_
   clear hB'; obtain ⟨O46, b48, hB', hX, e_, f47⟩ := boxNew hO hB hE f45 3 (by decide)
   subst e_; clear hB f45; have hB := hB'; clear hB'
   replace f8 := GR.kx _ f8 hX (by decide)
   replace f10 := GR.kx _ f10 hX (by decide)
   replace f25 := f25.kx hX (by decide)
   clear hX hE
   refine put_cont hA (by decide) fun a30 hA q_ hfr => ?_
   replace q11 := (hfr 11 rfl).trans q11
   replace q12 := (hfr 12 rfl).trans q12
   replace q13 := (hfr 13 rfl).trans q13
   replace q14 := (hfr 14 rfl).trans q14
   replace q15 := (hfr 15 rfl).trans q15
   replace q16 := (hfr 16 rfl).trans q16
   replace q17 := (hfr 17 rfl).trans q17
   replace q95 := (hfr 95 rfl).trans q95
   have q19 := q_; clear q_ hfr
   refine l_storeSub (vs := [.int .i64 x43.Entry, .int .i64 x43.Why]) (cs' := #[.int .i64 x43.Entry, .int .i64 x43.Why]) hO hB (okB_fr hB) ty44 q19 q95 rfl (by simp [Value.oneCell']) f47 (by simp) rfl fun w31 f49 hB' hX => ?_
   clear hB f47; have hB := hB'; clear hB'
   replace f8 := GR.kx _ f8 hX (by decide)
   replace f10 := GR.kx _ f10 hX (by decide)
   replace f25 := f25.kx hX (by decide)
   clear hX
   refine li_nil (nx_then (wp_seq ?_))
   obtain ⟨x50, hx50, h⟩ := Comp.run_bind h
   obtain ⟨x51, hx51, h⟩ := Comp.run_bind h
   obtain ⟨x52, hx52, h⟩ := Comp.run_bind h
   obtain ⟨x53, hx53, h⟩ := Comp.run_bind h
   obtain ⟨x54, hx54, h⟩ := Comp.run_bind h
   obtain ⟨x55, hx55, h⟩ := Comp.run_bind h
   refine' region [SP.isv (.agg #[.int .i64 x26.Seq, .int .i64 x26.Shop, .int .i64 x26.Kind, .int .i64 x26.Day, .int .i64 x26.N, .string (str x26.Before), .string (str x26.After), .string (str x26.Prev), .string (str x26.Mark)]), SP.isv (.string (str x50)), SP.isv (.pointer (some ⟨b19, 8, none⟩)), SP.isv (.string (str x26.Mark)), SP.isv (.string (str x51)), _, _, SP.ptr r_api_Entry O46 x52, SP.isv (.agg #[.int .i64 x52.Seq, .int .i64 x52.Shop, .int .i64 x52.Kind, .int .i64 x52.Day, .int .i64 x52.N, .string (str x52.Before), .string (str x52.After), .string (str x52.Prev), .string (str x52.Mark)]), SP.isv (.string (str x53)), _, _, SP.ptr r_api_Entry O46 x54, SP.ptr rStr O46 x54.Mark, SP.isv (.string (str x54.Mark)), SP.isv (.string (str x55)), _, _] mixed hA (.cons (fun _ _ hE hK hg => ok_loadOwnAgg ty26 rfl (kn (hK 15 rfl) rfl q15) (OwnB.ext f25 hE).own rfl) (.cons ?z17_1 (.cons (fun _ _ hE hK hg => ok_fieldAddr fl26_8 (kn (hK 15 rfl) rfl q15)) (.cons (fun _ _ hE hK hg => ok_loadOwn ty9 rfl (ksv (j := 2) (hK 98 rfl) rfl rfl rfl) (OwnB.ext f25 hE).own rfl) (.cons ?z17_4 (.cons (fun _ _ hE hK hg => ok_move (kn (hK 13 rfl) rfl q13)) (.cons (fun _ _ hE hK hg => ok_move (kn (hK 14 rfl) rfl q14)) (.cons (fun _ _ hE hK hg => okl_idx (r := r_api_Entry) (O := O46) ty29 ty26 rfl (ksv (j := 5) (hK 101 rfl) rfl rfl rfl) (rd_of (GR.v_ext _ f10 hE)) (ksv (j := 6) (hK 102 rfl) rfl rfl rfl) hx52) (.cons (fun _ _ hE hK hg => okl_ldr r_api_Entry fit_api_Entry ty26 rfl rfl rfl (kspS (φ := SP.ptr r_api_Entry O46 x52) (j := 7) (hK 103 rfl) rfl rfl rfl) (fun _ _ _ h => rC_v.1 h)) (.cons ?z17_9 (.cons (fun _ _ hE hK hg => ok_move (kn (hK 13 rfl) rfl q13)) (.cons (fun _ _ hE hK hg => ok_move (kn (hK 14 rfl) rfl q14)) (.cons (fun _ _ hE hK hg => okl_idx (r := r_api_Entry) (O := O46) ty29 ty26 rfl (ksv (j := 10) (hK 106 rfl) rfl rfl rfl) (rd_of (GR.v_ext _ f10 hE)) (ksv (j := 11) (hK 107 rfl) rfl rfl rfl) hx54) (.cons (fun _ _ hE hK hg => okl_fld (S := r_api_Entry) rfl (fun _ => rfl) sb_api_Entry_8 fl26_8 rfl (kspS (φ := SP.ptr r_api_Entry O46 x54) (j := 12) (hK 108 rfl) rfl rfl rfl)) (.cons (fun _ _ hE hK hg => okl_ldr rStr (fun _ => rfl) ty9 rfl rfl rfl (kspS (φ := SP.ptr rStr O46 x54.Mark) (j := 13) (hK 109 rfl) rfl rfl rfl) (fun _ _ _ h => rStr_v.1 h)) (.cons ?z17_15 (.cons (fun _ _ hE hK hg => okl_eqlS (ksv (j := 4) (hK 100 rfl) rfl rfl rfl) (ksv (j := 15) (hK 111 rfl) rfl rfl rfl)) (.cons (fun _ _ hE hK hg => ok_assign (ksv (j := 16) (hK 112 rfl) rfl rfl rfl)) .nil)))))))))))))))))) ?zok17 ?zgd17 ?zk17
   case z17_1 => intro a' w' hE hK hg; have c_ := ok_colletref37_Bytes (OkO.ext hB.ok hE)  hx50; exact ok_call1 fn18 (ksv (j := 0) (hK 96 rfl) rfl rfl rfl) c_
   case z17_4 => intro a' w' hE hK hg; have c_ := ok_colletref02_Chain (OkO.ext hB.ok hE)  hx51; exact ok_call2 fn32 (ksv (j := 1) (hK 97 rfl) rfl rfl rfl) (ksv (j := 3) (hK 99 rfl) rfl rfl rfl) c_
   case z17_9 => intro a' w' hE hK hg; have c_ := ok_colletref37_Bytes (OkO.ext hB.ok hE)  hx53; exact ok_call1 fn18 (ksv (j := 8) (hK 104 rfl) rfl rfl rfl) c_
   case z17_15 => intro a' w' hE hK hg; have c_ := ok_colletref02_Chain (OkO.ext hB.ok hE)  hx55; exact ok_call2 fn32 (ksv (j := 9) (hK 105 rfl) rfl rfl rfl) (ksv (j := 14) (hK 110 rfl) rfl rfl rfl) c_
   case zok17 | zgd17 => kernel_rfl
   intro a32 w32 hA hE HF
   replace q11 := kn (HF 11) rfl q11
   replace q12 := kn (HF 12) rfl q12
   replace q13 := kn (HF 13) rfl q13
   replace q14 := kn (HF 14) rfl q14
   replace q15 := kn (HF 15) rfl q15
   replace q16 := kn (HF 16) rfl q16
   replace q17 := kn (HF 17) rfl q17
   replace q19 := kn (HF 19) rfl q19
   have q20 := ksv (HF 20) rfl rfl rfl
   clear HF
   replace f8 := GR.v_ext _ f8 hE
   replace f10 := GR.v_ext _ f10 hE
   replace f25 := f25.ext hE
   replace f49 := f49.ext hE
   replace hB := Base.step hB hE hO; clear hE
   refine li_nil (nx_then (wp_seq (wp_seq ?_)))
   refine' region [_, _] mixed hA (.cons (fun _ _ hE hK hg => ok_move (kn (hK 17 rfl) rfl q17)) (.cons (fun _ _ hE hK hg => ok_not (ksv (j := 0) (hK 113 rfl) rfl rfl rfl)) .nil)) ?zok18 ?zgd18 ?zk18
   case zok18 | zgd18 => kernel_rfl
   intro a33 w33 hA hE HF
   replace q11 := kn (HF 11) rfl q11
   replace q12 := kn (HF 12) rfl q12
   replace q13 := kn (HF 13) rfl q13
   replace q14 := kn (HF 14) rfl q14
   replace q15 := kn (HF 15) rfl q15
   replace q16 := kn (HF 16) rfl q16
   replace q19 := kn (HF 19) rfl q19
   replace q20 := kn (HF 20) rfl q20
   have q114 := ksv (HF 114) rfl rfl rfl
   clear q17
   clear HF
   replace f8 := GR.v_ext _ f8 hE
   replace f10 := GR.v_ext _ f10 hE
   replace f25 := f25.ext hE
   replace f49 := f49.ext hE
   replace hB := Base.step hB hE hO; clear hE
   refine li_nil (nx_then ?_)
   refine wp_cond_b q114 (fun hc => ?_) (fun hc => ?_)
   ·
    replace h := Comp.run_b_t hc h; clear hc
    refine wp_seq ?_
    obtain ⟨x56, hx56, h⟩ := Comp.run_bind h
    obtain ⟨x57, hx57, h⟩ := Comp.run_bind h
    obtain ⟨x58, hx58, h⟩ := Comp.run_bind h
    refine' region [SP.isv (.pointer (some ⟨b19, 1, none⟩)), SP.isv (.int .i64 x26.Shop), _, _, SP.isv (.pointer (some ⟨b19, 1, none⟩)), SP.isv (.int .i64 x26.Shop), _, _, _, _, _, _, SP.isv (.pointer (some ⟨b19, 1, none⟩)), SP.isv (.int .i64 x26.Shop), SP.ptr rStr O46 x56, SP.isv (.string (str x56)), SP.isv (.agg #[.int .i64 x26.Seq, .int .i64 x26.Shop, .int .i64 x26.Kind, .int .i64 x26.Day, .int .i64 x26.N, .string (str x26.Before), .string (str x26.After), .string (str x26.Prev), .string (str x26.Mark)]), SP.isv (.string (str x57)), SP.isv (.pointer (some ⟨b19, 8, none⟩)), SP.isv (.string (str x26.Mark)), SP.isv (.bool x58), _, _] mixed hA (.cons (fun _ _ hE hK hg => ok_fieldAddr fl26_1 (kn (hK 15 rfl) rfl q15)) (.cons (fun _ _ hE hK hg => ok_loadOwn ty3 rfl (ksv (j := 0) (hK 115 rfl) rfl rfl rfl) (OwnB.ext f25 hE).own rfl) (.cons (fun _ _ hE hK hg => ok_geq (ksv (j := 1) (hK 116 rfl) rfl rfl rfl) rfl) (.cons (fun _ _ hE hK hg => ok_move (ksv (j := 2) (hK 117 rfl) rfl rfl rfl)) (.cons (fun _ _ hE hK hg => ok_fieldAddr fl26_1 (kn (hK 15 rfl) rfl q15)) (.cons ?z19_5 (.cons (fun _ _ hE hK hg => ok_move (kn (hK 12 rfl) rfl q12)) (.cons ?z19_7 (.cons ?z19_8 (.cons ?z19_9 (.cons (fun _ _ hE hK hg => ok_move (ksv (j := 9) (hK 124 rfl) rfl rfl rfl)) (.cons (fun _ _ hE hK hg => ok_move (kn (hK 12 rfl) rfl q12)) (.cons (fun _ _ hE hK hg => ok_fieldAddr fl26_1 (kn (hK 15 rfl) rfl q15)) (.cons ?z19_13 (.cons ?z19_14 (.cons ?z19_15 (.cons (fun _ _ hE hK hg => ok_loadOwnAgg ty26 rfl (kn (hK 15 rfl) rfl q15) (OwnB.ext f25 hE).own rfl) (.cons ?z19_17 (.cons (fun _ _ hE hK hg => ok_fieldAddr fl26_8 (kn (hK 15 rfl) rfl q15)) (.cons ?z19_19 (.cons ?z19_20 (.cons ?z19_21 (.cons (fun _ _ hE hK hg => ok_assign (ksv (j := 21) (hK 136 rfl) rfl rfl rfl)) .nil))))))))))))))))))))))) ?zok19 ?zgd19 ?zk19
    case z19_5 => intro a' w' hE hK hg; exact ok_loadOwn ty3 rfl (ksv (j := 4) (hK 119 rfl) rfl rfl hg) (OwnB.ext f25 hE).own rfl
    case z19_7 => intro a' w' hE hK hg; exact okl_len (r := rStr) ty28 (ksv (j := 6) (hK 121 rfl) rfl rfl hg) (rd_of (GR.v_ext _ f8 hE))
    case z19_8 => intro a' w' hE hK hg; exact ok_lss (ksv (j := 5) (hK 120 rfl) rfl rfl hg) (ksv (j := 7) (hK 122 rfl) rfl rfl hg)
    case z19_9 => intro a' w' hE hK hg; exact ok_pick (ksv (j := 3) (hK 118 rfl) rfl rfl rfl) (fun hb => ksv (j := 8) (hK 123 rfl) rfl rfl (act_g1 rfl rfl hb)) (fun _ => rfl)
    case z19_13 => intro a' w' hE hK hg; exact ok_loadOwn ty3 rfl (ksv (j := 12) (hK 127 rfl) rfl rfl hg) (OwnB.ext f25 hE).own rfl
    case z19_14 => intro a' w' hE hK hg; exact okl_idx (r := rStr) (O := O46) ty28 ty9 rfl (ksv (j := 11) (hK 126 rfl) rfl rfl hg) (rd_of (GR.v_ext _ f8 hE)) (ksv (j := 13) (hK 128 rfl) rfl rfl hg) (run_gdb hx56 hg)
    case z19_15 => intro a' w' hE hK hg; exact okl_ldr rStr (fun _ => rfl) ty9 rfl rfl rfl (kspS (φ := SP.ptr rStr O46 x56) (j := 14) (hK 129 rfl) rfl rfl hg) (fun _ _ _ h => rStr_v.1 h)
    case z19_17 => intro a' w' hE hK hg; have c_ := ok_colletref37_Bytes (OkO.ext hB.ok hE)  (run_gdb hx57 hg); exact ok_call1 fn18 (ksv (j := 16) (hK 131 rfl) rfl rfl hg) c_
    case z19_19 => intro a' w' hE hK hg; exact ok_loadOwn ty9 rfl (ksv (j := 18) (hK 133 rfl) rfl rfl hg) (OwnB.ext f25 hE).own rfl
    case z19_20 => intro a' w' hE hK hg; have c_ := ok_colletref02_Check (OkO.ext hB.ok hE)  (run_gdb hx58 hg); exact ok_call3 fn33 (ksv (j := 15) (hK 130 rfl) rfl rfl hg) (ksv (j := 17) (hK 132 rfl) rfl rfl hg) (ksv (j := 19) (hK 134 rfl) rfl rfl hg) c_
    case z19_21 => intro a' w' hE hK hg; exact ok_pick (ksv (j := 10) (hK 125 rfl) rfl rfl rfl) (fun hb => ksv (j := 20) (hK 135 rfl) rfl rfl (act_g1 rfl rfl hb)) (fun _ => rfl)
    case zok19 | zgd19 => kernel_rfl
    intro a34 w34 hA hE HF
    replace q11 := kn (HF 11) rfl q11
    replace q14 := kn (HF 14) rfl q14
    replace q19 := kn (HF 19) rfl q19
    have q21 := ksv (HF 21) rfl rfl rfl
    clear q12
    clear q13
    clear q15
    clear q16
    clear q20
    clear q114
    clear HF
    replace f8 := GR.v_ext _ f8 hE
    replace f10 := GR.v_ext _ f10 hE
    replace f25 := f25.ext hE
    replace f49 := f49.ext hE
    replace hB := Base.step hB hE hO; clear hE
    obtain ⟨x59, hx_, h⟩ := Comp.run_bind h; replace hx_ := Comp.run_pure hx_; rw [hx_] at q21; clear hx_
    refine li_nil (nx_then (wp_seq ?_))
    refine' region [_, _, SP.isv (.pointer (some ⟨b48, 0, none⟩)), SP.isv (.int .i64 x43.Entry), _, _, _, SP.isv (.pointer (some ⟨b48, 1, none⟩)), SP.isv (.int .i64 x43.Why), _, _, _, _, _, _, _] mixed hA (.cons (fun _ _ hE hK hg => ok_move (kn (hK 11 rfl) rfl q11)) (.cons (fun _ _ hE hK hg => ok_move (ksv (j := 0) (hK 137 rfl) rfl rfl rfl)) (.cons (fun _ _ hE hK hg => ok_fieldAddr fl44_0 (kn (hK 19 rfl) rfl q19)) (.cons ?z20_3 (.cons (fun _ _ hE hK hg => ok_move (kn (hK 14 rfl) rfl q14)) (.cons ?z20_5 (.cons ?z20_6 (.cons (fun _ _ hE hK hg => ok_fieldAddr fl44_1 (kn (hK 19 rfl) rfl q19)) (.cons ?z20_8 (.cons ?z20_9 (.cons ?z20_10 (.cons ?z20_11 (.cons (fun _ _ hE hK hg => ok_move (kn (hK 21 rfl) rfl q21)) (.cons ?z20_13 (.cons ?z20_14 (.cons (fun _ _ hE hK hg => ok_assign (ksv (j := 14) (hK 151 rfl) rfl rfl rfl)) .nil)))))))))))))))) ?zok20 ?zgd20 ?zk20
    case z20_3 => intro a' w' hE hK hg; exact ok_loadOwn ty3 rfl (ksv (j := 2) (hK 139 rfl) rfl rfl hg) (OwnB.ext f49 hE).own rfl
    case z20_5 => intro a' w' hE hK hg; exact ok_eqlI (ksv (j := 3) (hK 140 rfl) rfl rfl hg) (ksv (j := 4) (hK 141 rfl) rfl rfl hg)
    case z20_6 => intro a' w' hE hK hg; exact ok_move (ksv (j := 5) (hK 142 rfl) rfl rfl hg)
    case z20_8 => intro a' w' hE hK hg; exact ok_loadOwn ty42 rfl (ksv (j := 7) (hK 144 rfl) rfl rfl hg) (OwnB.ext f49 hE).own rfl
    case z20_9 => intro a' w' hE hK hg; exact ok_neqI (ksv (j := 8) (hK 145 rfl) rfl rfl hg) rfl
    case z20_10 => intro a' w' hE hK hg; exact ok_pick (ksv (j := 6) (hK 143 rfl) rfl rfl hg) (fun hb => ksv (j := 9) (hK 146 rfl) rfl rfl (act_g1 rfl hg hb)) (fun _ => rfl)
    case z20_11 => intro a' w' hE hK hg; exact ok_move (ksv (j := 10) (hK 147 rfl) rfl rfl hg)
    case z20_13 => intro a' w' hE hK hg; exact ok_pick (ksv (j := 11) (hK 148 rfl) rfl rfl hg) (fun _ => rfl) (fun hb => ksv (j := 12) (hK 149 rfl) rfl rfl (act_g1 rfl hg hb))
    case z20_14 => intro a' w' hE hK hg; exact ok_pick (ksv (j := 1) (hK 138 rfl) rfl rfl rfl) (fun hb => ksv (j := 13) (hK 150 rfl) rfl rfl (act_g1 rfl rfl hb)) (fun _ => rfl)
    case zok20 | zgd20 => kernel_rfl
    intro a35 w35 hA hE HF
    have q10 := ksv (HF 10) rfl rfl rfl
    clear q11
    clear q14
    clear q19
    clear q21
    clear HF
    replace f49 := f49.ext hE
    replace hB := Base.step hB hE hO; clear hE
    obtain ⟨x60, hx_, h⟩ := Comp.run_bind h; replace hx_ := Comp.run_pure hx_; rw [hx_] at q10; clear hx_
    refine li_nil (nx_then (wp_ret (rt_then ?_)))
    have h := Comp.run_pure h; subst h
    exact retPure Try.results6 hA q10 hB.ext rfl
   ·
    replace h := Comp.run_b_f hc h; clear hc
    refine wp_skip (nx_then (wp_seq ?_))
    refine' region [_, _, _, _, _, _] mixed hA (.cons (fun _ _ hE hK hg => ok_move (kn (hK 14 rfl) rfl q14)) (.cons (fun _ _ hE hK hg => ok_move (kn (hK 13 rfl) rfl q13)) (.cons (fun _ _ hE hK hg => okl_len (r := r_api_Entry) ty29 (ksv (j := 1) (hK 153 rfl) rfl rfl rfl) (rd_of (GR.v_ext _ f10 hE))) (.cons (fun _ _ hE hK hg => ok_sub (ksv (j := 2) (hK 154 rfl) rfl rfl rfl) rfl) (.cons (fun _ _ hE hK hg => ok_eqlI (ksv (j := 0) (hK 152 rfl) rfl rfl rfl) (ksv (j := 3) (hK 155 rfl) rfl rfl rfl)) (.cons (fun _ _ hE hK hg => ok_assign (ksv (j := 4) (hK 156 rfl) rfl rfl rfl)) .nil)))))) ?zok21 ?zgd21 ?zk21
    case zok21 | zgd21 => kernel_rfl
    intro a36 w36 hA hE HF
    replace q11 := kn (HF 11) rfl q11
    replace q12 := kn (HF 12) rfl q12
    replace q14 := kn (HF 14) rfl q14
    replace q15 := kn (HF 15) rfl q15
    replace q16 := kn (HF 16) rfl q16
    replace q19 := kn (HF 19) rfl q19
    replace q20 := kn (HF 20) rfl q20
    have q22 := ksv (HF 22) rfl rfl rfl
    clear q13
    clear q114
    clear HF
    replace f8 := GR.v_ext _ f8 hE
    replace f10 := GR.v_ext _ f10 hE
    replace f25 := f25.ext hE
    replace f49 := f49.ext hE
    replace hB := Base.step hB hE hO; clear hE
    obtain ⟨x61, hx_, h⟩ := Comp.run_bind h; replace hx_ := Comp.run_pure hx_; rw [hx_] at q22; clear hx_
    refine li_nil (nx_then (wp_seq (wp_seq ?_)))
    refine' region [_, _, SP.isv (.agg #[.int .i64 x43.Entry, .int .i64 x43.Why]), SP.isv (.agg #[.int .i64 (-1), .int .i64 0]), _, _] mixed hA (.cons (fun _ _ hE hK hg => ok_move (kn (hK 22 rfl) rfl q22)) (.cons (fun _ _ hE hK hg => ok_move (ksv (j := 0) (hK 157 rfl) rfl rfl rfl)) (.cons (fun _ _ hE hK hg => ok_loadOwnAgg ty44 rfl (kn (hK 19 rfl) rfl q19) (OwnB.ext f49 hE).own rfl) (.cons (fun _ _ hE hK hg => okl_build plc44 ty44 (pk_cons (v := .int .i64 (-1)) rfl pk_nil) rfl (.cons rfl rfl rfl (leb rfl) .nil) rfl) (.cons ?z22_4 (.cons ?z22_5 .nil)))))) ?zok22 ?zgd22 ?zk22
    case z22_4 => intro a' w' hE hK hg; exact okl_eqlR (O1 := O46) (O2 := O46) (w1 := w36) (w2 := w36) eq_api_Finding rfl (by decide) (by kernel_rfl) (ksv (j := 2) (hK 159 rfl) rfl rfl hg) (ksv (j := 3) (hK 160 rfl) rfl rfl hg) ((rC_v (x := x43)).2 rfl) ((rC_v (x := (api_Finding.mk (-1) 0))).2 rfl)
    case z22_5 => intro a' w' hE hK hg; exact ok_pick (ksv (j := 1) (hK 158 rfl) rfl rfl rfl) (fun hb => ksv (j := 4) (hK 161 rfl) rfl rfl (act_g1 rfl rfl hb)) (fun _ => rfl)
    case zok22 | zgd22 => kernel_rfl
    intro a37 w37 hA hE HF
    replace q11 := kn (HF 11) rfl q11
    replace q12 := kn (HF 12) rfl q12
    replace q14 := kn (HF 14) rfl q14
    replace q15 := kn (HF 15) rfl q15
    replace q16 := kn (HF 16) rfl q16
    replace q19 := kn (HF 19) rfl q19
    replace q20 := kn (HF 20) rfl q20
    replace q22 := kn (HF 22) rfl q22
    have q162 := ksv (HF 162) rfl rfl rfl
    clear HF
    replace f8 := GR.v_ext _ f8 hE
    replace f25 := f25.ext hE
    replace f49 := f49.ext hE
    replace hB := Base.step hB hE hO; clear hE
    obtain ⟨x62, hx_, h⟩ := Comp.run_bind h; replace hx_ := Comp.run_pure hx_; rw [hx_] at q162; clear hx_
    refine li_nil (nx_then ?_)
    refine wp_cond_b q162 (fun hc => ?_) (fun hc => ?_)
    ·
     replace h := Comp.run_b_t hc h; clear hc
     refine wp_seq ?_
     obtain ⟨x63, hx63, h⟩ := Comp.run_bind h
     obtain ⟨x64, hx64, h⟩ := Comp.run_bind h
     obtain ⟨x65, hx65, h⟩ := Comp.run_bind h
     refine' region [_, _, _, _, SP.ptr rStr O46 x63, SP.isv (.string (str x63)), SP.isv (.agg #[.int .i64 x26.Seq, .int .i64 x26.Shop, .int .i64 x26.Kind, .int .i64 x26.Day, .int .i64 x26.N, .string (str x26.Before), .string (str x26.After), .string (str x26.Prev), .string (str x26.Mark)]), SP.isv (.string (str x64)), SP.isv (.pointer (some ⟨b19, 8, none⟩)), SP.isv (.string (str x26.Mark)), SP.isv (.bool x65), _, _] mixed hA (.cons (fun _ _ hE hK hg => ok_move (kn (hK 11 rfl) rfl q11)) (.cons (fun _ _ hE hK hg => ok_move (ksv (j := 0) (hK 163 rfl) rfl rfl rfl)) (.cons (fun _ _ hE hK hg => ok_move (kn (hK 12 rfl) rfl q12)) (.cons (fun _ _ hE hK hg => ok_move (kn (hK 16 rfl) rfl q16)) (.cons ?z23_4 (.cons ?z23_5 (.cons (fun _ _ hE hK hg => ok_loadOwnAgg ty26 rfl (kn (hK 15 rfl) rfl q15) (OwnB.ext f25 hE).own rfl) (.cons ?z23_7 (.cons (fun _ _ hE hK hg => ok_fieldAddr fl26_8 (kn (hK 15 rfl) rfl q15)) (.cons ?z23_9 (.cons ?z23_10 (.cons ?z23_11 (.cons (fun _ _ hE hK hg => ok_assign (ksv (j := 11) (hK 174 rfl) rfl rfl rfl)) .nil))))))))))))) ?zok23 ?zgd23 ?zk23
     case z23_4 => intro a' w' hE hK hg; exact okl_idx (r := rStr) (O := O46) ty28 ty9 rfl (ksv (j := 2) (hK 165 rfl) rfl rfl hg) (rd_of (GR.v_ext _ f8 hE)) (ksv (j := 3) (hK 166 rfl) rfl rfl hg) (run_gdb hx63 hg)
     case z23_5 => intro a' w' hE hK hg; exact okl_ldr rStr (fun _ => rfl) ty9 rfl rfl rfl (kspS (φ := SP.ptr rStr O46 x63) (j := 4) (hK 167 rfl) rfl rfl hg) (fun _ _ _ h => rStr_v.1 h)
     case z23_7 => intro a' w' hE hK hg; have c_ := ok_passport_Bytes (OkO.ext hB.ok hE)  (run_gdb hx64 hg); exact ok_call1 fn17 (ksv (j := 6) (hK 169 rfl) rfl rfl hg) c_
     case z23_9 => intro a' w' hE hK hg; exact ok_loadOwn ty9 rfl (ksv (j := 8) (hK 171 rfl) rfl rfl hg) (OwnB.ext f25 hE).own rfl
     case z23_10 => intro a' w' hE hK hg; have c_ := ok_digest_Check (OkO.ext hB.ok hE)  (run_gdb hx65 hg); exact ok_call3 fn34 (ksv (j := 5) (hK 168 rfl) rfl rfl hg) (ksv (j := 7) (hK 170 rfl) rfl rfl hg) (ksv (j := 9) (hK 172 rfl) rfl rfl hg) c_
     case z23_11 => intro a' w' hE hK hg; exact ok_pick (ksv (j := 1) (hK 164 rfl) rfl rfl rfl) (fun hb => ksv (j := 10) (hK 173 rfl) rfl rfl (act_g1 rfl rfl hb)) (fun _ => rfl)
     case zok23 | zgd23 => kernel_rfl
     intro a38 w38 hA hE HF
     have q10 := ksv (HF 10) rfl rfl rfl
     clear q11
     clear q12
     clear q14
     clear q15
     clear q16
     clear q19
     clear q20
     clear q22
     clear q162
     clear HF
     replace f8 := GR.v_ext _ f8 hE
     replace f25 := f25.ext hE
     replace f49 := f49.ext hE
     replace hB := Base.step hB hE hO; clear hE
     refine li_nil (nx_then (wp_ret (rt_then ?_)))
     have h := Comp.run_pure h; subst h
     exact retPure Try.results6 hA q10 hB.ext rfl
    ·
     replace h := Comp.run_b_f hc h; clear hc
     refine wp_skip (nx_then (wp_seq ?_))
     refine' region [_, _, SP.isv (.pointer (some ⟨b48, 1, none⟩)), SP.isv (.int .i64 x43.Why), _, _, SP.isv (.pointer (some ⟨b48, 0, none⟩)), SP.isv (.int .i64 x43.Entry), _, _, _, SP.isv (.pointer (some ⟨b48, 0, none⟩)), SP.isv (.int .i64 x43.Entry), _, _, _, _, _, _, _, _, _, _, _, _, _, _] mixed hA (.cons (fun _ _ hE hK hg => ok_move (kn (hK 11 rfl) rfl q11)) (.cons (fun _ _ hE hK hg => ok_move (ksv (j := 0) (hK 175 rfl) rfl rfl rfl)) (.cons (fun _ _ hE hK hg => ok_fieldAddr fl44_1 (kn (hK 19 rfl) rfl q19)) (.cons ?z24_3 (.cons ?z24_4 (.cons ?z24_5 (.cons (fun _ _ hE hK hg => ok_fieldAddr fl44_0 (kn (hK 19 rfl) rfl q19)) (.cons ?z24_7 (.cons (fun _ _ hE hK hg => ok_move (kn (hK 14 rfl) rfl q14)) (.cons ?z24_9 (.cons ?z24_10 (.cons (fun _ _ hE hK hg => ok_fieldAddr fl44_0 (kn (hK 19 rfl) rfl q19)) (.cons ?z24_12 (.cons (fun _ _ hE hK hg => ok_move (kn (hK 14 rfl) rfl q14)) (.cons ?z24_14 (.cons ?z24_15 (.cons ?z24_16 (.cons (fun _ _ hE hK hg => ok_move (kn (hK 22 rfl) rfl q22)) (.cons ?z24_18 (.cons ?z24_19 (.cons ?z24_20 (.cons ?z24_21 (.cons ?z24_22 (.cons (fun _ _ hE hK hg => ok_move (kn (hK 20 rfl) rfl q20)) (.cons ?z24_24 (.cons ?z24_25 (.cons (fun _ _ hE hK hg => ok_assign (ksv (j := 25) (hK 200 rfl) rfl rfl rfl)) .nil))))))))))))))))))))))))))) ?zok24 ?zgd24 ?zk24
     case z24_3 => intro a' w' hE hK hg; exact ok_loadOwn ty42 rfl (ksv (j := 2) (hK 177 rfl) rfl rfl hg) (OwnB.ext f49 hE).own rfl
     case z24_4 => intro a' w' hE hK hg; exact ok_neqI (ksv (j := 3) (hK 178 rfl) rfl rfl hg) rfl
     case z24_5 => intro a' w' hE hK hg; exact ok_move (ksv (j := 4) (hK 179 rfl) rfl rfl hg)
     case z24_7 => intro a' w' hE hK hg; exact ok_loadOwn ty3 rfl (ksv (j := 6) (hK 181 rfl) rfl rfl hg) (OwnB.ext f49 hE).own rfl
     case z24_9 => intro a' w' hE hK hg; exact ok_eqlI (ksv (j := 7) (hK 182 rfl) rfl rfl hg) (ksv (j := 8) (hK 183 rfl) rfl rfl hg)
     case z24_10 => intro a' w' hE hK hg; exact ok_move (ksv (j := 9) (hK 184 rfl) rfl rfl hg)
     case z24_12 => intro a' w' hE hK hg; exact ok_loadOwn ty3 rfl (ksv (j := 11) (hK 186 rfl) rfl rfl hg) (OwnB.ext f49 hE).own rfl
     case z24_14 => intro a' w' hE hK hg; exact ok_add (ksv (j := 13) (hK 188 rfl) rfl rfl hg) rfl
     case z24_15 => intro a' w' hE hK hg; exact ok_eqlI (ksv (j := 12) (hK 187 rfl) rfl rfl hg) (ksv (j := 14) (hK 189 rfl) rfl rfl hg)
     case z24_16 => intro a' w' hE hK hg; exact ok_move (ksv (j := 15) (hK 190 rfl) rfl rfl hg)
     case z24_18 => intro a' w' hE hK hg; exact ok_not (ksv (j := 17) (hK 192 rfl) rfl rfl hg)
     case z24_19 => intro a' w' hE hK hg; exact ok_pick (ksv (j := 16) (hK 191 rfl) rfl rfl hg) (fun hb => ksv (j := 18) (hK 193 rfl) rfl rfl (act_g1 rfl hg hb)) (fun _ => rfl)
     case z24_20 => intro a' w' hE hK hg; exact ok_pick (ksv (j := 10) (hK 185 rfl) rfl rfl hg) (fun _ => rfl) (fun hb => ksv (j := 19) (hK 194 rfl) rfl rfl (act_g1 rfl hg hb))
     case z24_21 => intro a' w' hE hK hg; exact ok_pick (ksv (j := 5) (hK 180 rfl) rfl rfl hg) (fun hb => ksv (j := 20) (hK 195 rfl) rfl rfl (act_g1 rfl hg hb)) (fun _ => rfl)
     case z24_22 => intro a' w' hE hK hg; exact ok_move (ksv (j := 21) (hK 196 rfl) rfl rfl hg)
     case z24_24 => intro a' w' hE hK hg; exact ok_pick (ksv (j := 22) (hK 197 rfl) rfl rfl hg) (fun _ => rfl) (fun hb => ksv (j := 23) (hK 198 rfl) rfl rfl (act_g1 rfl hg hb))
     case z24_25 => intro a' w' hE hK hg; exact ok_pick (ksv (j := 1) (hK 176 rfl) rfl rfl rfl) (fun hb => ksv (j := 24) (hK 199 rfl) rfl rfl (act_g1 rfl rfl hb)) (fun _ => rfl)
     case zok24 | zgd24 => kernel_rfl
     intro a39 w39 hA hE HF
     have q10 := ksv (HF 10) rfl rfl rfl
     clear q11
     clear q12
     clear q14
     clear q15
     clear q16
     clear q19
     clear q20
     clear q22
     clear q162
     clear HF
     replace f8 := GR.v_ext _ f8 hE
     replace f25 := f25.ext hE
     replace f49 := f49.ext hE
     replace hB := Base.step hB hE hO; clear hE
     obtain ⟨x66, hx_, h⟩ := Comp.run_bind h; replace hx_ := Comp.run_pure hx_; rw [hx_] at q10; clear hx_
     refine li_nil (nx_then (wp_ret ?_))
     have h := Comp.run_pure h; subst h
     exact retPure Try.results6 hA q10 hB.ext rfl
end Go.Proofs.Ytkbipbfncbopnaa
end
section
namespace Go.Dig
open Go Go.RowKit Go.Eng
def stepX (x : Nat) (c : UInt8) : Nat := (48271 * x + c.toNat + 1) % 2147483629
def stepY (y : Nat) (c : UInt8) : Nat := (69621 * y + c.toNat + 1) % 2147483587
def dx (l : List UInt8) : Nat := l.foldl stepX 17
def dy (l : List UInt8) : Nat := l.foldl stepY 29
def be4 (n : Nat) : List UInt8 := [UInt8.ofNat (n / 16777216), UInt8.ofNat (n / 65536), UInt8.ofNat (n / 256), UInt8.ofNat n]
def le4 (n : Nat) : List UInt8 := [UInt8.ofNat n, UInt8.ofNat (n / 256), UInt8.ofNat (n / 65536), UInt8.ofNat (n / 16777216)]
def D (l : List UInt8) : List UInt8 := be4 (dx l) ++ be4 (dy l)
def str (l : List UInt8) : ByteArray := ⟨l.toArray⟩
abbrev bs (s : ByteArray) : List UInt8 := s.data.toList
theorem str_bs (s : ByteArray) : str (bs s) = s := by cases s; rfl
theorem bs_str (l : List UInt8) : bs (str l) = l := rfl
theorem bs_length (s : ByteArray) : (bs s).length = s.size := Array.length_toList
theorem bs_append (s t : ByteArray) : bs (s ++ t) = bs s ++ bs t := by
  show (s ++ t).data.toList = s.data.toList ++ t.data.toList
  rw [ByteArray.data_append, Array.toList_append]
theorem bs_inj {s t : ByteArray} (h : bs s = bs t) : s = t := by rw [← str_bs s, h, str_bs]
theorem str_append (l m : List UInt8) : str l ++ str m = str (l ++ m) := by apply bs_inj; rw [bs_append, bs_str, bs_str, bs_str]
theorem str_size (l : List UInt8) : (str l).size = l.length := by rw [← bs_length, bs_str]
theorem D_length (l : List UInt8) : (D l).length = 8 := rfl
theorem stepX_lt (x : Nat) (c : UInt8) : stepX x c < 2147483629 := Nat.mod_lt _ (by decide)
theorem stepY_lt (x : Nat) (c : UInt8) : stepY x c < 2147483587 := Nat.mod_lt _ (by decide)
theorem foldX_lt : ∀ (l : List UInt8) (x : Nat), x < 2147483629 → l.foldl stepX x < 2147483629
  | [], _, h => h
  | c :: l, x, _ => foldX_lt l _ (stepX_lt x c)
theorem foldY_lt : ∀ (l : List UInt8) (x : Nat), x < 2147483587 → l.foldl stepY x < 2147483587
  | [], _, h => h
  | c :: l, x, _ => foldY_lt l _ (stepY_lt x c)
theorem dx_lt (l : List UInt8) : dx l < 2147483629 := foldX_lt l 17 (by decide)
theorem dy_lt (l : List UInt8) : dy l < 2147483587 := foldY_lt l 29 (by decide)
theorem dx_snoc (l : List UInt8) (c : UInt8) : dx (l ++ [c]) = (48271 * dx l + c.toNat + 1) % 2147483629 := by
  simp [dx, stepX]
theorem dy_snoc (l : List UInt8) (c : UInt8) : dy (l ++ [c]) = (69621 * dy l + c.toNat + 1) % 2147483587 := by
  simp [dy, stepY]
theorem dxi (l : List UInt8) (c : UInt8) : (48271 * (dx l : Int) + (c.toNat : Int) + 1) % 2147483629 = ((dx (l ++ [c]) : Nat) : Int) := by
  rw [dx_snoc]; omega
theorem dyi (l : List UInt8) (c : UInt8) : (69621 * (dy l : Int) + (c.toNat : Int) + 1) % 2147483587 = ((dy (l ++ [c]) : Nat) : Int) := by
  rw [dy_snoc]; omega
theorem ofNat_i (m : Nat) : ((UInt8.ofNat m).toNat : Int) = (m : Int) % 256 := by
  rw [UInt8.toNat_ofNat']; simp
theorem shr_i (n : Nat) (j : Nat) : (n : Int).fdiv (2 ^ j) = ((n / 2 ^ j : Nat) : Int) := by
  rw [Int.fdiv_eq_ediv_of_nonneg _ (by exact_mod_cast Nat.zero_le _)]; norm_cast
inductive Strs : List Value → List ByteArray → Prop
  | nil : Strs [] []
  | cons (s : ByteArray) {xs ss} (h : Strs xs ss) : Strs (.string s :: xs) (s :: ss)
theorem Strs.map {xs : List Value} {ss : List ByteArray} (h : Strs xs ss) : xs = ss.map .string := by
  induction h with
  | nil => rfl
  | cons s _ ih => simp [ih]
def cat (ss : List ByteArray) : List UInt8 := ss.flatMap bs
def lenL (l : List UInt8) : List UInt8 := le4 l.length
def leafL (s : List UInt8) : List UInt8 := [1] ++ s
def missL : List UInt8 := [3]
def chainL (b s : List UInt8) : List UInt8 := [4] ++ lenL b ++ b ++ s
def markL (k m : List UInt8) : List UInt8 := [5] ++ lenL k ++ k ++ lenL m ++ m ++ k
end Go.Dig
end
section
namespace Go.Dig
open Go Go.RowKit Go.Eng
abbrev Bytes := List UInt8
def leafD (s : Bytes) : Bytes := D (leafL s)
def missD : Bytes := D missL
def lg (n : Nat) : Nat := if n ≤ 1 then 0 else if n ≤ 2 then 1 else if n ≤ 4 then 2 else if n ≤ 8 then 3 else if n ≤ 16 then 4 else 5
def base (ss : List Bytes) : List Bytes := ss.map leafD ++ List.replicate (2 ^ lg ss.length - ss.length) missD
end Go.Dig
end
section
set_option linter.unusedVariables false
set_option linter.unusedSimpArgs false
namespace Go.Dgp
open Go Go.Lift Go.F
open Go.Dig hiding Bytes cat
theorem wrapu {n : Int} (h : 0 ≤ n ∧ n < 18446744073709551616) : IntKind.wrap .u64 n = n := by
  have : IntKind.wrap .u64 n = n % 18446744073709551616 := by simp [IntKind.wrap, IntKind.bits, IntKind.signed]
  rw [this]; omega
theorem wrapi {n : Int} (h : -9223372036854775808 ≤ n ∧ n < 9223372036854775808) : IntKind.wrap .i64 n = n := IntWalk.i64_in _ ⟨by omega, by omega⟩
theorem stepx (l : List UInt8) (c : UInt8) : Int.tmod (IntKind.wrap .u64 (IntKind.wrap .u64 (IntKind.wrap .u64 (48271 * (dx l : Int)) + IntKind.wrap .u64 (c.toNat : Int)) + 1)) 2147483629 = ((dx (l ++ [c]) : Nat) : Int) := by
  have h1 := dx_lt l; have h2 : c.toNat < 256 := c.toNat_lt
  rw [wrapu (n := 48271 * (dx l : Int)) (by omega), wrapu (n := (c.toNat : Int)) (by omega), wrapu (n := 48271 * (dx l : Int) + (c.toNat : Int)) (by omega), wrapu (by omega), Int.tmod_eq_emod_of_nonneg (by omega), dxi]
theorem stepy (l : List UInt8) (c : UInt8) : Int.tmod (IntKind.wrap .u64 (IntKind.wrap .u64 (IntKind.wrap .u64 (69621 * (dy l : Int)) + IntKind.wrap .u64 (c.toNat : Int)) + 1)) 2147483587 = ((dy (l ++ [c]) : Nat) : Int) := by
  have h1 := dy_lt l; have h2 : c.toNat < 256 := c.toNat_lt
  rw [wrapu (n := 69621 * (dy l : Int)) (by omega), wrapu (n := (c.toNat : Int)) (by omega), wrapu (n := 69621 * (dy l : Int) + (c.toNat : Int)) (by omega), wrapu (by omega), Int.tmod_eq_emod_of_nonneg (by omega), dyi]
theorem idxn {α : Type} (xs : List α) (i : Nat) : (idx xs (i : Int)).val = xs[i]? := by
  cases h : xs[i]? with
  | some x => exact idx_val h
  | none => unfold idx; rw [if_pos (by omega)]; simp [h]
theorem take1 {s : List UInt8} {i : Nat} (h : i < s.length) : s.take (i + 1) = s.take i ++ [s[i]] := List.take_succ_eq_append_getElem h
theorem inner_loop (pre s : List UInt8) (hs : s.length ≤ 1099511627776) : (Comp.loop (fun t : Int × Int × Int => digest_of_l3 s t.1 t.2.1 t.2.2) ((dx pre : Int), (dy pre : Int), 0)).val = some (((dx (pre ++ s) : Nat) : Int), ((dy (pre ++ s) : Nat) : Int)) := by
  have := Comp.loop_seq (body := fun t : Int × Int × Int => digest_of_l3 s t.1 t.2.1 t.2.2) (fun i => (((dx (pre ++ s.take i) : Nat) : Int), ((dy (pre ++ s.take i) : Nat) : Int), (i : Int))) s.length (((dx (pre ++ s) : Nat) : Int), ((dy (pre ++ s) : Nat) : Int))
    (by
      intro i hi
      show (digest_of_l3 s _ _ (i : Int)).val = _
      unfold digest_of_l3
      have hg : (ofStr s)[i]? = some ((s[i].toNat : Nat) : Int) := by simp [ofStr, hi]
      simp only [Comp.val_bind, Comp.val_pure, Option.bind_some]
      rw [Comp.val_ite, if_pos (by rw [decide_eq_true_iff]; simp [ofStr]; omega)]
      simp only [Comp.val_bind, Comp.val_pure, Option.bind_some, idxn, hg, stepx, stepy]
      rw [Comp.wrap_succ (by omega), take1 hi, List.append_assoc])
    (by
      show (digest_of_l3 s _ _ (s.length : Int)).val = _
      unfold digest_of_l3
      simp only [Comp.val_bind, Comp.val_pure, Option.bind_some]
      rw [Comp.val_ite, if_neg (by simp [ofStr]), Comp.val_pure]
      simp)
  simpa using this
def flat (l : List Bytes) : List UInt8 := l.flatten
def vecD (l : List UInt8) : Vector Int 8 := ⟨((D l).map fun b => (b.toNat : Int)).toArray, rfl⟩
theorem vecD_list (l : List UInt8) : (vecD l).toList = (D l).map fun b => (b.toNat : Int) := rfl
theorem outer_loop (l : List Bytes) (hl : l.length ≤ 1099511627776) (hs : ∀ s ∈ l, s.length ≤ 1099511627776) : (Comp.loop (fun t : Int × Int × Int => digest_of_l2 l t.1 t.2.1 t.2.2) (17, 29, 0)).val = some (((dx (flat l) : Nat) : Int), ((dy (flat l) : Nat) : Int)) := by
  have := Comp.loop_seq (body := fun t : Int × Int × Int => digest_of_l2 l t.1 t.2.1 t.2.2) (fun i => (((dx (flat (l.take i)) : Nat) : Int), ((dy (flat (l.take i)) : Nat) : Int), (i : Int))) l.length (((dx (flat l) : Nat) : Int), ((dy (flat l) : Nat) : Int))
    (by
      intro i hi
      show (digest_of_l2 l _ _ (i : Int)).val = _
      unfold digest_of_l2
      rw [Comp.val_ite, if_pos (by rw [decide_eq_true_iff]; omega)]
      simp only [Comp.val_bind, idxn, List.getElem?_eq_getElem hi, Option.bind_some, inner_loop _ _ (hs _ (List.getElem_mem hi)), Comp.val_pure]
      rw [Comp.wrap_succ (by omega)]
      have e : flat (l.take (i + 1)) = flat (l.take i) ++ l[i] := by
        unfold flat; rw [List.take_succ_eq_append_getElem hi, List.flatten_append]; simp only [List.flatten_cons, List.flatten_nil, List.append_nil]
      rw [e])
    (by
      show (digest_of_l2 l _ _ (l.length : Int)).val = _
      unfold digest_of_l2
      rw [Comp.val_ite, if_neg (by simp), Comp.val_pure]
      simp)
  exact this
theorem vupd_val {n : Nat} {x : Vector Int n} {i : Nat} {y : Int} (h : i < n) : (vupd x (i : Int) y).val = some (x.setIfInBounds i y) := by
  unfold vupd; rw [if_pos ⟨by omega, by omega⟩]; simp
theorem u8b (X : Nat) (k : Nat) : IntKind.wrap .u8 (shrF .u64 (X : Int) (k : Int)) = ((UInt8.ofNat (X / 2 ^ min k 64)).toNat : Int) := by
  unfold shrF
  rw [IntKind.wrap_u8, ofNat_i, show IntKind.bits .u64 = 64 from rfl, Int.toNat_natCast, shr_i]
theorem four (X Y : Nat) : (Comp.loop (fun s : Int × Vector Int 8 => digest_of_l5 (X : Int) (Y : Int) s.1 s.2) (0, (Vector.replicate 8 0))).val = some ⟨((be4 X ++ be4 Y).map fun b => (b.toNat : Int)).toArray, rfl⟩ := by
  have hx : ∀ k : Nat, k ≤ 3 → IntKind.wrap .i64 (24 - IntKind.wrap .i64 (8 * (k : Int))) = ((24 - 8 * k : Nat) : Int) := by
    intro k hk; rw [wrapi (n := 8 * (k : Int)) (by omega), wrapi (by omega)]; omega
  let v : Nat → Vector Int 8 := fun i => ⟨#[if 0 < i then ((UInt8.ofNat (X / 16777216)).toNat : Int) else 0, if 1 < i then ((UInt8.ofNat (X / 65536)).toNat : Int) else 0, if 2 < i then ((UInt8.ofNat (X / 256)).toNat : Int) else 0, if 3 < i then ((UInt8.ofNat (X / 1)).toNat : Int) else 0,
    if 0 < i then ((UInt8.ofNat (Y / 16777216)).toNat : Int) else 0, if 1 < i then ((UInt8.ofNat (Y / 65536)).toNat : Int) else 0, if 2 < i then ((UInt8.ofNat (Y / 256)).toNat : Int) else 0, if 3 < i then ((UInt8.ofNat (Y / 1)).toNat : Int) else 0], rfl⟩
  have hset : ∀ i : Nat, i < 4 → ((v i).setIfInBounds i ((UInt8.ofNat (X / 2 ^ min (24 - 8 * i) 64)).toNat : Int)).setIfInBounds (4 + i) ((UInt8.ofNat (Y / 2 ^ min (24 - 8 * i) 64)).toNat : Int) = v (i + 1) := by
    intro i hi
    obtain rfl | rfl | rfl | rfl : i = 0 ∨ i = 1 ∨ i = 2 ∨ i = 3 := by omega
    all_goals simp [v, Vector.setIfInBounds]
  have := Comp.loop_seq (body := fun s : Int × Vector Int 8 => digest_of_l5 (X : Int) (Y : Int) s.1 s.2) (fun i => ((i : Int), v i)) 4 (v 4)
    (by
      intro i hi
      show (digest_of_l5 (X : Int) (Y : Int) (i : Int) (v i)).val = _
      unfold digest_of_l5
      rw [Comp.val_ite, if_pos (by rw [decide_eq_true_iff]; omega)]
      have e4 : IntKind.wrap .i64 (4 + (i : Int)) = ((4 + i : Nat) : Int) := by rw [wrapi (by omega)]; omega
      have g1 : ∀ z : Vector Int 8, ∀ j, j < 8 → (z.toList)[j]? = some ((z.toList)[j]?.getD 0) := by
        intro z j hj
        rw [List.getElem?_eq_getElem (by rw [Vector.length_toList]; exact hj)]; rfl
      simp only [Comp.val_bind, hx i (by omega), e4, nonneg_val (n := ((24 - 8 * i : Nat) : Int)) (by omega), Option.bind_some, idxn, vupd_val (show i < 8 by omega), vupd_val (show 4 + i < 8 by omega), Comp.val_pure, u8b]
      rw [g1 _ i (by omega), Option.bind_some, g1 _ (4 + i) (by omega), Option.bind_some, hset i hi, Comp.wrap_succ (by omega)])
    (by
      show (digest_of_l5 (X : Int) (Y : Int) (4 : Int) (v 4)).val = _
      unfold digest_of_l5
      rw [Comp.val_ite, if_neg (by simp), Comp.val_pure])
  have e0 : v 0 = Vector.replicate 8 0 := rfl
  have e4 : v 4 = ⟨((be4 X ++ be4 Y).map fun b => (b.toNat : Int)).toArray, rfl⟩ := by
    simp [v, be4, Nat.div_one]
  rw [← e0, ← e4]; exact this
theorem of_val (l : List Bytes) (hl : l.length ≤ 1099511627776) (hs : ∀ s ∈ l, s.length ≤ 1099511627776) : (digest_of l).val = some (vecD (flat l)) := by
  unfold digest_of
  rw [Comp.val_bind, outer_loop l hl hs, Option.bind_some]
  show (digest_of_j1 _ _).val = _
  unfold digest_of_j1
  rw [Comp.val_bind, four, Option.bind_some]
  unfold digest_of_j4
  rw [Comp.val_pure]; rfl
theorem toStr_b (l : List UInt8) : toStr (l.map fun b => (b.toNat : Int)) = Comp.pure l := by
  unfold toStr
  rw [if_pos]
  · congr 1
    rw [List.map_map]
    conv => rhs; rw [← List.map_id l]
    apply List.map_congr_left
    intro x _; simp
  · rw [List.all_eq_true]
    intro x hx
    obtain ⟨b, _, rfl⟩ := List.mem_map.1 hx
    have : b.toNat < 256 := b.toNat_lt
    simp; omega
theorem text_val (l : List UInt8) : (digest_digest_text (vecD l)).val = some (D l) := by
  unfold digest_digest_text strings_Clone cloneS
  rw [vecD_list, toStr_b]
  simp only [Comp.val_bind, Comp.val_pure, Option.bind_some]
  rw [if_pos (by rw [D_length]; decide)]
  simp
theorem le_list (n : Nat) : [IntKind.wrap .u8 (n : Int), IntKind.wrap .u8 (shrF .i64 (n : Int) 8), IntKind.wrap .u8 (shrF .i64 (n : Int) 16), IntKind.wrap .u8 (shrF .i64 (n : Int) 24)] = (le4 n).map fun b => (b.toNat : Int) := by
  have h : ∀ k : Nat, k ≤ 60 → IntKind.wrap .u8 (shrF .i64 (n : Int) (k : Int)) = ((UInt8.ofNat (n / 2 ^ k)).toNat : Int) := by
    intro k hk
    unfold shrF
    rw [IntKind.wrap_u8, ofNat_i, show IntKind.bits .i64 = 64 from rfl, Int.toNat_natCast, Nat.min_eq_left (by omega), shr_i]
  have h8 : IntKind.wrap .u8 (shrF .i64 (n : Int) 8) = ((UInt8.ofNat (n / 256)).toNat : Int) := h 8 (by omega)
  have h16 : IntKind.wrap .u8 (shrF .i64 (n : Int) 16) = ((UInt8.ofNat (n / 65536)).toNat : Int) := h 16 (by omega)
  have h24 : IntKind.wrap .u8 (shrF .i64 (n : Int) 24) = ((UInt8.ofNat (n / 16777216)).toNat : Int) := h 24 (by omega)
  have h0 : IntKind.wrap .u8 (n : Int) = ((UInt8.ofNat n).toNat : Int) := by rw [IntKind.wrap_u8, ofNat_i]
  simp only [le4, List.map, h8, h16, h24, h0]
theorem length_val (s : Bytes) : (digest_length s).val = some (lenL s) := by
  unfold digest_length
  rw [le_list, toStr_b]
  simp [Comp.val_bind, lenL]
theorem least4_val (n : Nat) : (colletref02_least4 (n : Int)).val = some (le4 n) := by
  unfold colletref02_least4
  rw [le_list, toStr_b]
  simp [Comp.val_bind]
theorem most4_val (n : Nat) : (colletref02_most4 (n : Int)).val = some (be4 n) := by
  unfold colletref02_most4
  have e : [IntKind.wrap .u8 (shrF .i64 (n : Int) 24), IntKind.wrap .u8 (shrF .i64 (n : Int) 16), IntKind.wrap .u8 (shrF .i64 (n : Int) 8), IntKind.wrap .u8 (n : Int)] = (be4 n).map fun b => (b.toNat : Int) := by
    have := le_list n
    simp only [le4, be4, List.map, List.cons.injEq] at this ⊢
    obtain ⟨h1, h2, h3, h4, _⟩ := this
    exact ⟨h4, h3, h2, h1, trivial⟩
  rw [e, toStr_b]
  simp [Comp.val_bind]
theorem cat_val {s t : Bytes} (h : s.length + t.length ≤ 1099511627776) : (Lift.cat s t).val = some (s ++ t) := by
  unfold Lift.cat; rw [if_pos h]; simp
theorem cat_bind {α : Type} {s t : Bytes} (h : s.length + t.length ≤ 1099511627776) (f : Bytes → Comp α) : ((Lift.cat s t).bind f).val = (f (s ++ t)).val := Comp.val_bind_of (cat_val h) f
theorem rOf_val (s : Bytes) (hs : s.length ≤ 1099511627776) : (colletref02_Of s).val = some (D s) := by
  have hx : ∀ (l : List UInt8) (c : UInt8), Int.tmod (IntKind.wrap .i64 (IntKind.wrap .i64 (IntKind.wrap .i64 (48271 * (dx l : Int)) + IntKind.wrap .i64 (c.toNat : Int)) + 1)) 2147483629 = ((dx (l ++ [c]) : Nat) : Int) := by
    intro l c
    have h1 := dx_lt l; have h2 : c.toNat < 256 := c.toNat_lt
    rw [wrapi (n := 48271 * (dx l : Int)) (by omega), wrapi (n := (c.toNat : Int)) (by omega), wrapi (n := 48271 * (dx l : Int) + (c.toNat : Int)) (by omega), wrapi (by omega), Int.tmod_eq_emod_of_nonneg (by omega), dxi]
  have hy : ∀ (l : List UInt8) (c : UInt8), Int.tmod (IntKind.wrap .i64 (IntKind.wrap .i64 (IntKind.wrap .i64 (69621 * (dy l : Int)) + IntKind.wrap .i64 (c.toNat : Int)) + 1)) 2147483587 = ((dy (l ++ [c]) : Nat) : Int) := by
    intro l c
    have h1 := dy_lt l; have h2 : c.toNat < 256 := c.toNat_lt
    rw [wrapi (n := 69621 * (dy l : Int)) (by omega), wrapi (n := (c.toNat : Int)) (by omega), wrapi (n := 69621 * (dy l : Int) + (c.toNat : Int)) (by omega), wrapi (by omega), Int.tmod_eq_emod_of_nonneg (by omega), dyi]
  have := Comp.loop_seq (body := fun t : Int × Int × Int => colletref02_Of_l2 s t.1 t.2.1 t.2.2) (fun i => (((dx (s.take i) : Nat) : Int), ((dy (s.take i) : Nat) : Int), (i : Int))) s.length (((dx s : Nat) : Int), ((dy s : Nat) : Int))
    (by
      intro i hi
      show (colletref02_Of_l2 s _ _ (i : Int)).val = _
      unfold colletref02_Of_l2 strIdx
      rw [Comp.val_ite, if_pos (by rw [decide_eq_true_iff]; omega)]
      simp only [Comp.val_bind, Comp.val_pure, Option.bind_some, idxn, List.getElem?_eq_getElem hi, hx, hy]
      rw [Comp.wrap_succ (by omega), take1 hi])
    (by
      show (colletref02_Of_l2 s _ _ (s.length : Int)).val = _
      unfold colletref02_Of_l2
      rw [Comp.val_ite, if_neg (by simp), Comp.val_pure]
      simp)
  have h0 : (Comp.loop (fun t : Int × Int × Int => colletref02_Of_l2 s t.1 t.2.1 t.2.2) (17, 29, 0)).val = some (((dx s : Nat) : Int), ((dy s : Nat) : Int)) := this
  unfold colletref02_Of
  rw [Comp.val_bind, h0, Option.bind_some]
  show (colletref02_Of_j1 _ _).val = _
  unfold colletref02_Of_j1
  rw [Comp.val_bind, most4_val, Option.bind_some, Comp.val_bind, most4_val, Option.bind_some, cat_bind (by simp [be4]), Comp.val_pure]
  rfl
theorem lenL_len (s : Bytes) : (lenL s).length = 4 := rfl
theorem le4_len (n : Nat) : (le4 n).length = 4 := rfl
theorem marked_val (k m : Bytes) (hk : k.length ≤ 1099511627776) (hm : m.length ≤ 1099511627776) : (digest_marked k m).val = some (vecD (markL k m)) := by
  unfold digest_marked
  simp only [Comp.val_bind, length_val, Option.bind_some, Comp.val_pure]
  rw [of_val _ (by simp) (by simp [lenL_len]; omega)]
  simp [flat, markL]
theorem Mark_val (k m : Bytes) (hk : k.length ≤ 1099511627776) (hm : m.length ≤ 1099511627776) : (digest_Mark k m).val = some (D (markL k m)) := by
  unfold digest_Mark
  rw [Comp.val_bind, marked_val k m hk hm]
  simp [Comp.val_bind, text_val]
theorem Chain_val (b s : Bytes) (hk : b.length ≤ 1099511627776) (hm : s.length ≤ 1099511627776) : (digest_Chain b s).val = some (D (chainL b s)) := by
  unfold digest_Chain
  simp only [Comp.val_bind, length_val, Option.bind_some, Comp.val_pure]
  rw [of_val _ (by simp) (by simp [lenL_len]; omega)]
  simp [flat, chainL, text_val]
def chk (k m x : Bytes) : Bool := decide (k ≠ []) && decide (x = D (markL k m))
theorem vec_inj (x : Bytes) (h : 8 ≤ x.length) (l : List UInt8) : ((⟨((ofStr x).take 8).toArray, by simp [ofStr]; omega⟩ : Vector Int 8) = vecD l) ↔ x.take 8 = D l := by
  rw [← Vector.toList_inj, vecD_list]
  show ((ofStr x).take 8) = _ ↔ _
  unfold ofStr
  rw [← List.map_take, List.map_inj_right]
  intro a b hab
  exact UInt8.toNat_inj.1 (Int.ofNat.inj hab)
theorem Check_val (k m x : Bytes) (hk : k.length ≤ 1099511627776) (hm : m.length ≤ 1099511627776) : (digest_Check k m x).val = some (chk k m x) := by
  unfold digest_Check
  by_cases hk0 : k = []
  · subst hk0; simp [Comp.val_bind, Comp.val_gd, chk]
  · by_cases hx : x.length = 8
    · have hx' : (x.length : Int) = 8 := by omega
      have h8 : 8 ≤ (ofStr x).length := by simp [ofStr]; omega
      have e : (bif (decide (k ≠ ([] : Bytes))) then (decide ((x.length : Int) = 8)) else false) = true := by simp [hk0, hx']
      simp only [e, Comp.val_bind, Comp.val_gd, if_pos, beq_self_eq_true, marked_val k m hk hm, Option.bind_some, Comp.val_pure, toVec, dif_pos h8, cond_true]
      congr 1
      unfold chk
      rw [show decide (k ≠ []) = true from by simp [hk0], Bool.true_and]
      congr 1
      rw [vec_inj x (by omega), List.take_of_length_le (by omega)]
    · have hx' : ¬ (x.length : Int) = 8 := by omega
      have : ¬ x = D (markL k m) := by intro h; rw [h] at hx; exact hx rfl
      simp [Comp.val_bind, Comp.val_gd, chk, hx', this]
theorem rMark_val (k m : Bytes) (hk : k.length ≤ 274877906944) (hm : m.length ≤ 274877906944) : (colletref02_Mark k m).val = some (D (markL k m)) := by
  unfold colletref02_Mark
  rw [Comp.val_bind, least4_val, Option.bind_some, cat_bind (by simp [le4_len]), cat_bind (by simp [le4_len]; omega), Comp.val_bind, least4_val, Option.bind_some, cat_bind (by simp [le4_len]; omega), cat_bind (by simp [le4_len]; omega), cat_bind (by simp [le4_len]; omega), Comp.val_bind, rOf_val _ (by simp [le4_len]; omega)]
  simp [markL, lenL]
theorem rChain_val (b s : Bytes) (hk : b.length ≤ 274877906944) (hm : s.length ≤ 274877906944) : (colletref02_Chain b s).val = some (D (chainL b s)) := by
  unfold colletref02_Chain
  rw [Comp.val_bind, least4_val, Option.bind_some, cat_bind (by simp [le4_len]), cat_bind (by simp [le4_len]; omega), cat_bind (by simp [le4_len]; omega), Comp.val_bind, rOf_val _ (by simp [le4_len]; omega)]
  simp [chainL, lenL]
theorem rCheck_val (k m x : Bytes) (hk : k.length ≤ 274877906944) (hm : m.length ≤ 274877906944) : (colletref02_Check k m x).val = some (chk k m x) := by
  unfold colletref02_Check chk
  by_cases hk0 : k = []
  · subst hk0; simp [Comp.val_bind, Comp.val_gd]
  · simp [Comp.val_bind, Comp.val_gd, hk0, rMark_val k m hk hm]
end Go.Dgp
end
section
set_option linter.unusedVariables false
set_option linter.unusedSimpArgs false
namespace Go.Dgp
open Go Go.Lift Go.F
open Go.Dig hiding Bytes cat
def vb (c : Nat) : Bytes := if h : c < 128 then [UInt8.ofNat c] else UInt8.ofNat (c % 128 + 128) :: vb (c / 128)
termination_by c
decreasing_by omega
def zz (x : Int) : Nat := if 0 ≤ x then (2 * x).toNat else (2 * (-(x + 1)) + 1).toNat
def I64 (x : Int) : Prop := -9223372036854775808 ≤ x ∧ x < 9223372036854775808
theorem zz_lt {x : Int} (h : I64 x) : zz x < 18446744073709551616 := by
  unfold I64 at h; unfold zz; split <;> omega
theorem wrap_u64 (n : Int) : IntKind.wrap .u64 n = n % 18446744073709551616 := by simp [IntKind.wrap, IntKind.bits, IntKind.signed]
theorem ref_code {x : Int} (h : I64 x) : (colletref04_code x).val = some (zz x : Int) := by
  unfold I64 at h
  unfold colletref04_code zz
  rw [Comp.val_ite]
  by_cases hx : 0 ≤ x
  · rw [if_pos (by rw [decide_eq_true_iff]; omega), if_pos hx]
    simp only [Comp.val_bind, Comp.val_pure, Option.bind_some, wrap_u64]
    congr 1; omega
  · rw [if_neg (by rw [decide_eq_true_iff]; omega), if_neg hx]
    rw [wrapi (n := x + 1) (by omega), wrapi (by omega)]
    simp only [Comp.val_bind, Comp.val_pure, Option.bind_some, wrap_u64]
    congr 1; omega
theorem own_code {x : Int} (h : I64 x) : xorB .u64 (shlF .u64 (IntKind.wrap .u64 x) 1) (IntKind.wrap .u64 (shrF .i64 x 63)) = (zz x : Int) := by
  unfold I64 at h
  unfold shlF shrF xorB zz
  simp only [wrap_u64, show IntKind.bits .u64 = 64 from rfl, show IntKind.bits .i64 = 64 from rfl, show min (Int.toNat 1) 64 = 1 from rfl, show min (Int.toNat 63) 64 = 63 from rfl]
  rw [Int.fdiv_eq_ediv_of_nonneg _ (by decide)]
  by_cases hx : 0 ≤ x
  · rw [if_pos hx, show x / 2 ^ 63 = 0 by omega]
    have e : BitVec.ofInt 64 ((x % 18446744073709551616 * 2 ^ 1) % 18446744073709551616) ^^^ BitVec.ofInt 64 ((0 : Int) % 18446744073709551616) = BitVec.ofInt 64 (2 * x) := by
      rw [show (0 : Int) % 18446744073709551616 = 0 from rfl, show BitVec.ofInt 64 0 = 0#64 from rfl, BitVec.xor_zero]
      congr 1; omega
    show (((BitVec.ofInt 64 ((x % 18446744073709551616 * 2 ^ 1) % 18446744073709551616) ^^^ BitVec.ofInt 64 ((0 : Int) % 18446744073709551616)).toNat : Nat) : Int) % 18446744073709551616 = _
    rw [e, BitVec.toNat_ofInt]; omega
  · rw [if_neg hx, show x / 2 ^ 63 = -1 by omega]
    have e : BitVec.ofInt 64 ((x % 18446744073709551616 * 2 ^ 1) % 18446744073709551616) ^^^ BitVec.ofInt 64 ((-1 : Int) % 18446744073709551616) = ~~~ BitVec.ofInt 64 (2 * x) := by
      rw [show BitVec.ofInt 64 ((-1 : Int) % 18446744073709551616) = BitVec.allOnes 64 from by decide, BitVec.xor_allOnes]
      congr 1
      apply BitVec.eq_of_toNat_eq
      rw [BitVec.toNat_ofInt, BitVec.toNat_ofInt]; omega
    show (((BitVec.ofInt 64 ((x % 18446744073709551616 * 2 ^ 1) % 18446744073709551616) ^^^ BitVec.ofInt 64 ((-1 : Int) % 18446744073709551616)).toNat : Nat) : Int) % 18446744073709551616 = _
    rw [e, BitVec.toNat_not, BitVec.toNat_ofInt]; omega
set_option maxRecDepth 100000
theorem or128 : ∀ b : Fin 256, orB .u8 (b.val : Int) 128 = ((b.val % 128 + 128 : Nat) : Int) := by decide +kernel
theorem byte_list (c : Nat) : [IntKind.wrap .u8 (c : Int)] = [UInt8.ofNat c].map fun b => (b.toNat : Int) := by
  rw [IntKind.wrap_u8, List.map_singleton, ofNat_i]
theorem vb_small {c : Nat} (h : c < 128) : vb c = [UInt8.ofNat c] := by rw [vb, dif_pos h]
theorem vb_big {c : Nat} (h : ¬ c < 128) : vb c = UInt8.ofNat (c % 128 + 128) :: vb (c / 128) := by rw [vb, dif_neg h]
theorem pow128 (k : Nat) : 128 ^ (k + 1) = 128 ^ k * 128 := Nat.pow_succ ..
theorem ref_loop : ∀ (k c : Nat) (acc : Bytes), c < 128 ^ k → c < 18446744073709551616 → acc.length + k ≤ 1000 → 1 ≤ k →
    ((Comp.loop (fun s : Bytes × Int => colletref04_Int_l2 s.1 s.2) (acc, (c : Int))).bind fun p => colletref04_Int_j1 p.1 p.2).val = some (acc ++ vb c)
  | 0, c, acc, _, _, _, h => by omega
  | k + 1, c, acc, hc, hc2, ha, _ => by
      rw [Comp.val_bind, Comp.val_loop]
      by_cases h : c < 128
      · have hb : (colletref04_Int_l2 acc (c : Int)).val = some (.done (acc, (c : Int))) := by
          unfold colletref04_Int_l2
          rw [Comp.val_ite, if_neg (by rw [decide_eq_true_iff]; omega), Comp.val_pure]
        show ((colletref04_Int_l2 acc (c : Int)).val.bind _).bind _ = _
        rw [hb]
        show (colletref04_Int_j1 acc (c : Int)).val = _
        unfold colletref04_Int_j1
        rw [byte_list, toStr_b, vb_small h]
        simp only [Comp.val_bind, Comp.val_pure, Option.bind_some]
        rw [cat_val (by simp; omega), Option.bind_some]
      · have e1 : IntKind.wrap .u8 (IntKind.wrap .u64 (Int.tmod (c : Int) 128 + 128)) = IntKind.wrap .u8 ((c % 128 + 128 : Nat) : Int) := by
          rw [Int.tmod_eq_emod_of_nonneg (by omega), wrapu (by omega)]; congr 1
        have e2 : IntKind.wrap .u64 (Int.tdiv (c : Int) 128) = ((c / 128 : Nat) : Int) := by
          rw [Int.tdiv_eq_ediv_of_nonneg (by omega), wrapu (by omega)]; omega
        have hb : (colletref04_Int_l2 acc (c : Int)).val = some (.next (acc ++ [UInt8.ofNat (c % 128 + 128)], ((c / 128 : Nat) : Int))) := by
          unfold colletref04_Int_l2
          rw [Comp.val_ite, if_pos (by rw [decide_eq_true_iff]; omega), e1, byte_list, toStr_b, e2]
          simp only [Comp.val_bind, Comp.val_pure, Option.bind_some]
          rw [cat_val (by simp; omega), Option.bind_some]
        show ((colletref04_Int_l2 acc (c : Int)).val.bind _).bind _ = _
        rw [hb]
        have hp := pow128 k
        have hk : 1 ≤ k := by
          rcases Nat.eq_zero_or_pos k with h0 | h0
          · subst h0; omega
          · exact h0
        have := ref_loop k (c / 128) (acc ++ [UInt8.ofNat (c % 128 + 128)]) (by omega) (by omega) (by simp; omega) hk
        rw [Comp.val_bind] at this
        rw [vb_big h]
        show (Comp.loop (fun s : Bytes × Int => colletref04_Int_l2 s.1 s.2) (acc ++ [UInt8.ofNat (c % 128 + 128)], ((c / 128 : Nat) : Int))).val.bind _ = _
        rw [this, List.append_assoc]; rfl
theorem rInt_val {x : Int} (h : I64 x) : (colletref04_Int x).val = some (vb (zz x)) := by
  have hz := zz_lt h
  unfold colletref04_Int
  rw [Comp.val_bind, ref_code h, Option.bind_some]
  exact ref_loop 10 (zz x) [] (by omega) hz (by simp) (by omega)
theorem own_loop : ∀ (k c : Nat) (acc : Bytes), c < 128 ^ k → c < 18446744073709551616 → acc.length + k ≤ 1000 → 1 ≤ k →
    ((Comp.loop (fun s : Int × List Int => wire_Int_l2 s.1 s.2) ((c : Int), acc.map fun b => (b.toNat : Int))).bind fun p => wire_Int_j1 p.1 p.2).val = some (acc ++ vb c)
  | 0, c, acc, _, _, _, h => by omega
  | k + 1, c, acc, hc, hc2, ha, _ => by
      have hL : LIM = 1073741824 := rfl
      rw [Comp.val_bind, Comp.val_loop]
      by_cases h : c < 128
      · have hb : (wire_Int_l2 (c : Int) (acc.map fun b => (b.toNat : Int))).val = some (.done ((c : Int), acc.map fun b => (b.toNat : Int))) := by
          unfold wire_Int_l2
          rw [Comp.val_ite, if_neg (by rw [decide_eq_true_iff]; omega), Comp.val_pure]
        show ((wire_Int_l2 (c : Int) (acc.map fun b => (b.toNat : Int))).val.bind _).bind _ = _
        rw [hb]
        show (wire_Int_j1 (c : Int) (acc.map fun b => (b.toNat : Int))).val = _
        unfold wire_Int_j1
        rw [byte_list, Comp.val_bind, app_val (by simp; omega), Option.bind_some, ← List.map_append, toStr_b, vb_small h]
        simp only [Comp.val_bind, Comp.val_pure, Option.bind_some]
      · have e1 : orB .u8 (IntKind.wrap .u8 (c : Int)) 128 = ((UInt8.ofNat (c % 128 + 128)).toNat : Int) := by
          have := or128 ⟨c % 256, by omega⟩
          rw [IntKind.wrap_u8, show (c : Int) % 256 = ((c % 256 : Nat) : Int) by omega]
          rw [show ((⟨c % 256, by omega⟩ : Fin 256).val : Int) = ((c % 256 : Nat) : Int) from rfl] at this
          rw [this, ofNat_i]
          show ((c % 256 % 128 + 128 : Nat) : Int) = _
          omega
        have e2 : shrF .u64 (c : Int) 7 = ((c / 128 : Nat) : Int) := by
          unfold shrF
          rw [show min (Int.toNat 7) (IntKind.bits .u64) = 7 from rfl, shr_i]
        have hb : (wire_Int_l2 (c : Int) (acc.map fun b => (b.toNat : Int))).val = some (.next (((c / 128 : Nat) : Int), (acc ++ [UInt8.ofNat (c % 128 + 128)]).map fun b => (b.toNat : Int))) := by
          unfold wire_Int_l2
          rw [Comp.val_ite, if_pos (by rw [decide_eq_true_iff]; omega), e1, e2, Comp.val_bind, app_val (by simp; omega), Option.bind_some, Comp.val_pure, List.map_append]
          rfl
        show ((wire_Int_l2 (c : Int) (acc.map fun b => (b.toNat : Int))).val.bind _).bind _ = _
        rw [hb]
        have hp := pow128 k
        have hk : 1 ≤ k := by
          rcases Nat.eq_zero_or_pos k with h0 | h0
          · subst h0; omega
          · exact h0
        have := own_loop k (c / 128) (acc ++ [UInt8.ofNat (c % 128 + 128)]) (by omega) (by omega) (by simp; omega) hk
        rw [Comp.val_bind] at this
        rw [vb_big h]
        show (Comp.loop (fun s : Int × List Int => wire_Int_l2 s.1 s.2) (((c / 128 : Nat) : Int), (acc ++ [UInt8.ofNat (c % 128 + 128)]).map fun b => (b.toNat : Int))).val.bind _ = _
        rw [this, List.append_assoc]; rfl
theorem wInt_val {x : Int} (h : I64 x) : (wire_Int x).val = some (vb (zz x)) := by
  have hz := zz_lt h
  unfold wire_Int
  rw [Comp.val_bind, Comp.val_pure, Option.bind_some, own_code h]
  exact own_loop 10 (zz x) [] (by omega) hz (by simp) (by omega)
end Go.Dgp
end
section
set_option linter.unusedVariables false
set_option linter.unusedSimpArgs false
namespace Go.Dgp
open Go Go.Lift Go.F
open Go.Dig hiding Bytes cat
theorem vb_len : ∀ (k c : Nat), c < 128 ^ k → 1 ≤ k → (vb c).length ≤ k
  | 0, c, _, h => by omega
  | k + 1, c, hc, _ => by
      by_cases h : c < 128
      · rw [vb_small h]; simp
      · have hp := pow128 k
        have hk : 1 ≤ k := by
          rcases Nat.eq_zero_or_pos k with h0 | h0
          · subst h0; omega
          · exact h0
        have := vb_len k (c / 128) (by omega) hk
        rw [vb_big h, List.length_cons]; omega
theorem vbz_len {x : Int} (h : I64 x) : (vb (zz x)).length ≤ 10 := vb_len 10 _ (by have := zz_lt h; omega) (by omega)
theorem i64_nat {n : Nat} (h : n ≤ 1099511627776) : I64 (n : Int) := ⟨by omega, by omega⟩
def vtext (s : Bytes) : Bytes := vb (zz (s.length : Int)) ++ s
def vints (l : List Int) : Bytes := vb (zz (l.length : Int)) ++ l.flatMap fun x => vb (zz x)
theorem wText_val {s : Bytes} (h : s.length ≤ 274877906944) : (wire_Text s).val = some (vtext s) := by
  have hi := i64_nat (n := s.length) (by omega)
  have := vbz_len hi
  unfold wire_Text
  rw [Comp.val_bind, wInt_val hi, Option.bind_some, cat_bind (by omega), Comp.val_pure]; rfl
theorem rText_val {s : Bytes} (h : s.length ≤ 274877906944) : (colletref04_Text s).val = some (vtext s) := by
  have hi := i64_nat (n := s.length) (by omega)
  have := vbz_len hi
  unfold colletref04_Text
  rw [Comp.val_bind, rInt_val hi, Option.bind_some, cat_bind (by omega), Comp.val_pure]; rfl
theorem allF_val : ∀ (l : List Int) (acc : Bytes), (∀ x ∈ l, I64 x) → acc.length + 10 * l.length ≤ 1000000 → (Bld.allF wire_Int l acc).val = some (acc ++ l.flatMap fun x => vb (zz x))
  | [], acc, _, _ => by unfold Bld.allF; simp
  | x :: l, acc, hx, ha => by
      have h1 := vbz_len (hx x (by simp))
      simp only [List.length_cons] at ha
      unfold Bld.allF
      rw [Comp.val_bind, wInt_val (hx x (by simp)), Option.bind_some, cat_bind (by omega), allF_val l _ (fun y hy => hx y (by simp [hy])) (by rw [List.length_append]; omega)]
      simp
theorem wInts_val {l : List Int} (h : l.length ≤ 1000) (hx : ∀ x ∈ l, I64 x) : (wire_Ints l).val = some (vints l) := by
  have hi := i64_nat (n := l.length) (by omega)
  have h1 := vbz_len hi
  have hL : LIM = 1073741824 := rfl
  unfold wire_Ints Bld.allC
  rw [Comp.val_bind, Comp.val_ite, if_pos (by omega), Comp.val_bind, wInt_val hi, Option.bind_some, cat_bind (by simp; omega), List.nil_append, allF_val l _ hx (by omega), Option.bind_some, Comp.val_pure]; rfl
theorem rInts_val {l : List Int} (h : l.length ≤ 1000) (hx : ∀ x ∈ l, I64 x) : (colletref04_Ints l).val = some (vints l) := by
  have hi := i64_nat (n := l.length) (by omega)
  have h1 := vbz_len hi
  have hlen : ∀ i, ((l.take i).flatMap fun x => vb (zz x)).length ≤ 10 * l.length := by
    intro i
    have : ∀ (m : List Int), (∀ x ∈ m, I64 x) → (m.flatMap fun x => vb (zz x)).length ≤ 10 * m.length := by
      intro m hm
      induction m with
      | nil => simp
      | cons x m ih =>
        have := ih (fun y hy => hm y (by simp [hy]))
        have := vbz_len (hm x (by simp))
        simp only [List.flatMap_cons, List.length_append, List.length_cons]; omega
    have h2 := this (l.take i) (fun x hx' => hx x (List.mem_of_mem_take hx'))
    have : (l.take i).length ≤ l.length := by rw [List.length_take]; omega
    omega
  have key := Comp.loop_seq (body := fun s : Bytes × Int => colletref04_Ints_l2 l s.1 s.2) (fun i => (vb (zz (l.length : Int)) ++ (l.take i).flatMap fun x => vb (zz x), (i : Int))) l.length (vints l)
    (by
      intro i hi
      show (colletref04_Ints_l2 l (vb (zz (l.length : Int)) ++ (l.take i).flatMap fun x => vb (zz x)) (i : Int)).val = _
      have hxi := hx l[i] (List.getElem_mem hi)
      have h3 := vbz_len hxi
      have h4 := hlen i
      unfold colletref04_Ints_l2
      rw [Comp.val_ite, if_pos (by rw [decide_eq_true_iff]; omega), Comp.val_bind, idxn, List.getElem?_eq_getElem hi, Option.bind_some, Comp.val_bind, rInt_val hxi, Option.bind_some, cat_bind (by rw [List.length_append]; omega), Comp.val_pure, Comp.wrap_succ (by omega), List.take_succ_eq_append_getElem hi, List.flatMap_append, List.append_assoc]
      simp)
    (by
      show (colletref04_Ints_l2 l (vb (zz (l.length : Int)) ++ (l.take l.length).flatMap fun x => vb (zz x)) (l.length : Int)).val = _
      unfold colletref04_Ints_l2
      rw [Comp.val_ite, if_neg (by rw [decide_eq_true_iff]; omega), Comp.val_pure, List.take_of_length_le (Nat.le_refl _)]; rfl)
  have key' : (Comp.loop (fun s : Bytes × Int => colletref04_Ints_l2 l s.1 s.2) (vb (zz (l.length : Int)), 0)).val = some (vints l) := by simpa using key
  unfold colletref04_Ints
  rw [Comp.val_bind, rInt_val hi, Option.bind_some, Comp.val_bind, key', Option.bind_some]
  show (colletref04_Ints_j1 _).val = _
  unfold colletref04_Ints_j1
  rw [Comp.val_pure]
end Go.Dgp
end
section
set_option linter.unusedVariables false
set_option linter.unusedSimpArgs false
namespace Go.Dgp
open Go Go.Lift Go.F
open Go.Dig hiding Bytes cat
structure EW (e : api_Entry) : Prop where
  seq : I64 e.Seq
  shop : I64 e.Shop
  kind : I64 e.Kind
  day : I64 e.Day
  n : I64 e.N
  before : e.Before.length ≤ 68719476736
  after : e.After.length ≤ 68719476736
  prev : e.Prev.length ≤ 68719476736
  mark : e.Mark.length ≤ 68719476736
def nums (e : api_Entry) : List Int := [e.Seq, e.Shop, e.Kind, e.Day, e.N]
def vbytes (e : api_Entry) : Bytes := vints (nums e) ++ vtext e.Before ++ vtext e.After ++ vtext e.Prev
theorem vtext_len {s : Bytes} (h : s.length ≤ 274877906944) : (vtext s).length ≤ s.length + 10 := by
  have := vbz_len (i64_nat (n := s.length) (by omega))
  unfold vtext; rw [List.length_append]; omega
theorem nums_wf {e : api_Entry} (h : EW e) : ∀ x ∈ nums e, I64 x := by
  intro x hx
  simp only [nums, List.mem_cons, List.not_mem_nil, or_false] at hx
  rcases hx with rfl | rfl | rfl | rfl | rfl
  · exact h.seq
  · exact h.shop
  · exact h.kind
  · exact h.day
  · exact h.n
theorem vints_len {e : api_Entry} (h : EW e) : (vints (nums e)).length ≤ 60 := by
  have h1 := vbz_len h.seq; have h2 := vbz_len h.shop; have h3 := vbz_len h.kind; have h4 := vbz_len h.day; have h5 := vbz_len h.n
  have h0 := vbz_len (i64_nat (n := 5) (by omega))
  have e5 : ((5 : Nat) : Int) = 5 := rfl
  rw [e5] at h0
  simp only [vints, nums, List.length_append, List.flatMap_cons, List.flatMap_nil, List.length_cons, List.length_nil]
  have : ((0 + 1 + 1 + 1 + 1 + 1 : Nat) : Int) = 5 := rfl
  rw [this]; omega
theorem vbytes_len {e : api_Entry} (h : EW e) : (vbytes e).length ≤ 206158430308 := by
  have h0 := vints_len h
  have h1 := vtext_len (s := e.Before) (by have := h.before; omega)
  have h2 := vtext_len (s := e.After) (by have := h.after; omega)
  have h3 := vtext_len (s := e.Prev) (by have := h.prev; omega)
  have := h.before; have := h.after; have := h.prev
  unfold vbytes
  simp only [List.length_append]; omega
theorem pBytes_val {e : api_Entry} (h : EW e) : (passport_Bytes e).val = some (vbytes e) := by
  have h0 := vints_len h
  have b1 := h.before; have b2 := h.after; have b3 := h.prev
  have h1 := vtext_len (s := e.Before) (by omega)
  have h2 := vtext_len (s := e.After) (by omega)
  have h3 := vtext_len (s := e.Prev) (by omega)
  have hi : (wire_Ints [e.Seq, e.Shop, e.Kind, e.Day, e.N]).val = some (vints (nums e)) := wInts_val (l := nums e) (by simp [nums]) (nums_wf h)
  unfold passport_Bytes
  rw [Comp.val_bind, hi, Option.bind_some, Comp.val_bind, wText_val (by omega), Option.bind_some, cat_bind (by omega), Comp.val_bind, wText_val (by omega), Option.bind_some, cat_bind (by simp only [List.length_append]; omega),
    Comp.val_bind, wText_val (by omega), Option.bind_some, cat_bind (by simp only [List.length_append]; omega), Comp.val_pure]
  rfl
theorem rBytes_val {e : api_Entry} (h : EW e) : (colletref37_Bytes e).val = some (vbytes e) := by
  have h0 := vints_len h
  have b1 := h.before; have b2 := h.after; have b3 := h.prev
  have h1 := vtext_len (s := e.Before) (by omega)
  have h2 := vtext_len (s := e.After) (by omega)
  have h3 := vtext_len (s := e.Prev) (by omega)
  have hi : (colletref04_Ints [e.Seq, e.Shop, e.Kind, e.Day, e.N]).val = some (vints (nums e)) := rInts_val (l := nums e) (by simp [nums]) (nums_wf h)
  unfold colletref37_Bytes
  rw [Comp.val_bind, hi, Option.bind_some, Comp.val_bind, rText_val (by omega), Option.bind_some, cat_bind (by omega), Comp.val_bind, rText_val (by omega), Option.bind_some, cat_bind (by simp only [List.length_append]; omega),
    Comp.val_bind, rText_val (by omega), Option.bind_some, cat_bind (by simp only [List.length_append]; omega), Comp.val_pure]
  rfl
def signE (key : Bytes) (e : api_Entry) : api_Entry := ⟨e.Seq, e.Shop, e.Kind, e.Day, e.N, e.Before, e.After, e.Prev, D (markL key (vbytes e))⟩
theorem pSign_val {key : Bytes} {e : api_Entry} (hk : key.length ≤ 274877906944) (h : EW e) : (passport_Sign key e).val = some (signE key e) := by
  have := vbytes_len h
  unfold passport_Sign
  simp only [Comp.val_bind, pBytes_val h, Option.bind_some, Mark_val key (vbytes e) (by omega) (by omega), Comp.val_pure]
  rfl
theorem rSign_val {key : Bytes} {e : api_Entry} (hk : key.length ≤ 274877906944) (h : EW e) : (colletref37_Sign key e).val = some (signE key e) := by
  have := vbytes_len h
  unfold colletref37_Sign
  simp only [Comp.val_bind, rBytes_val h, Option.bind_some, rMark_val key (vbytes e) (by omega) (by omega), Comp.val_pure]
  rfl
def linkE (e : api_Entry) : Bytes := D (chainL (vbytes e) e.Mark)
theorem pLink_val {e : api_Entry} (h : EW e) : (passport_link e).val = some (linkE e) := by
  have := vbytes_len h; have := h.mark
  unfold passport_link
  simp only [Comp.val_bind, pBytes_val h, Option.bind_some, Chain_val (vbytes e) e.Mark (by omega) (by omega), Comp.val_pure]
  rfl
theorem rLink_val {e : api_Entry} (h : EW e) : (colletref37_link e).val = some (linkE e) := by
  have := vbytes_len h; have := h.mark
  unfold colletref37_link
  simp only [Comp.val_bind, rBytes_val h, Option.bind_some, rChain_val (vbytes e) e.Mark (by omega) (by omega), Comp.val_pure]
  rfl
end Go.Dgp
end
section
set_option linter.unusedVariables false
set_option linter.unusedSimpArgs false
namespace Go.Dgp
open Go Go.Lift Go.F
open Go.Dig hiding Bytes cat
def nextE (l : List api_Entry) (e : api_Entry) : api_Entry :=
  match l.getLast? with
  | some p => ⟨(l.length : Int), e.Shop, e.Kind, e.Day, e.N, p.After, e.After, linkE p, []⟩
  | none => ⟨(l.length : Int), e.Shop, e.Kind, e.Day, e.N, e.Before, e.After, [], []⟩
theorem last_idx {l : List api_Entry} (h : 0 < l.length) (hl : l.length ≤ 1073741824) : ∃ p, l.getLast? = some p ∧ p ∈ l ∧ (idx l (IntKind.wrap .i64 ((l.length : Int) - 1))).val = some p := by
  have h1 : l[l.length - 1]? = some l[l.length - 1] := List.getElem?_eq_getElem (by omega)
  refine ⟨l[l.length - 1], ?_, List.getElem_mem _, ?_⟩
  · rw [List.getLast?_eq_getElem?, h1]
  · rw [wrapi (by omega), show (l.length : Int) - 1 = ((l.length - 1 : Nat) : Int) by omega, idxn, h1]
theorem rNext_val {l : List api_Entry} {e : api_Entry} (hl : l.length ≤ 1073741824) (hw : ∀ x ∈ l, EW x) : (colletref37_Next l e).val = some (nextE l e) := by
  unfold colletref37_Next nextE
  rw [Comp.val_ite]
  by_cases h : 0 < l.length
  · obtain ⟨p, h1, h2, h3⟩ := last_idx h hl
    rw [if_pos (by rw [decide_eq_true_iff]; omega), h1]
    simp only [Comp.val_bind, h3, Option.bind_some, rLink_val (hw p h2)]
    unfold colletref37_Next_j1
    rw [Comp.val_pure]
  · have h0 : l = [] := List.eq_nil_of_length_eq_zero (by omega)
    rw [if_neg (by rw [decide_eq_true_iff]; omega), h0]
    unfold colletref37_Next_j1
    rw [Comp.val_pure]; rfl
theorem linkE_len (e : api_Entry) : (linkE e).length = 8 := D_length _
theorem nextE_wf {l : List api_Entry} {e : api_Entry} (hl : l.length ≤ 1073741824) (hw : ∀ x ∈ l, EW x) (he : EW e) : EW (nextE l e) := by
  unfold nextE
  split
  · rename_i p hp
    have hm : p ∈ l := List.mem_of_getLast? hp
    exact ⟨⟨by show -9223372036854775808 ≤ ((l.length : Nat) : Int); omega, by show ((l.length : Nat) : Int) < 9223372036854775808; omega⟩, he.shop, he.kind, he.day, he.n, (hw p hm).after, he.after, by show (linkE p).length ≤ _; rw [linkE_len]; decide, by simp⟩
  · exact ⟨⟨by show -9223372036854775808 ≤ ((l.length : Nat) : Int); omega, by show ((l.length : Nat) : Int) < 9223372036854775808; omega⟩, he.shop, he.kind, he.day, he.n, he.before, he.after, by simp, by simp⟩
theorem signE_wf {k : Bytes} {e : api_Entry} (he : EW e) : EW (signE k e) :=
  ⟨he.seq, he.shop, he.kind, he.day, he.n, he.before, he.after, he.prev, by show (D _).length ≤ _; rw [D_length]; decide⟩
end Go.Dgp
end
section
set_option linter.unusedVariables false
set_option linter.unusedSimpArgs false
namespace Go.Dgp
open Go Go.Lift Go.F
open Go.Dig hiding Bytes cat
def decT (n : Nat) : Bytes := (((colletref01_Of (n : Int)).bind colletref01_Text).run 20).getD []
set_option maxRecDepth 1000000 in
theorem dec_run : ∀ n : Fin 256, (((colletref01_Of (n.val : Int)).bind colletref01_Text).run 20).isSome = true ∧ (decT n.val).length ≤ 3 := by decide +kernel
theorem dec_val {n : Nat} (h : n < 256) : ((colletref01_Of (n : Int)).bind colletref01_Text).val = some (decT n) := by
  have h1 := (dec_run ⟨n, h⟩).1
  obtain ⟨y, hy⟩ := Option.isSome_iff_exists.1 h1
  have : decT n = y := by unfold decT; rw [hy]; rfl
  rw [this]; exact Comp.val_run hy
theorem dec_len {n : Nat} (h : n < 256) : (decT n).length ≤ 3 := (dec_run ⟨n, h⟩).2
def keyT (n : Nat) : Bytes := [107, 101, 121, 32] ++ decT n
def rootT (n : Nat) : Bytes := D ([114, 111, 111, 116, 32] ++ decT n)
theorem root37_val {n : Nat} (h : n < 256) : (colletref37_Root (n : Int)).val = some (rootT n) := by
  have h1 := dec_val h
  rw [Comp.val_bind] at h1
  have hl := dec_len h
  unfold colletref37_Root
  rw [Comp.val_bind]
  cases ha : (colletref01_Of (n : Int)).val with
  | none => rw [ha] at h1; cases h1
  | some a =>
    rw [ha, Option.bind_some] at h1
    rw [Option.bind_some, Comp.val_bind, h1, Option.bind_some, cat_bind (by simp; omega), Comp.val_bind, rOf_val _ (by simp; omega), Option.bind_some, Comp.val_pure]; rfl
theorem keys_val {m : Nat} (h : m ≤ 200) : (colletref37_Keys (m : Int)).val = some ((List.range m).map keyT) := by
  have hL : LIM = 1073741824 := rfl
  have key := Comp.loop_seq (body := fun s : List Bytes × Int => colletref37_Keys_l2 (m : Int) s.1 s.2) (fun i => ((List.range i).map keyT, (i : Int))) m ((List.range m).map keyT)
    (by
      intro i hi
      show (colletref37_Keys_l2 (m : Int) ((List.range i).map keyT) (i : Int)).val = _
      have h1 := dec_val (n := i) (by omega)
      have hl := dec_len (n := i) (by omega)
      rw [Comp.val_bind] at h1
      unfold colletref37_Keys_l2
      rw [Comp.val_ite, if_pos (by rw [decide_eq_true_iff]; omega), Comp.val_bind]
      cases ha : (colletref01_Of (i : Int)).val with
      | none => rw [ha] at h1; cases h1
      | some a =>
        rw [ha, Option.bind_some] at h1
        rw [Option.bind_some, Comp.val_bind, h1, Option.bind_some, cat_bind (by simp; omega), Comp.val_bind, app_val (by simp; omega), Option.bind_some, Comp.val_pure, Comp.wrap_succ (by omega), List.range_succ, List.map_append]
        rfl)
    (by
      show (colletref37_Keys_l2 (m : Int) ((List.range m).map keyT) (m : Int)).val = _
      unfold colletref37_Keys_l2
      rw [Comp.val_ite, if_neg (by rw [decide_eq_true_iff]; omega), Comp.val_pure])
  have key' : (Comp.loop (fun s : List Bytes × Int => colletref37_Keys_l2 (m : Int) s.1 s.2) ([], 0)).val = some ((List.range m).map keyT) := key
  unfold colletref37_Keys
  rw [Comp.val_bind, key', Option.bind_some]
  show (colletref37_Keys_j1 _).val = _
  unfold colletref37_Keys_j1
  rw [Comp.val_pure]
end Go.Dgp
end
