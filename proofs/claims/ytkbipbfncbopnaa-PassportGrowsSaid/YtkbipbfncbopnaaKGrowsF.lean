/- For every number of workshops and all numbers of entries, PassportGrows returns true, and its arguments read afterwards as before; no condition. -/
import Derived.Test.YtkbipbfncbopnaaKGrowsE
import Derived.SliceStrings
import Derived.ChangeSlices
import Derived.Lib.SmallJoins
import Derived.OpenShut
import Derived.ShutString
import Derived.ChangeOld
import Derived.Test.YtkbipbfncbopnaaRows
import Derived.WalkKit
import Derived.ProofKit
import Derived.Below
set_option linter.unusedSimpArgs false
set_option linter.unusedVariables false
section
namespace Go.Proofs.Ytkbipbfncbopnaa
open Go Go.RowKit Go.Eng Go.Lift Go.F
set_option linter.unusedVariables false
set_option linter.unusedSimpArgs false
set_option maxRecDepth 100000
set_option maxHeartbeats 4000000 in
theorem ok_colletlaw37_PassportGrows {O : Tags} {w0 : World} (hO : OkO O w0) {x_0 : Int} {v_1 : Value} {x_1 : List (Vector Int 4)} (h_1 : (rSl (rVec 4 1 (fun x => [.int .u8 x]) (fun _ => rfl) (fun _ => by simp [Value.oneCell']))).v O w0 v_1 x_1) {n : Nat} {y : Bool} (h : (colletlaw37_PassportGrows x_0 x_1).run n = some y) : Pure Try.prog 5 #[.int .u8 x_0, v_1] w0 (SP.isv (.bool y)).holds := by
 unfold colletlaw37_PassportGrows at h
 refine pure_of_wp Try.func5 rfl 134 Try.ntmps5 (by simp) fun a0 hA hs0 => ?_
 have q0 : a0.get 0 = .int .u8 x_0 := hs0 0 _ rfl
 have q1 : a0.get 1 = v_1 := hs0 1 _ rfl
 clear hs0
 have hB : Base (Fr w0) O w0 O w0 := Base.start hO
 refine wp_seq ?_
 refine' region [_] mixed hA (.cons (fun _ _ hE hK hg => ok_assign rfl) .nil) ?zok1 ?zgd1 ?zk1
 case zok1 | zgd1 => kernel_rfl
 intro a1 w1 hA hE HF
 replace q0 := kn (HF 0) rfl q0
 replace q1 := kn (HF 1) rfl q1
 clear HF
 replace h_1 := GR.v_ext _ h_1 hE
 replace hB := Base.step hB hE hO; clear hE
 refine li_nil (nx_then (wp_seq ?_))
 obtain ⟨x1, hx1, h⟩ := Comp.run_bind h
 refine' region [SP.isv (.bool x1), _] mixed hA (.cons ?z2_0 (.cons (fun _ _ hE hK hg => ok_assign (ksv (j := 0) (hK 14 rfl) rfl rfl rfl)) .nil)) ?zok2 ?zgd2 ?zk2
 case z2_0 => intro a' w' hE hK hg; have c_ := ok_colletlaw37_sanity (OkO.ext hB.ok hE)  hx1; exact ok_call0 fn14  c_
 case zok2 | zgd2 => kernel_rfl
 intro a2 w2 hA hE HF
 replace q0 := kn (HF 0) rfl q0
 replace q1 := kn (HF 1) rfl q1
 have q5 := ksv (HF 5) rfl rfl rfl
 clear HF
 replace h_1 := GR.v_ext _ h_1 hE
 replace hB := Base.step hB hE hO; clear hE
 refine li_nil (nx_then (wp_seq ?_))
 obtain ⟨x2, hx2, h⟩ := Comp.run_bind h
 refine' region [_, _, _, _, SP.vl (rSl rStr) O x2, SP.vl (rSl rStr) O x2] mixed hA (.cons (fun _ _ hE hK hg => ok_move (kn (hK 0 rfl) rfl q0)) (.cons (fun _ _ hE hK hg => ok_convI ty5 ty3 (ksv (j := 0) (hK 15 rfl) rfl rfl rfl)) (.cons (fun _ _ hE hK hg => ok_rem (ksv (j := 1) (hK 16 rfl) rfl rfl rfl) rfl (by decide)) (.cons (fun _ _ hE hK hg => ok_add rfl (ksv (j := 2) (hK 17 rfl) rfl rfl rfl)) (.cons ?z3_4 (.cons (fun _ _ hE hK hg => ok_assign_pr (φ := SP.vl (rSl rStr) O x2) (kspS (j := 4) (hK 19 rfl) rfl rfl rfl)) .nil)))))) ?zok3 ?zgd3 ?zk3
 case z3_4 => intro a' w' hE hK hg; have c_ := ok_colletref37_Keys (OkO.ext hB.ok hE)  hx2; exact ok_weak (ok_call1 fn23 (ksv (j := 3) (hK 18 rfl) rfl rfl rfl) c_) (fun _ _ _ h => (OwnR.val h (fun g hg => (OkO.ext hB.ok hE) g (OwnR.ge h g hg).1)))
 case zok3 | zgd3 => kernel_rfl
 intro a3 w3 hA hE HF
 replace q0 := kn (HF 0) rfl q0
 replace q1 := kn (HF 1) rfl q1
 replace q5 := kn (HF 5) rfl q5
 have f4 := ksp (HF 6) rfl rfl rfl
 obtain ⟨u3, q6'⟩ : ∃ u, a3.get 6 = u := ⟨_, rfl⟩
 rw [q6'] at f4
 have q6 := q6'; clear q6'
 clear HF
 replace h_1 := GR.v_ext _ h_1 hE
 replace hB := Base.step hB hE hO; clear hE
 refine li_nil (nx_then (wp_seq ?_))
 refine' region [_] mixed hA (.cons (fun _ _ hE hK hg => ok_assign rfl) .nil) ?zok4 ?zgd4 ?zk4
 case zok4 | zgd4 => kernel_rfl
 intro a4 w4 hA hE HF
 replace q0 := kn (HF 0) rfl q0
 replace q1 := kn (HF 1) rfl q1
 replace q5 := kn (HF 5) rfl q5
 replace q6 := kn (HF 6) rfl q6
 have q7 := ksv (HF 7) rfl rfl rfl
 clear HF
 replace h_1 := GR.v_ext _ h_1 hE
 replace f4 := GR.v_ext _ f4 hE
 replace hB := Base.step hB hE hO; clear hE
 refine li_nil (nx_then (wp_seq ?_))
 obtain ⟨x5, hx5, h⟩ := Comp.run_bind h
 refine' region [_, _, _, _, _, SP.isv (.int .i64 x5), _, _, _] mixed hA (.cons (fun _ _ hE hK hg => ok_move (kn (hK 0 rfl) rfl q0)) (.cons (fun _ _ hE hK hg => ok_convI ty5 ty3 (ksv (j := 0) (hK 20 rfl) rfl rfl rfl)) (.cons (fun _ _ hE hK hg => ok_quo (ksv (j := 1) (hK 21 rfl) rfl rfl rfl) rfl (by decide)) (.cons (fun _ _ hE hK hg => ok_move (kn (hK 6 rfl) rfl q6)) (.cons (fun _ _ hE hK hg => okl_len (r := rStr) ty28 (ksv (j := 3) (hK 23 rfl) rfl rfl rfl) (rd_of (GR.v_ext _ f4 hE))) (.cons (fun _ _ hE hK hg => ok_isv (ok_rem (ksv (j := 2) (hK 22 rfl) rfl rfl rfl) (ksv (j := 4) (hK 24 rfl) rfl rfl rfl) (run_rem hx5).1) (congrArg _ (run_rem hx5).2)) (.cons (fun _ _ hE hK hg => ok_assign rfl) (.cons (fun _ _ hE hK hg => ok_assign (ksv (j := 5) (hK 25 rfl) rfl rfl rfl)) (.cons (fun _ _ hE hK hg => ok_assign rfl) .nil))))))))) ?zok5 ?zgd5 ?zk5
 case zok5 | zgd5 => kernel_rfl
 intro a5 w5 hA hE HF
 replace q1 := kn (HF 1) rfl q1
 replace q5 := kn (HF 5) rfl q5
 replace q6 := kn (HF 6) rfl q6
 replace q7 := kn (HF 7) rfl q7
 have q8 := ksv (HF 8) rfl rfl rfl
 have q9 := ksv (HF 9) rfl rfl rfl
 have q10 := ksv (HF 10) rfl rfl rfl
 clear q0
 clear HF
 replace h_1 := GR.v_ext _ h_1 hE
 replace f4 := GR.v_ext _ f4 hE
 replace hB := Base.step hB hE hO; clear hE
 refine li_nil (nx_then ?_)
 refine seq_join (fun a w => ∃ (O81 : Tags) (x78 : List api_Entry) (u79 : Value), a.fit 134 ∧ Base (Fr w0) O w0 O81 w ∧ a.get 5 = .bool x1 ∧ a.get 6 = u3 ∧ (rSl rStr).v O81 w u3 x2 ∧ a.get 7 = u79 ∧ (rSl r_api_Entry).v O81 w u79 x78 ∧ (colletlaw37_PassportGrows_j1 x2 x1 x78).run n = some y) ?_ ?_
 ·
  refine wp_seq ?_
  refine' region [_] mixed hA (.cons (fun _ _ hE hK hg => ok_assign rfl) .nil) ?zok6 ?zgd6 ?zk6
  case zok6 | zgd6 => kernel_rfl
  intro a6 w6 hA hE HF
  replace q1 := kn (HF 1) rfl q1
  replace q5 := kn (HF 5) rfl q5
  replace q6 := kn (HF 6) rfl q6
  replace q7 := kn (HF 7) rfl q7
  replace q8 := kn (HF 8) rfl q8
  replace q9 := kn (HF 9) rfl q9
  replace q10 := kn (HF 10) rfl q10
  have q11 := ksv (HF 11) rfl rfl rfl
  clear HF
  replace h_1 := GR.v_ext _ h_1 hE
  replace f4 := GR.v_ext _ f4 hE
  replace hB := Base.step hB hE hO; clear hE
  refine li_nil (nx_then (wp_block ?_))
  obtain ⟨e2, he2, hk2⟩ := Comp.run_bind h; clear h
  refine loop_m (fun m a w => ∃ (O13 : Tags) (x6 : List api_Entry) (x9 : Int) (x10 : Int) (x11 : Bytes) (x12 : Int) (u7 : Value), a.fit 134 ∧ Base (Fr w0) O w0 O13 w ∧ a.get 1 = v_1 ∧ (rSl (rVec 4 1 (fun x => [.int .u8 x]) (fun _ => rfl) (fun _ => by simp [Value.oneCell']))).v O13 w v_1 x_1 ∧ a.get 5 = .bool x1 ∧ a.get 6 = u3 ∧ (rSl rStr).v O13 w u3 x2 ∧ a.get 7 = u7 ∧ (rSl r_api_Entry).v O13 w u7 x6 ∧ a.get 8 = .int .i64 x9 ∧ a.get 9 = .int .i64 x10 ∧ a.get 10 = .string (str x11) ∧ a.get 11 = .int .i64 x12 ∧ Comp.loopN (fun s => colletlaw37_PassportGrows_l2 x_1 x2 s.1 s.2.1 s.2.2.1 s.2.2.2.1 s.2.2.2.2) n m (x6, x9, x10, x11, x12) = some e2) (m := n) ?st2 ?_
  case st2 =>
   exact ⟨_, _, _, _, _, _, _, hA, hB, q1, h_1, q5, q6, f4, q7, (rSl_nil _ _ _ 0), q8, q9, q10, q11, Comp.run_loop he2⟩
  intro m_ a7 w7 hI
  clear hA hB he2 q1 q5 q6 q7 q8 q9 q10 q11 f4 h_1
  obtain ⟨O13, x6, x9, x10, x11, x12, u7, hA, hB, q1, h_1, q5, q6, f4, q7, f8, q8, q9, q10, q11, hl⟩ := hI
  obtain ⟨m2, hlt2, st2, h, hnext2, hdone2⟩ := Comp.loopN_succ hl; clear hl
  replace h : (colletlaw37_PassportGrows_l2 x_1 x2 x6 x9 x10 x11 x12).run n = some st2 := h
  unfold colletlaw37_PassportGrows_l2 at h
  refine wp_seq (wp_seq ?_)
  refine' region [_, _, _, _, _, _, _, _] mixed hA (.cons (fun _ _ hE hK hg => ok_move (kn (hK 11 rfl) rfl q11)) (.cons (fun _ _ hE hK hg => ok_move (kn (hK 1 rfl) rfl q1)) (.cons (fun _ _ hE hK hg => okl_len (r := (rVec 4 1 (fun x => [.int .u8 x]) (fun _ => rfl) (fun _ => by simp [Value.oneCell']))) ty49 (ksv (j := 1) (hK 27 rfl) rfl rfl rfl) (rd_of (GR.v_ext _ h_1 hE))) (.cons (fun _ _ hE hK hg => ok_lss (ksv (j := 0) (hK 26 rfl) rfl rfl rfl) (ksv (j := 2) (hK 28 rfl) rfl rfl rfl)) (.cons (fun _ _ hE hK hg => ok_move (ksv (j := 3) (hK 29 rfl) rfl rfl rfl)) (.cons (fun _ _ hE hK hg => ok_move (kn (hK 11 rfl) rfl q11)) (.cons ?z7_6 (.cons ?z7_7 .nil)))))))) ?zok7 ?zgd7 ?zk7
  case z7_6 => intro a' w' hE hK hg; exact ok_lss (ksv (j := 5) (hK 31 rfl) rfl rfl hg) rfl
  case z7_7 => intro a' w' hE hK hg; exact ok_pick (ksv (j := 4) (hK 30 rfl) rfl rfl rfl) (fun hb => ksv (j := 6) (hK 32 rfl) rfl rfl (act_g1 rfl rfl hb)) (fun _ => rfl)
  case zok7 | zgd7 => kernel_rfl
  intro a8 w8 hA hE HF
  replace q1 := kn (HF 1) rfl q1
  replace q5 := kn (HF 5) rfl q5
  replace q6 := kn (HF 6) rfl q6
  replace q7 := kn (HF 7) rfl q7
  replace q8 := kn (HF 8) rfl q8
  replace q9 := kn (HF 9) rfl q9
  replace q10 := kn (HF 10) rfl q10
  replace q11 := kn (HF 11) rfl q11
  have q33 := ksv (HF 33) rfl rfl rfl
  clear HF
  replace h_1 := GR.v_ext _ h_1 hE
  replace f4 := GR.v_ext _ f4 hE
  replace f8 := GR.v_ext _ f8 hE
  replace hB := Base.step hB hE hO; clear hE
  obtain ⟨x14, hx_, h⟩ := Comp.run_bind h; replace hx_ := Comp.run_pure hx_; rw [hx_] at q33; clear hx_
  refine li_nil (nx_then ?_)
  refine wp_cond_b q33 (fun hc => ?_) (fun hc => ?_)
  ·
   replace h := Comp.run_b_t hc h; clear hc
   refine wp_skip (nx_then (wp_seq (wp_block (wp_seq ?_))))
   obtain ⟨x15, hx15, h⟩ := Comp.run_bind h
   obtain ⟨x16, hx16, h⟩ := Comp.run_bind h
   obtain ⟨x17, hx17, h⟩ := Comp.run_bind h
   obtain ⟨x18, hx18, h⟩ := Comp.run_bind h
   obtain ⟨x19, hx19, h⟩ := Comp.run_bind h
   obtain ⟨J_, eJ_⟩ : ∃ J_ : (Nat → Bool) → Act → World → Prop, J_ = (fun S_ a_ w_ => ∃ O_ : Tags, Base (Fr w0) O w0 O_ w_ ∧ Keep 0 O13 w8 O_ w_ ∧ (S_ 4 = true → PtrZ (rVec 4 1 (fun x => [.int .u8 x]) (fun _ => rfl) (fun _ => by simp [Value.oneCell'])) O_ w_ (a_.get 40) x15) ∧ (S_ 5 = true → PtrZ (rInt .u8) O_ w_ (a_.get 41) x16) ∧ (S_ 12 = true → PtrZ (rVec 4 1 (fun x => [.int .u8 x]) (fun _ => rfl) (fun _ => by simp [Value.oneCell'])) O_ w_ (a_.get 48) x17) ∧ (S_ 13 = true → PtrZ (rInt .u8) O_ w_ (a_.get 49) x18) ∧ (S_ 18 = true → S_ 19 = false → OwnBP 1 (Fr w0) O_ w_ (a_.get 12) #[.int .i64 0, .int .i64 0, .int .i64 0, .int .i64 0, .int .i64 0, .string (str []), .string (str []), .string (str []), .string (str [])] 26) ∧ (S_ 19 = true → OwnBP 1 (Fr w0) O_ w_ (a_.get 12) #[.int .i64 0, .int .i64 x10, .int .i64 1, .int .i64 (IntKind.wrap .i64 (x9 + (Int.tmod (IntKind.wrap .i64 x16) 4))), .int .i64 0, .string (str []), .string (str x19), .string (str []), .string (str [])] 26)) := ⟨_, rfl⟩
   have T_ : ∀ {i_ : Nat} {d_ : Option Tmp} {v_ : Value} {S_ a' w' w2}, Nat.beq 4 i_ = false → Nat.beq 5 i_ = false → Nat.beq 12 i_ = false → Nat.beq 13 i_ = false → Nat.beq 18 i_ = false → Nat.beq 19 i_ = false → d_ ≠ some 12 → d_ ≠ some 40 → d_ ≠ some 41 → d_ ≠ some 48 → d_ ≠ some 49 → Ext w' w2 → J_ S_ a' w' → J_ (addS S_ i_) (a'.put d_ v_) w2 := by
    subst eJ_; intro i_ d_ v_ S_ a' w' w2 n4_ n5_ n12_ n13_ n18_ n19_ s12_ s40_ s41_ s48_ s49_ hE hJ_
    obtain ⟨O_, hB_, k0_, m4_, m5_, m12_, m13_, v0_0_, v0_1_⟩ := hJ_
    exact ⟨O_, (Base.step hB_ hE hO), (k0_.trans (KX.keep (KX.ext hE) (by decide))), fun h_ => put_other (d := d_) (t := 40) (φ := fun u_ => PtrZ (rVec 4 1 (fun x => [.int .u8 x]) (fun _ => rfl) (fun _ => by simp [Value.oneCell'])) O_ w2 u_ x15) ((PtrZ.keep (m4_ (addS_off n4_ h_)) (KX.keep (KX.ext hE) (by decide)) (by decide) (by intro h; cases h))) s40_, fun h_ => put_other (d := d_) (t := 41) (φ := fun u_ => PtrZ (rInt .u8) O_ w2 u_ x16) ((PtrZ.keep (m5_ (addS_off n5_ h_)) (KX.keep (KX.ext hE) (by decide)) (by decide) (fun _ => rfl))) s41_, fun h_ => put_other (d := d_) (t := 48) (φ := fun u_ => PtrZ (rVec 4 1 (fun x => [.int .u8 x]) (fun _ => rfl) (fun _ => by simp [Value.oneCell'])) O_ w2 u_ x17) ((PtrZ.keep (m12_ (addS_off n12_ h_)) (KX.keep (KX.ext hE) (by decide)) (by decide) (by intro h; cases h))) s48_, fun h_ => put_other (d := d_) (t := 49) (φ := fun u_ => PtrZ (rInt .u8) O_ w2 u_ x18) ((PtrZ.keep (m13_ (addS_off n13_ h_)) (KX.keep (KX.ext hE) (by decide)) (by decide) (fun _ => rfl))) s49_, fun hp_ hq_ => put_other (d := d_) (t := 12) (φ := fun u_ => OwnBP 1 (Fr w0) O_ w2 (u_) #[.int .i64 0, .int .i64 0, .int .i64 0, .int .i64 0, .int .i64 0, .string (str []), .string (str []), .string (str []), .string (str [])] 26) (OwnBP.kx (v0_0_ (addS_off n18_ hp_) (addS_no hq_)) (KX.ext hE) (by decide)) s12_, fun hp_ => put_other (d := d_) (t := 12) (φ := fun u_ => OwnBP 1 (Fr w0) O_ w2 (u_) #[.int .i64 0, .int .i64 x10, .int .i64 1, .int .i64 (IntKind.wrap .i64 (x9 + (Int.tmod (IntKind.wrap .i64 x16) 4))), .int .i64 0, .string (str []), .string (str x19), .string (str []), .string (str [])] 26) (OwnBP.kx (v0_1_ (addS_off n19_ hp_)) (KX.ext hE) (by decide)) s12_⟩
   refine' regionX (draw := true) J_ [SP.isv (.int .i64 x10), SP.isv (.int .i64 x9), SP.isv (v_1), SP.isv (.int .i64 x12), SP.tt, SP.tt, SP.isv (.int .u8 x16), SP.isv (.int .i64 (IntKind.wrap .i64 x16)), SP.isv (.int .i64 (Int.tmod (IntKind.wrap .i64 x16) 4)), SP.isv (.int .i64 (IntKind.wrap .i64 (x9 + (Int.tmod (IntKind.wrap .i64 x16) 4)))), SP.isv (v_1), SP.isv (.int .i64 x12), SP.tt, SP.tt, SP.isv (.int .u8 x18), SP.isv (.int .i64 (IntKind.wrap .i64 x18)), SP.isv (.string (str x19)), SP.isv (.agg #[.int .i64 0, .int .i64 x10, .int .i64 1, .int .i64 (IntKind.wrap .i64 (x9 + (Int.tmod (IntKind.wrap .i64 x16) 4))), .int .i64 0, .string (str []), .string (str x19), .string (str []), .string (str [])]), SP.tt, SP.tt] mixed hA (.cons (stE_isv _) (.cons (stE_isv _) (.cons (stE_isv _) (.cons (stE_isv _) (.cons (stE_tt _) (.cons (stE_tt _) (.cons (stE_isv _) (.cons (stE_isv _) (.cons (stE_isv _) (.cons (stE_isv _) (.cons (stE_isv _) (.cons (stE_isv _) (.cons (stE_tt _) (.cons (stE_tt _) (.cons (stE_isv _) (.cons (stE_isv _) (.cons (stE_isv _) (.cons (stE_isv _) (.cons (stE_tt _) (.cons (stE_tt _) .nil)))))))))))))))))))) (.cons ?z8_0 (.cons ?z8_1 (.cons ?z8_2 (.cons ?z8_3 (.cons ?z8_4 (.cons ?z8_5 (.cons ?z8_6 (.cons ?z8_7 (.cons ?z8_8 (.cons ?z8_9 (.cons ?z8_10 (.cons ?z8_11 (.cons ?z8_12 (.cons ?z8_13 (.cons ?z8_14 (.cons ?z8_15 (.cons ?z8_16 (.cons ?z8_17 (.cons ?z8_18 (.cons ?z8_19 .nil)))))))))))))))))))) ?zsk8 ?zst8 ?zok8 ?zgd8 ?zk8
   case z8_0 =>
    intro S_ a' w' hA_ hJ_ hS_ hafter_ hbef_ hK hg K_ Q_ hK_
    refine x_ok (φ := SP.isv (.int .i64 x10)) (by exact ok_move (kn (hK 9 rfl) rfl q9)) fun v_ w2 hE hv_ => hK_ v_ w2 (T_ rfl rfl rfl rfl rfl rfl (by decide) (by decide) (by decide) (by decide) (by decide) hE hJ_) hv_
   case z8_1 =>
    intro S_ a' w' hA_ hJ_ hS_ hafter_ hbef_ hK hg K_ Q_ hK_
    refine x_ok (φ := SP.isv (.int .i64 x9)) (by exact ok_move (kn (hK 8 rfl) rfl q8)) fun v_ w2 hE hv_ => hK_ v_ w2 (T_ rfl rfl rfl rfl rfl rfl (by decide) (by decide) (by decide) (by decide) (by decide) hE hJ_) hv_
   case z8_2 =>
    intro S_ a' w' hA_ hJ_ hS_ hafter_ hbef_ hK hg K_ Q_ hK_
    refine x_ok (φ := SP.isv (v_1)) (by exact ok_move (kn (hK 1 rfl) rfl q1)) fun v_ w2 hE hv_ => hK_ v_ w2 (T_ rfl rfl rfl rfl rfl rfl (by decide) (by decide) (by decide) (by decide) (by decide) hE hJ_) hv_
   case z8_3 =>
    intro S_ a' w' hA_ hJ_ hS_ hafter_ hbef_ hK hg K_ Q_ hK_
    refine x_ok (φ := SP.isv (.int .i64 x12)) (by exact ok_move (kn (hK 11 rfl) rfl q11)) fun v_ w2 hE hv_ => hK_ v_ w2 (T_ rfl rfl rfl rfl rfl rfl (by decide) (by decide) (by decide) (by decide) (by decide) hE hJ_) hv_
   case z8_4 =>
    intro S_ a' w' hA_ hJ_ hS_ hafter_ hbef_ hK hg K_ Q_ hK_
    subst eJ_
    obtain ⟨O_, hB_, k0_, m4_, m5_, m12_, m13_, v0_0_, v0_1_⟩ := hJ_
    refine x_ok (φ := SP.ptrz (rVec 4 1 (fun x => [.int .u8 x]) (fun _ => rfl) (fun _ => by simp [Value.oneCell'])) O_ x15 (of_decide_eq_true rfl) (by intro h; cases h)) (by exact okl_idxZ (r := (rVec 4 1 (fun x => [.int .u8 x]) (fun _ => rfl) (fun _ => by simp [Value.oneCell']))) (by decide) (by intro h; cases h) ty49 ty50 rfl (ksv (j := 2) (hK 38 rfl) rfl rfl rfl) (GR.v_mono _ h_1 k0_) (ksv (j := 3) (hK 39 rfl) rfl rfl rfl) hx15) fun v_ w2 hE hv_ => ?_
    have hB2_ := Base.step hB_ hE hO
    exact hK_ v_ w2 ⟨O_, hB2_, (k0_.trans (KX.keep (KX.ext hE) (by decide))), fun _ => put_me (φ := fun u_ => PtrZ (rVec 4 1 (fun x => [.int .u8 x]) (fun _ => rfl) (fun _ => by simp [Value.oneCell'])) O_ w2 u_ x15) hA_ (by decide) hv_, fun h_ => put_other (d := some 40) (t := 41) (φ := fun u_ => PtrZ (rInt .u8) O_ w2 u_ x16) ((PtrZ.keep (m5_ (addS_off rfl h_)) (KX.keep (KX.ext hE) (by decide)) (by decide) (fun _ => rfl))) (by decide), fun h_ => put_other (d := some 40) (t := 48) (φ := fun u_ => PtrZ (rVec 4 1 (fun x => [.int .u8 x]) (fun _ => rfl) (fun _ => by simp [Value.oneCell'])) O_ w2 u_ x17) ((PtrZ.keep (m12_ (addS_off rfl h_)) (KX.keep (KX.ext hE) (by decide)) (by decide) (by intro h; cases h))) (by decide), fun h_ => put_other (d := some 40) (t := 49) (φ := fun u_ => PtrZ (rInt .u8) O_ w2 u_ x18) ((PtrZ.keep (m13_ (addS_off rfl h_)) (KX.keep (KX.ext hE) (by decide)) (by decide) (fun _ => rfl))) (by decide), fun hp_ hq_ => put_other (d := some 40) (t := 12) (φ := fun u_ => OwnBP 1 (Fr w0) O_ w2 (u_) #[.int .i64 0, .int .i64 0, .int .i64 0, .int .i64 0, .int .i64 0, .string (str []), .string (str []), .string (str []), .string (str [])] 26) (OwnBP.kx (v0_0_ (addS_off rfl hp_) (addS_no hq_)) (KX.ext hE) (by decide)) (by decide), fun hp_ => put_other (d := some 40) (t := 12) (φ := fun u_ => OwnBP 1 (Fr w0) O_ w2 (u_) #[.int .i64 0, .int .i64 x10, .int .i64 1, .int .i64 (IntKind.wrap .i64 (x9 + (Int.tmod (IntKind.wrap .i64 x16) 4))), .int .i64 0, .string (str []), .string (str x19), .string (str []), .string (str [])] 26) (OwnBP.kx (v0_1_ (addS_off rfl hp_)) (KX.ext hE) (by decide)) (by decide)⟩ trivial
   case z8_5 =>
    intro S_ a' w' hA_ hJ_ hS_ hafter_ hbef_ hK hg K_ Q_ hK_
    subst eJ_
    obtain ⟨O_, hB_, k0_, m4_, m5_, m12_, m13_, v0_0_, v0_1_⟩ := hJ_
    refine x_ok (φ := SP.ptrz (rInt .u8) O_ x16 (of_decide_eq_true rfl) (fun _ => rfl)) (by exact okl_idxArrZ (r := (rInt .u8)) (f := (fun x => [.int .u8 x])) (hl := (fun _ => rfl)) (ho := (fun _ => by simp [Value.oneCell'])) (by decide) (fun _ => rfl) (fun _ _ _ => rfl) ty50 ty5 rfl (m4_ (addS_off rfl (hbef_ 4 (by kernel_rfl)))) rfl hx16) fun v_ w2 hE hv_ => ?_
    have hB2_ := Base.step hB_ hE hO
    exact hK_ v_ w2 ⟨O_, hB2_, (k0_.trans (KX.keep (KX.ext hE) (by decide))), fun h_ => put_other (d := some 41) (t := 40) (φ := fun u_ => PtrZ (rVec 4 1 (fun x => [.int .u8 x]) (fun _ => rfl) (fun _ => by simp [Value.oneCell'])) O_ w2 u_ x15) ((PtrZ.keep (m4_ (addS_off rfl h_)) (KX.keep (KX.ext hE) (by decide)) (by decide) (by intro h; cases h))) (by decide), fun _ => put_me (φ := fun u_ => PtrZ (rInt .u8) O_ w2 u_ x16) hA_ (by decide) hv_, fun h_ => put_other (d := some 41) (t := 48) (φ := fun u_ => PtrZ (rVec 4 1 (fun x => [.int .u8 x]) (fun _ => rfl) (fun _ => by simp [Value.oneCell'])) O_ w2 u_ x17) ((PtrZ.keep (m12_ (addS_off rfl h_)) (KX.keep (KX.ext hE) (by decide)) (by decide) (by intro h; cases h))) (by decide), fun h_ => put_other (d := some 41) (t := 49) (φ := fun u_ => PtrZ (rInt .u8) O_ w2 u_ x18) ((PtrZ.keep (m13_ (addS_off rfl h_)) (KX.keep (KX.ext hE) (by decide)) (by decide) (fun _ => rfl))) (by decide), fun hp_ hq_ => put_other (d := some 41) (t := 12) (φ := fun u_ => OwnBP 1 (Fr w0) O_ w2 (u_) #[.int .i64 0, .int .i64 0, .int .i64 0, .int .i64 0, .int .i64 0, .string (str []), .string (str []), .string (str []), .string (str [])] 26) (OwnBP.kx (v0_0_ (addS_off rfl hp_) (addS_no hq_)) (KX.ext hE) (by decide)) (by decide), fun hp_ => put_other (d := some 41) (t := 12) (φ := fun u_ => OwnBP 1 (Fr w0) O_ w2 (u_) #[.int .i64 0, .int .i64 x10, .int .i64 1, .int .i64 (IntKind.wrap .i64 (x9 + (Int.tmod (IntKind.wrap .i64 x16) 4))), .int .i64 0, .string (str []), .string (str x19), .string (str []), .string (str [])] 26) (OwnBP.kx (v0_1_ (addS_off rfl hp_)) (KX.ext hE) (by decide)) (by decide)⟩ trivial
   case z8_6 =>
    intro S_ a' w' hA_ hJ_ hS_ hafter_ hbef_ hK hg K_ Q_ hK_
    have hJ2_ := hJ_; rw [eJ_] at hJ2_; obtain ⟨O_, hB_, k0_, m4_, m5_, m12_, m13_, v0_0_, v0_1_⟩ := hJ2_
    refine x_ok (φ := SP.isv (.int .u8 x16)) (by exact okl_ldr (rInt .u8) (fun _ => rfl) ty5 rfl rfl rfl (PtrZ.ptr (m5_ (addS_off rfl (hbef_ 5 (by kernel_rfl))))) (fun _ _ _ h => rInt_v.1 h)) fun v_ w2 hE hv_ => hK_ v_ w2 (T_ rfl rfl rfl rfl rfl rfl (by decide) (by decide) (by decide) (by decide) (by decide) hE hJ_) hv_
   case z8_7 =>
    intro S_ a' w' hA_ hJ_ hS_ hafter_ hbef_ hK hg K_ Q_ hK_
    refine x_ok (φ := SP.isv (.int .i64 (IntKind.wrap .i64 x16))) (by exact ok_convI ty5 ty3 (ksv (j := 6) (hK 42 rfl) rfl rfl rfl)) fun v_ w2 hE hv_ => hK_ v_ w2 (T_ rfl rfl rfl rfl rfl rfl (by decide) (by decide) (by decide) (by decide) (by decide) hE hJ_) hv_
   case z8_8 =>
    intro S_ a' w' hA_ hJ_ hS_ hafter_ hbef_ hK hg K_ Q_ hK_
    refine x_ok (φ := SP.isv (.int .i64 (Int.tmod (IntKind.wrap .i64 x16) 4))) (by exact ok_rem (ksv (j := 7) (hK 43 rfl) rfl rfl rfl) rfl (by decide)) fun v_ w2 hE hv_ => hK_ v_ w2 (T_ rfl rfl rfl rfl rfl rfl (by decide) (by decide) (by decide) (by decide) (by decide) hE hJ_) hv_
   case z8_9 =>
    intro S_ a' w' hA_ hJ_ hS_ hafter_ hbef_ hK hg K_ Q_ hK_
    refine x_ok (φ := SP.isv (.int .i64 (IntKind.wrap .i64 (x9 + (Int.tmod (IntKind.wrap .i64 x16) 4))))) (by exact ok_add (ksv (j := 1) (hK 37 rfl) rfl rfl rfl) (ksv (j := 8) (hK 44 rfl) rfl rfl rfl)) fun v_ w2 hE hv_ => hK_ v_ w2 (T_ rfl rfl rfl rfl rfl rfl (by decide) (by decide) (by decide) (by decide) (by decide) hE hJ_) hv_
   case z8_10 =>
    intro S_ a' w' hA_ hJ_ hS_ hafter_ hbef_ hK hg K_ Q_ hK_
    refine x_ok (φ := SP.isv (v_1)) (by exact ok_move (kn (hK 1 rfl) rfl q1)) fun v_ w2 hE hv_ => hK_ v_ w2 (T_ rfl rfl rfl rfl rfl rfl (by decide) (by decide) (by decide) (by decide) (by decide) hE hJ_) hv_
   case z8_11 =>
    intro S_ a' w' hA_ hJ_ hS_ hafter_ hbef_ hK hg K_ Q_ hK_
    refine x_ok (φ := SP.isv (.int .i64 x12)) (by exact ok_move (kn (hK 11 rfl) rfl q11)) fun v_ w2 hE hv_ => hK_ v_ w2 (T_ rfl rfl rfl rfl rfl rfl (by decide) (by decide) (by decide) (by decide) (by decide) hE hJ_) hv_
   case z8_12 =>
    intro S_ a' w' hA_ hJ_ hS_ hafter_ hbef_ hK hg K_ Q_ hK_
    subst eJ_
    obtain ⟨O_, hB_, k0_, m4_, m5_, m12_, m13_, v0_0_, v0_1_⟩ := hJ_
    refine x_ok (φ := SP.ptrz (rVec 4 1 (fun x => [.int .u8 x]) (fun _ => rfl) (fun _ => by simp [Value.oneCell'])) O_ x17 (of_decide_eq_true rfl) (by intro h; cases h)) (by exact okl_idxZ (r := (rVec 4 1 (fun x => [.int .u8 x]) (fun _ => rfl) (fun _ => by simp [Value.oneCell']))) (by decide) (by intro h; cases h) ty49 ty50 rfl (ksv (j := 10) (hK 46 rfl) rfl rfl rfl) (GR.v_mono _ h_1 k0_) (ksv (j := 11) (hK 47 rfl) rfl rfl rfl) hx17) fun v_ w2 hE hv_ => ?_
    have hB2_ := Base.step hB_ hE hO
    exact hK_ v_ w2 ⟨O_, hB2_, (k0_.trans (KX.keep (KX.ext hE) (by decide))), fun h_ => put_other (d := some 48) (t := 40) (φ := fun u_ => PtrZ (rVec 4 1 (fun x => [.int .u8 x]) (fun _ => rfl) (fun _ => by simp [Value.oneCell'])) O_ w2 u_ x15) ((PtrZ.keep (m4_ (addS_off rfl h_)) (KX.keep (KX.ext hE) (by decide)) (by decide) (by intro h; cases h))) (by decide), fun h_ => put_other (d := some 48) (t := 41) (φ := fun u_ => PtrZ (rInt .u8) O_ w2 u_ x16) ((PtrZ.keep (m5_ (addS_off rfl h_)) (KX.keep (KX.ext hE) (by decide)) (by decide) (fun _ => rfl))) (by decide), fun _ => put_me (φ := fun u_ => PtrZ (rVec 4 1 (fun x => [.int .u8 x]) (fun _ => rfl) (fun _ => by simp [Value.oneCell'])) O_ w2 u_ x17) hA_ (by decide) hv_, fun h_ => put_other (d := some 48) (t := 49) (φ := fun u_ => PtrZ (rInt .u8) O_ w2 u_ x18) ((PtrZ.keep (m13_ (addS_off rfl h_)) (KX.keep (KX.ext hE) (by decide)) (by decide) (fun _ => rfl))) (by decide), fun hp_ hq_ => put_other (d := some 48) (t := 12) (φ := fun u_ => OwnBP 1 (Fr w0) O_ w2 (u_) #[.int .i64 0, .int .i64 0, .int .i64 0, .int .i64 0, .int .i64 0, .string (str []), .string (str []), .string (str []), .string (str [])] 26) (OwnBP.kx (v0_0_ (addS_off rfl hp_) (addS_no hq_)) (KX.ext hE) (by decide)) (by decide), fun hp_ => put_other (d := some 48) (t := 12) (φ := fun u_ => OwnBP 1 (Fr w0) O_ w2 (u_) #[.int .i64 0, .int .i64 x10, .int .i64 1, .int .i64 (IntKind.wrap .i64 (x9 + (Int.tmod (IntKind.wrap .i64 x16) 4))), .int .i64 0, .string (str []), .string (str x19), .string (str []), .string (str [])] 26) (OwnBP.kx (v0_1_ (addS_off rfl hp_)) (KX.ext hE) (by decide)) (by decide)⟩ trivial
   case z8_13 =>
    intro S_ a' w' hA_ hJ_ hS_ hafter_ hbef_ hK hg K_ Q_ hK_
    subst eJ_
    obtain ⟨O_, hB_, k0_, m4_, m5_, m12_, m13_, v0_0_, v0_1_⟩ := hJ_
    refine x_ok (φ := SP.ptrz (rInt .u8) O_ x18 (of_decide_eq_true rfl) (fun _ => rfl)) (by exact okl_idxArrZ (r := (rInt .u8)) (f := (fun x => [.int .u8 x])) (hl := (fun _ => rfl)) (ho := (fun _ => by simp [Value.oneCell'])) (by decide) (fun _ => rfl) (fun _ _ _ => rfl) ty50 ty5 rfl (m12_ (addS_off rfl (hbef_ 12 (by kernel_rfl)))) rfl hx18) fun v_ w2 hE hv_ => ?_
    have hB2_ := Base.step hB_ hE hO
    exact hK_ v_ w2 ⟨O_, hB2_, (k0_.trans (KX.keep (KX.ext hE) (by decide))), fun h_ => put_other (d := some 49) (t := 40) (φ := fun u_ => PtrZ (rVec 4 1 (fun x => [.int .u8 x]) (fun _ => rfl) (fun _ => by simp [Value.oneCell'])) O_ w2 u_ x15) ((PtrZ.keep (m4_ (addS_off rfl h_)) (KX.keep (KX.ext hE) (by decide)) (by decide) (by intro h; cases h))) (by decide), fun h_ => put_other (d := some 49) (t := 41) (φ := fun u_ => PtrZ (rInt .u8) O_ w2 u_ x16) ((PtrZ.keep (m5_ (addS_off rfl h_)) (KX.keep (KX.ext hE) (by decide)) (by decide) (fun _ => rfl))) (by decide), fun h_ => put_other (d := some 49) (t := 48) (φ := fun u_ => PtrZ (rVec 4 1 (fun x => [.int .u8 x]) (fun _ => rfl) (fun _ => by simp [Value.oneCell'])) O_ w2 u_ x17) ((PtrZ.keep (m12_ (addS_off rfl h_)) (KX.keep (KX.ext hE) (by decide)) (by decide) (by intro h; cases h))) (by decide), fun _ => put_me (φ := fun u_ => PtrZ (rInt .u8) O_ w2 u_ x18) hA_ (by decide) hv_, fun hp_ hq_ => put_other (d := some 49) (t := 12) (φ := fun u_ => OwnBP 1 (Fr w0) O_ w2 (u_) #[.int .i64 0, .int .i64 0, .int .i64 0, .int .i64 0, .int .i64 0, .string (str []), .string (str []), .string (str []), .string (str [])] 26) (OwnBP.kx (v0_0_ (addS_off rfl hp_) (addS_no hq_)) (KX.ext hE) (by decide)) (by decide), fun hp_ => put_other (d := some 49) (t := 12) (φ := fun u_ => OwnBP 1 (Fr w0) O_ w2 (u_) #[.int .i64 0, .int .i64 x10, .int .i64 1, .int .i64 (IntKind.wrap .i64 (x9 + (Int.tmod (IntKind.wrap .i64 x16) 4))), .int .i64 0, .string (str []), .string (str x19), .string (str []), .string (str [])] 26) (OwnBP.kx (v0_1_ (addS_off rfl hp_)) (KX.ext hE) (by decide)) (by decide)⟩ trivial
   case z8_14 =>
    intro S_ a' w' hA_ hJ_ hS_ hafter_ hbef_ hK hg K_ Q_ hK_
    have hJ2_ := hJ_; rw [eJ_] at hJ2_; obtain ⟨O_, hB_, k0_, m4_, m5_, m12_, m13_, v0_0_, v0_1_⟩ := hJ2_
    refine x_ok (φ := SP.isv (.int .u8 x18)) (by exact okl_ldr (rInt .u8) (fun _ => rfl) ty5 rfl rfl rfl (PtrZ.ptr (m13_ (addS_off rfl (hbef_ 13 (by kernel_rfl))))) (fun _ _ _ h => rInt_v.1 h)) fun v_ w2 hE hv_ => hK_ v_ w2 (T_ rfl rfl rfl rfl rfl rfl (by decide) (by decide) (by decide) (by decide) (by decide) hE hJ_) hv_
   case z8_15 =>
    intro S_ a' w' hA_ hJ_ hS_ hafter_ hbef_ hK hg K_ Q_ hK_
    refine x_ok (φ := SP.isv (.int .i64 (IntKind.wrap .i64 x18))) (by exact ok_convI ty5 ty3 (ksv (j := 14) (hK 50 rfl) rfl rfl rfl)) fun v_ w2 hE hv_ => hK_ v_ w2 (T_ rfl rfl rfl rfl rfl rfl (by decide) (by decide) (by decide) (by decide) (by decide) hE hJ_) hv_
   case z8_16 =>
    intro S_ a' w' hA_ hJ_ hS_ hafter_ hbef_ hK hg K_ Q_ hK_
    have hJ2_ := hJ_; rw [eJ_] at hJ2_; obtain ⟨O_, hB_, k0_, m4_, m5_, m12_, m13_, v0_0_, v0_1_⟩ := hJ2_
    refine x_ok (φ := SP.isv (.string (str x19))) (by have c_ := ok_colletref37_Root hB_.ok  hx19; exact ok_call1 fn29 (ksv (j := 15) (hK 51 rfl) rfl rfl rfl) c_) fun v_ w2 hE hv_ => hK_ v_ w2 (T_ rfl rfl rfl rfl rfl rfl (by decide) (by decide) (by decide) (by decide) (by decide) hE hJ_) hv_
   case z8_17 =>
    intro S_ a' w' hA_ hJ_ hS_ hafter_ hbef_ hK hg K_ Q_ hK_
    refine x_ok (φ := SP.isv (.agg #[.int .i64 0, .int .i64 x10, .int .i64 1, .int .i64 (IntKind.wrap .i64 (x9 + (Int.tmod (IntKind.wrap .i64 x16) 4))), .int .i64 0, .string (str []), .string (str x19), .string (str []), .string (str [])])) (by exact okl_build plc26 ty26 (pk_cons (v := .int .i64 1) rfl (pk_cons (v := .int .i64 x10) (ksv (j := 0) (hK 36 rfl) rfl rfl rfl) (pk_cons (v := .int .i64 (IntKind.wrap .i64 (x9 + (Int.tmod (IntKind.wrap .i64 x16) 4)))) (ksv (j := 9) (hK 45 rfl) rfl rfl rfl) (pk_cons (v := .string (str x19)) (ksv (j := 16) (hK 52 rfl) rfl rfl rfl) pk_nil)))) rfl (.cons rfl rfl rfl (leb rfl) (.cons rfl rfl rfl (leb rfl) (.cons rfl rfl rfl (leb rfl) (.cons rfl rfl rfl (leb rfl) .nil)))) rfl) fun v_ w2 hE hv_ => hK_ v_ w2 (T_ rfl rfl rfl rfl rfl rfl (by decide) (by decide) (by decide) (by decide) (by decide) hE hJ_) hv_
   case z8_18 =>
    intro S_ a' w' hA_ hJ_ hS_ hafter_ hbef_ hK hg K_ Q_ hK_
    subst eJ_
    obtain ⟨O_, hB_, k0_, m4_, m5_, m12_, m13_, v0_0_, v0_1_⟩ := hJ_
    refine x_ok (φ := SP.box w'.heap.size #[.int .i64 0, .int .i64 0, .int .i64 0, .int .i64 0, .int .i64 0, .string (str []), .string (str []), .string (str []), .string (str [])] 26) (by exact ok_alloc (Nat.le_refl _) ty26) fun v_ w2 hE hv_ => ?_
    obtain ⟨O2_, b_, hB2_, hX_, e_, f_⟩ := boxNew hO hB_ hE hv_ 1 (by decide)
    exact hK_ v_ w2 ⟨O2_, hB2_, (k0_.trans (KX.keep hX_ (by decide))), fun h_ => put_other (d := some 12) (t := 40) (φ := fun u_ => PtrZ (rVec 4 1 (fun x => [.int .u8 x]) (fun _ => rfl) (fun _ => by simp [Value.oneCell'])) O2_ w2 u_ x15) ((PtrZ.keep (m4_ (addS_off rfl h_)) (KX.keep hX_ (by decide)) (by decide) (by intro h; cases h))) (by decide), fun h_ => put_other (d := some 12) (t := 41) (φ := fun u_ => PtrZ (rInt .u8) O2_ w2 u_ x16) ((PtrZ.keep (m5_ (addS_off rfl h_)) (KX.keep hX_ (by decide)) (by decide) (fun _ => rfl))) (by decide), fun h_ => put_other (d := some 12) (t := 48) (φ := fun u_ => PtrZ (rVec 4 1 (fun x => [.int .u8 x]) (fun _ => rfl) (fun _ => by simp [Value.oneCell'])) O2_ w2 u_ x17) ((PtrZ.keep (m12_ (addS_off rfl h_)) (KX.keep hX_ (by decide)) (by decide) (by intro h; cases h))) (by decide), fun h_ => put_other (d := some 12) (t := 49) (φ := fun u_ => PtrZ (rInt .u8) O2_ w2 u_ x18) ((PtrZ.keep (m13_ (addS_off rfl h_)) (KX.keep hX_ (by decide)) (by decide) (fun _ => rfl))) (by decide), fun hp_ hq_ => put_me (φ := fun u_ => OwnBP 1 (Fr w0) O2_ w2 (u_) #[.int .i64 0, .int .i64 0, .int .i64 0, .int .i64 0, .int .i64 0, .string (str []), .string (str []), .string (str []), .string (str [])] 26) hA_ (by decide) ⟨b_, e_, f_⟩, fun hp_ => no_tf (addS_off rfl hp_) (hafter_ 19 (by kernel_rfl))⟩ trivial
   case z8_19 =>
    intro S_ a' w' hA_ hJ_ hS_ hafter_ hbef_ hK hg K_ Q_ hK_
    subst eJ_
    obtain ⟨O_, hB_, k0_, m4_, m5_, m12_, m13_, v0_0_, v0_1_⟩ := hJ_
    obtain ⟨b_, eb_, fb_⟩ := (v0_0_ (addS_off rfl (hbef_ 18 (by kernel_rfl))) hS_)
    refine x_storeSub (vs := [.int .i64 0, .int .i64 x10, .int .i64 1, .int .i64 (IntKind.wrap .i64 (x9 + (Int.tmod (IntKind.wrap .i64 x16) 4))), .int .i64 0, .string (str []), .string (str x19), .string (str []), .string (str [])]) (cs' := #[.int .i64 0, .int .i64 x10, .int .i64 1, .int .i64 (IntKind.wrap .i64 (x9 + (Int.tmod (IntKind.wrap .i64 x16) 4))), .int .i64 0, .string (str []), .string (str x19), .string (str []), .string (str [])]) hO hB_ (okB_fr hB_) ty26 eb_ (ksv (j := 17) (hK 53 rfl) rfl rfl rfl) rfl (by simp [Value.oneCell']) fb_ (by simp) rfl fun w2 f_ hB2_ hX_ => ?_
    exact hK_ undef w2 ⟨O_, hB2_, (k0_.trans (KX.keep hX_ (by decide))), fun h_ => put_other (d := none) (t := 40) (φ := fun u_ => PtrZ (rVec 4 1 (fun x => [.int .u8 x]) (fun _ => rfl) (fun _ => by simp [Value.oneCell'])) O_ w2 u_ x15) ((PtrZ.keep (m4_ (addS_off rfl h_)) (KX.keep hX_ (by decide)) (by decide) (by intro h; cases h))) (by decide), fun h_ => put_other (d := none) (t := 41) (φ := fun u_ => PtrZ (rInt .u8) O_ w2 u_ x16) ((PtrZ.keep (m5_ (addS_off rfl h_)) (KX.keep hX_ (by decide)) (by decide) (fun _ => rfl))) (by decide), fun h_ => put_other (d := none) (t := 48) (φ := fun u_ => PtrZ (rVec 4 1 (fun x => [.int .u8 x]) (fun _ => rfl) (fun _ => by simp [Value.oneCell'])) O_ w2 u_ x17) ((PtrZ.keep (m12_ (addS_off rfl h_)) (KX.keep hX_ (by decide)) (by decide) (by intro h; cases h))) (by decide), fun h_ => put_other (d := none) (t := 49) (φ := fun u_ => PtrZ (rInt .u8) O_ w2 u_ x18) ((PtrZ.keep (m13_ (addS_off rfl h_)) (KX.keep hX_ (by decide)) (by decide) (fun _ => rfl))) (by decide), fun hp_ hq_ => addS_me hq_, fun hp_ => put_other (d := none) (t := 12) (φ := fun u_ => OwnBP 1 (Fr w0) O_ w2 (u_) #[.int .i64 0, .int .i64 x10, .int .i64 1, .int .i64 (IntKind.wrap .i64 (x9 + (Int.tmod (IntKind.wrap .i64 x16) 4))), .int .i64 0, .string (str []), .string (str x19), .string (str []), .string (str [])] 26) (⟨b_, eb_, f_⟩) (by decide)⟩ trivial
   case zsk8 =>
    subst eJ_
    intro i_ o_ S_ a_ w_ ho_ hact_ hA_ hS_ hbef_ hJ_
    obtain ⟨O_, hB_, k0_, m4_, m5_, m12_, m13_, v0_0_, v0_1_⟩ := hJ_
    exact ⟨O_, hB_, k0_, fun h_ => by obtain ⟨h1_, h2_⟩ := skip_off (j := 4) hact_ rfl h_; exact put_other (t := 40) (φ := fun u_ => PtrZ (rVec 4 1 (fun x => [.int .u8 x]) (fun _ => rfl) (fun _ => by simp [Value.oneCell'])) O_ w_ u_ x15) (m4_ h1_) (uniqDst_ne (j := 4) (by kernel_rfl) ho_ h2_), fun h_ => by obtain ⟨h1_, h2_⟩ := skip_off (j := 5) hact_ rfl h_; exact put_other (t := 41) (φ := fun u_ => PtrZ (rInt .u8) O_ w_ u_ x16) (m5_ h1_) (uniqDst_ne (j := 5) (by kernel_rfl) ho_ h2_), fun h_ => by obtain ⟨h1_, h2_⟩ := skip_off (j := 12) hact_ rfl h_; exact put_other (t := 48) (φ := fun u_ => PtrZ (rVec 4 1 (fun x => [.int .u8 x]) (fun _ => rfl) (fun _ => by simp [Value.oneCell'])) O_ w_ u_ x17) (m12_ h1_) (uniqDst_ne (j := 12) (by kernel_rfl) ho_ h2_), fun h_ => by obtain ⟨h1_, h2_⟩ := skip_off (j := 13) hact_ rfl h_; exact put_other (t := 49) (φ := fun u_ => PtrZ (rInt .u8) O_ w_ u_ x18) (m13_ h1_) (uniqDst_ne (j := 13) (by kernel_rfl) ho_ h2_), fun hp_ hq_ => by obtain ⟨h1_, h2_⟩ := skip_off (j := 18) hact_ rfl hp_; exact put_other (t := 12) (φ := fun u_ => OwnBP 1 (Fr w0) O_ w_ (u_) #[.int .i64 0, .int .i64 0, .int .i64 0, .int .i64 0, .int .i64 0, .string (str []), .string (str []), .string (str []), .string (str [])] 26) (v0_0_ h1_ (addS_no hq_)) (uniqDst_ne (j := 18) (by kernel_rfl) ho_ h2_), fun hp_ => by obtain ⟨h1_, h2_⟩ := skip_off (j := 19) hact_ rfl hp_; exact put_other (t := 12) (φ := fun u_ => OwnBP 1 (Fr w0) O_ w_ (u_) #[.int .i64 0, .int .i64 x10, .int .i64 1, .int .i64 (IntKind.wrap .i64 (x9 + (Int.tmod (IntKind.wrap .i64 x16) 4))), .int .i64 0, .string (str []), .string (str x19), .string (str []), .string (str [])] 26) (v0_1_ h1_) (uniqDst_ne (j := 18) (by kernel_rfl) ho_ (skip_ne hact_ rfl))⟩
   case zst8 => subst eJ_; exact fun w1_ hE_ => ⟨O13, (Base.step hB hE_ hO), (Keep.ext hE_), fun h_ => no_ft h_, fun h_ => no_ft h_, fun h_ => no_ft h_, fun h_ => no_ft h_, fun hp_ => no_ft hp_, fun hp_ => no_ft hp_⟩
   case zok8 | zgd8 => kernel_rfl
   subst eJ_; clear T_
   intro a9 w9 hA HF hJ_
   obtain ⟨O20, hB_, k0_, m4_, m5_, m12_, m13_, v0_0_, v0_1_⟩ := hJ_
   replace q1 := kn (HF 1) rfl q1
   replace q5 := kn (HF 5) rfl q5
   replace q6 := kn (HF 6) rfl q6
   replace q7 := kn (HF 7) rfl q7
   replace q9 := kn (HF 9) rfl q9
   replace q10 := kn (HF 10) rfl q10
   replace q11 := kn (HF 11) rfl q11
   obtain ⟨b21, q12', f22⟩ := (v0_1_ rfl)
   have q12 := q12'; clear q12'
   clear q8
   clear q33
   clear HF
   replace h_1 := GR.v_mono _ h_1 k0_
   replace f4 := GR.v_mono _ f4 k0_
   replace f8 := GR.v_mono _ f8 k0_
   clear hB; have hB := hB_; clear hB_
   clear k0_ m4_ m5_ m12_ m13_ v0_0_ v0_1_
   refine nx_then ?_
   refine seq_join (fun a w => ∃ (O36 : Tags) (x27 : Int) (x28 : Int) (x29 : Int) (x30 : Int) (x31 : Int) (x32 : Bytes) (x33 : Bytes) (x34 : Bytes) (x35 : Bytes), a.fit 134 ∧ Base (Fr w0) O w0 O36 w ∧ a.get 1 = v_1 ∧ (rSl (rVec 4 1 (fun x => [.int .u8 x]) (fun _ => rfl) (fun _ => by simp [Value.oneCell']))).v O36 w v_1 x_1 ∧ a.get 5 = .bool x1 ∧ a.get 6 = u3 ∧ (rSl rStr).v O36 w u3 x2 ∧ a.get 7 = u7 ∧ (rSl r_api_Entry).v O36 w u7 x6 ∧ a.get 9 = .int .i64 x10 ∧ a.get 10 = .string (str x11) ∧ a.get 11 = .int .i64 x12 ∧ a.get 12 = .pointer (some ⟨b21, 0, none⟩) ∧ OwnB 1 (Fr w0) O36 w b21 #[.int .i64 x27, .int .i64 x28, .int .i64 x29, .int .i64 x30, .int .i64 x31, .string (str x32), .string (str x33), .string (str x34), .string (str x35)] 26 ∧ (colletlaw37_PassportGrows_j3 x_1 x12 x2 x6 x11 x10 x27 x28 x29 x30 x31 x32 x33 x34 x35).run n = some st2) ?_ ?_
   ·
    refine wp_seq ?_
    refine' region [_, _] mixed hA (.cons (fun _ _ hE hK hg => ok_move (kn (hK 11 rfl) rfl q11)) (.cons (fun _ _ hE hK hg => ok_gtr (ksv (j := 0) (hK 54 rfl) rfl rfl rfl) rfl) .nil)) ?zok9 ?zgd9 ?zk9
    case zok9 | zgd9 => kernel_rfl
    intro a10 w10 hA hE HF
    replace q1 := kn (HF 1) rfl q1
    replace q5 := kn (HF 5) rfl q5
    replace q6 := kn (HF 6) rfl q6
    replace q7 := kn (HF 7) rfl q7
    replace q9 := kn (HF 9) rfl q9
    replace q10 := kn (HF 10) rfl q10
    replace q11 := kn (HF 11) rfl q11
    replace q12 := kn (HF 12) rfl q12
    have q55 := ksv (HF 55) rfl rfl rfl
    clear HF
    replace h_1 := GR.v_ext _ h_1 hE
    replace f4 := GR.v_ext _ f4 hE
    replace f8 := GR.v_ext _ f8 hE
    replace f22 := f22.ext hE
    replace hB := Base.step hB hE hO; clear hE
    refine li_nil (nx_then ?_)
    refine wp_cond_b q55 (fun hc => ?_) (fun hc => ?_)
    ·
     replace h := Comp.run_b_t hc h; clear hc
     obtain ⟨x23, hx23, h⟩ := Comp.run_bind h
     obtain ⟨x24, hx24, h⟩ := Comp.run_bind h
     obtain ⟨J_, eJ_⟩ : ∃ J_ : (Nat → Bool) → Act → World → Prop, J_ = (fun S_ a_ w_ => ∃ O_ : Tags, Base (Fr w0) O w0 O_ w_ ∧ Keep 0 O20 w10 O_ w_ ∧ (S_ 2 = true → PtrZ (rVec 4 1 (fun x => [.int .u8 x]) (fun _ => rfl) (fun _ => by simp [Value.oneCell'])) O_ w_ (a_.get 58) x23) ∧ (S_ 3 = true → PtrZ (rInt .u8) O_ w_ (a_.get 59) x24) ∧ (S_ 9 = false → OwnB 1 (Fr w0) O_ w_ b21 #[.int .i64 0, .int .i64 x10, .int .i64 1, .int .i64 (IntKind.wrap .i64 (x9 + (Int.tmod (IntKind.wrap .i64 x16) 4))), .int .i64 0, .string (str []), .string (str x19), .string (str []), .string (str [])] 26) ∧ (S_ 9 = true → OwnB 1 (Fr w0) O_ w_ b21 #[.int .i64 ((api_Entry.mk 0 x10 1 (IntKind.wrap .i64 (x9 + (Int.tmod (IntKind.wrap .i64 x16) 4))) 0 [] x19 [] []).Seq), .int .i64 ((api_Entry.mk 0 x10 1 (IntKind.wrap .i64 (x9 + (Int.tmod (IntKind.wrap .i64 x16) 4))) 0 [] x19 [] []).Shop), .int .i64 (IntKind.wrap .i64 (2 + (Int.tmod (IntKind.wrap .i64 x24) 3))), .int .i64 ((api_Entry.mk 0 x10 1 (IntKind.wrap .i64 (x9 + (Int.tmod (IntKind.wrap .i64 x16) 4))) 0 [] x19 [] []).Day), .int .i64 ((api_Entry.mk 0 x10 1 (IntKind.wrap .i64 (x9 + (Int.tmod (IntKind.wrap .i64 x16) 4))) 0 [] x19 [] []).N), .string (str ((api_Entry.mk 0 x10 1 (IntKind.wrap .i64 (x9 + (Int.tmod (IntKind.wrap .i64 x16) 4))) 0 [] x19 [] []).Before)), .string (str ((api_Entry.mk 0 x10 1 (IntKind.wrap .i64 (x9 + (Int.tmod (IntKind.wrap .i64 x16) 4))) 0 [] x19 [] []).After)), .string (str ((api_Entry.mk 0 x10 1 (IntKind.wrap .i64 (x9 + (Int.tmod (IntKind.wrap .i64 x16) 4))) 0 [] x19 [] []).Prev)), .string (str ((api_Entry.mk 0 x10 1 (IntKind.wrap .i64 (x9 + (Int.tmod (IntKind.wrap .i64 x16) 4))) 0 [] x19 [] []).Mark))] 26)) := ⟨_, rfl⟩
     have T_ : ∀ {i_ : Nat} {d_ : Option Tmp} {v_ : Value} {S_ a' w' w2}, Nat.beq 2 i_ = false → Nat.beq 3 i_ = false → Nat.beq 9 i_ = false → d_ ≠ some 58 → d_ ≠ some 59 → Ext w' w2 → J_ S_ a' w' → J_ (addS S_ i_) (a'.put d_ v_) w2 := by
      subst eJ_; intro i_ d_ v_ S_ a' w' w2 n2_ n3_ n9_ s58_ s59_ hE hJ_
      obtain ⟨O_, hB_, k0_, m2_, m3_, v0_0_, v0_1_⟩ := hJ_
      exact ⟨O_, (Base.step hB_ hE hO), (k0_.trans (KX.keep (KX.ext hE) (by decide))), fun h_ => put_other (d := d_) (t := 58) (φ := fun u_ => PtrZ (rVec 4 1 (fun x => [.int .u8 x]) (fun _ => rfl) (fun _ => by simp [Value.oneCell'])) O_ w2 u_ x23) ((PtrZ.keep (m2_ (addS_off n2_ h_)) (KX.keep (KX.ext hE) (by decide)) (by decide) (by intro h; cases h))) s58_, fun h_ => put_other (d := d_) (t := 59) (φ := fun u_ => PtrZ (rInt .u8) O_ w2 u_ x24) ((PtrZ.keep (m3_ (addS_off n3_ h_)) (KX.keep (KX.ext hE) (by decide)) (by decide) (fun _ => rfl))) s59_, fun hq_ => OwnB.kx (v0_0_ (addS_no hq_)) (KX.ext hE) (by decide), fun hp_ => OwnB.kx (v0_1_ (addS_off n9_ hp_)) (KX.ext hE) (by decide)⟩
     refine' regionX (draw := false) J_ [SP.isv (v_1), SP.isv (.int .i64 x12), SP.tt, SP.tt, SP.isv (.int .u8 x24), SP.isv (.int .i64 (IntKind.wrap .i64 x24)), SP.isv (.int .i64 (Int.tmod (IntKind.wrap .i64 x24) 3)), SP.isv (.int .i64 (IntKind.wrap .i64 (2 + (Int.tmod (IntKind.wrap .i64 x24) 3)))), SP.isv (.pointer (some ⟨b21, 2, none⟩)), SP.tt] mixed hA (.cons (stE_isv _) (.cons (stE_isv _) (.cons (stE_tt _) (.cons (stE_tt _) (.cons (stE_isv _) (.cons (stE_isv _) (.cons (stE_isv _) (.cons (stE_isv _) (.cons (stE_isv _) (.cons (stE_tt _) .nil)))))))))) (.cons ?z10_0 (.cons ?z10_1 (.cons ?z10_2 (.cons ?z10_3 (.cons ?z10_4 (.cons ?z10_5 (.cons ?z10_6 (.cons ?z10_7 (.cons ?z10_8 (.cons ?z10_9 .nil)))))))))) ?zsk10 ?zst10 ?zok10 ?zgd10 ?zk10
     case z10_0 =>
      intro S_ a' w' hA_ hJ_ hS_ hafter_ hbef_ hK hg K_ Q_ hK_
      refine x_ok (φ := SP.isv (v_1)) (by exact ok_move (kn (hK 1 rfl) rfl q1)) fun v_ w2 hE hv_ => hK_ v_ w2 (T_ rfl rfl rfl (by decide) (by decide) hE hJ_) hv_
     case z10_1 =>
      intro S_ a' w' hA_ hJ_ hS_ hafter_ hbef_ hK hg K_ Q_ hK_
      refine x_ok (φ := SP.isv (.int .i64 x12)) (by exact ok_move (kn (hK 11 rfl) rfl q11)) fun v_ w2 hE hv_ => hK_ v_ w2 (T_ rfl rfl rfl (by decide) (by decide) hE hJ_) hv_
     case z10_2 =>
      intro S_ a' w' hA_ hJ_ hS_ hafter_ hbef_ hK hg K_ Q_ hK_
      subst eJ_
      obtain ⟨O_, hB_, k0_, m2_, m3_, v0_0_, v0_1_⟩ := hJ_
      refine x_ok (φ := SP.ptrz (rVec 4 1 (fun x => [.int .u8 x]) (fun _ => rfl) (fun _ => by simp [Value.oneCell'])) O_ x23 (of_decide_eq_true rfl) (by intro h; cases h)) (by exact okl_idxZ (r := (rVec 4 1 (fun x => [.int .u8 x]) (fun _ => rfl) (fun _ => by simp [Value.oneCell']))) (by decide) (by intro h; cases h) ty49 ty50 rfl (ksv (j := 0) (hK 56 rfl) rfl rfl rfl) (GR.v_mono _ h_1 k0_) (ksv (j := 1) (hK 57 rfl) rfl rfl rfl) hx23) fun v_ w2 hE hv_ => ?_
      have hB2_ := Base.step hB_ hE hO
      exact hK_ v_ w2 ⟨O_, hB2_, (k0_.trans (KX.keep (KX.ext hE) (by decide))), fun _ => put_me (φ := fun u_ => PtrZ (rVec 4 1 (fun x => [.int .u8 x]) (fun _ => rfl) (fun _ => by simp [Value.oneCell'])) O_ w2 u_ x23) hA_ (by decide) hv_, fun h_ => put_other (d := some 58) (t := 59) (φ := fun u_ => PtrZ (rInt .u8) O_ w2 u_ x24) ((PtrZ.keep (m3_ (addS_off rfl h_)) (KX.keep (KX.ext hE) (by decide)) (by decide) (fun _ => rfl))) (by decide), fun hq_ => OwnB.kx (v0_0_ (addS_no hq_)) (KX.ext hE) (by decide), fun hp_ => OwnB.kx (v0_1_ (addS_off rfl hp_)) (KX.ext hE) (by decide)⟩ trivial
     case z10_3 =>
      intro S_ a' w' hA_ hJ_ hS_ hafter_ hbef_ hK hg K_ Q_ hK_
      subst eJ_
      obtain ⟨O_, hB_, k0_, m2_, m3_, v0_0_, v0_1_⟩ := hJ_
      refine x_ok (φ := SP.ptrz (rInt .u8) O_ x24 (of_decide_eq_true rfl) (fun _ => rfl)) (by exact okl_idxArrZ (r := (rInt .u8)) (f := (fun x => [.int .u8 x])) (hl := (fun _ => rfl)) (ho := (fun _ => by simp [Value.oneCell'])) (by decide) (fun _ => rfl) (fun _ _ _ => rfl) ty50 ty5 rfl (m2_ (addS_off rfl (hbef_ 2 (by kernel_rfl)))) rfl hx24) fun v_ w2 hE hv_ => ?_
      have hB2_ := Base.step hB_ hE hO
      exact hK_ v_ w2 ⟨O_, hB2_, (k0_.trans (KX.keep (KX.ext hE) (by decide))), fun h_ => put_other (d := some 59) (t := 58) (φ := fun u_ => PtrZ (rVec 4 1 (fun x => [.int .u8 x]) (fun _ => rfl) (fun _ => by simp [Value.oneCell'])) O_ w2 u_ x23) ((PtrZ.keep (m2_ (addS_off rfl h_)) (KX.keep (KX.ext hE) (by decide)) (by decide) (by intro h; cases h))) (by decide), fun _ => put_me (φ := fun u_ => PtrZ (rInt .u8) O_ w2 u_ x24) hA_ (by decide) hv_, fun hq_ => OwnB.kx (v0_0_ (addS_no hq_)) (KX.ext hE) (by decide), fun hp_ => OwnB.kx (v0_1_ (addS_off rfl hp_)) (KX.ext hE) (by decide)⟩ trivial
     case z10_4 =>
      intro S_ a' w' hA_ hJ_ hS_ hafter_ hbef_ hK hg K_ Q_ hK_
      have hJ2_ := hJ_; rw [eJ_] at hJ2_; obtain ⟨O_, hB_, k0_, m2_, m3_, v0_0_, v0_1_⟩ := hJ2_
      refine x_ok (φ := SP.isv (.int .u8 x24)) (by exact okl_ldr (rInt .u8) (fun _ => rfl) ty5 rfl rfl rfl (PtrZ.ptr (m3_ (addS_off rfl (hbef_ 3 (by kernel_rfl))))) (fun _ _ _ h => rInt_v.1 h)) fun v_ w2 hE hv_ => hK_ v_ w2 (T_ rfl rfl rfl (by decide) (by decide) hE hJ_) hv_
     case z10_5 =>
      intro S_ a' w' hA_ hJ_ hS_ hafter_ hbef_ hK hg K_ Q_ hK_
      refine x_ok (φ := SP.isv (.int .i64 (IntKind.wrap .i64 x24))) (by exact ok_convI ty5 ty3 (ksv (j := 4) (hK 60 rfl) rfl rfl rfl)) fun v_ w2 hE hv_ => hK_ v_ w2 (T_ rfl rfl rfl (by decide) (by decide) hE hJ_) hv_
     case z10_6 =>
      intro S_ a' w' hA_ hJ_ hS_ hafter_ hbef_ hK hg K_ Q_ hK_
      refine x_ok (φ := SP.isv (.int .i64 (Int.tmod (IntKind.wrap .i64 x24) 3))) (by exact ok_rem (ksv (j := 5) (hK 61 rfl) rfl rfl rfl) rfl (by decide)) fun v_ w2 hE hv_ => hK_ v_ w2 (T_ rfl rfl rfl (by decide) (by decide) hE hJ_) hv_
     case z10_7 =>
      intro S_ a' w' hA_ hJ_ hS_ hafter_ hbef_ hK hg K_ Q_ hK_
      refine x_ok (φ := SP.isv (.int .i64 (IntKind.wrap .i64 (2 + (Int.tmod (IntKind.wrap .i64 x24) 3))))) (by exact ok_add rfl (ksv (j := 6) (hK 62 rfl) rfl rfl rfl)) fun v_ w2 hE hv_ => hK_ v_ w2 (T_ rfl rfl rfl (by decide) (by decide) hE hJ_) hv_
     case z10_8 =>
      intro S_ a' w' hA_ hJ_ hS_ hafter_ hbef_ hK hg K_ Q_ hK_
      refine x_ok (φ := SP.isv (.pointer (some ⟨b21, 2, none⟩))) (by exact ok_fieldAddr fl26_2 (kn (hK 12 rfl) rfl q12)) fun v_ w2 hE hv_ => hK_ v_ w2 (T_ rfl rfl rfl (by decide) (by decide) hE hJ_) hv_
     case z10_9 =>
      intro S_ a' w' hA_ hJ_ hS_ hafter_ hbef_ hK hg K_ Q_ hK_
      subst eJ_
      obtain ⟨O_, hB_, k0_, m2_, m3_, v0_0_, v0_1_⟩ := hJ_
      refine x_store1 (cs' := #[.int .i64 ((api_Entry.mk 0 x10 1 (IntKind.wrap .i64 (x9 + (Int.tmod (IntKind.wrap .i64 x16) 4))) 0 [] x19 [] []).Seq), .int .i64 ((api_Entry.mk 0 x10 1 (IntKind.wrap .i64 (x9 + (Int.tmod (IntKind.wrap .i64 x16) 4))) 0 [] x19 [] []).Shop), .int .i64 (IntKind.wrap .i64 (2 + (Int.tmod (IntKind.wrap .i64 x24) 3))), .int .i64 ((api_Entry.mk 0 x10 1 (IntKind.wrap .i64 (x9 + (Int.tmod (IntKind.wrap .i64 x16) 4))) 0 [] x19 [] []).Day), .int .i64 ((api_Entry.mk 0 x10 1 (IntKind.wrap .i64 (x9 + (Int.tmod (IntKind.wrap .i64 x16) 4))) 0 [] x19 [] []).N), .string (str ((api_Entry.mk 0 x10 1 (IntKind.wrap .i64 (x9 + (Int.tmod (IntKind.wrap .i64 x16) 4))) 0 [] x19 [] []).Before)), .string (str ((api_Entry.mk 0 x10 1 (IntKind.wrap .i64 (x9 + (Int.tmod (IntKind.wrap .i64 x16) 4))) 0 [] x19 [] []).After)), .string (str ((api_Entry.mk 0 x10 1 (IntKind.wrap .i64 (x9 + (Int.tmod (IntKind.wrap .i64 x16) 4))) 0 [] x19 [] []).Prev)), .string (str ((api_Entry.mk 0 x10 1 (IntKind.wrap .i64 (x9 + (Int.tmod (IntKind.wrap .i64 x16) 4))) 0 [] x19 [] []).Mark))]) hO hB_ (okB_fr hB_) ty3 (ksv (j := 8) (hK 64 rfl) rfl rfl rfl) (ksv (j := 7) (hK 63 rfl) rfl rfl rfl) rfl rfl (v0_0_ hS_) (by simp) rfl fun w2 f_ hB2_ hX_ => ?_
      exact hK_ undef w2 ⟨O_, hB2_, (k0_.trans (KX.keep hX_ (by decide))), fun h_ => put_other (d := none) (t := 58) (φ := fun u_ => PtrZ (rVec 4 1 (fun x => [.int .u8 x]) (fun _ => rfl) (fun _ => by simp [Value.oneCell'])) O_ w2 u_ x23) ((PtrZ.keep (m2_ (addS_off rfl h_)) (KX.keep hX_ (by decide)) (by decide) (by intro h; cases h))) (by decide), fun h_ => put_other (d := none) (t := 59) (φ := fun u_ => PtrZ (rInt .u8) O_ w2 u_ x24) ((PtrZ.keep (m3_ (addS_off rfl h_)) (KX.keep hX_ (by decide)) (by decide) (fun _ => rfl))) (by decide), fun hq_ => addS_me hq_, fun hp_ => f_⟩ trivial
     case zsk10 =>
      subst eJ_
      intro i_ o_ S_ a_ w_ ho_ hact_ hA_ hS_ hbef_ hJ_
      obtain ⟨O_, hB_, k0_, m2_, m3_, v0_0_, v0_1_⟩ := hJ_
      exact ⟨O_, hB_, k0_, fun h_ => by obtain ⟨h1_, h2_⟩ := skip_off (j := 2) hact_ rfl h_; exact put_other (t := 58) (φ := fun u_ => PtrZ (rVec 4 1 (fun x => [.int .u8 x]) (fun _ => rfl) (fun _ => by simp [Value.oneCell'])) O_ w_ u_ x23) (m2_ h1_) (uniqDst_ne (j := 2) (by kernel_rfl) ho_ h2_), fun h_ => by obtain ⟨h1_, h2_⟩ := skip_off (j := 3) hact_ rfl h_; exact put_other (t := 59) (φ := fun u_ => PtrZ (rInt .u8) O_ w_ u_ x24) (m3_ h1_) (uniqDst_ne (j := 3) (by kernel_rfl) ho_ h2_), fun hq_ => (v0_0_ (addS_no hq_)), fun hp_ => by obtain ⟨h1_, h2_⟩ := skip_off (j := 9) hact_ rfl hp_; exact (v0_1_ h1_)⟩
     case zst10 => subst eJ_; exact fun w1_ hE_ => ⟨O20, (Base.step hB hE_ hO), (Keep.ext hE_), fun h_ => no_ft h_, fun h_ => no_ft h_, fun _ => OwnB.ext f22 hE_, fun hp_ => no_ft hp_⟩
     case zok10 | zgd10 => kernel_rfl
     subst eJ_; clear T_
     intro a11 w11 hA HF hJ_
     obtain ⟨O25, hB_, k0_, m2_, m3_, v0_0_, v0_1_⟩ := hJ_
     replace q1 := kn (HF 1) rfl q1
     replace q5 := kn (HF 5) rfl q5
     replace q6 := kn (HF 6) rfl q6
     replace q7 := kn (HF 7) rfl q7
     replace q9 := kn (HF 9) rfl q9
     replace q10 := kn (HF 10) rfl q10
     replace q11 := kn (HF 11) rfl q11
     replace q12 := kn (HF 12) rfl q12
     clear q55
     clear HF
     replace h_1 := GR.v_mono _ h_1 k0_
     replace f4 := GR.v_mono _ f4 k0_
     replace f8 := GR.v_mono _ f8 k0_
     have f26 := (v0_1_ rfl)
     clear f22
     clear hB; have hB := hB_; clear hB_
     clear k0_ m2_ m3_ v0_0_ v0_1_
     refine nx_then ?_
     exact ⟨_, _, _, _, _, _, _, _, _, _, hA, hB, q1, h_1, q5, q6, f4, q7, f8, q9, q10, q11, q12, f26, h⟩
    ·
     replace h := Comp.run_b_f hc h; clear hc
     refine wp_skip (nx_then ?_)
     exact ⟨_, _, _, _, _, _, _, _, _, _, hA, hB, q1, h_1, q5, q6, f4, q7, f8, q9, q10, q11, q12, f22, h⟩
   intro a12 w12 hI
   clear hA hB h q1 q5 q6 q7 q9 q10 q11 q12 f22 f4 f8 h_1
   obtain ⟨O36, x27, x28, x29, x30, x31, x32, x33, x34, x35, hA, hB, q1, h_1, q5, q6, f4, q7, f8, q9, q10, q11, q12, f26, h⟩ := hI
   unfold colletlaw37_PassportGrows_j3 at h
   refine seq_join (fun a w => ∃ (O56 : Tags) (x41 : Int) (x42 : Int) (x43 : Int) (x44 : Int) (x45 : Int) (x46 : Int) (x47 : Bytes) (x48 : Bytes) (x49 : Bytes) (x50 : Bytes), a.fit 134 ∧ Base (Fr w0) O w0 O56 w ∧ a.get 1 = v_1 ∧ (rSl (rVec 4 1 (fun x => [.int .u8 x]) (fun _ => rfl) (fun _ => by simp [Value.oneCell']))).v O56 w v_1 x_1 ∧ a.get 5 = .bool x1 ∧ a.get 6 = u3 ∧ (rSl rStr).v O56 w u3 x2 ∧ a.get 7 = u7 ∧ (rSl r_api_Entry).v O56 w u7 x6 ∧ a.get 9 = .int .i64 x41 ∧ a.get 10 = .string (str x11) ∧ a.get 11 = .int .i64 x12 ∧ a.get 12 = .pointer (some ⟨b21, 0, none⟩) ∧ OwnB 1 (Fr w0) O56 w b21 #[.int .i64 x42, .int .i64 x43, .int .i64 x44, .int .i64 x45, .int .i64 x46, .string (str x47), .string (str x48), .string (str x49), .string (str x50)] 26 ∧ (colletlaw37_PassportGrows_j4 x2 x6 x12 x11 x41 x42 x43 x44 x45 x46 x47 x48 x49 x50).run n = some st2) ?_ ?_
   ·
    refine wp_seq ?_
    refine' region [SP.isv (.pointer (some ⟨b21, 2, none⟩)), SP.isv (.int .i64 x29)] mixed hA (.cons (fun _ _ hE hK hg => ok_fieldAddr fl26_2 (kn (hK 12 rfl) rfl q12)) (.cons (fun _ _ hE hK hg => ok_loadOwn ty3 rfl (ksv (j := 0) (hK 65 rfl) rfl rfl rfl) (OwnB.ext f26 hE).own rfl) .nil)) ?zok11 ?zgd11 ?zk11
    case zok11 | zgd11 => kernel_rfl
    intro a13 w13 hA hE HF
    replace q1 := kn (HF 1) rfl q1
    replace q5 := kn (HF 5) rfl q5
    replace q6 := kn (HF 6) rfl q6
    replace q7 := kn (HF 7) rfl q7
    replace q9 := kn (HF 9) rfl q9
    replace q10 := kn (HF 10) rfl q10
    replace q11 := kn (HF 11) rfl q11
    replace q12 := kn (HF 12) rfl q12
    have q66 := ksv (HF 66) rfl rfl rfl
    clear HF
    replace h_1 := GR.v_ext _ h_1 hE
    replace f4 := GR.v_ext _ f4 hE
    replace f8 := GR.v_ext _ f8 hE
    replace f26 := f26.ext hE
    replace hB := Base.step hB hE hO; clear hE
    refine li_nil (nx_then (wp_block (wp_seq ?_)))
    refine' region [_, _] mixed hA (.cons (fun _ _ hE hK hg => ok_eqlI (kn (hK 66 rfl) rfl q66) rfl) (.cons (fun _ _ hE hK hg => ok_assign (ksv (j := 0) (hK 68 rfl) rfl rfl rfl)) .nil)) ?zok12 ?zgd12 ?zk12
    case zok12 | zgd12 => kernel_rfl
    intro a14 w14 hA hE HF
    replace q1 := kn (HF 1) rfl q1
    replace q5 := kn (HF 5) rfl q5
    replace q6 := kn (HF 6) rfl q6
    replace q7 := kn (HF 7) rfl q7
    replace q9 := kn (HF 9) rfl q9
    replace q10 := kn (HF 10) rfl q10
    replace q11 := kn (HF 11) rfl q11
    replace q12 := kn (HF 12) rfl q12
    replace q66 := kn (HF 66) rfl q66
    have q67 := ksv (HF 67) rfl rfl rfl
    clear HF
    replace h_1 := GR.v_ext _ h_1 hE
    replace f4 := GR.v_ext _ f4 hE
    replace f8 := GR.v_ext _ f8 hE
    replace f26 := f26.ext hE
    replace hB := Base.step hB hE hO; clear hE
    refine li_nil (nx_then ?_)
    refine wp_cond_b q67 (fun hc => ?_) (fun hc => ?_)
    ·
     replace h := Comp.run_b_t hc h; clear hc
     obtain ⟨x37, hx37, h⟩ := Comp.run_bind h
     obtain ⟨x38, hx38, h⟩ := Comp.run_bind h
     obtain ⟨J_, eJ_⟩ : ∃ J_ : (Nat → Bool) → Act → World → Prop, J_ = (fun S_ a_ w_ => ∃ O_ : Tags, Base (Fr w0) O w0 O_ w_ ∧ Keep 0 O36 w14 O_ w_ ∧ (S_ 2 = true → PtrZ (rVec 4 1 (fun x => [.int .u8 x]) (fun _ => rfl) (fun _ => by simp [Value.oneCell'])) O_ w_ (a_.get 71) x37) ∧ (S_ 3 = true → PtrZ (rInt .u8) O_ w_ (a_.get 72) x38) ∧ (S_ 7 = false → OwnB 1 (Fr w0) O_ w_ b21 #[.int .i64 x27, .int .i64 x28, .int .i64 x29, .int .i64 x30, .int .i64 x31, .string (str x32), .string (str x33), .string (str x34), .string (str x35)] 26) ∧ (S_ 7 = true → OwnB 1 (Fr w0) O_ w_ b21 #[.int .i64 x27, .int .i64 x28, .int .i64 x29, .int .i64 x30, .int .i64 (IntKind.wrap .i64 x38), .string (str x32), .string (str x33), .string (str x34), .string (str x35)] 26)) := ⟨_, rfl⟩
     have T_ : ∀ {i_ : Nat} {d_ : Option Tmp} {v_ : Value} {S_ a' w' w2}, Nat.beq 2 i_ = false → Nat.beq 3 i_ = false → Nat.beq 7 i_ = false → d_ ≠ some 71 → d_ ≠ some 72 → Ext w' w2 → J_ S_ a' w' → J_ (addS S_ i_) (a'.put d_ v_) w2 := by
      subst eJ_; intro i_ d_ v_ S_ a' w' w2 n2_ n3_ n7_ s71_ s72_ hE hJ_
      obtain ⟨O_, hB_, k0_, m2_, m3_, v0_0_, v0_1_⟩ := hJ_
      exact ⟨O_, (Base.step hB_ hE hO), (k0_.trans (KX.keep (KX.ext hE) (by decide))), fun h_ => put_other (d := d_) (t := 71) (φ := fun u_ => PtrZ (rVec 4 1 (fun x => [.int .u8 x]) (fun _ => rfl) (fun _ => by simp [Value.oneCell'])) O_ w2 u_ x37) ((PtrZ.keep (m2_ (addS_off n2_ h_)) (KX.keep (KX.ext hE) (by decide)) (by decide) (by intro h; cases h))) s71_, fun h_ => put_other (d := d_) (t := 72) (φ := fun u_ => PtrZ (rInt .u8) O_ w2 u_ x38) ((PtrZ.keep (m3_ (addS_off n3_ h_)) (KX.keep (KX.ext hE) (by decide)) (by decide) (fun _ => rfl))) s72_, fun hq_ => OwnB.kx (v0_0_ (addS_no hq_)) (KX.ext hE) (by decide), fun hp_ => OwnB.kx (v0_1_ (addS_off n7_ hp_)) (KX.ext hE) (by decide)⟩
     refine' regionX (draw := false) J_ [SP.isv (v_1), SP.isv (.int .i64 x12), SP.tt, SP.tt, SP.isv (.int .u8 x38), SP.isv (.int .i64 (IntKind.wrap .i64 x38)), SP.isv (.pointer (some ⟨b21, 4, none⟩)), SP.tt] mixed hA (.cons (stE_isv _) (.cons (stE_isv _) (.cons (stE_tt _) (.cons (stE_tt _) (.cons (stE_isv _) (.cons (stE_isv _) (.cons (stE_isv _) (.cons (stE_tt _) .nil)))))))) (.cons ?z13_0 (.cons ?z13_1 (.cons ?z13_2 (.cons ?z13_3 (.cons ?z13_4 (.cons ?z13_5 (.cons ?z13_6 (.cons ?z13_7 .nil)))))))) ?zsk13 ?zst13 ?zok13 ?zgd13 ?zk13
     case z13_0 =>
      intro S_ a' w' hA_ hJ_ hS_ hafter_ hbef_ hK hg K_ Q_ hK_
      refine x_ok (φ := SP.isv (v_1)) (by exact ok_move (kn (hK 1 rfl) rfl q1)) fun v_ w2 hE hv_ => hK_ v_ w2 (T_ rfl rfl rfl (by decide) (by decide) hE hJ_) hv_
     case z13_1 =>
      intro S_ a' w' hA_ hJ_ hS_ hafter_ hbef_ hK hg K_ Q_ hK_
      refine x_ok (φ := SP.isv (.int .i64 x12)) (by exact ok_move (kn (hK 11 rfl) rfl q11)) fun v_ w2 hE hv_ => hK_ v_ w2 (T_ rfl rfl rfl (by decide) (by decide) hE hJ_) hv_
     case z13_2 =>
      intro S_ a' w' hA_ hJ_ hS_ hafter_ hbef_ hK hg K_ Q_ hK_
      subst eJ_
      obtain ⟨O_, hB_, k0_, m2_, m3_, v0_0_, v0_1_⟩ := hJ_
      refine x_ok (φ := SP.ptrz (rVec 4 1 (fun x => [.int .u8 x]) (fun _ => rfl) (fun _ => by simp [Value.oneCell'])) O_ x37 (of_decide_eq_true rfl) (by intro h; cases h)) (by exact okl_idxZ (r := (rVec 4 1 (fun x => [.int .u8 x]) (fun _ => rfl) (fun _ => by simp [Value.oneCell']))) (by decide) (by intro h; cases h) ty49 ty50 rfl (ksv (j := 0) (hK 69 rfl) rfl rfl rfl) (GR.v_mono _ h_1 k0_) (ksv (j := 1) (hK 70 rfl) rfl rfl rfl) hx37) fun v_ w2 hE hv_ => ?_
      have hB2_ := Base.step hB_ hE hO
      exact hK_ v_ w2 ⟨O_, hB2_, (k0_.trans (KX.keep (KX.ext hE) (by decide))), fun _ => put_me (φ := fun u_ => PtrZ (rVec 4 1 (fun x => [.int .u8 x]) (fun _ => rfl) (fun _ => by simp [Value.oneCell'])) O_ w2 u_ x37) hA_ (by decide) hv_, fun h_ => put_other (d := some 71) (t := 72) (φ := fun u_ => PtrZ (rInt .u8) O_ w2 u_ x38) ((PtrZ.keep (m3_ (addS_off rfl h_)) (KX.keep (KX.ext hE) (by decide)) (by decide) (fun _ => rfl))) (by decide), fun hq_ => OwnB.kx (v0_0_ (addS_no hq_)) (KX.ext hE) (by decide), fun hp_ => OwnB.kx (v0_1_ (addS_off rfl hp_)) (KX.ext hE) (by decide)⟩ trivial
     case z13_3 =>
      intro S_ a' w' hA_ hJ_ hS_ hafter_ hbef_ hK hg K_ Q_ hK_
      subst eJ_
      obtain ⟨O_, hB_, k0_, m2_, m3_, v0_0_, v0_1_⟩ := hJ_
      refine x_ok (φ := SP.ptrz (rInt .u8) O_ x38 (of_decide_eq_true rfl) (fun _ => rfl)) (by exact okl_idxArrZ (r := (rInt .u8)) (f := (fun x => [.int .u8 x])) (hl := (fun _ => rfl)) (ho := (fun _ => by simp [Value.oneCell'])) (by decide) (fun _ => rfl) (fun _ _ _ => rfl) ty50 ty5 rfl (m2_ (addS_off rfl (hbef_ 2 (by kernel_rfl)))) rfl hx38) fun v_ w2 hE hv_ => ?_
      have hB2_ := Base.step hB_ hE hO
      exact hK_ v_ w2 ⟨O_, hB2_, (k0_.trans (KX.keep (KX.ext hE) (by decide))), fun h_ => put_other (d := some 72) (t := 71) (φ := fun u_ => PtrZ (rVec 4 1 (fun x => [.int .u8 x]) (fun _ => rfl) (fun _ => by simp [Value.oneCell'])) O_ w2 u_ x37) ((PtrZ.keep (m2_ (addS_off rfl h_)) (KX.keep (KX.ext hE) (by decide)) (by decide) (by intro h; cases h))) (by decide), fun _ => put_me (φ := fun u_ => PtrZ (rInt .u8) O_ w2 u_ x38) hA_ (by decide) hv_, fun hq_ => OwnB.kx (v0_0_ (addS_no hq_)) (KX.ext hE) (by decide), fun hp_ => OwnB.kx (v0_1_ (addS_off rfl hp_)) (KX.ext hE) (by decide)⟩ trivial
     case z13_4 =>
      intro S_ a' w' hA_ hJ_ hS_ hafter_ hbef_ hK hg K_ Q_ hK_
      have hJ2_ := hJ_; rw [eJ_] at hJ2_; obtain ⟨O_, hB_, k0_, m2_, m3_, v0_0_, v0_1_⟩ := hJ2_
      refine x_ok (φ := SP.isv (.int .u8 x38)) (by exact okl_ldr (rInt .u8) (fun _ => rfl) ty5 rfl rfl rfl (PtrZ.ptr (m3_ (addS_off rfl (hbef_ 3 (by kernel_rfl))))) (fun _ _ _ h => rInt_v.1 h)) fun v_ w2 hE hv_ => hK_ v_ w2 (T_ rfl rfl rfl (by decide) (by decide) hE hJ_) hv_
     case z13_5 =>
      intro S_ a' w' hA_ hJ_ hS_ hafter_ hbef_ hK hg K_ Q_ hK_
      refine x_ok (φ := SP.isv (.int .i64 (IntKind.wrap .i64 x38))) (by exact ok_convI ty5 ty3 (ksv (j := 4) (hK 73 rfl) rfl rfl rfl)) fun v_ w2 hE hv_ => hK_ v_ w2 (T_ rfl rfl rfl (by decide) (by decide) hE hJ_) hv_
     case z13_6 =>
      intro S_ a' w' hA_ hJ_ hS_ hafter_ hbef_ hK hg K_ Q_ hK_
      refine x_ok (φ := SP.isv (.pointer (some ⟨b21, 4, none⟩))) (by exact ok_fieldAddr fl26_4 (kn (hK 12 rfl) rfl q12)) fun v_ w2 hE hv_ => hK_ v_ w2 (T_ rfl rfl rfl (by decide) (by decide) hE hJ_) hv_
     case z13_7 =>
      intro S_ a' w' hA_ hJ_ hS_ hafter_ hbef_ hK hg K_ Q_ hK_
      subst eJ_
      obtain ⟨O_, hB_, k0_, m2_, m3_, v0_0_, v0_1_⟩ := hJ_
      refine x_store1 (cs' := #[.int .i64 x27, .int .i64 x28, .int .i64 x29, .int .i64 x30, .int .i64 (IntKind.wrap .i64 x38), .string (str x32), .string (str x33), .string (str x34), .string (str x35)]) hO hB_ (okB_fr hB_) ty3 (ksv (j := 6) (hK 75 rfl) rfl rfl rfl) (ksv (j := 5) (hK 74 rfl) rfl rfl rfl) rfl rfl (v0_0_ hS_) (by simp) rfl fun w2 f_ hB2_ hX_ => ?_
      exact hK_ undef w2 ⟨O_, hB2_, (k0_.trans (KX.keep hX_ (by decide))), fun h_ => put_other (d := none) (t := 71) (φ := fun u_ => PtrZ (rVec 4 1 (fun x => [.int .u8 x]) (fun _ => rfl) (fun _ => by simp [Value.oneCell'])) O_ w2 u_ x37) ((PtrZ.keep (m2_ (addS_off rfl h_)) (KX.keep hX_ (by decide)) (by decide) (by intro h; cases h))) (by decide), fun h_ => put_other (d := none) (t := 72) (φ := fun u_ => PtrZ (rInt .u8) O_ w2 u_ x38) ((PtrZ.keep (m3_ (addS_off rfl h_)) (KX.keep hX_ (by decide)) (by decide) (fun _ => rfl))) (by decide), fun hq_ => addS_me hq_, fun hp_ => f_⟩ trivial
     case zsk13 =>
      subst eJ_
      intro i_ o_ S_ a_ w_ ho_ hact_ hA_ hS_ hbef_ hJ_
      obtain ⟨O_, hB_, k0_, m2_, m3_, v0_0_, v0_1_⟩ := hJ_
      exact ⟨O_, hB_, k0_, fun h_ => by obtain ⟨h1_, h2_⟩ := skip_off (j := 2) hact_ rfl h_; exact put_other (t := 71) (φ := fun u_ => PtrZ (rVec 4 1 (fun x => [.int .u8 x]) (fun _ => rfl) (fun _ => by simp [Value.oneCell'])) O_ w_ u_ x37) (m2_ h1_) (uniqDst_ne (j := 2) (by kernel_rfl) ho_ h2_), fun h_ => by obtain ⟨h1_, h2_⟩ := skip_off (j := 3) hact_ rfl h_; exact put_other (t := 72) (φ := fun u_ => PtrZ (rInt .u8) O_ w_ u_ x38) (m3_ h1_) (uniqDst_ne (j := 3) (by kernel_rfl) ho_ h2_), fun hq_ => (v0_0_ (addS_no hq_)), fun hp_ => by obtain ⟨h1_, h2_⟩ := skip_off (j := 7) hact_ rfl hp_; exact (v0_1_ h1_)⟩
     case zst13 => subst eJ_; exact fun w1_ hE_ => ⟨O36, (Base.step hB hE_ hO), (Keep.ext hE_), fun h_ => no_ft h_, fun h_ => no_ft h_, fun _ => OwnB.ext f26 hE_, fun hp_ => no_ft hp_⟩
     case zok13 | zgd13 => kernel_rfl
     subst eJ_; clear T_
     intro a15 w15 hA HF hJ_
     obtain ⟨O39, hB_, k0_, m2_, m3_, v0_0_, v0_1_⟩ := hJ_
     replace q1 := kn (HF 1) rfl q1
     replace q5 := kn (HF 5) rfl q5
     replace q6 := kn (HF 6) rfl q6
     replace q7 := kn (HF 7) rfl q7
     replace q9 := kn (HF 9) rfl q9
     replace q10 := kn (HF 10) rfl q10
     replace q11 := kn (HF 11) rfl q11
     replace q12 := kn (HF 12) rfl q12
     clear q66
     clear q67
     clear HF
     replace h_1 := GR.v_mono _ h_1 k0_
     replace f4 := GR.v_mono _ f4 k0_
     replace f8 := GR.v_mono _ f8 k0_
     have f40 := (v0_1_ rfl)
     clear f26
     clear hB; have hB := hB_; clear hB_
     clear k0_ m2_ m3_ v0_0_ v0_1_
     refine nx_blk (nx_then ?_)
     exact ⟨_, _, _, _, _, _, _, _, _, _, _, hA, hB, q1, h_1, q5, q6, f4, q7, f8, q9, q10, q11, q12, f40, h⟩
    ·
     replace h := Comp.run_b_f hc h; clear hc
     refine wp_seq ?_
     refine' region [_, _] mixed hA (.cons (fun _ _ hE hK hg => ok_eqlI (kn (hK 66 rfl) rfl q66) rfl) (.cons (fun _ _ hE hK hg => ok_assign (ksv (j := 0) (hK 77 rfl) rfl rfl rfl)) .nil)) ?zok14 ?zgd14 ?zk14
     case zok14 | zgd14 => kernel_rfl
     intro a16 w16 hA hE HF
     replace q1 := kn (HF 1) rfl q1
     replace q5 := kn (HF 5) rfl q5
     replace q6 := kn (HF 6) rfl q6
     replace q7 := kn (HF 7) rfl q7
     replace q9 := kn (HF 9) rfl q9
     replace q10 := kn (HF 10) rfl q10
     replace q11 := kn (HF 11) rfl q11
     replace q12 := kn (HF 12) rfl q12
     have q76 := ksv (HF 76) rfl rfl rfl
     clear q66
     clear q67
     clear HF
     replace h_1 := GR.v_ext _ h_1 hE
     replace f4 := GR.v_ext _ f4 hE
     replace f8 := GR.v_ext _ f8 hE
     replace f26 := f26.ext hE
     replace hB := Base.step hB hE hO; clear hE
     refine li_nil (nx_then ?_)
     refine wp_cond_b q76 (fun hc => ?_) (fun hc => ?_)
     ·
      replace h := Comp.run_b_t hc h; clear hc
      refine wp_seq ?_
      obtain ⟨x51, hx51, h⟩ := Comp.run_bind h
      obtain ⟨x52, hx52, h⟩ := Comp.run_bind h
      obtain ⟨x53, hx53, h⟩ := Comp.run_bind h
      obtain ⟨J_, eJ_⟩ : ∃ J_ : (Nat → Bool) → Act → World → Prop, J_ = (fun S_ a_ w_ => ∃ O_ : Tags, Base (Fr w0) O w0 O_ w_ ∧ Keep 0 O36 w16 O_ w_ ∧ (S_ 2 = true → PtrZ (rVec 4 1 (fun x => [.int .u8 x]) (fun _ => rfl) (fun _ => by simp [Value.oneCell'])) O_ w_ (a_.get 80) x51) ∧ (S_ 3 = true → PtrZ (rInt .u8) O_ w_ (a_.get 81) x52) ∧ (S_ 10 = false → OwnB 1 (Fr w0) O_ w_ b21 #[.int .i64 x27, .int .i64 x28, .int .i64 x29, .int .i64 x30, .int .i64 x31, .string (str x32), .string (str x33), .string (str x34), .string (str x35)] 26) ∧ (S_ 10 = true → OwnB 1 (Fr w0) O_ w_ b21 #[.int .i64 x27, .int .i64 x28, .int .i64 x29, .int .i64 x30, .int .i64 x53, .string (str x32), .string (str x33), .string (str x34), .string (str x35)] 26)) := ⟨_, rfl⟩
      have T_ : ∀ {i_ : Nat} {d_ : Option Tmp} {v_ : Value} {S_ a' w' w2}, Nat.beq 2 i_ = false → Nat.beq 3 i_ = false → Nat.beq 10 i_ = false → d_ ≠ some 80 → d_ ≠ some 81 → Ext w' w2 → J_ S_ a' w' → J_ (addS S_ i_) (a'.put d_ v_) w2 := by
       subst eJ_; intro i_ d_ v_ S_ a' w' w2 n2_ n3_ n10_ s80_ s81_ hE hJ_
       obtain ⟨O_, hB_, k0_, m2_, m3_, v0_0_, v0_1_⟩ := hJ_
       exact ⟨O_, (Base.step hB_ hE hO), (k0_.trans (KX.keep (KX.ext hE) (by decide))), fun h_ => put_other (d := d_) (t := 80) (φ := fun u_ => PtrZ (rVec 4 1 (fun x => [.int .u8 x]) (fun _ => rfl) (fun _ => by simp [Value.oneCell'])) O_ w2 u_ x51) ((PtrZ.keep (m2_ (addS_off n2_ h_)) (KX.keep (KX.ext hE) (by decide)) (by decide) (by intro h; cases h))) s80_, fun h_ => put_other (d := d_) (t := 81) (φ := fun u_ => PtrZ (rInt .u8) O_ w2 u_ x52) ((PtrZ.keep (m3_ (addS_off n3_ h_)) (KX.keep (KX.ext hE) (by decide)) (by decide) (fun _ => rfl))) s81_, fun hq_ => OwnB.kx (v0_0_ (addS_no hq_)) (KX.ext hE) (by decide), fun hp_ => OwnB.kx (v0_1_ (addS_off n10_ hp_)) (KX.ext hE) (by decide)⟩
      refine' regionX (draw := false) J_ [SP.isv (v_1), SP.isv (.int .i64 x12), SP.tt, SP.tt, SP.isv (.int .u8 x52), SP.isv (.int .i64 (IntKind.wrap .i64 x52)), SP.isv (u3), SP.isv (.int .i64 (x2.length : Int)), SP.isv (.int .i64 x53), SP.isv (.pointer (some ⟨b21, 4, none⟩)), SP.tt] mixed hA (.cons (stE_isv _) (.cons (stE_isv _) (.cons (stE_tt _) (.cons (stE_tt _) (.cons (stE_isv _) (.cons (stE_isv _) (.cons (stE_isv _) (.cons (stE_isv _) (.cons (stE_isv _) (.cons (stE_isv _) (.cons (stE_tt _) .nil))))))))))) (.cons ?z15_0 (.cons ?z15_1 (.cons ?z15_2 (.cons ?z15_3 (.cons ?z15_4 (.cons ?z15_5 (.cons ?z15_6 (.cons ?z15_7 (.cons ?z15_8 (.cons ?z15_9 (.cons ?z15_10 .nil))))))))))) ?zsk15 ?zst15 ?zok15 ?zgd15 ?zk15
      case z15_0 =>
       intro S_ a' w' hA_ hJ_ hS_ hafter_ hbef_ hK hg K_ Q_ hK_
       refine x_ok (φ := SP.isv (v_1)) (by exact ok_move (kn (hK 1 rfl) rfl q1)) fun v_ w2 hE hv_ => hK_ v_ w2 (T_ rfl rfl rfl (by decide) (by decide) hE hJ_) hv_
      case z15_1 =>
       intro S_ a' w' hA_ hJ_ hS_ hafter_ hbef_ hK hg K_ Q_ hK_
       refine x_ok (φ := SP.isv (.int .i64 x12)) (by exact ok_move (kn (hK 11 rfl) rfl q11)) fun v_ w2 hE hv_ => hK_ v_ w2 (T_ rfl rfl rfl (by decide) (by decide) hE hJ_) hv_
      case z15_2 =>
       intro S_ a' w' hA_ hJ_ hS_ hafter_ hbef_ hK hg K_ Q_ hK_
       subst eJ_
       obtain ⟨O_, hB_, k0_, m2_, m3_, v0_0_, v0_1_⟩ := hJ_
       refine x_ok (φ := SP.ptrz (rVec 4 1 (fun x => [.int .u8 x]) (fun _ => rfl) (fun _ => by simp [Value.oneCell'])) O_ x51 (of_decide_eq_true rfl) (by intro h; cases h)) (by exact okl_idxZ (r := (rVec 4 1 (fun x => [.int .u8 x]) (fun _ => rfl) (fun _ => by simp [Value.oneCell']))) (by decide) (by intro h; cases h) ty49 ty50 rfl (ksv (j := 0) (hK 78 rfl) rfl rfl rfl) (GR.v_mono _ h_1 k0_) (ksv (j := 1) (hK 79 rfl) rfl rfl rfl) hx51) fun v_ w2 hE hv_ => ?_
       have hB2_ := Base.step hB_ hE hO
       exact hK_ v_ w2 ⟨O_, hB2_, (k0_.trans (KX.keep (KX.ext hE) (by decide))), fun _ => put_me (φ := fun u_ => PtrZ (rVec 4 1 (fun x => [.int .u8 x]) (fun _ => rfl) (fun _ => by simp [Value.oneCell'])) O_ w2 u_ x51) hA_ (by decide) hv_, fun h_ => put_other (d := some 80) (t := 81) (φ := fun u_ => PtrZ (rInt .u8) O_ w2 u_ x52) ((PtrZ.keep (m3_ (addS_off rfl h_)) (KX.keep (KX.ext hE) (by decide)) (by decide) (fun _ => rfl))) (by decide), fun hq_ => OwnB.kx (v0_0_ (addS_no hq_)) (KX.ext hE) (by decide), fun hp_ => OwnB.kx (v0_1_ (addS_off rfl hp_)) (KX.ext hE) (by decide)⟩ trivial
      case z15_3 =>
       intro S_ a' w' hA_ hJ_ hS_ hafter_ hbef_ hK hg K_ Q_ hK_
       subst eJ_
       obtain ⟨O_, hB_, k0_, m2_, m3_, v0_0_, v0_1_⟩ := hJ_
       refine x_ok (φ := SP.ptrz (rInt .u8) O_ x52 (of_decide_eq_true rfl) (fun _ => rfl)) (by exact okl_idxArrZ (r := (rInt .u8)) (f := (fun x => [.int .u8 x])) (hl := (fun _ => rfl)) (ho := (fun _ => by simp [Value.oneCell'])) (by decide) (fun _ => rfl) (fun _ _ _ => rfl) ty50 ty5 rfl (m2_ (addS_off rfl (hbef_ 2 (by kernel_rfl)))) rfl hx52) fun v_ w2 hE hv_ => ?_
       have hB2_ := Base.step hB_ hE hO
       exact hK_ v_ w2 ⟨O_, hB2_, (k0_.trans (KX.keep (KX.ext hE) (by decide))), fun h_ => put_other (d := some 81) (t := 80) (φ := fun u_ => PtrZ (rVec 4 1 (fun x => [.int .u8 x]) (fun _ => rfl) (fun _ => by simp [Value.oneCell'])) O_ w2 u_ x51) ((PtrZ.keep (m2_ (addS_off rfl h_)) (KX.keep (KX.ext hE) (by decide)) (by decide) (by intro h; cases h))) (by decide), fun _ => put_me (φ := fun u_ => PtrZ (rInt .u8) O_ w2 u_ x52) hA_ (by decide) hv_, fun hq_ => OwnB.kx (v0_0_ (addS_no hq_)) (KX.ext hE) (by decide), fun hp_ => OwnB.kx (v0_1_ (addS_off rfl hp_)) (KX.ext hE) (by decide)⟩ trivial
      case z15_4 =>
       intro S_ a' w' hA_ hJ_ hS_ hafter_ hbef_ hK hg K_ Q_ hK_
       have hJ2_ := hJ_; rw [eJ_] at hJ2_; obtain ⟨O_, hB_, k0_, m2_, m3_, v0_0_, v0_1_⟩ := hJ2_
       refine x_ok (φ := SP.isv (.int .u8 x52)) (by exact okl_ldr (rInt .u8) (fun _ => rfl) ty5 rfl rfl rfl (PtrZ.ptr (m3_ (addS_off rfl (hbef_ 3 (by kernel_rfl))))) (fun _ _ _ h => rInt_v.1 h)) fun v_ w2 hE hv_ => hK_ v_ w2 (T_ rfl rfl rfl (by decide) (by decide) hE hJ_) hv_
      case z15_5 =>
       intro S_ a' w' hA_ hJ_ hS_ hafter_ hbef_ hK hg K_ Q_ hK_
       refine x_ok (φ := SP.isv (.int .i64 (IntKind.wrap .i64 x52))) (by exact ok_convI ty5 ty3 (ksv (j := 4) (hK 82 rfl) rfl rfl rfl)) fun v_ w2 hE hv_ => hK_ v_ w2 (T_ rfl rfl rfl (by decide) (by decide) hE hJ_) hv_
      case z15_6 =>
       intro S_ a' w' hA_ hJ_ hS_ hafter_ hbef_ hK hg K_ Q_ hK_
       refine x_ok (φ := SP.isv (u3)) (by exact ok_move (kn (hK 6 rfl) rfl q6)) fun v_ w2 hE hv_ => hK_ v_ w2 (T_ rfl rfl rfl (by decide) (by decide) hE hJ_) hv_
      case z15_7 =>
       intro S_ a' w' hA_ hJ_ hS_ hafter_ hbef_ hK hg K_ Q_ hK_
       have hJ2_ := hJ_; rw [eJ_] at hJ2_; obtain ⟨O_, hB_, k0_, m2_, m3_, v0_0_, v0_1_⟩ := hJ2_
       refine x_ok (φ := SP.isv (.int .i64 (x2.length : Int))) (by exact okl_len (r := rStr) ty28 (ksv (j := 6) (hK 84 rfl) rfl rfl rfl) (rd_of (GR.v_mono _ f4 k0_))) fun v_ w2 hE hv_ => hK_ v_ w2 (T_ rfl rfl rfl (by decide) (by decide) hE hJ_) hv_
      case z15_8 =>
       intro S_ a' w' hA_ hJ_ hS_ hafter_ hbef_ hK hg K_ Q_ hK_
       refine x_ok (φ := SP.isv (.int .i64 x53)) (by exact ok_isv (ok_rem (ksv (j := 5) (hK 83 rfl) rfl rfl rfl) (ksv (j := 7) (hK 85 rfl) rfl rfl rfl) (run_rem hx53).1) (congrArg _ (run_rem hx53).2)) fun v_ w2 hE hv_ => hK_ v_ w2 (T_ rfl rfl rfl (by decide) (by decide) hE hJ_) hv_
      case z15_9 =>
       intro S_ a' w' hA_ hJ_ hS_ hafter_ hbef_ hK hg K_ Q_ hK_
       refine x_ok (φ := SP.isv (.pointer (some ⟨b21, 4, none⟩))) (by exact ok_fieldAddr fl26_4 (kn (hK 12 rfl) rfl q12)) fun v_ w2 hE hv_ => hK_ v_ w2 (T_ rfl rfl rfl (by decide) (by decide) hE hJ_) hv_
      case z15_10 =>
       intro S_ a' w' hA_ hJ_ hS_ hafter_ hbef_ hK hg K_ Q_ hK_
       subst eJ_
       obtain ⟨O_, hB_, k0_, m2_, m3_, v0_0_, v0_1_⟩ := hJ_
       refine x_store1 (cs' := #[.int .i64 x27, .int .i64 x28, .int .i64 x29, .int .i64 x30, .int .i64 x53, .string (str x32), .string (str x33), .string (str x34), .string (str x35)]) hO hB_ (okB_fr hB_) ty3 (ksv (j := 9) (hK 87 rfl) rfl rfl rfl) (ksv (j := 8) (hK 86 rfl) rfl rfl rfl) rfl rfl (v0_0_ hS_) (by simp) rfl fun w2 f_ hB2_ hX_ => ?_
       exact hK_ undef w2 ⟨O_, hB2_, (k0_.trans (KX.keep hX_ (by decide))), fun h_ => put_other (d := none) (t := 80) (φ := fun u_ => PtrZ (rVec 4 1 (fun x => [.int .u8 x]) (fun _ => rfl) (fun _ => by simp [Value.oneCell'])) O_ w2 u_ x51) ((PtrZ.keep (m2_ (addS_off rfl h_)) (KX.keep hX_ (by decide)) (by decide) (by intro h; cases h))) (by decide), fun h_ => put_other (d := none) (t := 81) (φ := fun u_ => PtrZ (rInt .u8) O_ w2 u_ x52) ((PtrZ.keep (m3_ (addS_off rfl h_)) (KX.keep hX_ (by decide)) (by decide) (fun _ => rfl))) (by decide), fun hq_ => addS_me hq_, fun hp_ => f_⟩ trivial
      case zsk15 =>
       subst eJ_
       intro i_ o_ S_ a_ w_ ho_ hact_ hA_ hS_ hbef_ hJ_
       obtain ⟨O_, hB_, k0_, m2_, m3_, v0_0_, v0_1_⟩ := hJ_
       exact ⟨O_, hB_, k0_, fun h_ => by obtain ⟨h1_, h2_⟩ := skip_off (j := 2) hact_ rfl h_; exact put_other (t := 80) (φ := fun u_ => PtrZ (rVec 4 1 (fun x => [.int .u8 x]) (fun _ => rfl) (fun _ => by simp [Value.oneCell'])) O_ w_ u_ x51) (m2_ h1_) (uniqDst_ne (j := 2) (by kernel_rfl) ho_ h2_), fun h_ => by obtain ⟨h1_, h2_⟩ := skip_off (j := 3) hact_ rfl h_; exact put_other (t := 81) (φ := fun u_ => PtrZ (rInt .u8) O_ w_ u_ x52) (m3_ h1_) (uniqDst_ne (j := 3) (by kernel_rfl) ho_ h2_), fun hq_ => (v0_0_ (addS_no hq_)), fun hp_ => by obtain ⟨h1_, h2_⟩ := skip_off (j := 10) hact_ rfl hp_; exact (v0_1_ h1_)⟩
      case zst15 => subst eJ_; exact fun w1_ hE_ => ⟨O36, (Base.step hB hE_ hO), (Keep.ext hE_), fun h_ => no_ft h_, fun h_ => no_ft h_, fun _ => OwnB.ext f26 hE_, fun hp_ => no_ft hp_⟩
      case zok15 | zgd15 => kernel_rfl
      subst eJ_; clear T_
      intro a17 w17 hA HF hJ_
      obtain ⟨O54, hB_, k0_, m2_, m3_, v0_0_, v0_1_⟩ := hJ_
      replace q1 := kn (HF 1) rfl q1
      replace q5 := kn (HF 5) rfl q5
      replace q6 := kn (HF 6) rfl q6
      replace q7 := kn (HF 7) rfl q7
      replace q10 := kn (HF 10) rfl q10
      replace q11 := kn (HF 11) rfl q11
      replace q12 := kn (HF 12) rfl q12
      clear q9
      clear q76
      clear HF
      replace h_1 := GR.v_mono _ h_1 k0_
      replace f4 := GR.v_mono _ f4 k0_
      replace f8 := GR.v_mono _ f8 k0_
      have f55 := (v0_1_ rfl)
      clear f26
      clear hB; have hB := hB_; clear hB_
      clear k0_ m2_ m3_ v0_0_ v0_1_
      refine nx_then ?_
      refine' region [SP.isv (.pointer (some ⟨b21, 4, none⟩)), SP.isv (.int .i64 x53), _] mixed hA (.cons (fun _ _ hE hK hg => ok_fieldAddr fl26_4 (kn (hK 12 rfl) rfl q12)) (.cons (fun _ _ hE hK hg => ok_loadOwn ty3 rfl (ksv (j := 0) (hK 88 rfl) rfl rfl rfl) (OwnB.ext f55 hE).own rfl) (.cons (fun _ _ hE hK hg => ok_assign (ksv (j := 1) (hK 89 rfl) rfl rfl rfl)) .nil))) ?zok16 ?zgd16 ?zk16
      case zok16 | zgd16 => kernel_rfl
      intro a18 w18 hA hE HF
      replace q1 := kn (HF 1) rfl q1
      replace q5 := kn (HF 5) rfl q5
      replace q6 := kn (HF 6) rfl q6
      replace q7 := kn (HF 7) rfl q7
      have q9 := ksv (HF 9) rfl rfl rfl
      replace q10 := kn (HF 10) rfl q10
      replace q11 := kn (HF 11) rfl q11
      replace q12 := kn (HF 12) rfl q12
      clear HF
      replace h_1 := GR.v_ext _ h_1 hE
      replace f4 := GR.v_ext _ f4 hE
      replace f8 := GR.v_ext _ f8 hE
      replace f55 := f55.ext hE
      replace hB := Base.step hB hE hO; clear hE
      refine li_nil (nx_blk (nx_then ?_))
      exact ⟨_, _, _, _, _, _, _, _, _, _, _, hA, hB, q1, h_1, q5, q6, f4, q7, f8, q9, q10, q11, q12, f55, h⟩
     ·
      replace h := Comp.run_b_f hc h; clear hc
      refine wp_skip (nx_blk (nx_then ?_))
      exact ⟨_, _, _, _, _, _, _, _, _, _, _, hA, hB, q1, h_1, q5, q6, f4, q7, f8, q9, q10, q11, q12, f26, h⟩
   intro a19 w19 hI
   clear hA hB h q1 q5 q6 q7 q9 q10 q11 q12 f26 f4 f8 h_1
   obtain ⟨O56, x41, x42, x43, x44, x45, x46, x47, x48, x49, x50, hA, hB, q1, h_1, q5, q6, f4, q7, f8, q9, q10, q11, q12, f40, h⟩ := hI
   unfold colletlaw37_PassportGrows_j4 at h
   refine seq_join (fun a w => ∃ (O68 : Tags) (x59 : Int) (x60 : Int) (x61 : Int) (x62 : Int) (x63 : Int) (x64 : Bytes) (x65 : Bytes) (x66 : Bytes) (x67 : Bytes), a.fit 134 ∧ Base (Fr w0) O w0 O68 w ∧ a.get 1 = v_1 ∧ (rSl (rVec 4 1 (fun x => [.int .u8 x]) (fun _ => rfl) (fun _ => by simp [Value.oneCell']))).v O68 w v_1 x_1 ∧ a.get 5 = .bool x1 ∧ a.get 6 = u3 ∧ (rSl rStr).v O68 w u3 x2 ∧ a.get 7 = u7 ∧ (rSl r_api_Entry).v O68 w u7 x6 ∧ a.get 9 = .int .i64 x41 ∧ a.get 11 = .int .i64 x12 ∧ a.get 12 = .pointer (some ⟨b21, 0, none⟩) ∧ OwnB 1 (Fr w0) O68 w b21 #[.int .i64 x59, .int .i64 x60, .int .i64 x61, .int .i64 x62, .int .i64 x63, .string (str x64), .string (str x65), .string (str x66), .string (str x67)] 26 ∧ (colletlaw37_PassportGrows_j5 x2 x6 x12 x41 x59 x60 x61 x62 x63 x64 x65 x66 x67).run n = some st2) ?_ ?_
   ·
    refine wp_seq ?_
    refine' region [SP.isv (.pointer (some ⟨b21, 2, none⟩)), SP.isv (.int .i64 x44), _, _, SP.isv (.pointer (some ⟨b21, 2, none⟩)), SP.isv (.int .i64 x44), _, _] mixed hA (.cons (fun _ _ hE hK hg => ok_fieldAddr fl26_2 (kn (hK 12 rfl) rfl q12)) (.cons (fun _ _ hE hK hg => ok_loadOwn ty3 rfl (ksv (j := 0) (hK 90 rfl) rfl rfl rfl) (OwnB.ext f40 hE).own rfl) (.cons (fun _ _ hE hK hg => ok_eqlI (ksv (j := 1) (hK 91 rfl) rfl rfl rfl) rfl) (.cons (fun _ _ hE hK hg => ok_move (ksv (j := 2) (hK 92 rfl) rfl rfl rfl)) (.cons (fun _ _ hE hK hg => ok_fieldAddr fl26_2 (kn (hK 12 rfl) rfl q12)) (.cons ?z17_5 (.cons ?z17_6 (.cons ?z17_7 .nil)))))))) ?zok17 ?zgd17 ?zk17
    case z17_5 => intro a' w' hE hK hg; exact ok_loadOwn ty3 rfl (ksv (j := 4) (hK 94 rfl) rfl rfl hg) (OwnB.ext f40 hE).own rfl
    case z17_6 => intro a' w' hE hK hg; exact ok_eqlI (ksv (j := 5) (hK 95 rfl) rfl rfl hg) rfl
    case z17_7 => intro a' w' hE hK hg; exact ok_pick (ksv (j := 3) (hK 93 rfl) rfl rfl rfl) (fun _ => rfl) (fun hb => ksv (j := 6) (hK 96 rfl) rfl rfl (act_g1 rfl rfl hb))
    case zok17 | zgd17 => kernel_rfl
    intro a20 w20 hA hE HF
    replace q1 := kn (HF 1) rfl q1
    replace q5 := kn (HF 5) rfl q5
    replace q6 := kn (HF 6) rfl q6
    replace q7 := kn (HF 7) rfl q7
    replace q9 := kn (HF 9) rfl q9
    replace q10 := kn (HF 10) rfl q10
    replace q11 := kn (HF 11) rfl q11
    replace q12 := kn (HF 12) rfl q12
    have q97 := ksv (HF 97) rfl rfl rfl
    clear HF
    replace h_1 := GR.v_ext _ h_1 hE
    replace f4 := GR.v_ext _ f4 hE
    replace f8 := GR.v_ext _ f8 hE
    replace f40 := f40.ext hE
    replace hB := Base.step hB hE hO; clear hE
    obtain ⟨x57, hx_, h⟩ := Comp.run_bind h; replace hx_ := Comp.run_pure hx_; rw [hx_] at q97; clear hx_
    refine li_nil (nx_then ?_)
    refine wp_cond_b q97 (fun hc => ?_) (fun hc => ?_)
    ·
     replace h := Comp.run_b_t hc h; clear hc
     refine' regionT [_, SP.isv (.pointer (some ⟨b21, 6, none⟩))] hA (.cons (fun _ _ hE hK hg => ok_move (kn (hK 10 rfl) rfl q10)) (.cons (fun _ _ hE hK hg => ok_fieldAddr fl26_6 (kn (hK 12 rfl) rfl q12)) .nil)) ?zok18 ?zgd18 ?zk18
     case zok18 | zgd18 => kernel_rfl
     intro a21 w21 hA hE HF
     replace q1 := kn (HF 1) rfl q1
     replace q5 := kn (HF 5) rfl q5
     replace q6 := kn (HF 6) rfl q6
     replace q7 := kn (HF 7) rfl q7
     replace q9 := kn (HF 9) rfl q9
     replace q11 := kn (HF 11) rfl q11
     replace q12 := kn (HF 12) rfl q12
     have q98 := ksv (HF 98) rfl rfl rfl
     have q99 := ksv (HF 99) rfl rfl rfl
     clear q10
     clear q97
     clear HF
     replace h_1 := GR.v_ext _ h_1 hE
     replace f4 := GR.v_ext _ f4 hE
     replace f8 := GR.v_ext _ f8 hE
     replace f40 := f40.ext hE
     replace hB := Base.step hB hE hO; clear hE
     refine l_store1 (cs' := #[.int .i64 x42, .int .i64 x43, .int .i64 x44, .int .i64 x45, .int .i64 x46, .string (str x47), .string (str x11), .string (str x49), .string (str x50)]) hO hB (okB_fr hB) ty9 q99 q98 rfl rfl f40 (by simp) rfl fun w22 f58 hB' hX => ?_
     clear hB f40; have hB := hB'; clear hB'
     replace h_1 := GR.kx _ h_1 hX (by decide)
     replace f4 := GR.kx _ f4 hX (by decide)
     replace f8 := GR.kx _ f8 hX (by decide)
     clear hX
     refine li_nil (nx_then ?_)
     exact ⟨_, _, _, _, _, _, _, _, _, _, hA, hB, q1, h_1, q5, q6, f4, q7, f8, q9, q11, q12, f58, h⟩
    ·
     replace h := Comp.run_b_f hc h; clear hc
     refine wp_skip (nx_then ?_)
     exact ⟨_, _, _, _, _, _, _, _, _, _, hA, hB, q1, h_1, q5, q6, f4, q7, f8, q9, q11, q12, f40, h⟩
   intro a23 w23 hI
   clear hA hB h q1 q5 q6 q7 q9 q10 q11 q12 f4 f40 f8 h_1
   obtain ⟨O68, x59, x60, x61, x62, x63, x64, x65, x66, x67, hA, hB, q1, h_1, q5, q6, f4, q7, f8, q9, q11, q12, f58, h⟩ := hI
   unfold colletlaw37_PassportGrows_j5 at h
   refine wp_seq ?_
   refine' region [SP.isv (.pointer (some ⟨b21, 3, none⟩)), SP.isv (.int .i64 x62), SP.isv (.pointer (some ⟨b21, 6, none⟩)), SP.isv (.string (str x65)), _, _] mixed hA (.cons (fun _ _ hE hK hg => ok_fieldAddr fl26_3 (kn (hK 12 rfl) rfl q12)) (.cons (fun _ _ hE hK hg => ok_loadOwn ty3 rfl (ksv (j := 0) (hK 100 rfl) rfl rfl rfl) (OwnB.ext f58 hE).own rfl) (.cons (fun _ _ hE hK hg => ok_fieldAddr fl26_6 (kn (hK 12 rfl) rfl q12)) (.cons (fun _ _ hE hK hg => ok_loadOwn ty9 rfl (ksv (j := 2) (hK 102 rfl) rfl rfl rfl) (OwnB.ext f58 hE).own rfl) (.cons (fun _ _ hE hK hg => ok_assign (ksv (j := 1) (hK 101 rfl) rfl rfl rfl)) (.cons (fun _ _ hE hK hg => ok_assign (ksv (j := 3) (hK 103 rfl) rfl rfl rfl)) .nil)))))) ?zok19 ?zgd19 ?zk19
   case zok19 | zgd19 => kernel_rfl
   intro a24 w24 hA hE HF
   replace q1 := kn (HF 1) rfl q1
   replace q5 := kn (HF 5) rfl q5
   replace q6 := kn (HF 6) rfl q6
   replace q7 := kn (HF 7) rfl q7
   have q8 := ksv (HF 8) rfl rfl rfl
   replace q9 := kn (HF 9) rfl q9
   have q10 := ksv (HF 10) rfl rfl rfl
   replace q11 := kn (HF 11) rfl q11
   replace q12 := kn (HF 12) rfl q12
   clear HF
   replace h_1 := GR.v_ext _ h_1 hE
   replace f4 := GR.v_ext _ f4 hE
   replace f8 := GR.v_ext _ f8 hE
   replace f58 := f58.ext hE
   replace hB := Base.step hB hE hO; clear hE
   refine li_nil (nx_then (wp_seq ?_))
   obtain ⟨x69, hx69, h⟩ := Comp.run_bind h
   refine' region [_, _, SP.isv (.agg #[.int .i64 x59, .int .i64 x60, .int .i64 x61, .int .i64 x62, .int .i64 x63, .string (str x64), .string (str x65), .string (str x66), .string (str x67)]), SP.vl (rSl r_api_Entry) O68 x69, SP.vl (rSl r_api_Entry) O68 x69] mixed hA (.cons (fun _ _ hE hK hg => ok_move (kn (hK 6 rfl) rfl q6)) (.cons (fun _ _ hE hK hg => ok_move (kn (hK 7 rfl) rfl q7)) (.cons (fun _ _ hE hK hg => ok_loadOwnAgg ty26 rfl (kn (hK 12 rfl) rfl q12) (OwnB.ext f58 hE).own rfl) (.cons ?z20_3 (.cons (fun _ _ hE hK hg => ok_assign_pr (φ := SP.vl (rSl r_api_Entry) O68 x69) (kspS (j := 3) (hK 107 rfl) rfl rfl rfl)) .nil))))) ?zok20 ?zgd20 ?zk20
   case z20_3 => intro a' w' hE hK hg; have c_ := ok_colletlaw37_after (OkO.ext hB.ok hE) (GR.v_ext _ f4 hE) (GR.v_ext _ f8 hE) hx69; exact ok_weak (ok_call3 fn30 (ksv (j := 0) (hK 104 rfl) rfl rfl rfl) (ksv (j := 1) (hK 105 rfl) rfl rfl rfl) (ksv (j := 2) (hK 106 rfl) rfl rfl rfl) c_) (fun _ _ _ h => (OwnR.val h (fun g hg => (OkO.ext hB.ok hE) g (OwnR.ge h g hg).1)))
   case zok20 | zgd20 => kernel_rfl
   intro a25 w25 hA hE HF
   replace q1 := kn (HF 1) rfl q1
   replace q5 := kn (HF 5) rfl q5
   replace q6 := kn (HF 6) rfl q6
   have f71 := ksp (HF 7) rfl rfl rfl
   obtain ⟨u70, q7'⟩ : ∃ u, a25.get 7 = u := ⟨_, rfl⟩
   rw [q7'] at f71
   replace q7 := q7'; clear q7'
   replace q8 := kn (HF 8) rfl q8
   replace q9 := kn (HF 9) rfl q9
   replace q10 := kn (HF 10) rfl q10
   replace q11 := kn (HF 11) rfl q11
   clear q12
   clear HF
   replace h_1 := GR.v_ext _ h_1 hE
   replace f4 := GR.v_ext _ f4 hE
   replace f8 := GR.v_ext _ f8 hE
   replace f58 := f58.ext hE
   replace hB := Base.step hB hE hO; clear hE
   refine li_nil (nx_then (wp_seq ?_))
   obtain ⟨x72, hx72, h⟩ := Comp.run_bind h
   obtain ⟨x73, hx73, h⟩ := Comp.run_bind h
   refine' region [_, _, SP.isv (.bool x72), _, _, _, _, SP.ptr r_api_Entry O68 x73, SP.ptr (rInt .i64) O68 x73.Seq, SP.isv (.int .i64 x73.Seq), _, _, _] mixed hA (.cons (fun _ _ hE hK hg => ok_move (kn (hK 6 rfl) rfl q6)) (.cons (fun _ _ hE hK hg => ok_move (kn (hK 7 rfl) rfl q7)) (.cons ?z21_2 (.cons (fun _ _ hE hK hg => ok_not (ksv (j := 2) (hK 110 rfl) rfl rfl rfl)) (.cons (fun _ _ hE hK hg => ok_move (ksv (j := 3) (hK 111 rfl) rfl rfl rfl)) (.cons (fun _ _ hE hK hg => ok_move (kn (hK 7 rfl) rfl q7)) (.cons (fun _ _ hE hK hg => ok_move (kn (hK 11 rfl) rfl q11)) (.cons ?z21_7 (.cons ?z21_8 (.cons ?z21_9 (.cons (fun _ _ hE hK hg => ok_move (kn (hK 11 rfl) rfl q11)) (.cons ?z21_11 (.cons ?z21_12 .nil))))))))))))) ?zok21 ?zgd21 ?zk21
   case z21_2 => intro a' w' hE hK hg; have c_ := ok_colletlaw37_finds (OkO.ext hB.ok hE) (GR.v_ext _ f4 hE) (GR.v_ext _ f71 hE) hx72; exact ok_call4 fn31 (ksv (j := 0) (hK 108 rfl) rfl rfl rfl) (ksv (j := 1) (hK 109 rfl) rfl rfl rfl) rfl rfl c_
   case z21_7 => intro a' w' hE hK hg; exact okl_idx (r := r_api_Entry) (O := O68) ty29 ty26 rfl (ksv (j := 5) (hK 113 rfl) rfl rfl hg) (rd_of (GR.v_ext _ f71 hE)) (ksv (j := 6) (hK 114 rfl) rfl rfl hg) (run_gdb hx73 hg)
   case z21_8 => intro a' w' hE hK hg; exact okl_fld (S := r_api_Entry) rfl (fun _ => rfl) sb_api_Entry_0 fl26_0 rfl (kspS (φ := SP.ptr r_api_Entry O68 x73) (j := 7) (hK 115 rfl) rfl rfl hg)
   case z21_9 => intro a' w' hE hK hg; exact okl_ldr (rInt .i64) (fun _ => rfl) ty3 rfl rfl rfl (kspS (φ := SP.ptr (rInt .i64) O68 x73.Seq) (j := 8) (hK 116 rfl) rfl rfl hg) (fun _ _ _ h => rInt_v.1 h)
   case z21_11 => intro a' w' hE hK hg; exact ok_neqI (ksv (j := 9) (hK 117 rfl) rfl rfl hg) (ksv (j := 10) (hK 118 rfl) rfl rfl hg)
   case z21_12 => intro a' w' hE hK hg; exact ok_pick (ksv (j := 4) (hK 112 rfl) rfl rfl rfl) (fun _ => rfl) (fun hb => ksv (j := 11) (hK 119 rfl) rfl rfl (act_g1 rfl rfl hb))
   case zok21 | zgd21 => kernel_rfl
   intro a26 w26 hA hE HF
   replace q1 := kn (HF 1) rfl q1
   replace q5 := kn (HF 5) rfl q5
   replace q6 := kn (HF 6) rfl q6
   replace q7 := kn (HF 7) rfl q7
   replace q8 := kn (HF 8) rfl q8
   replace q9 := kn (HF 9) rfl q9
   replace q10 := kn (HF 10) rfl q10
   replace q11 := kn (HF 11) rfl q11
   have q120 := ksv (HF 120) rfl rfl rfl
   clear HF
   replace h_1 := GR.v_ext _ h_1 hE
   replace f4 := GR.v_ext _ f4 hE
   replace f71 := GR.v_ext _ f71 hE
   replace hB := Base.step hB hE hO; clear hE
   obtain ⟨x74, hx_, h⟩ := Comp.run_bind h; replace hx_ := Comp.run_pure hx_; rw [hx_] at q120; clear hx_
   refine li_nil (nx_then ?_)
   refine wp_cond_b q120 (fun hc => ?_) (fun hc => ?_)
   ·
    replace h := Comp.run_b_t hc h; clear hc
    refine wp_seq ?_
    refine' region [_] mixed hA (.cons (fun _ _ hE hK hg => ok_assign rfl) .nil) ?zok22 ?zgd22 ?zk22
    case zok22 | zgd22 => kernel_rfl
    intro a27 w27 hA hE HF
    have q4 := ksv (HF 4) rfl rfl rfl
    clear q1
    clear q5
    clear q6
    clear q7
    clear q8
    clear q9
    clear q10
    clear q11
    clear q120
    clear HF
    replace h_1 := GR.v_ext _ h_1 hE
    replace f4 := GR.v_ext _ f4 hE
    replace f71 := GR.v_ext _ f71 hE
    replace hB := Base.step hB hE hO; clear hE
    refine li_nil (nx_then (wp_ret (rt_blk (rt_then (rt_then (rt_blk (rt_then ?_)))))))
    have hd_ := hdone2 _ (Comp.run_pure h).symm; clear h
    subst hd_; have h := hk2; clear hk2; try dsimp only at h
    have h := Comp.run_pure h; subst h
    exact retPure Try.results5 hA q4 hB.ext rfl
   ·
    replace h := Comp.run_b_f hc h; clear hc
    refine wp_skip (nx_blk (nx_then ?_))
    refine' region [_, _, _] mixed hA (.cons (fun _ _ hE hK hg => ok_move (kn (hK 11 rfl) rfl q11)) (.cons (fun _ _ hE hK hg => ok_add (ksv (j := 0) (hK 34 rfl) rfl rfl rfl) rfl) (.cons (fun _ _ hE hK hg => ok_assign (ksv (j := 1) (hK 35 rfl) rfl rfl rfl)) .nil))) ?zok23 ?zgd23 ?zk23
    case zok23 | zgd23 => kernel_rfl
    intro a28 w28 hA hE HF
    replace q1 := kn (HF 1) rfl q1
    replace q5 := kn (HF 5) rfl q5
    replace q6 := kn (HF 6) rfl q6
    replace q7 := kn (HF 7) rfl q7
    replace q8 := kn (HF 8) rfl q8
    replace q9 := kn (HF 9) rfl q9
    replace q10 := kn (HF 10) rfl q10
    have q11' := ksv (HF 11) rfl rfl rfl
    replace q11 := q11'; clear q11'
    clear q120
    clear HF
    replace h_1 := GR.v_ext _ h_1 hE
    replace f4 := GR.v_ext _ f4 hE
    replace f71 := GR.v_ext _ f71 hE
    replace hB := Base.step hB hE hO; clear hE
    refine li_nil (nx_then ?_)
    have h := hnext2 _ (Comp.run_pure h).symm
    refine ⟨m2, hlt2, ?_⟩
    exact ⟨_, _, _, _, _, _, _, hA, hB, q1, h_1, q5, q6, f4, q7, f71, q8, q9, q10, q11, h⟩
  ·
   replace h := Comp.run_b_f hc h; clear hc
   refine wp_exit (ex_then (ex_then (ex_same ?_)))
   have hd_ := hdone2 _ (Comp.run_pure h).symm; clear h
   subst hd_; have h := hk2; clear hk2; try dsimp only at h
   refine nx_then ?_
   exact ⟨_, _, _, hA, hB, q5, q6, f4, q7, f8, h⟩
 intro a29 w29 hI
 clear hA hB h q1 q5 q6 q7 q8 q9 q10 f4 h_1
 obtain ⟨O81, x78, u79, hA, hB, q5, q6, f4, q7, f80, h⟩ := hI
 unfold colletlaw37_PassportGrows_j1 at h
 refine seq_join (fun a w => ∃ (O87 : Tags), a.fit 134 ∧ Base (Fr w0) O w0 O87 w ∧ a.get 5 = .bool x1 ∧ (colletlaw37_PassportGrows_j6 x1 ).run n = some y) ?_ ?_
 ·
  refine wp_seq ?_
  refine' region [_, _, _] mixed hA (.cons (fun _ _ hE hK hg => ok_move (kn (hK 7 rfl) rfl q7)) (.cons (fun _ _ hE hK hg => okl_len (r := r_api_Entry) ty29 (ksv (j := 0) (hK 121 rfl) rfl rfl rfl) (rd_of (GR.v_ext _ f80 hE))) (.cons (fun _ _ hE hK hg => ok_move rfl) .nil))) ?zok24 ?zgd24 ?zk24
  case zok24 | zgd24 => kernel_rfl
  intro a30 w30 hA hE HF
  replace q5 := kn (HF 5) rfl q5
  replace q6 := kn (HF 6) rfl q6
  replace q7 := kn (HF 7) rfl q7
  have q122 := ksv (HF 122) rfl rfl rfl
  have q123 := ksv (HF 123) rfl rfl rfl
  clear HF
  replace f4 := GR.v_ext _ f4 hE
  replace f80 := GR.v_ext _ f80 hE
  replace hB := Base.step hB hE hO; clear hE
  refine li_nil (nx_then (wp_block ?_))
  obtain ⟨e7, he7, hk7⟩ := Comp.run_bind h; clear h
  refine loop_m (fun m a w => ∃ (O83 : Tags) (x82 : Int), a.fit 134 ∧ Base (Fr w0) O w0 O83 w ∧ a.get 5 = .bool x1 ∧ a.get 6 = u3 ∧ (rSl rStr).v O83 w u3 x2 ∧ a.get 7 = u79 ∧ (rSl r_api_Entry).v O83 w u79 x78 ∧ a.get 122 = .int .i64 (x78.length : Int) ∧ a.get 123 = .int .i64 x82 ∧ Comp.loopN (fun s => colletlaw37_PassportGrows_l7 x78 x2 s) n m x82 = some e7) (m := n) ?st7 ?_
  case st7 =>
   exact ⟨_, _, hA, hB, q5, q6, f4, q7, f80, q122, q123, Comp.run_loop he7⟩
  intro m_ a31 w31 hI
  clear hA hB he7 q5 q6 q7 q122 q123 f4 f80
  obtain ⟨O83, x82, hA, hB, q5, q6, f4, q7, f80, q122, q123, hl⟩ := hI
  obtain ⟨m7, hlt7, st7, h, hnext7, hdone7⟩ := Comp.loopN_succ hl; clear hl
  replace h : (colletlaw37_PassportGrows_l7 x78 x2 x82).run n = some st7 := h
  unfold colletlaw37_PassportGrows_l7 at h
  refine wp_seq ?_
  refine' region [_] mixed hA (.cons (fun _ _ hE hK hg => ok_lss (kn (hK 123 rfl) rfl q123) (kn (hK 122 rfl) rfl q122)) .nil) ?zok25 ?zgd25 ?zk25
  case zok25 | zgd25 => kernel_rfl
  intro a32 w32 hA hE HF
  replace q5 := kn (HF 5) rfl q5
  replace q6 := kn (HF 6) rfl q6
  replace q7 := kn (HF 7) rfl q7
  replace q122 := kn (HF 122) rfl q122
  replace q123 := kn (HF 123) rfl q123
  have q124 := ksv (HF 124) rfl rfl rfl
  clear HF
  replace f4 := GR.v_ext _ f4 hE
  replace f80 := GR.v_ext _ f80 hE
  replace hB := Base.step hB hE hO; clear hE
  refine li_nil (nx_then (wp_seq ?_))
  refine wp_cond_b q124 (fun hc => ?_) (fun hc => ?_)
  ·
   replace h := Comp.run_b_t hc h; clear hc
   refine wp_skip (nx_then (wp_seq (wp_block (wp_seq ?_))))
   refine' region [_, _] mixed hA (.cons (fun _ _ hE hK hg => ok_move (kn (hK 123 rfl) rfl q123)) (.cons (fun _ _ hE hK hg => ok_assign (ksv (j := 0) (hK 125 rfl) rfl rfl rfl)) .nil)) ?zok26 ?zgd26 ?zk26
   case zok26 | zgd26 => kernel_rfl
   intro a33 w33 hA hE HF
   replace q5 := kn (HF 5) rfl q5
   replace q6 := kn (HF 6) rfl q6
   replace q7 := kn (HF 7) rfl q7
   have q13 := ksv (HF 13) rfl rfl rfl
   replace q122 := kn (HF 122) rfl q122
   replace q123 := kn (HF 123) rfl q123
   clear q124
   clear HF
   replace f4 := GR.v_ext _ f4 hE
   replace f80 := GR.v_ext _ f80 hE
   replace hB := Base.step hB hE hO; clear hE
   refine li_nil (nx_then (wp_seq ?_))
   obtain ⟨x84, hx84, h⟩ := Comp.run_bind h
   obtain ⟨x85, hx85, h⟩ := Comp.run_bind h
   refine' region [_, _, _, SP.vl (rSl r_api_Entry) O83 x84, SP.isv (.bool x85), _] mixed hA (.cons (fun _ _ hE hK hg => ok_move (kn (hK 6 rfl) rfl q6)) (.cons (fun _ _ hE hK hg => ok_move (kn (hK 7 rfl) rfl q7)) (.cons (fun _ _ hE hK hg => ok_move (kn (hK 13 rfl) rfl q13)) (.cons (fun _ _ hE hK hg => okl_slice_h (r := r_api_Entry) ty29 ty26 rfl (ksv (j := 1) (hK 127 rfl) rfl rfl rfl) (GR.v_ext _ f80 hE) (ksv (j := 2) (hK 128 rfl) rfl rfl rfl) hx84) (.cons ?z27_4 (.cons (fun _ _ hE hK hg => ok_not (ksv (j := 4) (hK 130 rfl) rfl rfl rfl)) .nil)))))) ?zok27 ?zgd27 ?zk27
   case z27_4 => intro a' w' hE hK hg; have c_ := ok_colletlaw37_finds (OkO.ext hB.ok hE) (GR.v_ext _ f4 hE) (kspS (φ := SP.vl (rSl r_api_Entry) O83 x84) (j := 3) (hK 129 rfl) rfl rfl rfl) hx85; exact ok_call4 fn31 (ksv (j := 0) (hK 126 rfl) rfl rfl rfl) rfl rfl rfl c_
   case zok27 | zgd27 => kernel_rfl
   intro a34 w34 hA hE HF
   replace q5 := kn (HF 5) rfl q5
   replace q6 := kn (HF 6) rfl q6
   replace q7 := kn (HF 7) rfl q7
   replace q122 := kn (HF 122) rfl q122
   replace q123 := kn (HF 123) rfl q123
   have q131 := ksv (HF 131) rfl rfl rfl
   clear q13
   clear HF
   replace f4 := GR.v_ext _ f4 hE
   replace f80 := GR.v_ext _ f80 hE
   replace hB := Base.step hB hE hO; clear hE
   refine li_nil (nx_then ?_)
   refine wp_cond_b q131 (fun hc => ?_) (fun hc => ?_)
   ·
    replace h := Comp.run_b_t hc h; clear hc
    refine wp_seq ?_
    refine' region [_] mixed hA (.cons (fun _ _ hE hK hg => ok_assign rfl) .nil) ?zok28 ?zgd28 ?zk28
    case zok28 | zgd28 => kernel_rfl
    intro a35 w35 hA hE HF
    have q4 := ksv (HF 4) rfl rfl rfl
    clear q5
    clear q6
    clear q7
    clear q122
    clear q123
    clear q131
    clear HF
    replace f4 := GR.v_ext _ f4 hE
    replace f80 := GR.v_ext _ f80 hE
    replace hB := Base.step hB hE hO; clear hE
    refine li_nil (nx_then (wp_ret (rt_blk (rt_then (rt_then (rt_blk (rt_then ?_)))))))
    have hd_ := hdone7 _ (Comp.run_pure h).symm; clear h
    subst hd_; have h := hk7; clear hk7; try dsimp only at h
    have h := Comp.run_pure h; subst h
    exact retPure Try.results5 hA q4 hB.ext rfl
   ·
    replace h := Comp.run_b_f hc h; clear hc
    refine wp_skip (nx_blk (nx_then ?_))
    refine' region [_, _] mixed hA (.cons (fun _ _ hE hK hg => ok_add (kn (hK 123 rfl) rfl q123) rfl) (.cons (fun _ _ hE hK hg => ok_move (ksv (j := 0) (hK 132 rfl) rfl rfl rfl)) .nil)) ?zok29 ?zgd29 ?zk29
    case zok29 | zgd29 => kernel_rfl
    intro a36 w36 hA hE HF
    replace q5 := kn (HF 5) rfl q5
    replace q6 := kn (HF 6) rfl q6
    replace q7 := kn (HF 7) rfl q7
    replace q122 := kn (HF 122) rfl q122
    have q123' := ksv (HF 123) rfl rfl rfl
    replace q123 := q123'; clear q123'
    clear q131
    clear HF
    replace f4 := GR.v_ext _ f4 hE
    replace f80 := GR.v_ext _ f80 hE
    replace hB := Base.step hB hE hO; clear hE
    refine li_nil (nx_then ?_)
    have h := hnext7 _ (Comp.run_pure h).symm
    refine ⟨m7, hlt7, ?_⟩
    exact ⟨_, _, hA, hB, q5, q6, f4, q7, f80, q122, q123, h⟩
  ·
   replace h := Comp.run_b_f hc h; clear hc
   refine wp_exit (ex_then (ex_then (ex_same ?_)))
   have hd_ := hdone7 _ (Comp.run_pure h).symm; clear h
   subst hd_; have h := hk7; clear hk7; try dsimp only at h
   refine nx_then ?_
   exact ⟨_, hA, hB, q5, h⟩
 intro a37 w37 hI
 clear hA hB h q5 q6 q7 f4 f80
 obtain ⟨O87, hA, hB, q5, h⟩ := hI
 unfold colletlaw37_PassportGrows_j6 at h
 refine wp_seq ?_
 refine' region [_, _] mixed hA (.cons (fun _ _ hE hK hg => ok_move (kn (hK 5 rfl) rfl q5)) (.cons (fun _ _ hE hK hg => ok_assign (ksv (j := 0) (hK 133 rfl) rfl rfl rfl)) .nil)) ?zok30 ?zgd30 ?zk30
 case zok30 | zgd30 => kernel_rfl
 intro a38 w38 hA hE HF
 have q4 := ksv (HF 4) rfl rfl rfl
 clear q5
 clear HF
 replace hB := Base.step hB hE hO; clear hE
 refine li_nil (nx_then (wp_ret ?_))
 have h := Comp.run_pure h; subst h
 exact retPure Try.results5 hA q4 hB.ext rfl
end Go.Proofs.Ytkbipbfncbopnaa
end
section
namespace Go.Dig
open Go Go.RowKit Go.Eng
def stepX (x : Nat) (c : UInt8) : Nat := (48271 * x + c.toNat + 1) % 2147483629
def stepY (y : Nat) (c : UInt8) : Nat := (69621 * y + c.toNat + 1) % 2147483587
def dx (l : List UInt8) : Nat := l.foldl stepX 17
def dy (l : List UInt8) : Nat := l.foldl stepY 29
def be4 (n : Nat) : List UInt8 := [UInt8.ofNat (n / 16777216), UInt8.ofNat (n / 65536), UInt8.ofNat (n / 256), UInt8.ofNat n]
def le4 (n : Nat) : List UInt8 := [UInt8.ofNat n, UInt8.ofNat (n / 256), UInt8.ofNat (n / 65536), UInt8.ofNat (n / 16777216)]
def D (l : List UInt8) : List UInt8 := be4 (dx l) ++ be4 (dy l)
def str (l : List UInt8) : ByteArray := ⟨l.toArray⟩
abbrev bs (s : ByteArray) : List UInt8 := s.data.toList
theorem str_bs (s : ByteArray) : str (bs s) = s := by cases s; rfl
theorem bs_str (l : List UInt8) : bs (str l) = l := rfl
theorem bs_length (s : ByteArray) : (bs s).length = s.size := Array.length_toList
theorem bs_append (s t : ByteArray) : bs (s ++ t) = bs s ++ bs t := by
  show (s ++ t).data.toList = s.data.toList ++ t.data.toList
  rw [ByteArray.data_append, Array.toList_append]
theorem bs_inj {s t : ByteArray} (h : bs s = bs t) : s = t := by rw [← str_bs s, h, str_bs]
theorem str_append (l m : List UInt8) : str l ++ str m = str (l ++ m) := by apply bs_inj; rw [bs_append, bs_str, bs_str, bs_str]
theorem str_size (l : List UInt8) : (str l).size = l.length := by rw [← bs_length, bs_str]
theorem D_length (l : List UInt8) : (D l).length = 8 := rfl
theorem stepX_lt (x : Nat) (c : UInt8) : stepX x c < 2147483629 := Nat.mod_lt _ (by decide)
theorem stepY_lt (x : Nat) (c : UInt8) : stepY x c < 2147483587 := Nat.mod_lt _ (by decide)
theorem foldX_lt : ∀ (l : List UInt8) (x : Nat), x < 2147483629 → l.foldl stepX x < 2147483629
  | [], _, h => h
  | c :: l, x, _ => foldX_lt l _ (stepX_lt x c)
theorem foldY_lt : ∀ (l : List UInt8) (x : Nat), x < 2147483587 → l.foldl stepY x < 2147483587
  | [], _, h => h
  | c :: l, x, _ => foldY_lt l _ (stepY_lt x c)
theorem dx_lt (l : List UInt8) : dx l < 2147483629 := foldX_lt l 17 (by decide)
theorem dy_lt (l : List UInt8) : dy l < 2147483587 := foldY_lt l 29 (by decide)
theorem dx_snoc (l : List UInt8) (c : UInt8) : dx (l ++ [c]) = (48271 * dx l + c.toNat + 1) % 2147483629 := by
  simp [dx, stepX]
theorem dy_snoc (l : List UInt8) (c : UInt8) : dy (l ++ [c]) = (69621 * dy l + c.toNat + 1) % 2147483587 := by
  simp [dy, stepY]
theorem dxi (l : List UInt8) (c : UInt8) : (48271 * (dx l : Int) + (c.toNat : Int) + 1) % 2147483629 = ((dx (l ++ [c]) : Nat) : Int) := by
  rw [dx_snoc]; omega
theorem dyi (l : List UInt8) (c : UInt8) : (69621 * (dy l : Int) + (c.toNat : Int) + 1) % 2147483587 = ((dy (l ++ [c]) : Nat) : Int) := by
  rw [dy_snoc]; omega
theorem ofNat_i (m : Nat) : ((UInt8.ofNat m).toNat : Int) = (m : Int) % 256 := by
  rw [UInt8.toNat_ofNat']; simp
theorem shr_i (n : Nat) (j : Nat) : (n : Int).fdiv (2 ^ j) = ((n / 2 ^ j : Nat) : Int) := by
  rw [Int.fdiv_eq_ediv_of_nonneg _ (by exact_mod_cast Nat.zero_le _)]; norm_cast
inductive Strs : List Value → List ByteArray → Prop
  | nil : Strs [] []
  | cons (s : ByteArray) {xs ss} (h : Strs xs ss) : Strs (.string s :: xs) (s :: ss)
theorem Strs.map {xs : List Value} {ss : List ByteArray} (h : Strs xs ss) : xs = ss.map .string := by
  induction h with
  | nil => rfl
  | cons s _ ih => simp [ih]
def cat (ss : List ByteArray) : List UInt8 := ss.flatMap bs
def lenL (l : List UInt8) : List UInt8 := le4 l.length
def leafL (s : List UInt8) : List UInt8 := [1] ++ s
def missL : List UInt8 := [3]
def chainL (b s : List UInt8) : List UInt8 := [4] ++ lenL b ++ b ++ s
def markL (k m : List UInt8) : List UInt8 := [5] ++ lenL k ++ k ++ lenL m ++ m ++ k
end Go.Dig
end
section
namespace Go.Dig
open Go Go.RowKit Go.Eng
abbrev Bytes := List UInt8
def leafD (s : Bytes) : Bytes := D (leafL s)
def missD : Bytes := D missL
def lg (n : Nat) : Nat := if n ≤ 1 then 0 else if n ≤ 2 then 1 else if n ≤ 4 then 2 else if n ≤ 8 then 3 else if n ≤ 16 then 4 else 5
def base (ss : List Bytes) : List Bytes := ss.map leafD ++ List.replicate (2 ^ lg ss.length - ss.length) missD
end Go.Dig
end
section
set_option linter.unusedVariables false
set_option linter.unusedSimpArgs false
namespace Go.Dgp
open Go Go.Lift Go.F
open Go.Dig hiding Bytes cat
theorem wrapu {n : Int} (h : 0 ≤ n ∧ n < 18446744073709551616) : IntKind.wrap .u64 n = n := by
  have : IntKind.wrap .u64 n = n % 18446744073709551616 := by simp [IntKind.wrap, IntKind.bits, IntKind.signed]
  rw [this]; omega
theorem wrapi {n : Int} (h : -9223372036854775808 ≤ n ∧ n < 9223372036854775808) : IntKind.wrap .i64 n = n := IntWalk.i64_in _ ⟨by omega, by omega⟩
theorem stepx (l : List UInt8) (c : UInt8) : Int.tmod (IntKind.wrap .u64 (IntKind.wrap .u64 (IntKind.wrap .u64 (48271 * (dx l : Int)) + IntKind.wrap .u64 (c.toNat : Int)) + 1)) 2147483629 = ((dx (l ++ [c]) : Nat) : Int) := by
  have h1 := dx_lt l; have h2 : c.toNat < 256 := c.toNat_lt
  rw [wrapu (n := 48271 * (dx l : Int)) (by omega), wrapu (n := (c.toNat : Int)) (by omega), wrapu (n := 48271 * (dx l : Int) + (c.toNat : Int)) (by omega), wrapu (by omega), Int.tmod_eq_emod_of_nonneg (by omega), dxi]
theorem stepy (l : List UInt8) (c : UInt8) : Int.tmod (IntKind.wrap .u64 (IntKind.wrap .u64 (IntKind.wrap .u64 (69621 * (dy l : Int)) + IntKind.wrap .u64 (c.toNat : Int)) + 1)) 2147483587 = ((dy (l ++ [c]) : Nat) : Int) := by
  have h1 := dy_lt l; have h2 : c.toNat < 256 := c.toNat_lt
  rw [wrapu (n := 69621 * (dy l : Int)) (by omega), wrapu (n := (c.toNat : Int)) (by omega), wrapu (n := 69621 * (dy l : Int) + (c.toNat : Int)) (by omega), wrapu (by omega), Int.tmod_eq_emod_of_nonneg (by omega), dyi]
theorem idxn {α : Type} (xs : List α) (i : Nat) : (idx xs (i : Int)).val = xs[i]? := by
  cases h : xs[i]? with
  | some x => exact idx_val h
  | none => unfold idx; rw [if_pos (by omega)]; simp [h]
theorem take1 {s : List UInt8} {i : Nat} (h : i < s.length) : s.take (i + 1) = s.take i ++ [s[i]] := List.take_succ_eq_append_getElem h
theorem inner_loop (pre s : List UInt8) (hs : s.length ≤ 1099511627776) : (Comp.loop (fun t : Int × Int × Int => digest_of_l3 s t.1 t.2.1 t.2.2) ((dx pre : Int), (dy pre : Int), 0)).val = some (((dx (pre ++ s) : Nat) : Int), ((dy (pre ++ s) : Nat) : Int)) := by
  have := Comp.loop_seq (body := fun t : Int × Int × Int => digest_of_l3 s t.1 t.2.1 t.2.2) (fun i => (((dx (pre ++ s.take i) : Nat) : Int), ((dy (pre ++ s.take i) : Nat) : Int), (i : Int))) s.length (((dx (pre ++ s) : Nat) : Int), ((dy (pre ++ s) : Nat) : Int))
    (by
      intro i hi
      show (digest_of_l3 s _ _ (i : Int)).val = _
      unfold digest_of_l3
      have hg : (ofStr s)[i]? = some ((s[i].toNat : Nat) : Int) := by simp [ofStr, hi]
      simp only [Comp.val_bind, Comp.val_pure, Option.bind_some]
      rw [Comp.val_ite, if_pos (by rw [decide_eq_true_iff]; simp [ofStr]; omega)]
      simp only [Comp.val_bind, Comp.val_pure, Option.bind_some, idxn, hg, stepx, stepy]
      rw [Comp.wrap_succ (by omega), take1 hi, List.append_assoc])
    (by
      show (digest_of_l3 s _ _ (s.length : Int)).val = _
      unfold digest_of_l3
      simp only [Comp.val_bind, Comp.val_pure, Option.bind_some]
      rw [Comp.val_ite, if_neg (by simp [ofStr]), Comp.val_pure]
      simp)
  simpa using this
def flat (l : List Bytes) : List UInt8 := l.flatten
def vecD (l : List UInt8) : Vector Int 8 := ⟨((D l).map fun b => (b.toNat : Int)).toArray, rfl⟩
theorem vecD_list (l : List UInt8) : (vecD l).toList = (D l).map fun b => (b.toNat : Int) := rfl
theorem outer_loop (l : List Bytes) (hl : l.length ≤ 1099511627776) (hs : ∀ s ∈ l, s.length ≤ 1099511627776) : (Comp.loop (fun t : Int × Int × Int => digest_of_l2 l t.1 t.2.1 t.2.2) (17, 29, 0)).val = some (((dx (flat l) : Nat) : Int), ((dy (flat l) : Nat) : Int)) := by
  have := Comp.loop_seq (body := fun t : Int × Int × Int => digest_of_l2 l t.1 t.2.1 t.2.2) (fun i => (((dx (flat (l.take i)) : Nat) : Int), ((dy (flat (l.take i)) : Nat) : Int), (i : Int))) l.length (((dx (flat l) : Nat) : Int), ((dy (flat l) : Nat) : Int))
    (by
      intro i hi
      show (digest_of_l2 l _ _ (i : Int)).val = _
      unfold digest_of_l2
      rw [Comp.val_ite, if_pos (by rw [decide_eq_true_iff]; omega)]
      simp only [Comp.val_bind, idxn, List.getElem?_eq_getElem hi, Option.bind_some, inner_loop _ _ (hs _ (List.getElem_mem hi)), Comp.val_pure]
      rw [Comp.wrap_succ (by omega)]
      have e : flat (l.take (i + 1)) = flat (l.take i) ++ l[i] := by
        unfold flat; rw [List.take_succ_eq_append_getElem hi, List.flatten_append]; simp only [List.flatten_cons, List.flatten_nil, List.append_nil]
      rw [e])
    (by
      show (digest_of_l2 l _ _ (l.length : Int)).val = _
      unfold digest_of_l2
      rw [Comp.val_ite, if_neg (by simp), Comp.val_pure]
      simp)
  exact this
theorem vupd_val {n : Nat} {x : Vector Int n} {i : Nat} {y : Int} (h : i < n) : (vupd x (i : Int) y).val = some (x.setIfInBounds i y) := by
  unfold vupd; rw [if_pos ⟨by omega, by omega⟩]; simp
theorem u8b (X : Nat) (k : Nat) : IntKind.wrap .u8 (shrF .u64 (X : Int) (k : Int)) = ((UInt8.ofNat (X / 2 ^ min k 64)).toNat : Int) := by
  unfold shrF
  rw [IntKind.wrap_u8, ofNat_i, show IntKind.bits .u64 = 64 from rfl, Int.toNat_natCast, shr_i]
theorem four (X Y : Nat) : (Comp.loop (fun s : Int × Vector Int 8 => digest_of_l5 (X : Int) (Y : Int) s.1 s.2) (0, (Vector.replicate 8 0))).val = some ⟨((be4 X ++ be4 Y).map fun b => (b.toNat : Int)).toArray, rfl⟩ := by
  have hx : ∀ k : Nat, k ≤ 3 → IntKind.wrap .i64 (24 - IntKind.wrap .i64 (8 * (k : Int))) = ((24 - 8 * k : Nat) : Int) := by
    intro k hk; rw [wrapi (n := 8 * (k : Int)) (by omega), wrapi (by omega)]; omega
  let v : Nat → Vector Int 8 := fun i => ⟨#[if 0 < i then ((UInt8.ofNat (X / 16777216)).toNat : Int) else 0, if 1 < i then ((UInt8.ofNat (X / 65536)).toNat : Int) else 0, if 2 < i then ((UInt8.ofNat (X / 256)).toNat : Int) else 0, if 3 < i then ((UInt8.ofNat (X / 1)).toNat : Int) else 0,
    if 0 < i then ((UInt8.ofNat (Y / 16777216)).toNat : Int) else 0, if 1 < i then ((UInt8.ofNat (Y / 65536)).toNat : Int) else 0, if 2 < i then ((UInt8.ofNat (Y / 256)).toNat : Int) else 0, if 3 < i then ((UInt8.ofNat (Y / 1)).toNat : Int) else 0], rfl⟩
  have hset : ∀ i : Nat, i < 4 → ((v i).setIfInBounds i ((UInt8.ofNat (X / 2 ^ min (24 - 8 * i) 64)).toNat : Int)).setIfInBounds (4 + i) ((UInt8.ofNat (Y / 2 ^ min (24 - 8 * i) 64)).toNat : Int) = v (i + 1) := by
    intro i hi
    obtain rfl | rfl | rfl | rfl : i = 0 ∨ i = 1 ∨ i = 2 ∨ i = 3 := by omega
    all_goals simp [v, Vector.setIfInBounds]
  have := Comp.loop_seq (body := fun s : Int × Vector Int 8 => digest_of_l5 (X : Int) (Y : Int) s.1 s.2) (fun i => ((i : Int), v i)) 4 (v 4)
    (by
      intro i hi
      show (digest_of_l5 (X : Int) (Y : Int) (i : Int) (v i)).val = _
      unfold digest_of_l5
      rw [Comp.val_ite, if_pos (by rw [decide_eq_true_iff]; omega)]
      have e4 : IntKind.wrap .i64 (4 + (i : Int)) = ((4 + i : Nat) : Int) := by rw [wrapi (by omega)]; omega
      have g1 : ∀ z : Vector Int 8, ∀ j, j < 8 → (z.toList)[j]? = some ((z.toList)[j]?.getD 0) := by
        intro z j hj
        rw [List.getElem?_eq_getElem (by rw [Vector.length_toList]; exact hj)]; rfl
      simp only [Comp.val_bind, hx i (by omega), e4, nonneg_val (n := ((24 - 8 * i : Nat) : Int)) (by omega), Option.bind_some, idxn, vupd_val (show i < 8 by omega), vupd_val (show 4 + i < 8 by omega), Comp.val_pure, u8b]
      rw [g1 _ i (by omega), Option.bind_some, g1 _ (4 + i) (by omega), Option.bind_some, hset i hi, Comp.wrap_succ (by omega)])
    (by
      show (digest_of_l5 (X : Int) (Y : Int) (4 : Int) (v 4)).val = _
      unfold digest_of_l5
      rw [Comp.val_ite, if_neg (by simp), Comp.val_pure])
  have e0 : v 0 = Vector.replicate 8 0 := rfl
  have e4 : v 4 = ⟨((be4 X ++ be4 Y).map fun b => (b.toNat : Int)).toArray, rfl⟩ := by
    simp [v, be4, Nat.div_one]
  rw [← e0, ← e4]; exact this
theorem of_val (l : List Bytes) (hl : l.length ≤ 1099511627776) (hs : ∀ s ∈ l, s.length ≤ 1099511627776) : (digest_of l).val = some (vecD (flat l)) := by
  unfold digest_of
  rw [Comp.val_bind, outer_loop l hl hs, Option.bind_some]
  show (digest_of_j1 _ _).val = _
  unfold digest_of_j1
  rw [Comp.val_bind, four, Option.bind_some]
  unfold digest_of_j4
  rw [Comp.val_pure]; rfl
theorem toStr_b (l : List UInt8) : toStr (l.map fun b => (b.toNat : Int)) = Comp.pure l := by
  unfold toStr
  rw [if_pos]
  · congr 1
    rw [List.map_map]
    conv => rhs; rw [← List.map_id l]
    apply List.map_congr_left
    intro x _; simp
  · rw [List.all_eq_true]
    intro x hx
    obtain ⟨b, _, rfl⟩ := List.mem_map.1 hx
    have : b.toNat < 256 := b.toNat_lt
    simp; omega
theorem text_val (l : List UInt8) : (digest_digest_text (vecD l)).val = some (D l) := by
  unfold digest_digest_text strings_Clone cloneS
  rw [vecD_list, toStr_b]
  simp only [Comp.val_bind, Comp.val_pure, Option.bind_some]
  rw [if_pos (by rw [D_length]; decide)]
  simp
theorem le_list (n : Nat) : [IntKind.wrap .u8 (n : Int), IntKind.wrap .u8 (shrF .i64 (n : Int) 8), IntKind.wrap .u8 (shrF .i64 (n : Int) 16), IntKind.wrap .u8 (shrF .i64 (n : Int) 24)] = (le4 n).map fun b => (b.toNat : Int) := by
  have h : ∀ k : Nat, k ≤ 60 → IntKind.wrap .u8 (shrF .i64 (n : Int) (k : Int)) = ((UInt8.ofNat (n / 2 ^ k)).toNat : Int) := by
    intro k hk
    unfold shrF
    rw [IntKind.wrap_u8, ofNat_i, show IntKind.bits .i64 = 64 from rfl, Int.toNat_natCast, Nat.min_eq_left (by omega), shr_i]
  have h8 : IntKind.wrap .u8 (shrF .i64 (n : Int) 8) = ((UInt8.ofNat (n / 256)).toNat : Int) := h 8 (by omega)
  have h16 : IntKind.wrap .u8 (shrF .i64 (n : Int) 16) = ((UInt8.ofNat (n / 65536)).toNat : Int) := h 16 (by omega)
  have h24 : IntKind.wrap .u8 (shrF .i64 (n : Int) 24) = ((UInt8.ofNat (n / 16777216)).toNat : Int) := h 24 (by omega)
  have h0 : IntKind.wrap .u8 (n : Int) = ((UInt8.ofNat n).toNat : Int) := by rw [IntKind.wrap_u8, ofNat_i]
  simp only [le4, List.map, h8, h16, h24, h0]
theorem length_val (s : Bytes) : (digest_length s).val = some (lenL s) := by
  unfold digest_length
  rw [le_list, toStr_b]
  simp [Comp.val_bind, lenL]
theorem most4_val (n : Nat) : (colletref02_most4 (n : Int)).val = some (be4 n) := by
  unfold colletref02_most4
  have e : [IntKind.wrap .u8 (shrF .i64 (n : Int) 24), IntKind.wrap .u8 (shrF .i64 (n : Int) 16), IntKind.wrap .u8 (shrF .i64 (n : Int) 8), IntKind.wrap .u8 (n : Int)] = (be4 n).map fun b => (b.toNat : Int) := by
    have := le_list n
    simp only [le4, be4, List.map, List.cons.injEq] at this ⊢
    obtain ⟨h1, h2, h3, h4, _⟩ := this
    exact ⟨h4, h3, h2, h1, trivial⟩
  rw [e, toStr_b]
  simp [Comp.val_bind]
theorem cat_val {s t : Bytes} (h : s.length + t.length ≤ 1099511627776) : (Lift.cat s t).val = some (s ++ t) := by
  unfold Lift.cat; rw [if_pos h]; simp
theorem cat_bind {α : Type} {s t : Bytes} (h : s.length + t.length ≤ 1099511627776) (f : Bytes → Comp α) : ((Lift.cat s t).bind f).val = (f (s ++ t)).val := Comp.val_bind_of (cat_val h) f
theorem rOf_val (s : Bytes) (hs : s.length ≤ 1099511627776) : (colletref02_Of s).val = some (D s) := by
  have hx : ∀ (l : List UInt8) (c : UInt8), Int.tmod (IntKind.wrap .i64 (IntKind.wrap .i64 (IntKind.wrap .i64 (48271 * (dx l : Int)) + IntKind.wrap .i64 (c.toNat : Int)) + 1)) 2147483629 = ((dx (l ++ [c]) : Nat) : Int) := by
    intro l c
    have h1 := dx_lt l; have h2 : c.toNat < 256 := c.toNat_lt
    rw [wrapi (n := 48271 * (dx l : Int)) (by omega), wrapi (n := (c.toNat : Int)) (by omega), wrapi (n := 48271 * (dx l : Int) + (c.toNat : Int)) (by omega), wrapi (by omega), Int.tmod_eq_emod_of_nonneg (by omega), dxi]
  have hy : ∀ (l : List UInt8) (c : UInt8), Int.tmod (IntKind.wrap .i64 (IntKind.wrap .i64 (IntKind.wrap .i64 (69621 * (dy l : Int)) + IntKind.wrap .i64 (c.toNat : Int)) + 1)) 2147483587 = ((dy (l ++ [c]) : Nat) : Int) := by
    intro l c
    have h1 := dy_lt l; have h2 : c.toNat < 256 := c.toNat_lt
    rw [wrapi (n := 69621 * (dy l : Int)) (by omega), wrapi (n := (c.toNat : Int)) (by omega), wrapi (n := 69621 * (dy l : Int) + (c.toNat : Int)) (by omega), wrapi (by omega), Int.tmod_eq_emod_of_nonneg (by omega), dyi]
  have := Comp.loop_seq (body := fun t : Int × Int × Int => colletref02_Of_l2 s t.1 t.2.1 t.2.2) (fun i => (((dx (s.take i) : Nat) : Int), ((dy (s.take i) : Nat) : Int), (i : Int))) s.length (((dx s : Nat) : Int), ((dy s : Nat) : Int))
    (by
      intro i hi
      show (colletref02_Of_l2 s _ _ (i : Int)).val = _
      unfold colletref02_Of_l2 strIdx
      rw [Comp.val_ite, if_pos (by rw [decide_eq_true_iff]; omega)]
      simp only [Comp.val_bind, Comp.val_pure, Option.bind_some, idxn, List.getElem?_eq_getElem hi, hx, hy]
      rw [Comp.wrap_succ (by omega), take1 hi])
    (by
      show (colletref02_Of_l2 s _ _ (s.length : Int)).val = _
      unfold colletref02_Of_l2
      rw [Comp.val_ite, if_neg (by simp), Comp.val_pure]
      simp)
  have h0 : (Comp.loop (fun t : Int × Int × Int => colletref02_Of_l2 s t.1 t.2.1 t.2.2) (17, 29, 0)).val = some (((dx s : Nat) : Int), ((dy s : Nat) : Int)) := this
  unfold colletref02_Of
  rw [Comp.val_bind, h0, Option.bind_some]
  show (colletref02_Of_j1 _ _).val = _
  unfold colletref02_Of_j1
  rw [Comp.val_bind, most4_val, Option.bind_some, Comp.val_bind, most4_val, Option.bind_some, cat_bind (by simp [be4]), Comp.val_pure]
  rfl
theorem lenL_len (s : Bytes) : (lenL s).length = 4 := rfl
theorem marked_val (k m : Bytes) (hk : k.length ≤ 1099511627776) (hm : m.length ≤ 1099511627776) : (digest_marked k m).val = some (vecD (markL k m)) := by
  unfold digest_marked
  simp only [Comp.val_bind, length_val, Option.bind_some, Comp.val_pure]
  rw [of_val _ (by simp) (by simp [lenL_len]; omega)]
  simp [flat, markL]
theorem Mark_val (k m : Bytes) (hk : k.length ≤ 1099511627776) (hm : m.length ≤ 1099511627776) : (digest_Mark k m).val = some (D (markL k m)) := by
  unfold digest_Mark
  rw [Comp.val_bind, marked_val k m hk hm]
  simp [Comp.val_bind, text_val]
theorem Chain_val (b s : Bytes) (hk : b.length ≤ 1099511627776) (hm : s.length ≤ 1099511627776) : (digest_Chain b s).val = some (D (chainL b s)) := by
  unfold digest_Chain
  simp only [Comp.val_bind, length_val, Option.bind_some, Comp.val_pure]
  rw [of_val _ (by simp) (by simp [lenL_len]; omega)]
  simp [flat, chainL, text_val]
def chk (k m x : Bytes) : Bool := decide (k ≠ []) && decide (x = D (markL k m))
theorem vec_inj (x : Bytes) (h : 8 ≤ x.length) (l : List UInt8) : ((⟨((ofStr x).take 8).toArray, by simp [ofStr]; omega⟩ : Vector Int 8) = vecD l) ↔ x.take 8 = D l := by
  rw [← Vector.toList_inj, vecD_list]
  show ((ofStr x).take 8) = _ ↔ _
  unfold ofStr
  rw [← List.map_take, List.map_inj_right]
  intro a b hab
  exact UInt8.toNat_inj.1 (Int.ofNat.inj hab)
theorem Check_val (k m x : Bytes) (hk : k.length ≤ 1099511627776) (hm : m.length ≤ 1099511627776) : (digest_Check k m x).val = some (chk k m x) := by
  unfold digest_Check
  by_cases hk0 : k = []
  · subst hk0; simp [Comp.val_bind, Comp.val_gd, chk]
  · by_cases hx : x.length = 8
    · have hx' : (x.length : Int) = 8 := by omega
      have h8 : 8 ≤ (ofStr x).length := by simp [ofStr]; omega
      have e : (bif (decide (k ≠ ([] : Bytes))) then (decide ((x.length : Int) = 8)) else false) = true := by simp [hk0, hx']
      simp only [e, Comp.val_bind, Comp.val_gd, if_pos, beq_self_eq_true, marked_val k m hk hm, Option.bind_some, Comp.val_pure, toVec, dif_pos h8, cond_true]
      congr 1
      unfold chk
      rw [show decide (k ≠ []) = true from by simp [hk0], Bool.true_and]
      congr 1
      rw [vec_inj x (by omega), List.take_of_length_le (by omega)]
    · have hx' : ¬ (x.length : Int) = 8 := by omega
      have : ¬ x = D (markL k m) := by intro h; rw [h] at hx; exact hx rfl
      simp [Comp.val_bind, Comp.val_gd, chk, hx', this]
end Go.Dgp
end
section
set_option linter.unusedVariables false
set_option linter.unusedSimpArgs false
namespace Go.Dgp
open Go Go.Lift Go.F
open Go.Dig hiding Bytes cat
def vb (c : Nat) : Bytes := if h : c < 128 then [UInt8.ofNat c] else UInt8.ofNat (c % 128 + 128) :: vb (c / 128)
termination_by c
decreasing_by omega
def zz (x : Int) : Nat := if 0 ≤ x then (2 * x).toNat else (2 * (-(x + 1)) + 1).toNat
def I64 (x : Int) : Prop := -9223372036854775808 ≤ x ∧ x < 9223372036854775808
theorem zz_lt {x : Int} (h : I64 x) : zz x < 18446744073709551616 := by
  unfold I64 at h; unfold zz; split <;> omega
theorem wrap_u64 (n : Int) : IntKind.wrap .u64 n = n % 18446744073709551616 := by simp [IntKind.wrap, IntKind.bits, IntKind.signed]
theorem own_code {x : Int} (h : I64 x) : xorB .u64 (shlF .u64 (IntKind.wrap .u64 x) 1) (IntKind.wrap .u64 (shrF .i64 x 63)) = (zz x : Int) := by
  unfold I64 at h
  unfold shlF shrF xorB zz
  simp only [wrap_u64, show IntKind.bits .u64 = 64 from rfl, show IntKind.bits .i64 = 64 from rfl, show min (Int.toNat 1) 64 = 1 from rfl, show min (Int.toNat 63) 64 = 63 from rfl]
  rw [Int.fdiv_eq_ediv_of_nonneg _ (by decide)]
  by_cases hx : 0 ≤ x
  · rw [if_pos hx, show x / 2 ^ 63 = 0 by omega]
    have e : BitVec.ofInt 64 ((x % 18446744073709551616 * 2 ^ 1) % 18446744073709551616) ^^^ BitVec.ofInt 64 ((0 : Int) % 18446744073709551616) = BitVec.ofInt 64 (2 * x) := by
      rw [show (0 : Int) % 18446744073709551616 = 0 from rfl, show BitVec.ofInt 64 0 = 0#64 from rfl, BitVec.xor_zero]
      congr 1; omega
    show (((BitVec.ofInt 64 ((x % 18446744073709551616 * 2 ^ 1) % 18446744073709551616) ^^^ BitVec.ofInt 64 ((0 : Int) % 18446744073709551616)).toNat : Nat) : Int) % 18446744073709551616 = _
    rw [e, BitVec.toNat_ofInt]; omega
  · rw [if_neg hx, show x / 2 ^ 63 = -1 by omega]
    have e : BitVec.ofInt 64 ((x % 18446744073709551616 * 2 ^ 1) % 18446744073709551616) ^^^ BitVec.ofInt 64 ((-1 : Int) % 18446744073709551616) = ~~~ BitVec.ofInt 64 (2 * x) := by
      rw [show BitVec.ofInt 64 ((-1 : Int) % 18446744073709551616) = BitVec.allOnes 64 from by decide, BitVec.xor_allOnes]
      congr 1
      apply BitVec.eq_of_toNat_eq
      rw [BitVec.toNat_ofInt, BitVec.toNat_ofInt]; omega
    show (((BitVec.ofInt 64 ((x % 18446744073709551616 * 2 ^ 1) % 18446744073709551616) ^^^ BitVec.ofInt 64 ((-1 : Int) % 18446744073709551616)).toNat : Nat) : Int) % 18446744073709551616 = _
    rw [e, BitVec.toNat_not, BitVec.toNat_ofInt]; omega
set_option maxRecDepth 100000
theorem or128 : ∀ b : Fin 256, orB .u8 (b.val : Int) 128 = ((b.val % 128 + 128 : Nat) : Int) := by decide +kernel
theorem byte_list (c : Nat) : [IntKind.wrap .u8 (c : Int)] = [UInt8.ofNat c].map fun b => (b.toNat : Int) := by
  rw [IntKind.wrap_u8, List.map_singleton, ofNat_i]
theorem vb_small {c : Nat} (h : c < 128) : vb c = [UInt8.ofNat c] := by rw [vb, dif_pos h]
theorem vb_big {c : Nat} (h : ¬ c < 128) : vb c = UInt8.ofNat (c % 128 + 128) :: vb (c / 128) := by rw [vb, dif_neg h]
theorem pow128 (k : Nat) : 128 ^ (k + 1) = 128 ^ k * 128 := Nat.pow_succ ..
theorem own_loop : ∀ (k c : Nat) (acc : Bytes), c < 128 ^ k → c < 18446744073709551616 → acc.length + k ≤ 1000 → 1 ≤ k →
    ((Comp.loop (fun s : Int × List Int => wire_Int_l2 s.1 s.2) ((c : Int), acc.map fun b => (b.toNat : Int))).bind fun p => wire_Int_j1 p.1 p.2).val = some (acc ++ vb c)
  | 0, c, acc, _, _, _, h => by omega
  | k + 1, c, acc, hc, hc2, ha, _ => by
      have hL : LIM = 1073741824 := rfl
      rw [Comp.val_bind, Comp.val_loop]
      by_cases h : c < 128
      · have hb : (wire_Int_l2 (c : Int) (acc.map fun b => (b.toNat : Int))).val = some (.done ((c : Int), acc.map fun b => (b.toNat : Int))) := by
          unfold wire_Int_l2
          rw [Comp.val_ite, if_neg (by rw [decide_eq_true_iff]; omega), Comp.val_pure]
        show ((wire_Int_l2 (c : Int) (acc.map fun b => (b.toNat : Int))).val.bind _).bind _ = _
        rw [hb]
        show (wire_Int_j1 (c : Int) (acc.map fun b => (b.toNat : Int))).val = _
        unfold wire_Int_j1
        rw [byte_list, Comp.val_bind, app_val (by simp; omega), Option.bind_some, ← List.map_append, toStr_b, vb_small h]
        simp only [Comp.val_bind, Comp.val_pure, Option.bind_some]
      · have e1 : orB .u8 (IntKind.wrap .u8 (c : Int)) 128 = ((UInt8.ofNat (c % 128 + 128)).toNat : Int) := by
          have := or128 ⟨c % 256, by omega⟩
          rw [IntKind.wrap_u8, show (c : Int) % 256 = ((c % 256 : Nat) : Int) by omega]
          rw [show ((⟨c % 256, by omega⟩ : Fin 256).val : Int) = ((c % 256 : Nat) : Int) from rfl] at this
          rw [this, ofNat_i]
          show ((c % 256 % 128 + 128 : Nat) : Int) = _
          omega
        have e2 : shrF .u64 (c : Int) 7 = ((c / 128 : Nat) : Int) := by
          unfold shrF
          rw [show min (Int.toNat 7) (IntKind.bits .u64) = 7 from rfl, shr_i]
        have hb : (wire_Int_l2 (c : Int) (acc.map fun b => (b.toNat : Int))).val = some (.next (((c / 128 : Nat) : Int), (acc ++ [UInt8.ofNat (c % 128 + 128)]).map fun b => (b.toNat : Int))) := by
          unfold wire_Int_l2
          rw [Comp.val_ite, if_pos (by rw [decide_eq_true_iff]; omega), e1, e2, Comp.val_bind, app_val (by simp; omega), Option.bind_some, Comp.val_pure, List.map_append]
          rfl
        show ((wire_Int_l2 (c : Int) (acc.map fun b => (b.toNat : Int))).val.bind _).bind _ = _
        rw [hb]
        have hp := pow128 k
        have hk : 1 ≤ k := by
          rcases Nat.eq_zero_or_pos k with h0 | h0
          · subst h0; omega
          · exact h0
        have := own_loop k (c / 128) (acc ++ [UInt8.ofNat (c % 128 + 128)]) (by omega) (by omega) (by simp; omega) hk
        rw [Comp.val_bind] at this
        rw [vb_big h]
        show (Comp.loop (fun s : Int × List Int => wire_Int_l2 s.1 s.2) (((c / 128 : Nat) : Int), (acc ++ [UInt8.ofNat (c % 128 + 128)]).map fun b => (b.toNat : Int))).val.bind _ = _
        rw [this, List.append_assoc]; rfl
theorem wInt_val {x : Int} (h : I64 x) : (wire_Int x).val = some (vb (zz x)) := by
  have hz := zz_lt h
  unfold wire_Int
  rw [Comp.val_bind, Comp.val_pure, Option.bind_some, own_code h]
  exact own_loop 10 (zz x) [] (by omega) hz (by simp) (by omega)
end Go.Dgp
end
section
set_option linter.unusedVariables false
set_option linter.unusedSimpArgs false
namespace Go.Dgp
open Go Go.Lift Go.F
open Go.Dig hiding Bytes cat
theorem vb_len : ∀ (k c : Nat), c < 128 ^ k → 1 ≤ k → (vb c).length ≤ k
  | 0, c, _, h => by omega
  | k + 1, c, hc, _ => by
      by_cases h : c < 128
      · rw [vb_small h]; simp
      · have hp := pow128 k
        have hk : 1 ≤ k := by
          rcases Nat.eq_zero_or_pos k with h0 | h0
          · subst h0; omega
          · exact h0
        have := vb_len k (c / 128) (by omega) hk
        rw [vb_big h, List.length_cons]; omega
theorem vbz_len {x : Int} (h : I64 x) : (vb (zz x)).length ≤ 10 := vb_len 10 _ (by have := zz_lt h; omega) (by omega)
theorem i64_nat {n : Nat} (h : n ≤ 1099511627776) : I64 (n : Int) := ⟨by omega, by omega⟩
def vtext (s : Bytes) : Bytes := vb (zz (s.length : Int)) ++ s
def vints (l : List Int) : Bytes := vb (zz (l.length : Int)) ++ l.flatMap fun x => vb (zz x)
theorem wText_val {s : Bytes} (h : s.length ≤ 274877906944) : (wire_Text s).val = some (vtext s) := by
  have hi := i64_nat (n := s.length) (by omega)
  have := vbz_len hi
  unfold wire_Text
  rw [Comp.val_bind, wInt_val hi, Option.bind_some, cat_bind (by omega), Comp.val_pure]; rfl
theorem allF_val : ∀ (l : List Int) (acc : Bytes), (∀ x ∈ l, I64 x) → acc.length + 10 * l.length ≤ 1000000 → (Bld.allF wire_Int l acc).val = some (acc ++ l.flatMap fun x => vb (zz x))
  | [], acc, _, _ => by unfold Bld.allF; simp
  | x :: l, acc, hx, ha => by
      have h1 := vbz_len (hx x (by simp))
      simp only [List.length_cons] at ha
      unfold Bld.allF
      rw [Comp.val_bind, wInt_val (hx x (by simp)), Option.bind_some, cat_bind (by omega), allF_val l _ (fun y hy => hx y (by simp [hy])) (by rw [List.length_append]; omega)]
      simp
theorem wInts_val {l : List Int} (h : l.length ≤ 1000) (hx : ∀ x ∈ l, I64 x) : (wire_Ints l).val = some (vints l) := by
  have hi := i64_nat (n := l.length) (by omega)
  have h1 := vbz_len hi
  have hL : LIM = 1073741824 := rfl
  unfold wire_Ints Bld.allC
  rw [Comp.val_bind, Comp.val_ite, if_pos (by omega), Comp.val_bind, wInt_val hi, Option.bind_some, cat_bind (by simp; omega), List.nil_append, allF_val l _ hx (by omega), Option.bind_some, Comp.val_pure]; rfl
end Go.Dgp
end
section
set_option linter.unusedVariables false
set_option linter.unusedSimpArgs false
namespace Go.Dgp
open Go Go.Lift Go.F
open Go.Dig hiding Bytes cat
structure EW (e : api_Entry) : Prop where
  seq : I64 e.Seq
  shop : I64 e.Shop
  kind : I64 e.Kind
  day : I64 e.Day
  n : I64 e.N
  before : e.Before.length ≤ 68719476736
  after : e.After.length ≤ 68719476736
  prev : e.Prev.length ≤ 68719476736
  mark : e.Mark.length ≤ 68719476736
def nums (e : api_Entry) : List Int := [e.Seq, e.Shop, e.Kind, e.Day, e.N]
def vbytes (e : api_Entry) : Bytes := vints (nums e) ++ vtext e.Before ++ vtext e.After ++ vtext e.Prev
theorem vtext_len {s : Bytes} (h : s.length ≤ 274877906944) : (vtext s).length ≤ s.length + 10 := by
  have := vbz_len (i64_nat (n := s.length) (by omega))
  unfold vtext; rw [List.length_append]; omega
theorem nums_wf {e : api_Entry} (h : EW e) : ∀ x ∈ nums e, I64 x := by
  intro x hx
  simp only [nums, List.mem_cons, List.not_mem_nil, or_false] at hx
  rcases hx with rfl | rfl | rfl | rfl | rfl
  · exact h.seq
  · exact h.shop
  · exact h.kind
  · exact h.day
  · exact h.n
theorem vints_len {e : api_Entry} (h : EW e) : (vints (nums e)).length ≤ 60 := by
  have h1 := vbz_len h.seq; have h2 := vbz_len h.shop; have h3 := vbz_len h.kind; have h4 := vbz_len h.day; have h5 := vbz_len h.n
  have h0 := vbz_len (i64_nat (n := 5) (by omega))
  have e5 : ((5 : Nat) : Int) = 5 := rfl
  rw [e5] at h0
  simp only [vints, nums, List.length_append, List.flatMap_cons, List.flatMap_nil, List.length_cons, List.length_nil]
  have : ((0 + 1 + 1 + 1 + 1 + 1 : Nat) : Int) = 5 := rfl
  rw [this]; omega
theorem vbytes_len {e : api_Entry} (h : EW e) : (vbytes e).length ≤ 206158430308 := by
  have h0 := vints_len h
  have h1 := vtext_len (s := e.Before) (by have := h.before; omega)
  have h2 := vtext_len (s := e.After) (by have := h.after; omega)
  have h3 := vtext_len (s := e.Prev) (by have := h.prev; omega)
  have := h.before; have := h.after; have := h.prev
  unfold vbytes
  simp only [List.length_append]; omega
theorem pBytes_val {e : api_Entry} (h : EW e) : (passport_Bytes e).val = some (vbytes e) := by
  have h0 := vints_len h
  have b1 := h.before; have b2 := h.after; have b3 := h.prev
  have h1 := vtext_len (s := e.Before) (by omega)
  have h2 := vtext_len (s := e.After) (by omega)
  have h3 := vtext_len (s := e.Prev) (by omega)
  have hi : (wire_Ints [e.Seq, e.Shop, e.Kind, e.Day, e.N]).val = some (vints (nums e)) := wInts_val (l := nums e) (by simp [nums]) (nums_wf h)
  unfold passport_Bytes
  rw [Comp.val_bind, hi, Option.bind_some, Comp.val_bind, wText_val (by omega), Option.bind_some, cat_bind (by omega), Comp.val_bind, wText_val (by omega), Option.bind_some, cat_bind (by simp only [List.length_append]; omega),
    Comp.val_bind, wText_val (by omega), Option.bind_some, cat_bind (by simp only [List.length_append]; omega), Comp.val_pure]
  rfl
def signE (key : Bytes) (e : api_Entry) : api_Entry := ⟨e.Seq, e.Shop, e.Kind, e.Day, e.N, e.Before, e.After, e.Prev, D (markL key (vbytes e))⟩
theorem pSign_val {key : Bytes} {e : api_Entry} (hk : key.length ≤ 274877906944) (h : EW e) : (passport_Sign key e).val = some (signE key e) := by
  have := vbytes_len h
  unfold passport_Sign
  simp only [Comp.val_bind, pBytes_val h, Option.bind_some, Mark_val key (vbytes e) (by omega) (by omega), Comp.val_pure]
  rfl
def linkE (e : api_Entry) : Bytes := D (chainL (vbytes e) e.Mark)
theorem pLink_val {e : api_Entry} (h : EW e) : (passport_link e).val = some (linkE e) := by
  have := vbytes_len h; have := h.mark
  unfold passport_link
  simp only [Comp.val_bind, pBytes_val h, Option.bind_some, Chain_val (vbytes e) e.Mark (by omega) (by omega), Comp.val_pure]
  rfl
end Go.Dgp
end
section
set_option linter.unusedVariables false
set_option linter.unusedSimpArgs false
namespace Go.Dgp
open Go Go.Lift Go.F
open Go.Dig hiding Bytes cat
def nextE (l : List api_Entry) (e : api_Entry) : api_Entry :=
  match l.getLast? with
  | some p => ⟨(l.length : Int), e.Shop, e.Kind, e.Day, e.N, p.After, e.After, linkE p, []⟩
  | none => ⟨(l.length : Int), e.Shop, e.Kind, e.Day, e.N, e.Before, e.After, [], []⟩
theorem last_idx {l : List api_Entry} (h : 0 < l.length) (hl : l.length ≤ 1073741824) : ∃ p, l.getLast? = some p ∧ p ∈ l ∧ (idx l (IntKind.wrap .i64 ((l.length : Int) - 1))).val = some p := by
  have h1 : l[l.length - 1]? = some l[l.length - 1] := List.getElem?_eq_getElem (by omega)
  refine ⟨l[l.length - 1], ?_, List.getElem_mem _, ?_⟩
  · rw [List.getLast?_eq_getElem?, h1]
  · rw [wrapi (by omega), show (l.length : Int) - 1 = ((l.length - 1 : Nat) : Int) by omega, idxn, h1]
theorem pNext_val {l : List api_Entry} {e : api_Entry} (hl : l.length ≤ 1073741824) (hw : ∀ x ∈ l, EW x) : (passport_Next l e).val = some (nextE l e) := by
  unfold passport_Next nextE
  rw [Comp.val_ite]
  by_cases h : 0 < l.length
  · obtain ⟨p, h1, h2, h3⟩ := last_idx h hl
    rw [if_pos (by rw [decide_eq_true_iff]; omega), h1]
    simp only [Comp.val_bind, h3, Option.bind_some, pLink_val (hw p h2)]
    unfold passport_Next_j1
    rw [Comp.val_pure]
  · have h0 : l = [] := List.eq_nil_of_length_eq_zero (by omega)
    rw [if_neg (by rw [decide_eq_true_iff]; omega), h0]
    unfold passport_Next_j1
    rw [Comp.val_pure]; rfl
theorem linkE_len (e : api_Entry) : (linkE e).length = 8 := D_length _
theorem nextE_wf {l : List api_Entry} {e : api_Entry} (hl : l.length ≤ 1073741824) (hw : ∀ x ∈ l, EW x) (he : EW e) : EW (nextE l e) := by
  unfold nextE
  split
  · rename_i p hp
    have hm : p ∈ l := List.mem_of_getLast? hp
    exact ⟨⟨by show -9223372036854775808 ≤ ((l.length : Nat) : Int); omega, by show ((l.length : Nat) : Int) < 9223372036854775808; omega⟩, he.shop, he.kind, he.day, he.n, (hw p hm).after, he.after, by show (linkE p).length ≤ _; rw [linkE_len]; decide, by simp⟩
  · exact ⟨⟨by show -9223372036854775808 ≤ ((l.length : Nat) : Int); omega, by show ((l.length : Nat) : Int) < 9223372036854775808; omega⟩, he.shop, he.kind, he.day, he.n, he.before, he.after, by simp, by simp⟩
theorem signE_wf {k : Bytes} {e : api_Entry} (he : EW e) : EW (signE k e) :=
  ⟨he.seq, he.shop, he.kind, he.day, he.n, he.before, he.after, he.prev, by show (D _).length ≤ _; rw [D_length]; decide⟩
end Go.Dgp
end
section
set_option linter.unusedVariables false
set_option linter.unusedSimpArgs false
namespace Go.Dgp
open Go Go.Lift Go.F
open Go.Dig hiding Bytes cat
def decT (n : Nat) : Bytes := (((colletref01_Of (n : Int)).bind colletref01_Text).run 20).getD []
set_option maxRecDepth 1000000 in
theorem dec_run : ∀ n : Fin 256, (((colletref01_Of (n.val : Int)).bind colletref01_Text).run 20).isSome = true ∧ (decT n.val).length ≤ 3 := by decide +kernel
theorem dec_val {n : Nat} (h : n < 256) : ((colletref01_Of (n : Int)).bind colletref01_Text).val = some (decT n) := by
  have h1 := (dec_run ⟨n, h⟩).1
  obtain ⟨y, hy⟩ := Option.isSome_iff_exists.1 h1
  have : decT n = y := by unfold decT; rw [hy]; rfl
  rw [this]; exact Comp.val_run hy
theorem dec_len {n : Nat} (h : n < 256) : (decT n).length ≤ 3 := (dec_run ⟨n, h⟩).2
def keyT (n : Nat) : Bytes := [107, 101, 121, 32] ++ decT n
def rootT (n : Nat) : Bytes := D ([114, 111, 111, 116, 32] ++ decT n)
theorem root37_val {n : Nat} (h : n < 256) : (colletref37_Root (n : Int)).val = some (rootT n) := by
  have h1 := dec_val h
  rw [Comp.val_bind] at h1
  have hl := dec_len h
  unfold colletref37_Root
  rw [Comp.val_bind]
  cases ha : (colletref01_Of (n : Int)).val with
  | none => rw [ha] at h1; cases h1
  | some a =>
    rw [ha, Option.bind_some] at h1
    rw [Option.bind_some, Comp.val_bind, h1, Option.bind_some, cat_bind (by simp; omega), Comp.val_bind, rOf_val _ (by simp; omega), Option.bind_some, Comp.val_pure]; rfl
theorem keys_val {m : Nat} (h : m ≤ 200) : (colletref37_Keys (m : Int)).val = some ((List.range m).map keyT) := by
  have hL : LIM = 1073741824 := rfl
  have key := Comp.loop_seq (body := fun s : List Bytes × Int => colletref37_Keys_l2 (m : Int) s.1 s.2) (fun i => ((List.range i).map keyT, (i : Int))) m ((List.range m).map keyT)
    (by
      intro i hi
      show (colletref37_Keys_l2 (m : Int) ((List.range i).map keyT) (i : Int)).val = _
      have h1 := dec_val (n := i) (by omega)
      have hl := dec_len (n := i) (by omega)
      rw [Comp.val_bind] at h1
      unfold colletref37_Keys_l2
      rw [Comp.val_ite, if_pos (by rw [decide_eq_true_iff]; omega), Comp.val_bind]
      cases ha : (colletref01_Of (i : Int)).val with
      | none => rw [ha] at h1; cases h1
      | some a =>
        rw [ha, Option.bind_some] at h1
        rw [Option.bind_some, Comp.val_bind, h1, Option.bind_some, cat_bind (by simp; omega), Comp.val_bind, app_val (by simp; omega), Option.bind_some, Comp.val_pure, Comp.wrap_succ (by omega), List.range_succ, List.map_append]
        rfl)
    (by
      show (colletref37_Keys_l2 (m : Int) ((List.range m).map keyT) (m : Int)).val = _
      unfold colletref37_Keys_l2
      rw [Comp.val_ite, if_neg (by rw [decide_eq_true_iff]; omega), Comp.val_pure])
  have key' : (Comp.loop (fun s : List Bytes × Int => colletref37_Keys_l2 (m : Int) s.1 s.2) ([], 0)).val = some ((List.range m).map keyT) := key
  unfold colletref37_Keys
  rw [Comp.val_bind, key', Option.bind_some]
  show (colletref37_Keys_j1 _).val = _
  unfold colletref37_Keys_j1
  rw [Comp.val_pure]
end Go.Dgp
end
section
set_option linter.unusedVariables false
set_option linter.unusedSimpArgs false
namespace Go.Dgp
open Go Go.Lift Go.F
open Go.Dig hiding Bytes cat
def wrt (p : api_Entry) : Int := if p.Kind = 4 then p.N else p.Shop
def keysT (m : Nat) : List Bytes := (List.range m).map keyT
theorem keysT_len (m : Nat) : (keysT m).length = m := by simp [keysT]
theorem keysT_get {m k : Nat} (h : k < m) : (keysT m)[k]? = some (keyT k) := by simp [keysT, h]
theorem keyT_len {k : Nat} (h : k < 256) : (keyT k).length ≤ 7 := by
  have := dec_len h
  unfold keyT; simp; omega
theorem rootT_len (n : Nat) : (rootT n).length = 8 := D_length _
end Go.Dgp
end
section
set_option linter.unusedVariables false
set_option linter.unusedSimpArgs false
namespace Go.Lift
open Go Go.Eng
variable {α β γ δ ε σ τ : Type}
def Ok (c : Comp α) (P : α → Prop) : Prop := ∃ a, c.val = some a ∧ P a
namespace Ok
theorem of_val {c : Comp α} {a : α} {P : α → Prop} (h : c.val = some a) : Ok c P ↔ P a := by
  constructor
  · rintro ⟨b, h1, h2⟩; rw [h] at h1; cases h1; exact h2
  · exact fun hp => ⟨a, h, hp⟩
theorem val {c : Comp α} {a : α} (h : Ok c (fun x => x = a)) : c.val = some a := by
  obtain ⟨b, h1, h2⟩ := h; rw [h1, h2]
theorem mono {c : Comp α} {P Q : α → Prop} (h : Ok c P) (i : ∀ a, P a → Q a) : Ok c Q := by
  obtain ⟨a, h1, h2⟩ := h; exact ⟨a, h1, i a h2⟩
theorem pure {a : α} {P : α → Prop} : Ok (Comp.pure a) P ↔ P a := of_val (Comp.val_pure a)
theorem bind {c : Comp α} {f : α → Comp β} {P : β → Prop} : Ok (c.bind f) P ↔ Ok c fun a => Ok (f a) P := by
  unfold Ok
  rw [Comp.val_bind]
  cases hc : c.val with
  | none => simp
  | some a => simp
theorem ite {p : Prop} [Decidable p] {c d : Comp α} {P : α → Prop} : Ok (if p then c else d) P ↔ if p then Ok c P else Ok d P := by split <;> rfl
theorem ite_i {p : Prop} [Decidable p] {c d : Comp α} {P : α → Prop} (h1 : p → Ok c P) (h2 : ¬ p → Ok d P) : Ok (if p then c else d) P := by
  split
  · rename_i h; exact h1 h
  · rename_i h; exact h2 h
theorem gd {g : Bool} {c : Comp α} {d : α} {P : α → Prop} : Ok (Comp.gd g c d) P ↔ if g = true then Ok c P else P d := by
  cases g with
  | true => exact Iff.rfl
  | false => exact pure
theorem idx {xs : List α} {i : Int} {P : α → Prop} {x : α} (h0 : 0 ≤ i) (h : xs[i.toNat]? = some x) : Ok (Lift.idx xs i) P ↔ P x := of_val (idx_val' h0 h)
theorem idxn {xs : List α} {i : Nat} {P : α → Prop} {x : α} (h : xs[i]? = some x) : Ok (Lift.idx xs (i : Int)) P ↔ P x := of_val (idx_val h)
theorem app {xs ys : List α} {P : List α → Prop} (h : xs.length + ys.length ≤ LIM) : Ok (Lift.app xs ys) P ↔ P (xs ++ ys) := of_val (app_val h)
theorem sub {xs : List α} {l h : Int} {P : List α → Prop} (hr : 0 ≤ l ∧ l ≤ h ∧ h ≤ xs.length) : Ok (Lift.sub xs l h) P ↔ P ((xs.take h.toNat).drop l.toNat) := of_val (sub_val hr)
theorem rem {a b : Int} {P : Int → Prop} (h : b ≠ 0) : Ok (Lift.rem a b) P ↔ P (a.tmod b) := of_val (rem_val h)
theorem upd {xs : List α} {i : Int} {x : α} {P : List α → Prop} (h : 0 ≤ i ∧ i < xs.length) : Ok (Lift.upd xs i x) P ↔ P (xs.set i.toNat x) := of_val (upd_val h)
theorem mk {n : Int} {z : α} {P : List α → Prop} (h : 0 ≤ n ∧ n ≤ LIM) : Ok (Lift.mk n z) P ↔ P (List.replicate n.toNat z) := of_val (mk_val h)
theorem nonneg {n : Int} {P : Unit → Prop} (h : 0 ≤ n) : Ok (Lift.nonneg n) P ↔ P () := of_val (nonneg_val h)
theorem loop {body : σ → Comp (Comp.Step σ ε)} (I : σ → Prop) (m : σ → Nat) {P : ε → Prop} {s : σ} (h0 : I s)
    (hb : ∀ s, I s → Ok (body s) fun t => match t with | .next s' => I s' ∧ m s' < m s | .done e => P e) : Ok (Comp.loop body s) P := by
  have key : ∀ k s, m s = k → I s → Ok (Comp.loop body s) P := by
    intro k
    induction k using Nat.strongRecOn with
    | _ k ih =>
      intro s hk hI
      obtain ⟨t, h1, h2⟩ := hb s hI
      cases t with
      | next s' =>
        obtain ⟨e, h3, h4⟩ := ih (m s') (by have := h2.2; omega) s' rfl h2.1
        exact ⟨e, by rw [Comp.val_loop, h1]; exact h3, h4⟩
      | done e => exact ⟨e, by rw [Comp.val_loop, h1]; rfl, h2⟩
  exact key _ s rfl h0
theorem count {body : σ → Comp (Comp.Step σ ε)} (N : Nat) (I : Nat → σ → Prop) {P : ε → Prop} {s : σ} (h0 : I 0 s)
    (hb : ∀ i s, i < N → I i s → Ok (body s) fun t => match t with | .next s' => I (i + 1) s' | .done e => P e)
    (he : ∀ s, I N s → Ok (body s) fun t => match t with | .next _ => False | .done e => P e) : Ok (Comp.loop body s) P := by
  have key : ∀ k i s, i + k = N → I i s → Ok (Comp.loop body s) P := by
    intro k
    induction k with
    | zero =>
      intro i s hi hI
      have : i = N := by omega
      subst this
      obtain ⟨t, h1, h2⟩ := he s hI
      cases t with
      | next _ => exact h2.elim
      | done e => exact ⟨e, by rw [Comp.val_loop, h1]; rfl, h2⟩
    | succ k ih =>
      intro i s hi hI
      obtain ⟨t, h1, h2⟩ := hb i s (by omega) hI
      cases t with
      | next s' =>
        obtain ⟨e, h3, h4⟩ := ih (i + 1) s' (by omega) h2
        exact ⟨e, by rw [Comp.val_loop, h1]; exact h3, h4⟩
      | done e => exact ⟨e, by rw [Comp.val_loop, h1]; rfl, h2⟩
  exact key N 0 s (by omega) h0
theorem tt {c : Comp Bool} (h : Ok c fun b => b = true) : c.val = some true := val h
end Ok
theorem bif_and (b c : Bool) : (bif b then c else false) = (b && c) := by cases b <;> rfl
end Go.Lift
end
section
set_option linter.unusedVariables false
set_option linter.unusedSimpArgs false
namespace Go.Dgp
open Go Go.Lift Go.F
open Go.Dig hiding Bytes cat
def shopB (m : Nat) (n : Int) : Bool := bif decide (n ≥ 0) then decide (n < (m : Int)) else false
theorem known_val (keys : List Bytes) (n : Int) : (passport_known keys n).val = some (shopB keys.length n) := by
  unfold passport_known shopB; rw [Comp.val_bind, Comp.val_pure, Option.bind_some, Comp.val_pure]
theorem shopB_iff {m : Nat} {n : Int} : shopB m n = true ↔ 0 ≤ n ∧ n < (m : Int) := by
  unfold shopB
  by_cases h : n ≥ 0
  · simp [h]
  · simp [h]
def wrtP : Option api_Entry → Int | none => 0 | some p => wrt p
def dayP : Option api_Entry → Int | none => 0 | some p => p.Day
def prevP : Option api_Entry → Bytes | none => [] | some p => linkE p
def befP : Option api_Entry → Bytes | none => [] | some p => p.After
def mrk (keys : List Bytes) (e : api_Entry) : Bool := match keys[e.Shop.toNat]? with | some k => chk k (vbytes e) e.Mark | none => false
def d2 (keys : List Bytes) (k : Nat) (p : Option api_Entry) (e : api_Entry) : Bool := bif shopB keys.length e.Shop then (bif decide ((k : Int) = 0) then true else decide (e.Shop = wrtP p)) else false
def d3 (k : Nat) (e : api_Entry) : Bool := bif decide (decide (e.Kind = 1) = decide ((k : Int) = 0)) then (bif (bif (bif decide (e.Kind = 1) then true else decide (e.Kind = 2)) then true else decide (e.Kind = 4)) then true else decide (e.Kind = 3)) else false
def d4 (keys : List Bytes) (e : api_Entry) : Bool := bif !decide (e.Kind = 4) then true else shopB keys.length e.N
def d5 (e : api_Entry) : Bool := bif (bif decide (e.Kind = 4) then true else decide (e.N = 0)) then true else (bif (bif decide (e.Kind = 2) then decide (e.N > 0) else false) then decide (e.N ≤ 1048576) else false)
def d6 (e : api_Entry) : Bool := bif decide (e.Day ≥ 0) then decide (e.Day ≤ 100000) else false
def d9 (p : Option api_Entry) (e : api_Entry) : Bool := bif (bif decide (e.Before = befP p) then decide ((e.After.length : Int) = 8) else false) then (bif (bif decide (e.Kind = 1) then true else decide (e.Kind = 2)) then true else decide (e.After = e.Before)) else false
def entE (keys : List Bytes) (k : Nat) (p : Option api_Entry) (e : api_Entry) : Int :=
  if decide (e.Seq = (k : Int)) = true then
    if d2 keys k p e = true then
      if d3 k e = true then
        if d4 keys e = true then
          if d5 e = true then
            if d6 e = true then
              if decide (e.Day ≥ dayP p) = true then
                if decide (e.Prev = prevP p) = true then
                  if d9 p e = true then
                    if mrk keys e = true then 0 else 50
                  else 53
                else 51
              else 7
            else 3
          else 4
        else 55
      else 4
    else 55
  else 7
def firstE (keys : List Bytes) : Nat → Option api_Entry → List api_Entry → api_Finding
  | _, _, [] => ⟨-1, 0⟩
  | k, p, e :: es => if entE keys k p e = 0 then firstE keys (k + 1) (some e) es else ⟨(k : Int), entE keys k p e⟩
def manyB (keys : List Bytes) (l : List api_Entry) : Bool := bif (bif decide ((l.length : Int) > 60) then true else decide ((keys.length : Int) < 1)) then true else decide ((keys.length : Int) > 6)
def checkE (keys : List Bytes) (l : List api_Entry) : api_Finding := if manyB keys l = true then ⟨-1, 2⟩ else firstE keys 0 none l
def runC : List passport_condition → Comp (Option Int)
  | [] => Comp.pure none
  | c :: cs => c.holds_.bind fun b => if b = true then runC cs else Comp.pure (some c.err_)
theorem conds_loop (cs : List passport_condition) (k : Int) (r : api_Finding) (hl : cs.length ≤ 1000) : (Comp.loop (fun s : Int × api_Finding => passport_Check_l4 cs k s.1 s.2) (0, r)).val = (runC cs).val.bind fun | none => some (.inr r) | some e => some (.inl ⟨k, e⟩) := by
  have key : ∀ (suf pre : List passport_condition), cs = pre ++ suf → (Comp.loop (fun s : Int × api_Finding => passport_Check_l4 cs k s.1 s.2) ((pre.length : Int), r)).val = (runC suf).val.bind fun | none => some (.inr r) | some e => some (.inl ⟨k, e⟩) := by
    intro suf
    induction suf with
    | nil =>
      intro pre h
      rw [List.append_nil] at h; subst h
      rw [Comp.val_loop]
      show ((passport_Check_l4 cs k (cs.length : Int) r).val).bind _ = _
      unfold passport_Check_l4 runC
      rw [Comp.val_ite, if_neg (by simp), Comp.val_pure, Comp.val_pure]; rfl
    | cons c suf ih =>
      intro pre h
      have hlt : pre.length < cs.length := by rw [h]; simp
      have hg : cs[pre.length]? = some c := by rw [h]; simp
      rw [Comp.val_loop]
      show ((passport_Check_l4 cs k (pre.length : Int) r).val).bind _ = _
      unfold passport_Check_l4
      rw [Comp.val_ite, if_pos (by rw [decide_eq_true_iff]; omega), Comp.val_bind, idxn, hg, Option.bind_some, Comp.val_bind]
      show _ = (Comp.val (c.holds_.bind fun b => if b = true then runC suf else Comp.pure (some c.err_))).bind _
      rw [Comp.val_bind]
      cases hv : c.holds_.val with
      | none => rfl
      | some b =>
        rw [Option.bind_some, Option.bind_some]
        cases b with
        | true =>
          rw [if_neg (by simp), if_pos rfl, Comp.val_pure, Option.bind_some]
          have := ih (pre ++ [c]) (by rw [h]; simp)
          rw [Comp.wrap_succ (by omega)]
          rw [List.length_append] at this
          exact this
        | false =>
          rw [if_pos (by simp), if_neg (by simp), Comp.val_pure, Comp.val_pure]; rfl
  exact key cs [] rfl
def placeE (k : Nat) (p : Option api_Entry) : passport_place := ⟨(k : Int), wrtP p, dayP p, prevP p, befP p⟩
theorem key_of {keys : List Bytes} {n : Int} (h : shopB keys.length n = true) : ∃ key, keys[n.toNat]? = some key ∧ key ∈ keys ∧ (idx keys n).val = some key := by
  rw [shopB_iff] at h
  have hg := List.getElem?_eq_getElem (show n.toNat < keys.length by omega)
  exact ⟨_, hg, List.getElem_mem _, idx_val' h.1 hg⟩
structure KW (keys : List Bytes) : Prop where
  len : keys.length ≤ 1000
  each : ∀ x ∈ keys, x.length ≤ 1000000
theorem run_conds {keys : List Bytes} (hk : KW keys) {k : Nat} {p : Option api_Entry} {e : api_Entry} (he : EW e) :
    ((passport_conditions keys (placeE k p) e).bind runC).val = some (if entE keys k p e = 0 then none else some (entE keys k p e)) := by
  have hb := vbytes_len he
  have h10 : d2 keys k p e = true → (passport_conditions_f10 keys e).val = some (mrk keys e) := by
    intro h
    have hs : shopB keys.length e.Shop = true := by
      unfold d2 at h
      cases hc : shopB keys.length e.Shop with
      | true => rfl
      | false => rw [hc] at h; exact h
    obtain ⟨key, hg, hm, hv⟩ := key_of hs
    have hl := hk.each key hm
    unfold passport_conditions_f10 mrk
    rw [Comp.val_bind, hv, Option.bind_some, Comp.val_bind, pBytes_val he, Option.bind_some, Comp.val_bind, Check_val _ _ _ (by omega) (by omega), Option.bind_some, Comp.val_pure, hg]
  have h1 : (passport_conditions_f1 e (placeE k p)).val = some (decide (e.Seq = (k : Int))) := Comp.val_pure _
  have h2 : (passport_conditions_f2 keys e (placeE k p)).val = some (d2 keys k p e) := by
    unfold passport_conditions_f2
    rw [Comp.val_bind, known_val, Option.bind_some, Comp.val_bind, Comp.val_pure, Option.bind_some, Comp.val_pure]; rfl
  have h3 : (passport_conditions_f3 (decide (e.Kind = 1)) (placeE k p) (decide (e.Kind = 2)) (decide (e.Kind = 4)) e).val = some (d3 k e) := by
    unfold passport_conditions_f3
    rw [Comp.val_bind, Comp.val_pure, Option.bind_some, Comp.val_pure]; rfl
  have h4 : (passport_conditions_f4 (decide (e.Kind = 4)) keys e).val = some (d4 keys e) := by
    unfold passport_conditions_f4 d4
    rw [Comp.val_bind, Comp.val_gd, known_val]
    by_cases h : e.Kind = 4 <;> simp [h]
  have h5 : (passport_conditions_f5 (decide (e.Kind = 4)) e (decide (e.Kind = 2))).val = some (d5 e) := by
    unfold passport_conditions_f5
    rw [Comp.val_bind, Comp.val_pure, Option.bind_some, Comp.val_pure]; rfl
  have h6 : (passport_conditions_f6 e).val = some (d6 e) := by
    unfold passport_conditions_f6
    rw [Comp.val_bind, Comp.val_pure, Option.bind_some, Comp.val_pure]; rfl
  have h7 : (passport_conditions_f7 e (placeE k p)).val = some (decide (e.Day ≥ dayP p)) := Comp.val_pure _
  have h8 : (passport_conditions_f8 e (placeE k p)).val = some (decide (e.Prev = prevP p)) := Comp.val_pure _
  have h9 : (passport_conditions_f9 e (placeE k p) (decide (e.Kind = 1)) (decide (e.Kind = 2))).val = some (d9 p e) := by
    unfold passport_conditions_f9
    rw [Comp.val_bind, Comp.val_pure, Option.bind_some, Comp.val_pure]; rfl
  unfold passport_conditions entE
  simp only [Comp.val_bind, Comp.val_pure, Option.bind_some, runC, h1, h2, h3, h4, h5, h6, h7, h8, h9, Comp.val_ite]
  generalize decide (e.Seq = (k : Int)) = b1
  cases h2 : d2 keys k p e with
  | false => cases b1 <;> rfl
  | true =>
    rw [h10 h2]
    generalize d3 k e = b3; generalize d4 keys e = b4; generalize d5 e = b5; generalize d6 e = b6; generalize decide (e.Day ≥ dayP p) = b7; generalize decide (e.Prev = prevP p) = b8; generalize d9 p e = b9; generalize mrk keys e = b10
    cases b1
    · rfl
    cases b3
    · rfl
    cases b4
    · rfl
    cases b5
    · rfl
    cases b6
    · rfl
    cases b7
    · rfl
    cases b8
    · rfl
    cases b9
    · rfl
    cases b10 <;> rfl
theorem behind_val {k : Nat} {e : api_Entry} (hk : k ≤ 1000000) (he : EW e) : (passport_behind (k : Int) e).val = some (placeE (k + 1) (some e)) := by
  unfold passport_behind
  rw [Comp.val_bind, pLink_val he, Option.bind_some, Comp.val_ite, Comp.wrap_succ (by omega)]
  unfold passport_behind_j1 placeE wrtP wrt
  by_cases h : e.Kind = 4
  · rw [if_pos (by rw [decide_eq_true_iff]; exact h), Comp.val_pure]; simp only [if_pos h]; rfl
  · rw [if_neg (by rw [decide_eq_true_iff]; exact h), Comp.val_pure]; simp only [if_neg h]; rfl
theorem Check_entries {keys : List Bytes} (hk : KW keys) {l : List api_Entry} (hl : l.length ≤ 1000) (hw : ∀ e ∈ l, EW e) (r : api_Finding) : ∀ (suf pre : List api_Entry), l = pre ++ suf →
    ((Comp.loop (fun s : Int × passport_place × api_Finding => passport_Check_l2 l keys s.1 s.2.1 s.2.2) ((pre.length : Int), placeE pre.length pre.getLast?, r)).bind (fun e => match e with | (.inl x44) => (Comp.pure x44) | (.inr x50) => (passport_Check_j1 x50))).val = some (firstE keys pre.length pre.getLast? suf) := by
  intro suf
  induction suf with
  | nil =>
    intro pre h
    rw [List.append_nil] at h; subst h
    rw [Comp.val_bind, Comp.val_loop]
    show (((passport_Check_l2 l keys (l.length : Int) _ r).val).bind _).bind _ = _
    unfold passport_Check_l2
    rw [Comp.val_ite, if_neg (by simp), Comp.val_pure]; unfold passport_Check_j1 firstE; simp
  | cons e suf ih =>
    intro pre h
    have hlt : pre.length < l.length := by rw [h]; simp
    have hg : l[pre.length]? = some e := by rw [h]; simp
    have he := hw e (List.mem_of_getElem? hg)
    have hr := run_conds hk (k := pre.length) (p := pre.getLast?) he
    rw [Comp.val_bind, Comp.val_loop]
    show (((passport_Check_l2 l keys (pre.length : Int) (placeE pre.length pre.getLast?) r).val).bind _).bind _ = _
    unfold passport_Check_l2
    rw [Comp.val_ite, if_pos (by rw [decide_eq_true_iff]; omega), Comp.val_bind, idxn, hg, Option.bind_some, Comp.val_bind]
    rw [Comp.val_bind] at hr
    cases hc : (passport_conditions keys (placeE pre.length pre.getLast?) e).val with
    | none => rw [hc] at hr; cases hr
    | some cs =>
      rw [hc, Option.bind_some] at hr
      have hcl : cs.length ≤ 1000 := by
        unfold passport_conditions at hc
        rw [Comp.val_pure] at hc
        cases hc; simp
      rw [Option.bind_some, Comp.val_bind, conds_loop cs _ _ hcl, hr]
      unfold firstE
      by_cases h0 : entE keys pre.length pre.getLast? e = 0
      · rw [if_pos h0, if_pos h0]
        simp only [Option.bind_some]
        unfold passport_Check_j3
        rw [Comp.val_bind, behind_val (by omega) he, Option.bind_some, Comp.val_pure, Option.bind_some, Comp.wrap_succ (by omega)]
        have := ih (pre ++ [e]) (by rw [h]; simp)
        rw [Comp.val_bind, List.length_append, List.getLast?_append] at this
        exact this
      · rw [if_neg h0, if_neg h0]
        simp
theorem pCheck_val {keys : List Bytes} (hk : KW keys) {l : List api_Entry} (hl : l.length ≤ 1000) (hw : ∀ e ∈ l, EW e) : (passport_Check keys l).val = some (checkE keys l) := by
  unfold passport_Check checkE
  rw [Comp.val_bind, Comp.val_pure, Option.bind_some, Comp.val_ite]
  show (if manyB keys l = true then _ else _) = _
  by_cases h : manyB keys l = true
  · rw [if_pos h, if_pos h, Comp.val_pure]
  · rw [if_neg h, if_neg h]
    exact Check_entries hk hl hw _ l [] rfl
end Go.Dgp
end
section
set_option linter.unusedVariables false
set_option linter.unusedSimpArgs false
namespace Go.Dgp
open Go Go.Lift Go.F
open Go.Dig hiding Bytes cat
def allR (keys : List Bytes) : Nat → Option api_Entry → List api_Entry → Prop
  | _, _, [] => True
  | k, p, e :: es => entE keys k p e = 0 ∧ allR keys (k + 1) (some e) es
def lastP (p : Option api_Entry) : List api_Entry → Option api_Entry
  | [] => p
  | e :: es => lastP (some e) es
theorem lastP_none : ∀ (l : List api_Entry) (p : Option api_Entry), lastP p l = l.getLast?.or p
  | [], p => by simp [lastP]
  | e :: es, p => by
    rw [lastP, lastP_none es (some e), List.getLast?_cons]
    cases h : es.getLast? <;> simp
theorem lastP_eq (l : List api_Entry) : lastP none l = l.getLast? := by rw [lastP_none]; simp
theorem allR_app (keys : List Bytes) : ∀ (a b : List api_Entry) (k : Nat) (p : Option api_Entry), allR keys k p (a ++ b) ↔ allR keys k p a ∧ allR keys (k + a.length) (lastP p a) b
  | [], b, k, p => by simp [allR, lastP]
  | e :: es, b, k, p => by
    rw [List.cons_append, allR, allR, allR_app keys es b, lastP, List.length_cons, and_assoc]
    rw [show k + 1 + es.length = k + (es.length + 1) by omega]
theorem firstE_app (keys : List Bytes) : ∀ (a b : List api_Entry) (k : Nat) (p : Option api_Entry), allR keys k p a → firstE keys k p (a ++ b) = firstE keys (k + a.length) (lastP p a) b
  | [], b, k, p, _ => by simp [lastP]
  | e :: es, b, k, p, h => by
    rw [allR] at h
    rw [List.cons_append, firstE, if_pos h.1, firstE_app keys es b _ _ h.2, lastP, List.length_cons]
    rw [show k + 1 + es.length = k + (es.length + 1) by omega]
theorem firstE_all {keys : List Bytes} {l : List api_Entry} {k : Nat} {p : Option api_Entry} (h : allR keys k p l) : firstE keys k p l = ⟨-1, 0⟩ := by
  have := firstE_app keys l [] k p h
  rw [List.append_nil] at this; rw [this]; rfl
theorem chk_own {k m : Bytes} (h : k ≠ []) : chk k m (D (markL k m)) = true := by unfold chk; simp [h]
theorem grow {keys : List Bytes} {l : List api_Entry} {e : api_Entry} {key : Bytes} (hs : shopB keys.length e.Shop = true) (hkey : keys[e.Shop.toNat]? = some key) (hne : key ≠ [])
    (h0 : l = [] → e.Kind = 1 ∧ e.Before = []) (h1 : ∀ p, l.getLast? = some p → e.Shop = wrt p ∧ (e.Kind = 2 ∨ e.Kind = 3 ∨ e.Kind = 4) ∧ p.Day ≤ e.Day ∧ (e.Kind = 3 ∨ e.Kind = 4 → e.After = p.After))
    (hN4 : e.Kind = 4 → shopB keys.length e.N = true) (hN : e.Kind ≠ 4 → e.N = 0 ∨ e.Kind = 2 ∧ 0 < e.N ∧ e.N ≤ 1048576) (hd : 0 ≤ e.Day ∧ e.Day ≤ 100000) (ha : e.After.length = 8) :
    entE keys l.length l.getLast? (signE key (nextE l e)) = 0 := by
  have hm : mrk keys (signE key (nextE l e)) = true := by
    have e1 : (signE key (nextE l e)).Shop = e.Shop := by unfold signE nextE; cases l.getLast? <;> rfl
    unfold mrk
    rw [e1, hkey]
    exact chk_own hne
  have h5 : d5 (signE key (nextE l e)) = true := by
    have e1 : (signE key (nextE l e)).Kind = e.Kind := by unfold signE nextE; cases l.getLast? <;> rfl
    have e2 : (signE key (nextE l e)).N = e.N := by unfold signE nextE; cases l.getLast? <;> rfl
    unfold d5; rw [e1, e2]
    by_cases hk : e.Kind = 4
    · simp [hk]
    · rcases hN hk with h | ⟨h1, h2, h3⟩
      · simp [h]
      · simp [h1, h2, h3]
  have h4 : d4 keys (signE key (nextE l e)) = true := by
    have e1 : (signE key (nextE l e)).Kind = e.Kind := by unfold signE nextE; cases l.getLast? <;> rfl
    have e2 : (signE key (nextE l e)).N = e.N := by unfold signE nextE; cases l.getLast? <;> rfl
    unfold d4; rw [e1, e2]
    by_cases hk : e.Kind = 4
    · simp [hk, hN4 hk]
    · simp [hk]
  have h6 : d6 (signE key (nextE l e)) = true := by
    have e1 : (signE key (nextE l e)).Day = e.Day := by unfold signE nextE; cases l.getLast? <;> rfl
    unfold d6; rw [e1]; simp [hd]
  have hseq : (signE key (nextE l e)).Seq = (l.length : Int) := by unfold signE nextE; cases l.getLast? <;> rfl
  unfold entE
  rw [hm, h4, h5, h6, decide_eq_true hseq]
  simp only [if_true]
  cases hl : l.getLast? with
  | none =>
    have hnil : l = [] := List.getLast?_eq_none_iff.1 hl
    obtain ⟨k1, b0⟩ := h0 hnil
    subst hnil
    have e2 : d2 keys ([] : List api_Entry).length none (signE key (nextE [] e)) = true := by
      unfold d2
      rw [show (signE key (nextE [] e)).Shop = e.Shop from rfl, hs]; rfl
    have e3 : d3 ([] : List api_Entry).length (signE key (nextE [] e)) = true := by
      unfold d3
      rw [show (signE key (nextE [] e)).Kind = e.Kind from rfl, k1]; rfl
    have e9 : d9 none (signE key (nextE [] e)) = true := by
      unfold d9
      rw [show (signE key (nextE [] e)).Kind = e.Kind from rfl, show (signE key (nextE [] e)).Before = e.Before from rfl, show (signE key (nextE [] e)).After = e.After from rfl, k1, b0, show befP none = [] from rfl]
      simp [ha]
    rw [e2, e3, e9, decide_eq_true (show (signE key (nextE [] e)).Day ≥ dayP none from hd.1), decide_eq_true (show (signE key (nextE [] e)).Prev = prevP none from rfl)]
    rfl
  | some p =>
    obtain ⟨k1, k2, k3, k4⟩ := h1 p hl
    have hpos : ¬ (l.length : Int) = 0 := by
      intro h
      have : l = [] := List.eq_nil_of_length_eq_zero (by omega)
      rw [this] at hl; cases hl
    have hx : signE key (nextE l e) = signE key ⟨(l.length : Int), e.Shop, e.Kind, e.Day, e.N, p.After, e.After, linkE p, []⟩ := by unfold nextE; rw [hl]
    rw [hx]
    have e2 : d2 keys l.length (some p) (signE key ⟨(l.length : Int), e.Shop, e.Kind, e.Day, e.N, p.After, e.After, linkE p, []⟩) = true := by
      unfold d2
      show (bif shopB keys.length e.Shop then (bif decide ((l.length : Int) = 0) then true else decide (e.Shop = wrt p)) else false) = true
      rw [hs, decide_eq_true k1]; simp
    have e3 : d3 l.length (signE key ⟨(l.length : Int), e.Shop, e.Kind, e.Day, e.N, p.After, e.After, linkE p, []⟩) = true := by
      unfold d3
      show (bif decide (decide (e.Kind = 1) = decide ((l.length : Int) = 0)) then (bif (bif (bif decide (e.Kind = 1) then true else decide (e.Kind = 2)) then true else decide (e.Kind = 4)) then true else decide (e.Kind = 3)) else false) = true
      rw [decide_eq_false hpos]
      rcases k2 with h | h | h <;> simp [h]
    have e9 : d9 (some p) (signE key ⟨(l.length : Int), e.Shop, e.Kind, e.Day, e.N, p.After, e.After, linkE p, []⟩) = true := by
      unfold d9
      show (bif (bif decide (p.After = p.After) then decide ((e.After.length : Int) = 8) else false) then (bif (bif decide (e.Kind = 1) then true else decide (e.Kind = 2)) then true else decide (e.After = p.After)) else false) = true
      rcases k2 with h | h | h
      · simp [h, ha]
      · simp [h, ha, k4 (Or.inl h)]; rw [← k4 (Or.inl h)]; omega
      · simp [h, ha, k4 (Or.inr h)]; rw [← k4 (Or.inr h)]; omega
    rw [e2, e3, e9, decide_eq_true (show (signE key ⟨(l.length : Int), e.Shop, e.Kind, e.Day, e.N, p.After, e.After, linkE p, []⟩).Day ≥ dayP (some p) from k3), decide_eq_true (show (signE key ⟨(l.length : Int), e.Shop, e.Kind, e.Day, e.N, p.After, e.After, linkE p, []⟩).Prev = prevP (some p) from rfl)]
    rfl
structure Good (m : Nat) (l : List api_Entry) : Prop where
  ew : ∀ e ∈ l, EW e
  r : allR (keysT m) 0 none l
  day : ∀ e ∈ l, 0 ≤ e.Day ∧ e.Day ≤ 10 * (l.length : Int)
  aft : ∀ e ∈ l, e.After.length = 8
theorem Good.nil (m : Nat) : Good m [] := ⟨by simp, trivial, by simp, by simp⟩
theorem keyT_ne (k : Nat) : keyT k ≠ [] := by unfold keyT; simp
end Go.Dgp
end
section
set_option linter.unusedVariables false
set_option linter.unusedSimpArgs false
namespace Go.Dgp
open Go Go.Lift Go.F
set_option maxRecDepth 1000000 in
theorem san_val : (colletlaw37_sanity).val = some true := Comp.val_run (n := 130) (by kernel_rfl)
end Go.Dgp
end
section
set_option linter.unusedVariables false
set_option linter.unusedSimpArgs false
namespace Go.Dgp
open Go Go.Lift Go.F
open Go.Dig hiding Bytes cat
theorem KWk {m : Nat} (h : m ≤ 200) : KW (keysT m) := ⟨by rw [keysT_len]; omega, by
  intro x hx
  unfold keysT at hx
  obtain ⟨k, hk, rfl⟩ := List.mem_map.1 hx
  have := keyT_len (k := k) (by have := List.mem_range.1 hk; omega)
  omega⟩
end Go.Dgp
end
section
set_option linter.unusedVariables false
set_option linter.unusedSimpArgs false
namespace Go.Lift
open Go Go.RowKit Go.Eng Go.ChangeShapes Go.WideShapes Go.ChangeAt Go.Joins Go.Deep Go.WideElems
variable {H : Type} {enc : TypeId × Value → H} {P : Program} {w : World} {base : Nat} {sp : Nat → Bool} {held : Bool} {α β γ : Type}
abbrev O0 : Tags := fun _ => 0
structure Opens (enc : TypeId × Value → H) (P : Program) (w : World) (base : Nat) (sp : Nat → Bool) (held : Bool) (t : Nat) (r : GR α) (Q : α → Prop) : Prop where
  size : P.cellsOf t = r.sz
  fits : r.fits
  op : ∀ fuel cs x, DataW.trod enc P w base sp held fuel t cs = some x → ∃ y, r.rel O0 w cs y ∧ Q y
theorem opens_int {t : Nat} {k : IntKind} (ht : P.underlying t = some (.int k)) (hs : P.cellsOf t = 1) : Opens enc P w base sp held t (rInt k) fun n => (Lit.int k n).wf = true :=
  ⟨hs, fun _ => rfl, fun fuel cs x h => by obtain ⟨n, h1, _, h2⟩ := DataW.trod_int ht h; exact ⟨n, h1, h2⟩⟩
theorem relL_of {r : GR α} {O : Tags} {Q : α → Prop} : ∀ {vs : List Value}, (∀ v ∈ vs, ∃ y, r.v O w v y ∧ Q y) → ∃ ys, RelL r O w vs ys ∧ ∀ y ∈ ys, Q y
  | [], _ => ⟨[], trivial, by simp⟩
  | v :: vs, h => by
      obtain ⟨y, h1, h2⟩ := h v (by simp)
      obtain ⟨ys, h3, h4⟩ := relL_of (vs := vs) fun u hu => h u (List.mem_cons_of_mem _ hu)
      exact ⟨y :: ys, ⟨h1, h3⟩, fun z hz => (List.mem_cons.1 hz).elim (fun e => by rw [e]; exact h2) (h4 z)⟩
theorem opens_slice {t e : Nat} {r : GR α} {Q : α → Prop} (ht : P.underlying t = some (.slice e)) (hs : P.cellsOf t = 1) (hE : Opens enc P w base sp held e r Q) (hpos : 0 < r.sz) : Opens enc P w base sp held t (rSl r) fun xs => (∀ x ∈ xs, Q x) ∧ xs.length ≤ maxLen := by
  refine ⟨hs, fun _ => rfl, fun fuel cs x h => ?_⟩
  rcases DataW.trod_slice ht h with ⟨rfl, _⟩ | ⟨a, len, cap, elems, rest, n, _, rfl, _, hb, hl, hm, hlen, hel, _, _⟩
  · exact ⟨[], ⟨_, [], rfl, ⟨none, 0, rfl, by simp, by simp, .inl rfl⟩, trivial, fun h => absurd rfl h⟩, by simp, by simp⟩
  · have each : ∀ i, i < len → ∃ cs, w.cells? base (a.add (i * r.sz)) r.sz = some cs ∧ ∃ y, r.rel O0 w cs y ∧ Q y := by
      intro i hi
      have := hel i hi
      rw [List.getElem?_eq_getElem (by omega), hE.size, Option.bind_eq_some_iff] at this
      obtain ⟨cs, h1, h2⟩ := this
      exact ⟨cs, h1, hE.op n cs _ h2⟩
    let f : Nat → Value := fun i => packV r.agg ((w.cells? base (a.add (i * r.sz)) r.sz).getD [])
    have hf : ∀ i, i < len → ∃ y, r.v O0 w (f i) y ∧ Q y := by
      intro i hi
      obtain ⟨cs, h1, y, h2, h3⟩ := each i hi
      exact ⟨y, ⟨cs, h2, by show packV r.agg ((w.cells? base (a.add (i * r.sz)) r.sz).getD []) = _; rw [h1]; rfl⟩, h3⟩
    have hfc : ∀ i, i < len → ∀ j, j < r.sz → w.cell? (a.add (i * r.sz + j)) = (f i).cells[j]? := by
      intro i hi j hj
      obtain ⟨cs, h1, y, h2, _⟩ := each i hi
      have h4 := (World.cells?_some h1).2.2 j hj
      have h5 : (f i).cells = cs.toArray := by
        show (packV r.agg ((w.cells? base (a.add (i * r.sz)) r.sz).getD [])).cells = _
        rw [h1]
        exact cells_pack (fun ha => by show cs.length = 1; rw [r.len h2, hE.fits ha]) (r.one h2)
      rw [h5, List.getElem?_toArray, ← h4]
      rw [_root_.Go.Addr.add_add]
    obtain ⟨ys, h1, h2⟩ := relL_of (r := r) (O := O0) (w := w) (Q := Q) (vs := (List.range len).map f) (by
      intro v hv
      obtain ⟨i, hi, rfl⟩ := List.mem_map.1 hv
      exact hf i (List.mem_range.1 hi))
    have hyl : ys.length = len := by have := h1.len; simpa using this.symm
    refine ⟨ys, ⟨_, (List.range len).map f, rfl, ⟨some a, cap, by simp, by simpa using hl, ?_, ?_⟩, h1, ?_⟩, h2, by omega⟩
    · intro v hv
      obtain ⟨y, hy⟩ : ∃ y, r.v O0 w v y := by
        obtain ⟨i, hi, rfl⟩ := List.mem_map.1 hv
        obtain ⟨y, hy, _⟩ := hf i (List.mem_range.1 hi); exact ⟨y, hy⟩
      exact r.cells_size hE.fits hy
    · by_cases h0 : len = 0
      · left; simp [h0]
      · right
        obtain ⟨b, off, spot⟩ := a
        have hc0 : (w.cell? (Addr.add ⟨b, off, spot⟩ (0 * r.sz + 0))).isSome = true := by
          rw [hfc 0 (by omega) 0 hpos]
          obtain ⟨y, hy, _⟩ := hf 0 (by omega)
          have := r.cells_size hE.fits hy
          rw [Array.getElem?_eq_getElem (by omega)]; rfl
        obtain ⟨v0, hv0⟩ := Option.isSome_iff_exists.1 hc0
        have hspot : spot = none := by simpa [Addr.add] using World.cell?_spot hv0
        subst hspot
        refine ⟨b, off, rfl, fun i x hx j hj => ?_⟩
        have hi : i < len := by have := (List.getElem?_eq_some_iff.1 hx).1; simpa using this
        have hx' : x = f i := by
          rw [List.getElem?_map, List.getElem?_range hi] at hx
          simpa using hx.symm
        rw [hx', ← hfc i hi j hj]
        unfold Addr.add
        split
        · rename_i h0; congr 1; simp [h0]
        · rfl
    · intro hne g hg
      have h0 : 0 < len := by
        rcases Nat.eq_zero_or_pos len with h0 | h0
        · subst h0; exact absurd rfl hne
        · exact h0
      have hgb : g = a.block := by
        have : (Value.slice (some a) len cap).ownBlock = some a.block := rfl
        rw [this] at hg; exact (Option.some.inj hg).symm
      subst hgb
      refine ⟨?_, rfl⟩
      obtain ⟨cs, h3, _⟩ := each 0 h0
      have h4 := (World.cells?_some h3)
      have h5 := h4.2.2 0 hpos
      rw [List.getElem?_eq_getElem (by omega)] at h5
      have he : (a.add (0 * r.sz)).add 0 = a := by simp [Addr.add]
      rw [he] at h5
      exact World.block_lt_of_cell? _ _ h5
theorem open_top {t : Nat} {r : GR α} {Q : α → Prop} {v : Value} {d : DataW H} {ps : List MemPlace} (hE : Opens enc P w base sp held t r Q) (hv : packV r.agg v.cells.toList = v) (h : DataW.Trod enc P w base sp held t v d ps) : ∃ x, r.v O0 w v x ∧ Q x := by
  obtain ⟨fuel, hf⟩ := h
  obtain ⟨y, h1, h2⟩ := hE.op fuel _ _ hf
  exact ⟨y, ⟨_, h1, hv.symm⟩, h2⟩
theorem open_rsl {t e : Nat} {r : GR α} {Q : α → Prop} {re : Reach} {b0 : Nat} {v : Value} {d : DataW H} {ps : List MemPlace} (ht : P.underlying t = some (.slice e)) (hs : P.cellsOf t = 1) (hE : Opens enc P w base sp held e r Q) (hpos : 0 < r.sz) (hval : Value.okWide P w re b0 t v) (h : DataW.Trod enc P w base sp held t v d ps) :
    ∃ xs, (rSl r).v O0 w v xs ∧ (∀ x ∈ xs, Q x) ∧ xs.length ≤ maxLen := by
  obtain ⟨a, len, cap, rfl⟩ := okWide_slice ht hval
  exact open_top (opens_slice ht hs hE hpos) (by simp [Value.cells, packV, rSl]) h
theorem okO_O0 : OkO O0 w := fun _ _ => rfl
end Go.Lift
end
section
set_option linter.unusedVariables false
set_option linter.unusedSimpArgs false
namespace Go.Lift
open Go Go.RowKit Go.Eng Go.ChangeShapes Go.WideShapes Go.ChangeAt Go.Joins Go.Deep Go.WideElems
variable {H : Type} {enc : TypeId × Value → H} {P : Program} {w : World} {base : Nat} {sp : Nat → Bool} {held : Bool} {α β γ : Type}
theorem Opens.at_ {t : Nat} {r : GR α} {Q : α → Prop} (hE : Opens enc P w base sp held t r Q) {off n : Nat} {cs : List Value} {y} (h : DataW.trod enc P w base sp held n t ((cs.drop off).take (P.cellsOf t)) = some y) : ∃ a, r.rel O0 w ((cs.drop off).take r.sz) a ∧ Q a := by
  rw [hE.size] at h; exact hE.op n _ _ h
theorem rows_of {f : α → List Value} {Q : α → Prop} {k : Nat} : ∀ (n : Nat) (cs : List Value), cs.length = n * k → (∀ i, i < n → ∃ y, (cs.drop (i * k)).take k = f y ∧ Q y) → ∃ ys : List α, ys.length = n ∧ cs = ys.flatMap f ∧ ∀ y ∈ ys, Q y
  | 0, cs, h, _ => ⟨[], rfl, by rw [Nat.zero_mul] at h; rw [List.eq_nil_of_length_eq_zero h]; rfl, by simp⟩
  | n + 1, cs, h, hh => by
    obtain ⟨y, h1, h2⟩ := hh 0 (by omega)
    rw [Nat.zero_mul, List.drop_zero] at h1
    obtain ⟨ys, h3, h4, h5⟩ := rows_of (f := f) (Q := Q) (k := k) n (cs.drop k) (by rw [List.length_drop, h, Nat.add_mul]; omega) (fun i hi => by
      obtain ⟨z, h6, h7⟩ := hh (i + 1) (by omega)
      exact ⟨z, by rw [List.drop_drop, ← h6, Nat.add_mul, Nat.one_mul, Nat.add_comm], h7⟩)
    refine ⟨y :: ys, by simp [h3], ?_, ?_⟩
    · rw [List.flatMap_cons, ← h1, ← h4, List.take_append_drop]
    · intro z hz
      rcases List.mem_cons.1 hz with rfl | hz
      · exact h2
      · exact h5 z hz
theorem opens_vec {t e n k : Nat} {agg : Bool} {f : α → List Value} {hl ho hl' ho'} {Q : α → Prop} (ht : P.underlying t = some (.array n e)) (hs : P.cellsOf t = n * k) (hE : Opens enc P w base sp held e (rC agg k f hl ho) Q) : Opens enc P w base sp held t (rVec n k f hl' ho') fun x => ∀ y ∈ x.toList, Q y := by
  refine ⟨hs, (fun h => by cases h), fun fuel cs x h => ?_⟩
  obtain ⟨xs, m, rfl, rfl, hlen, hxl, hel⟩ := DataW.trod_array ht h
  obtain ⟨ys, h1, h2, h3⟩ := rows_of (f := f) (Q := Q) (k := k) n cs (by rw [hlen, hs]) (fun i hi => by
    have := hel i hi
    rw [List.getElem?_eq_getElem (by omega)] at this
    have hc : P.cellsOf e = k := hE.size
    rw [hc] at this
    have h4 : (cs.drop (i * k)).take k = (cs.drop (i * k)).take (P.cellsOf e) := by rw [hc]
    rw [h4] at this
    obtain ⟨a, h5, h6⟩ := hE.at_ this
    exact ⟨a, h5, h6⟩)
  exact ⟨⟨ys.toArray, by simpa using h1⟩, h2, by simpa using h3⟩
theorem wf_u8 {n : Int} (h : (Lit.int .u8 n).wf = true) : 0 ≤ n ∧ n < 256 := by
  simp [Lit.wf, IntKind.min, IntKind.max, IntKind.signed, IntKind.bits] at h; omega
end Go.Lift
end
section
set_option linter.unusedVariables false
set_option linter.unusedSimpArgs false
namespace Go.Dgp
open Go Go.Lift Go.F
open Go.Dig hiding Bytes cat
theorem vec_at {α : Type} {n : Nat} (v : Vector α n) (i : Nat) (h : i < n) : ∃ y, (idx v.toList (i : Int)).val = some y ∧ y ∈ v.toList := by
  have hl : i < v.toList.length := by rw [Vector.length_toList]; exact h
  exact ⟨_, by rw [idxn, List.getElem?_eq_getElem hl], List.getElem_mem hl⟩
end Go.Dgp
end
section
set_option linter.unusedVariables false
set_option linter.unusedSimpArgs false
namespace Go.Dgp
open Go Go.Lift Go.F
open Go.Dig hiding Bytes cat
theorem finds_val {keys : List Bytes} (hk : KW keys) {l : List api_Entry} (hl : l.length ≤ 1000) (hw : ∀ e ∈ l, EW e) (a b : Int) : (colletlaw37_finds keys l a b).val = some (decide (checkE keys l = ⟨a, b⟩)) := by
  unfold colletlaw37_finds
  rw [Comp.val_bind, pCheck_val hk hl hw, Option.bind_some, Comp.val_pure]
theorem check_all {keys : List Bytes} (hk : 1 ≤ keys.length ∧ keys.length ≤ 6) {l : List api_Entry} (hl : l.length ≤ 60) (h : allR keys 0 none l) : checkE keys l = ⟨-1, 0⟩ := by
  have hm : manyB keys l = false := by
    unfold manyB
    rw [decide_eq_false (show ¬ (l.length : Int) > 60 by omega), decide_eq_false (show ¬ (keys.length : Int) < 1 by omega), decide_eq_false (show ¬ (keys.length : Int) > 6 by omega)]; rfl
  unfold checkE
  rw [hm, if_neg (by simp), firstE_all h]
theorem after_val {m : Nat} (hm : m ≤ 200) {l : List api_Entry} (hl : l.length ≤ 1000) (hw : ∀ e ∈ l, EW e) {e : api_Entry} (he : EW e) (hs : shopB m e.Shop = true) :
    (colletlaw37_after (keysT m) l e).val = some (l ++ [signE (keyT e.Shop.toNat) (nextE l e)]) ∧ EW (signE (keyT e.Shop.toNat) (nextE l e)) := by
  have hL : LIM = 1073741824 := rfl
  rw [shopB_iff] at hs
  have hkl := keyT_len (k := e.Shop.toNat) (by omega)
  have hn := nextE_wf (by omega) hw he
  refine ⟨?_, signE_wf hn⟩
  unfold colletlaw37_after
  rw [Comp.val_bind, app_val (by simp; omega), Option.bind_some, Comp.val_bind, idx_val' hs.1 (keysT_get (by omega)), Option.bind_some, Comp.val_bind, pNext_val (by omega) hw, Option.bind_some, Comp.val_bind, pSign_val (by omega) hn, Option.bind_some, Comp.val_bind, app_val (by simp; omega), Option.bind_some, Comp.val_pure]
  rfl
structure GI (m i : Nat) (s : List api_Entry × Int × Int × Bytes × Int) : Prop where
  len : s.1.length = i
  ew : ∀ e ∈ s.1, EW e
  r : allR (keysT m) 0 none s.1
  day : 0 ≤ s.2.1 ∧ s.2.1 ≤ 4 * (i : Int)
  shop : shopB m s.2.2.1 = true
  at_ : s.2.2.2.2 = (i : Int)
  last : ∀ p, s.1.getLast? = some p → wrt p = s.2.2.1 ∧ p.Day = s.2.1 ∧ p.After = s.2.2.2.1 ∧ s.2.2.2.1.length = 8
def GP (m i : Nat) (P : Sum Bool (List api_Entry) → Prop) : Comp.Step (List api_Entry × Int × Int × Bytes × Int) (Sum Bool (List api_Entry)) → Prop := fun t => match t with | .next s' => GI m (i + 1) s' | .done e => P e
theorem grows_j5 {m i : Nat} {P} (hm : 1 ≤ m ∧ m ≤ 6) (hi : i < 12) {l : List api_Entry} (hl : l.length = i) (hw : ∀ e ∈ l, EW e) (hr : allR (keysT m) 0 none l) {e : api_Entry} (he : EW e) (hs : shopB m e.Shop = true)
    (h0 : l = [] → e.Kind = 1 ∧ e.Before = []) (h1 : ∀ p, l.getLast? = some p → e.Shop = wrt p ∧ (e.Kind = 2 ∨ e.Kind = 3 ∨ e.Kind = 4) ∧ p.Day ≤ e.Day ∧ (e.Kind = 3 ∨ e.Kind = 4 → e.After = p.After))
    (hN4 : e.Kind = 4 → shopB m e.N = true) (hN : e.Kind ≠ 4 → e.N = 0 ∨ e.Kind = 2 ∧ 0 < e.N ∧ e.N ≤ 1048576) (hd : 0 ≤ e.Day ∧ e.Day ≤ 4 * ((i + 1 : Nat) : Int)) (ha : e.After.length = 8) {s' : Int} (hs' : s' = wrt e) (hs2 : shopB m s' = true) :
    Ok (colletlaw37_PassportGrows_j5 (keysT m) l (i : Int) s' e.Seq e.Shop e.Kind e.Day e.N e.Before e.After e.Prev e.Mark) (GP m i P) := by
  obtain ⟨hv, hE⟩ := after_val (m := m) (by omega) (l := l) (by omega) hw he hs
  have hs3 := shopB_iff.1 hs
  have hg := grow (keys := keysT m) (l := l) (e := e) (key := keyT e.Shop.toNat) (by rw [keysT_len]; exact hs) (keysT_get (by omega)) (keyT_ne _) h0 h1 (by rw [keysT_len]; exact hN4) hN ⟨hd.1, by omega⟩ ha
  have hr' : allR (keysT m) 0 none (l ++ [signE (keyT e.Shop.toNat) (nextE l e)]) := by
    rw [allR_app]; refine ⟨hr, ?_, trivial⟩; rw [Nat.zero_add, lastP_eq]; exact hg
  have hw' : ∀ x ∈ l ++ [signE (keyT e.Shop.toNat) (nextE l e)], EW x := by
    intro x hx
    rcases List.mem_append.1 hx with h | h
    · exact hw x h
    · rw [List.mem_singleton] at h; subst h; exact hE
  have hlen : (l ++ [signE (keyT e.Shop.toNat) (nextE l e)]).length = i + 1 := by simp [hl]
  have hf := finds_val (KWk (m := m) (by omega)) (l := l ++ [signE (keyT e.Shop.toNat) (nextE l e)]) (by omega) hw' (-1) 0
  rw [check_all (by rw [keysT_len]; omega) (by omega) hr', decide_eq_true rfl] at hf
  have hgi : (l ++ [signE (keyT e.Shop.toNat) (nextE l e)])[i]? = some (signE (keyT e.Shop.toNat) (nextE l e)) := by rw [← hl]; simp
  have hseq : (signE (keyT e.Shop.toNat) (nextE l e)).Seq = (i : Int) := by rw [← hl]; unfold signE nextE; cases l.getLast? <;> rfl
  unfold colletlaw37_PassportGrows_j5
  rw [Ok.bind]
  refine (Ok.of_val hv).2 ?_
  rw [Ok.bind, Ok.of_val hf, Ok.bind]
  show Ok (idx _ (i : Int)) _
  rw [Ok.idxn hgi, Ok.bind, Ok.pure, hseq, Ok.ite, if_neg (by simp), Ok.pure]
  refine ⟨hlen, hw', hr', hd, hs2, Comp.wrap_succ (by omega), ?_⟩
  intro p hp
  rw [List.getLast?_append] at hp
  simp at hp
  subst hp
  have e1 : wrt (signE (keyT e.Shop.toNat) (nextE l e)) = wrt e := by unfold wrt signE nextE; cases l.getLast? <;> rfl
  have e2 : (signE (keyT e.Shop.toNat) (nextE l e)).Day = e.Day := by unfold signE nextE; cases l.getLast? <;> rfl
  have e3 : (signE (keyT e.Shop.toNat) (nextE l e)).After = e.After := by unfold signE nextE; cases l.getLast? <;> rfl
  exact ⟨by rw [e1]; exact hs'.symm, e2, e3, ha⟩
theorem vec_get {n : Nat} {l : List (Vector Int n)} {k i : Nat} (hk : k < l.length) (hi : i < n) {Q : Int → Prop} (hl : ∀ v ∈ l, ∀ y ∈ v.toList, Q y) : ∃ v y, l[k]? = some v ∧ (idx v.toList (i : Int)).val = some y ∧ Q y := by
  have hg := List.getElem?_eq_getElem hk
  obtain ⟨y, hy, hm⟩ := vec_at l[k] i hi
  exact ⟨_, y, hg, hy, hl _ (List.getElem_mem hk) y hm⟩
theorem keysT_val {m : Nat} (h : m ≤ 200) : (colletref37_Keys (m : Int)).val = some (keysT m) := keys_val h
theorem law_PassportGrows {s : Int} {l : List (Vector Int 4)} (hs : 0 ≤ s ∧ s < 256) (hl : ∀ v ∈ l, ∀ y ∈ v.toList, 0 ≤ y ∧ y < 256) : (colletlaw37_PassportGrows s l).val = some true := by
  refine Ok.tt ?_
  have em : IntKind.wrap .i64 (1 + Int.tmod (IntKind.wrap .i64 s) 6) = ((1 + s.toNat % 6 : Nat) : Int) := by
    rw [wrapi (n := s) (by omega), Int.tmod_eq_emod_of_nonneg hs.1, wrapi (by omega)]; omega
  obtain ⟨m, hm⟩ : ∃ m, m = 1 + s.toNat % 6 := ⟨_, rfl⟩
  have hm6 : 1 ≤ m ∧ m ≤ 6 := by omega
  have esh : ∃ s0 : Int, Int.tmod (IntKind.wrap .i64 (Int.tdiv (IntKind.wrap .i64 s) 6)) ((keysT m).length : Int) = s0 ∧ shopB m s0 = true := by
    refine ⟨_, rfl, ?_⟩
    rw [keysT_len, wrapi (n := s) (by omega), Int.tdiv_eq_ediv_of_nonneg hs.1, wrapi (by omega), Int.tmod_eq_emod_of_nonneg (by omega), shopB_iff]
    have h1 := Int.emod_nonneg (s / 6) (show (m : Int) ≠ 0 by omega)
    have h2 := Int.emod_lt_of_pos (s / 6) (show (0 : Int) < (m : Int) by omega)
    exact ⟨h1, h2⟩
  obtain ⟨s0, es0, hs0⟩ := esh
  unfold colletlaw37_PassportGrows
  rw [Ok.bind, Ok.of_val san_val, Ok.bind, em, ← hm, Ok.of_val (keysT_val (by omega)), Ok.bind]
  show Ok (rem _ ((keysT m).length : Int)) _
  rw [Ok.rem (by rw [keysT_len]; omega)]
  show Ok _ _
  rw [es0, Ok.bind]
  have hfin : ∀ p : List api_Entry, p.length ≤ 12 → (∀ e ∈ p, EW e) → allR (keysT m) 0 none p → Ok (colletlaw37_PassportGrows_j1 (keysT m) true p) (fun b => b = true) := by
    intro p hp1 hp2 hp3
    unfold colletlaw37_PassportGrows_j1
    rw [Ok.bind]
    refine Ok.mono (P := fun e => e = .inr ()) ?_ (fun e he => by subst he; unfold colletlaw37_PassportGrows_j6; exact Ok.pure.2 rfl)
    refine Ok.count p.length (fun i (s : Int) => s = (i : Int)) rfl ?_ ?_
    · rintro i s hi rfl
      unfold colletlaw37_PassportGrows_l7
      have hr : allR (keysT m) 0 none (p.take i) := by
        have := hp3
        rw [← List.take_append_drop i p, allR_app] at this
        exact this.1
      have hf := finds_val (KWk (m := m) (by omega)) (l := p.take i) (by rw [List.length_take]; omega) (fun e he => hp2 e (List.mem_of_mem_take he)) (-1) 0
      rw [check_all (by rw [keysT_len]; omega) (by rw [List.length_take]; omega) hr, decide_eq_true rfl] at hf
      rw [Ok.ite, if_pos (by rw [decide_eq_true_iff]; omega), Ok.bind, Ok.sub ⟨by omega, by omega, by omega⟩, Int.toNat_natCast, Int.toNat_zero, List.drop_zero, Ok.bind, Ok.of_val hf, Ok.ite, if_neg (by simp), Ok.pure]
      exact Comp.wrap_succ (by omega)
    · rintro s rfl
      unfold colletlaw37_PassportGrows_l7
      rw [Ok.ite, if_neg (by simp), Ok.pure]
  refine Ok.mono (P := fun e => ∃ p, e = .inr p ∧ p.length ≤ 12 ∧ (∀ e ∈ p, EW e) ∧ allR (keysT m) 0 none p) ?_ (fun e ⟨p, he, h1, h2, h3⟩ => by subst he; exact hfin p h1 h2 h3)
  refine Ok.count (min l.length 12) (GI m) ⟨rfl, by simp, trivial, by simp, hs0, rfl, by simp⟩ ?_ ?_
  · rintro i ⟨p, day, shop, root, at_⟩ hi ⟨g1, g2, g3, g4, g5, g6, g7⟩
    dsimp only at g1 g2 g3 g4 g5 g6 g7
    subst g6
    dsimp only
    obtain ⟨v, y2, hv, hy2, b2⟩ := vec_get (k := i) (i := 2) (by omega) (by omega) hl
    obtain ⟨v', y3, hv', hy3, b3⟩ := vec_get (k := i) (i := 3) (by omega) (by omega) hl
    obtain ⟨v1, y1, hv1, hy1, b1⟩ := vec_get (k := i) (i := 1) (by omega) (by omega) hl
    obtain ⟨v0, y0, hv0, hy0, b0⟩ := vec_get (k := i) (i := 0) (by omega) (by omega) hl
    rw [hv] at hv' hv1 hv0
    cases hv'; cases hv1; cases hv0
    have c2 : ((2 : Nat) : Int) = 2 := rfl
    have c3 : ((3 : Nat) : Int) = 3 := rfl
    have c1 : ((1 : Nat) : Int) = 1 := rfl
    have c0 : ((0 : Nat) : Int) = 0 := rfl
    rw [c2] at hy2; rw [c3] at hy3; rw [c1] at hy1; rw [c0] at hy0
    have hsh := shopB_iff.1 g5
    have hroot := root37_val (n := y3.toNat) (by omega)
    have e3 : IntKind.wrap .i64 y3 = ((y3.toNat : Nat) : Int) := by rw [wrapi (by omega)]; omega
    have e1 : IntKind.wrap .i64 y1 = y1 := wrapi (by omega)
    have eday : IntKind.wrap .i64 (day + Int.tmod (IntKind.wrap .i64 y2) 4) = day + y2 % 4 := by
      rw [wrapi (n := y2) (by omega), Int.tmod_eq_emod_of_nonneg b2.1, wrapi (by omega)]
    have ekind : IntKind.wrap .i64 (2 + Int.tmod (IntKind.wrap .i64 y0) 3) = 2 + y0 % 3 := by
      rw [wrapi (n := y0) (by omega), Int.tmod_eq_emod_of_nonneg b0.1, wrapi (by omega)]
    have hrl := rootT_len y3.toNat
    have iI : ∀ z : Int, 0 ≤ z → z < 10000000 → I64 z := by intro z h1 h2; unfold I64; omega
    unfold colletlaw37_PassportGrows_l2
    rw [Ok.bind, Ok.pure, Ok.ite, if_pos (by rw [bif_and]; simp; omega), Ok.bind, Ok.idxn hv, Ok.bind, Ok.of_val hy2, Ok.bind, Ok.idxn hv, Ok.bind, Ok.of_val hy3, Ok.bind, e3, Ok.of_val hroot, eday]
    dsimp only
    refine Ok.ite_i (fun hp => ?_) (fun hp => ?_)
    · rw [decide_eq_true_iff] at hp
      obtain ⟨q, hq, hqm, _⟩ := last_idx (l := p) (by omega) (by omega)
      obtain ⟨q1, q2, q3, q4⟩ := g7 q hq
      have hpne : ¬ p = [] := by intro h; rw [h] at g1; simp at g1; omega
      rw [Ok.bind, Ok.idxn hv, Ok.bind, Ok.of_val hy0, ekind]
      unfold colletlaw37_PassportGrows_j3
      refine Ok.ite_i (fun hk => ?_) (fun hk => ?_)
      · rw [decide_eq_true_iff] at hk
        rw [Ok.bind, Ok.idxn hv, Ok.bind, Ok.of_val hy1, e1, hk]
        unfold colletlaw37_PassportGrows_j4
        rw [Ok.bind, Ok.pure, Ok.ite, if_neg (by simp)]
        refine Ok.mono (grows_j5 (P := fun e => ∃ p, e = .inr p ∧ p.length ≤ 12 ∧ (∀ e ∈ p, EW e) ∧ allR (keysT m) 0 none p) (s' := shop) (e := ⟨0, shop, 2, day + y2 % 4, y1, [], rootT y3.toNat, [], []⟩) hm6 (by omega) g1 g2 g3 ⟨iI _ (by simp) (by simp), iI _ (by show 0 ≤ shop; omega) (by show shop < _; omega), iI _ (by simp) (by simp), iI _ (by show 0 ≤ day + y2 % 4; omega) (by show day + y2 % 4 < _; omega), iI _ b1.1 (by show y1 < _; omega), by simp, by show (rootT _).length ≤ _; omega, by simp, by simp⟩ g5
          (fun h => absurd h hpne) (fun p' hp' => by rw [hq] at hp'; cases hp'; exact ⟨q1.symm, Or.inl rfl, by show q.Day ≤ day + y2 % 4; omega, by simp⟩) (by simp) (fun _ => by show y1 = 0 ∨ (2 : Int) = 2 ∧ 0 < y1 ∧ y1 ≤ 1048576; omega) ⟨by show 0 ≤ day + y2 % 4; omega, by show day + y2 % 4 ≤ _; omega⟩ hrl (by simp [wrt]) g5) (fun t h => by cases t <;> exact h)
      · refine Ok.ite_i (fun hk4 => ?_) (fun hk4 => ?_)
        · rw [decide_eq_true_iff] at hk4
          have hN := Int.emod_nonneg y1 (show (m : Int) ≠ 0 by omega)
          have hN' := Int.emod_lt_of_pos y1 (show (0 : Int) < (m : Int) by omega)
          rw [Ok.bind, Ok.idxn hv, Ok.bind, Ok.of_val hy1, e1, Ok.bind, Ok.rem (by rw [keysT_len]; omega)]
          show Ok _ _
          rw [keysT_len, Int.tmod_eq_emod_of_nonneg b1.1, hk4]
          unfold colletlaw37_PassportGrows_j4
          rw [Ok.bind, Ok.pure, Ok.ite, if_pos (by simp)]
          refine Ok.mono (grows_j5 (P := fun e => ∃ p, e = .inr p ∧ p.length ≤ 12 ∧ (∀ e ∈ p, EW e) ∧ allR (keysT m) 0 none p) (s' := y1 % (m : Int)) (e := ⟨0, shop, 4, day + y2 % 4, y1 % (m : Int), [], root, [], []⟩) hm6 (by omega) g1 g2 g3 ⟨iI _ (by simp) (by simp), iI _ (by show 0 ≤ shop; omega) (by show shop < _; omega), iI _ (by simp) (by simp), iI _ (by show 0 ≤ day + y2 % 4; omega) (by show day + y2 % 4 < _; omega), iI _ hN (by show y1 % (m : Int) < _; omega), by simp, by show root.length ≤ _; omega, by simp, by simp⟩ g5
            (fun h => absurd h hpne) (fun p' hp' => by rw [hq] at hp'; cases hp'; exact ⟨q1.symm, Or.inr (Or.inr rfl), by show q.Day ≤ day + y2 % 4; omega, fun _ => q3.symm⟩) (fun _ => shopB_iff.2 ⟨hN, hN'⟩) (by simp) ⟨by show 0 ≤ day + y2 % 4; omega, by show day + y2 % 4 ≤ _; omega⟩ q4 (by simp [wrt]) (shopB_iff.2 ⟨hN, hN'⟩)) (fun t h => by cases t <;> exact h)
        · rw [decide_eq_true_iff] at hk hk4
          have hk3 : 2 + y0 % 3 = 3 := by omega
          rw [hk3]
          unfold colletlaw37_PassportGrows_j4
          rw [Ok.bind, Ok.pure, Ok.ite, if_pos (by simp)]
          refine Ok.mono (grows_j5 (P := fun e => ∃ p, e = .inr p ∧ p.length ≤ 12 ∧ (∀ e ∈ p, EW e) ∧ allR (keysT m) 0 none p) (s' := shop) (e := ⟨0, shop, 3, day + y2 % 4, 0, [], root, [], []⟩) hm6 (by omega) g1 g2 g3 ⟨iI _ (by simp) (by simp), iI _ (by show 0 ≤ shop; omega) (by show shop < _; omega), iI _ (by simp) (by simp), iI _ (by show 0 ≤ day + y2 % 4; omega) (by show day + y2 % 4 < _; omega), iI _ (by simp) (by simp), by simp, by show root.length ≤ _; omega, by simp, by simp⟩ g5
            (fun h => absurd h hpne) (fun p' hp' => by rw [hq] at hp'; cases hp'; exact ⟨q1.symm, Or.inr (Or.inl rfl), by show q.Day ≤ day + y2 % 4; omega, fun _ => q3.symm⟩) (by simp) (fun _ => Or.inl rfl) ⟨by show 0 ≤ day + y2 % 4; omega, by show day + y2 % 4 ≤ _; omega⟩ q4 (by simp [wrt]) g5) (fun t h => by cases t <;> exact h)
    · rw [decide_eq_true_iff] at hp
      have hp0 : p = [] := List.eq_nil_of_length_eq_zero (by omega)
      unfold colletlaw37_PassportGrows_j3
      rw [Ok.ite, if_neg (by simp), Ok.ite, if_neg (by simp)]
      unfold colletlaw37_PassportGrows_j4
      rw [Ok.bind, Ok.pure, Ok.ite, if_neg (by simp)]
      refine Ok.mono (grows_j5 (P := fun e => ∃ p, e = .inr p ∧ p.length ≤ 12 ∧ (∀ e ∈ p, EW e) ∧ allR (keysT m) 0 none p) (s' := shop) (e := ⟨0, shop, 1, day + y2 % 4, 0, [], rootT y3.toNat, [], []⟩) hm6 (by omega) g1 g2 g3 ⟨iI _ (by simp) (by simp), iI _ (by show 0 ≤ shop; omega) (by show shop < _; omega), iI _ (by simp) (by simp), iI _ (by show 0 ≤ day + y2 % 4; omega) (by show day + y2 % 4 < _; omega), iI _ (by simp) (by simp), by simp, by show (rootT _).length ≤ _; omega, by simp, by simp⟩ g5
        (fun h => ⟨rfl, rfl⟩) (fun p' hp' => by rw [hp0] at hp'; cases hp') (by simp) (fun _ => Or.inl rfl) ⟨by show 0 ≤ day + y2 % 4; omega, by show day + y2 % 4 ≤ _; omega⟩ hrl (by simp [wrt]) g5) (fun t h => by cases t <;> exact h)
  · rintro ⟨p, day, shop, root, at_⟩ ⟨g1, g2, g3, g4, g5, g6, g7⟩
    dsimp only at g1 g2 g3 g4 g5 g6 g7
    subst g6
    dsimp only
    unfold colletlaw37_PassportGrows_l2
    rw [Ok.bind, Ok.pure, Ok.ite, if_neg (by rw [bif_and]; simp; omega), Ok.pure]
    exact ⟨p, rfl, by omega, g2, g3⟩
end Go.Dgp
end
section
namespace Go.Proofs.Ytkbipbfncbopnaa.passportGrowsDone
open Go Go.ChangeShapes Go.WideShapes Go.ChangeAt Go.RowKit Go.Eng Go.Lift Go.Joins Go.F
open Go.ChangeMaps (open_string shut_string)
open Go.Proofs.Ytkbipbfncbopnaa
set_option linter.unusedVariables false
set_option linter.unusedSimpArgs false
theorem op_5 {H : Type} {enc : TypeId × Value → H} {w : World} {base : Nat} {sp : Nat → Bool} {held : Bool} : Opens enc Try.prog w base sp held 5 (rInt .u8) (fun z => (Lit.int .u8 z).wf = true) := opens_int Try.underlying5 (by kernel_rfl)
theorem op_50 {H : Type} {enc : TypeId × Value → H} {w : World} {base : Nat} {sp : Nat → Bool} {held : Bool} : Opens enc Try.prog w base sp held 50 (rVec 4 1 (fun x => [.int .u8 x]) (fun _ => rfl) (fun _ => by simp [Value.oneCell'])) (fun z => ∀ y ∈ z.toList, (fun z => (Lit.int .u8 z).wf = true) y) := opens_vec Try.underlying50 (by kernel_rfl) op_5
theorem own : ownKnob Try.prog.godebug = none := by kernel_rfl
theorem laidOut : laidOutB Try.prog = true := by kernel_rfl
set_option maxRecDepth 100000 in
theorem lifted (os : Os) (started : os.Started) (H : Type) (enc : TypeId × Value → H) :
    ReturnsInHanded {} Try.checked os 5 .any (Rows.passportGrowsSpec.pre6 enc Try.prog Try.f5 Rows.passportGrowsRow.domain false) (Rows.passportGrowsSpec.post enc Try.prog Try.f5 false true false false) := by
  refine returnsInHanded_of_change (C := Try.checked) own started (by kernel_rfl) Try.func5
    (ChangeSpec.witness6 (enc := enc) (C := Try.checked) false ⟨#[], #[.int .u8 0, .slice none 0 0], []⟩ 8 (by kernel_rfl) (by kernel_rfl) (by kernel_rfl) (by kernel_rfl)) ?_
  intro W base args ds gs before hval0 hW hcnd _
  have hval : ∀ (j : Nat) t v, Try.f5.params[j]? = some t → args[j]? = some v → Value.okWide Try.prog W .any base t v := hval0
  have hW' := hW
  obtain ⟨p, q, hA0, hV, rfl, hfz, hnd⟩ := hW
  have hA : DataW.TrodAll enc Try.prog W 0 (fun _ => true) true Try.f5.params.toList args.toList ds p := hA0
  rw [Try.params5] at hA hval
  obtain ⟨v0, vs0, d0, ds0, p0, q0_, hargs, rfl, rfl, h0, r0⟩ := trodAll_cons hA
  obtain ⟨v1, vs1, d1, ds1, p1, q1_, rfl, rfl, rfl, h1, r1⟩ := trodAll_cons r0
  obtain ⟨rfl, rfl, rfl⟩ := trodAll_nil r1
  obtain rfl : args = #[v0, v1] := by cases args; simp_all
  obtain ⟨rfl, rfl⟩ := trodVars_none hV
  have k0 := h0
  have lt0 : ∀ x ∈ p0, x.block < W.heap.size := by obtain ⟨m, hm⟩ := k0; exact DataW.trod_lt m _ _ _ hm
  have k1 := h1
  have lt1 : ∀ x ∈ p1, x.block < W.heap.size := by obtain ⟨m, hm⟩ := k1; exact DataW.trod_lt m _ _ _ hm
  obtain ⟨x0, e0, _, _, q0⟩ := open_int Try.underlying5 (hval 0 5 v0 rfl rfl) h0
  obtain ⟨x1, hr1, q1⟩ := open_rsl Try.underlying49 (by kernel_rfl) op_50 (by decide) (hval 1 49 v1 rfl rfl) h1
  clear hA0 hval0
  obtain ⟨n_, hn_⟩ := Comp.val_some.1 (Go.Dgp.law_PassportGrows (Go.Lift.wf_u8 q0) (fun v hv y hy => Go.Lift.wf_u8 (q1.1 v hv y hy)))
  have walk := ok_colletlaw37_PassportGrows (w0 := W) okO_O0 hr1 hn_
  refine Calls.mono (R := fun e W' => e = .returned (.bool true) ∧ Below W.heap.size W W') ?_ fun e W' ⟨he, bel⟩ => ?_
  · rw [e0]; exact Calls.mono walk fun e W' ⟨_, h1, h2, h3⟩ => ⟨by rw [h1]; exact congrArg _ h3, h2⟩
  · subst he
    exact ⟨_, rfl, _, _, _, [], _, [], hW', trodAll_mk1 (shut_bool Try.underlying4 _), (trodAll_cons_mk (Below.trod laidOut (by kernel_rfl) (of_decide_eq_true (by kernel_rfl)) k0 bel lt0) (trodAll_cons_mk (Below.trod laidOut (by kernel_rfl) (of_decide_eq_true (by kernel_rfl)) k1 bel lt1) trodAll_mk0)), rfl, bel.frame _, fun h => by cases h⟩
theorem proved : Rows.PassportGrowsSaid :=
  OpenClaim.holds_of_wide 5 Try.f5 rfl rfl rfl rfl rfl rfl rfl ⟨rfl, rfl, rfl, rfl, rfl⟩ rfl rfl rfl rfl rfl (by kernel_rfl) Try.func5 (by kernel_rfl)
    (of_decide_eq_true (by kernel_rfl)) (by unfold Func.isWrapper; first | (rw [if_pos (by decide +kernel)]; kernel_rfl) | (rw [if_neg (by decide +kernel)]; exact ⟨rfl, rfl⟩))
    (fun os started H enc _ => lifted os started H enc)
#print axioms proved
end Go.Proofs.Ytkbipbfncbopnaa.passportGrowsDone
end
