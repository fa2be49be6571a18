/- Lemmas behind a claim of this seat. No statement of the program stands here. -/
import Derived.Test.YtkbipbfncbopnaaKChecksD
set_option linter.unusedSimpArgs false
set_option linter.unusedVariables false
section
namespace Go.Proofs.Ytkbipbfncbopnaa
open Go Go.RowKit Go.Eng Go.Lift Go.F
set_option linter.unusedVariables false
set_option linter.unusedSimpArgs false
set_option maxRecDepth 100000
set_option maxHeartbeats 4000000 in
theorem ok_c7_sanity {O : Tags} {w0 : World} (hO : OkO O w0)  {n : Nat} {y : Bool} (h : (c7_sanity).run n = some y) : Pure Try.prog 14 #[] w0 (SP.isv (.bool y)).holds := by
 unfold c7_sanity at h
 refine pure_of_wp Try.func14 rfl 162 Try.ntmps14 (by simp) fun a0 hA hs0 => ?_
 clear hs0
 have hB : Base (Fr w0) O w0 O w0 := Base.start hO
 refine wp_seq ?_
 refine' region [_] mixed hA (.cons (fun _ _ hE hK hg => ok_assign rfl) .nil) ?zok1 ?zgd1 ?zk1
 case zok1 | zgd1 => kernel_rfl
 intro a1 w1 hA hE HF
 clear HF
 replace hB := Base.step hB hE hO; clear hE
 refine li_nil (nx_then (wp_seq ?_))
 refine' region [SP.vl (rSl rStr) O [[97], [98]], SP.vl (rSl rStr) O [[97], [98]]] mixed hA (.cons (fun _ _ hE hK hg => okl_buildSliceV (r := rStr) (fun _ => rfl) rfl (OkO.ext hB.ok hE) ty28 ty9 (parts_cons rfl (parts_cons rfl parts_nil)) ⟨(by exact rStr_v.2 rfl), ⟨(by exact rStr_v.2 rfl), trivial⟩⟩ rfl (by decide)) (.cons (fun _ _ hE hK hg => ok_assign_pr (φ := SP.vl (rSl rStr) O [[97], [98]]) (kspS (j := 0) (hK 15 rfl) rfl rfl rfl)) .nil)) ?zok2 ?zgd2 ?zk2
 case zok2 | zgd2 => kernel_rfl
 intro a2 w2 hA hE HF
 have f2 := ksp (HF 1) rfl rfl rfl
 obtain ⟨u1, q1'⟩ : ∃ u, a2.get 1 = u := ⟨_, rfl⟩
 rw [q1'] at f2
 have q1 := q1'; clear q1'
 clear HF
 replace hB := Base.step hB hE hO; clear hE
 refine li_nil (nx_then (wp_seq ?_))
 refine' region [_, _] mixed hA (.cons (fun _ _ hE hK hg => ok_assign rfl) (.cons (fun _ _ hE hK hg => ok_assign rfl) .nil)) ?zok3 ?zgd3 ?zk3
 case zok3 | zgd3 => kernel_rfl
 intro a3 w3 hA hE HF
 replace q1 := kn (HF 1) rfl q1
 have q2 := ksv (HF 2) rfl rfl rfl
 have q3 := ksv (HF 3) rfl rfl rfl
 clear HF
 replace f2 := GR.v_ext _ f2 hE
 replace hB := Base.step hB hE hO; clear hE
 refine li_nil (nx_then (wp_seq ?_))
 obtain ⟨x3, hx3, h⟩ := Comp.run_bind h
 refine' region [_, _, SP.isv (.agg #[.int .i64 0, .int .i64 0, .int .i64 1, .int .i64 1, .int .i64 0, .string (str []), .string (str [114, 114, 114, 114, 114, 114, 114, 114]), .string (str []), .string (str [])]), SP.vl (rSl r_aEn) O x3, SP.vl (rSl r_aEn) O x3] mixed hA (.cons (fun _ _ hE hK hg => ok_move (kn (hK 1 rfl) rfl q1)) (.cons (fun _ _ hE hK hg => ok_move (kn (hK 2 rfl) rfl q2)) (.cons (fun _ _ hE hK hg => okl_build plc26 ty26 (pk_cons (v := .int .i64 1) rfl (pk_cons (v := .int .i64 1) rfl (pk_cons (v := .string (str [114, 114, 114, 114, 114, 114, 114, 114])) (ksv (j := 1) (hK 17 rfl) rfl rfl rfl) pk_nil))) rfl (.cons rfl rfl rfl (leb rfl) (.cons rfl rfl rfl (leb rfl) (.cons rfl rfl rfl (leb rfl) .nil))) rfl) (.cons ?z4_3 (.cons (fun _ _ hE hK hg => ok_assign_pr (φ := SP.vl (rSl r_aEn) O x3) (kspS (j := 3) (hK 19 rfl) rfl rfl rfl)) .nil))))) ?zok4 ?zgd4 ?zk4
 case z4_3 => intro a' w' hE hK hg; have c_ := ok_c7_after (OkO.ext hB.ok hE) (GR.v_ext _ f2 hE) (rSl_nil _ _ _ 0) hx3; exact ok_weak (ok_call3 fn30 (ksv (j := 0) (hK 16 rfl) rfl rfl rfl) rfl (ksv (j := 2) (hK 18 rfl) rfl rfl rfl) c_) (fun _ _ _ h => (OwnR.val h (fun g hg => (OkO.ext hB.ok hE) g (OwnR.ge h g hg).1)))
 case zok4 | zgd4 => kernel_rfl
 intro a4 w4 hA hE HF
 replace q1 := kn (HF 1) rfl q1
 replace q2 := kn (HF 2) rfl q2
 replace q3 := kn (HF 3) rfl q3
 have f5 := ksp (HF 4) rfl rfl rfl
 obtain ⟨u4, q4'⟩ : ∃ u, a4.get 4 = u := ⟨_, rfl⟩
 rw [q4'] at f5
 have q4 := q4'; clear q4'
 clear HF
 replace f2 := GR.v_ext _ f2 hE
 replace hB := Base.step hB hE hO; clear hE
 refine li_nil (nx_then (wp_seq ?_))
 obtain ⟨x6, hx6, h⟩ := Comp.run_bind h
 refine' region [_, _, _, SP.isv (.agg #[.int .i64 0, .int .i64 0, .int .i64 2, .int .i64 3, .int .i64 2, .string (str []), .string (str [115, 115, 115, 115, 115, 115, 115, 115]), .string (str []), .string (str [])]), SP.vl (rSl r_aEn) O x6, SP.vl (rSl r_aEn) O x6] mixed hA (.cons (fun _ _ hE hK hg => ok_move (kn (hK 1 rfl) rfl q1)) (.cons (fun _ _ hE hK hg => ok_move (kn (hK 4 rfl) rfl q4)) (.cons (fun _ _ hE hK hg => ok_move (kn (hK 3 rfl) rfl q3)) (.cons (fun _ _ hE hK hg => okl_build plc26 ty26 (pk_cons (v := .int .i64 2) rfl (pk_cons (v := .int .i64 2) rfl (pk_cons (v := .int .i64 3) rfl (pk_cons (v := .string (str [115, 115, 115, 115, 115, 115, 115, 115])) (ksv (j := 2) (hK 22 rfl) rfl rfl rfl) pk_nil)))) rfl (.cons rfl rfl rfl (leb rfl) (.cons rfl rfl rfl (leb rfl) (.cons rfl rfl rfl (leb rfl) (.cons rfl rfl rfl (leb rfl) .nil)))) rfl) (.cons ?z5_4 (.cons (fun _ _ hE hK hg => ok_assign_pr (φ := SP.vl (rSl r_aEn) O x6) (kspS (j := 4) (hK 24 rfl) rfl rfl rfl)) .nil)))))) ?zok5 ?zgd5 ?zk5
 case z5_4 => intro a' w' hE hK hg; have c_ := ok_c7_after (OkO.ext hB.ok hE) (GR.v_ext _ f2 hE) (GR.v_ext _ f5 hE) hx6; exact ok_weak (ok_call3 fn30 (ksv (j := 0) (hK 20 rfl) rfl rfl rfl) (ksv (j := 1) (hK 21 rfl) rfl rfl rfl) (ksv (j := 3) (hK 23 rfl) rfl rfl rfl) c_) (fun _ _ _ h => (OwnR.val h (fun g hg => (OkO.ext hB.ok hE) g (OwnR.ge h g hg).1)))
 case zok5 | zgd5 => kernel_rfl
 intro a5 w5 hA hE HF
 replace q1 := kn (HF 1) rfl q1
 replace q2 := kn (HF 2) rfl q2
 replace q3 := kn (HF 3) rfl q3
 have f8 := ksp (HF 4) rfl rfl rfl
 obtain ⟨u7, q4'⟩ : ∃ u, a5.get 4 = u := ⟨_, rfl⟩
 rw [q4'] at f8
 replace q4 := q4'; clear q4'
 clear HF
 replace f2 := GR.v_ext _ f2 hE
 replace f5 := GR.v_ext _ f5 hE
 replace hB := Base.step hB hE hO; clear hE
 refine li_nil (nx_then (wp_seq ?_))
 obtain ⟨x9, hx9, h⟩ := Comp.run_bind h
 refine' region [_, _, _, SP.isv (.agg #[.int .i64 0, .int .i64 0, .int .i64 4, .int .i64 3, .int .i64 1, .string (str []), .string (str [115, 115, 115, 115, 115, 115, 115, 115]), .string (str []), .string (str [])]), SP.vl (rSl r_aEn) O x9, SP.vl (rSl r_aEn) O x9] mixed hA (.cons (fun _ _ hE hK hg => ok_move (kn (hK 1 rfl) rfl q1)) (.cons (fun _ _ hE hK hg => ok_move (kn (hK 4 rfl) rfl q4)) (.cons (fun _ _ hE hK hg => ok_move (kn (hK 3 rfl) rfl q3)) (.cons (fun _ _ hE hK hg => okl_build plc26 ty26 (pk_cons (v := .int .i64 4) rfl (pk_cons (v := .int .i64 1) rfl (pk_cons (v := .int .i64 3) rfl (pk_cons (v := .string (str [115, 115, 115, 115, 115, 115, 115, 115])) (ksv (j := 2) (hK 27 rfl) rfl rfl rfl) pk_nil)))) rfl (.cons rfl rfl rfl (leb rfl) (.cons rfl rfl rfl (leb rfl) (.cons rfl rfl rfl (leb rfl) (.cons rfl rfl rfl (leb rfl) .nil)))) rfl) (.cons ?z6_4 (.cons (fun _ _ hE hK hg => ok_assign_pr (φ := SP.vl (rSl r_aEn) O x9) (kspS (j := 4) (hK 29 rfl) rfl rfl rfl)) .nil)))))) ?zok6 ?zgd6 ?zk6
 case z6_4 => intro a' w' hE hK hg; have c_ := ok_c7_after (OkO.ext hB.ok hE) (GR.v_ext _ f2 hE) (GR.v_ext _ f8 hE) hx9; exact ok_weak (ok_call3 fn30 (ksv (j := 0) (hK 25 rfl) rfl rfl rfl) (ksv (j := 1) (hK 26 rfl) rfl rfl rfl) (ksv (j := 3) (hK 28 rfl) rfl rfl rfl) c_) (fun _ _ _ h => (OwnR.val h (fun g hg => (OkO.ext hB.ok hE) g (OwnR.ge h g hg).1)))
 case zok6 | zgd6 => kernel_rfl
 intro a6 w6 hA hE HF
 replace q1 := kn (HF 1) rfl q1
 replace q2 := kn (HF 2) rfl q2
 replace q3 := kn (HF 3) rfl q3
 have f11 := ksp (HF 4) rfl rfl rfl
 obtain ⟨u10, q4'⟩ : ∃ u, a6.get 4 = u := ⟨_, rfl⟩
 rw [q4'] at f11
 replace q4 := q4'; clear q4'
 clear HF
 replace f2 := GR.v_ext _ f2 hE
 replace f8 := GR.v_ext _ f8 hE
 replace hB := Base.step hB hE hO; clear hE
 refine li_nil (nx_then (wp_seq ?_))
 obtain ⟨x12, hx12, h⟩ := Comp.run_bind h
 refine' region [_, _, _, SP.isv (.agg #[.int .i64 0, .int .i64 1, .int .i64 3, .int .i64 5, .int .i64 0, .string (str []), .string (str [115, 115, 115, 115, 115, 115, 115, 115]), .string (str []), .string (str [])]), SP.vl (rSl r_aEn) O x12, SP.vl (rSl r_aEn) O x12] mixed hA (.cons (fun _ _ hE hK hg => ok_move (kn (hK 1 rfl) rfl q1)) (.cons (fun _ _ hE hK hg => ok_move (kn (hK 4 rfl) rfl q4)) (.cons (fun _ _ hE hK hg => ok_move (kn (hK 3 rfl) rfl q3)) (.cons (fun _ _ hE hK hg => okl_build plc26 ty26 (pk_cons (v := .int .i64 1) rfl (pk_cons (v := .int .i64 3) rfl (pk_cons (v := .int .i64 5) rfl (pk_cons (v := .string (str [115, 115, 115, 115, 115, 115, 115, 115])) (ksv (j := 2) (hK 32 rfl) rfl rfl rfl) pk_nil)))) rfl (.cons rfl rfl rfl (leb rfl) (.cons rfl rfl rfl (leb rfl) (.cons rfl rfl rfl (leb rfl) (.cons rfl rfl rfl (leb rfl) .nil)))) rfl) (.cons ?z7_4 (.cons (fun _ _ hE hK hg => ok_assign_pr (φ := SP.vl (rSl r_aEn) O x12) (kspS (j := 4) (hK 34 rfl) rfl rfl rfl)) .nil)))))) ?zok7 ?zgd7 ?zk7
 case z7_4 => intro a' w' hE hK hg; have c_ := ok_c7_after (OkO.ext hB.ok hE) (GR.v_ext _ f2 hE) (GR.v_ext _ f11 hE) hx12; exact ok_weak (ok_call3 fn30 (ksv (j := 0) (hK 30 rfl) rfl rfl rfl) (ksv (j := 1) (hK 31 rfl) rfl rfl rfl) (ksv (j := 3) (hK 33 rfl) rfl rfl rfl) c_) (fun _ _ _ h => (OwnR.val h (fun g hg => (OkO.ext hB.ok hE) g (OwnR.ge h g hg).1)))
 case zok7 | zgd7 => kernel_rfl
 intro a7 w7 hA hE HF
 replace q1 := kn (HF 1) rfl q1
 replace q2 := kn (HF 2) rfl q2
 replace q3 := kn (HF 3) rfl q3
 have f14 := ksp (HF 4) rfl rfl rfl
 obtain ⟨u13, q4'⟩ : ∃ u, a7.get 4 = u := ⟨_, rfl⟩
 rw [q4'] at f14
 replace q4 := q4'; clear q4'
 clear HF
 replace f2 := GR.v_ext _ f2 hE
 replace f11 := GR.v_ext _ f11 hE
 replace hB := Base.step hB hE hO; clear hE
 refine li_nil (nx_then (wp_seq ?_))
 obtain ⟨x15, hx15, h⟩ := Comp.run_bind h
 obtain ⟨x16, hx16, h⟩ := Comp.run_bind h
 obtain ⟨x17, hx17, h⟩ := Comp.run_bind h
 obtain ⟨x18, hx18, h⟩ := Comp.run_bind h
 obtain ⟨x19, hx19, h⟩ := Comp.run_bind h
 obtain ⟨x20, hx20, h⟩ := Comp.run_bind h
 obtain ⟨x21, hx21, h⟩ := Comp.run_bind h
 obtain ⟨x22, hx22, h⟩ := Comp.run_bind h
 obtain ⟨x23, hx23, h⟩ := Comp.run_bind h
 obtain ⟨J_, eJ_⟩ : ∃ J_ : (Nat → Bool) → Act → World → Prop, J_ = (fun S_ a_ w_ => ∃ O_ : Tags, Base (Fr w0) O w0 O_ w_ ∧ Keep 0 O w7 O_ w_ ∧ (S_ 6 = true → (x15 == true) = true → (rSl r_aEn).v O_ w_ (a_.get 41) x16) ∧ (S_ 17 = true → ((bif (bif x15 then x17 else false) then x18 else false) == true) = true → (rSl r_aEn).v O_ w_ (a_.get 52) x19) ∧ (S_ 20 = true → ((bif (bif x15 then x17 else false) then x18 else false) == true) = true → (rSl r_aEn).v O_ w_ (a_.get 55) x21) ∧ (S_ 21 = true → ((bif (bif x15 then x17 else false) then x18 else false) == true) = true → (rSl r_aEn).v O_ w_ (a_.get 56) x22) ∧ (S_ 15 = true → ((bif (bif x15 then x17 else false) then x18 else false) == true) = true → S_ 18 = false → OwnL 1 r_aEn 26 (Fr w0) O_ w_ (a_.get 50) []) ∧ (S_ 18 = true → ((bif (bif x15 then x17 else false) then x18 else false) == true) = true → S_ 21 = false → OwnL 1 r_aEn 26 (Fr w0) O_ w_ (a_.get 53) x20) ∧ (S_ 21 = true → ((bif (bif x15 then x17 else false) then x18 else false) == true) = true → OwnL 1 r_aEn 26 (Fr w0) O_ w_ (.slice none 0 0) [])) := ⟨_, rfl⟩
 have T_ : ∀ {i_ : Nat} {d_ : Option Tmp} {v_ : Value} {S_ a' w' w2}, Nat.beq 6 i_ = false → Nat.beq 15 i_ = false → Nat.beq 17 i_ = false → Nat.beq 18 i_ = false → Nat.beq 20 i_ = false → Nat.beq 21 i_ = false → d_ ≠ some 41 → d_ ≠ some 50 → d_ ≠ some 52 → d_ ≠ some 53 → d_ ≠ some 55 → d_ ≠ some 56 → Ext w' w2 → J_ S_ a' w' → J_ (addS S_ i_) (a'.put d_ v_) w2 := by
  subst eJ_; intro i_ d_ v_ S_ a' w' w2 n6_ n15_ n17_ n18_ n20_ n21_ s41_ s50_ s52_ s53_ s55_ s56_ hE hJ_
  obtain ⟨O_, hB_, k0_, m6_, m17_, m20_, m21_, v0_0_, v0_1_, v0_2_⟩ := hJ_
  exact ⟨O_, (Base.step hB_ hE hO), (k0_.trans (KX.keep (KX.ext hE) (by decide))), fun h_ hG_ => po_ (d := d_) (t := 41) (φ := fun u_ => (rSl r_aEn).v O_ w2 u_ x16) ((GR.v_mono _ (m6_ (addS_off n6_ h_) hG_) (KX.keep (KX.ext hE) (by decide)))) s41_, fun h_ hG_ => po_ (d := d_) (t := 52) (φ := fun u_ => (rSl r_aEn).v O_ w2 u_ x19) ((GR.v_mono _ (m17_ (addS_off n17_ h_) hG_) (KX.keep (KX.ext hE) (by decide)))) s52_, fun h_ hG_ => po_ (d := d_) (t := 55) (φ := fun u_ => (rSl r_aEn).v O_ w2 u_ x21) ((GR.v_mono _ (m20_ (addS_off n20_ h_) hG_) (KX.keep (KX.ext hE) (by decide)))) s55_, fun h_ hG_ => po_ (d := d_) (t := 56) (φ := fun u_ => (rSl r_aEn).v O_ w2 u_ x22) ((GR.v_mono _ (m21_ (addS_off n21_ h_) hG_) (KX.keep (KX.ext hE) (by decide)))) s56_, fun hp_ hG_ hq_ => po_ (d := d_) (t := 50) (φ := fun u_ => OwnL 1 r_aEn 26 (Fr w0) O_ w2 (u_) []) (OwnL.kx (v0_0_ (addS_off n15_ hp_) hG_ (addS_no hq_)) (KX.ext hE) (by decide) (by decide)) s50_, fun hp_ hG_ hq_ => po_ (d := d_) (t := 53) (φ := fun u_ => OwnL 1 r_aEn 26 (Fr w0) O_ w2 (u_) x20) (OwnL.kx (v0_1_ (addS_off n18_ hp_) hG_ (addS_no hq_)) (KX.ext hE) (by decide) (by decide)) s53_, fun hp_ hG_ => OwnL.kx (v0_2_ (addS_off n21_ hp_) hG_) (KX.ext hE) (by decide) (by decide)⟩
 refine' regionX (draw := true) J_ [SP.isv (u1), SP.isv (u13), SP.isv (.bool x15), SP.isv (.bool x15), SP.isv (u1), SP.isv (u13), SP.tt, SP.isv (.bool x17), SP.isv (.bool (bif x15 then x17 else false)), SP.isv (.bool (bif x15 then x17 else false)), SP.isv (u1), SP.isv (.bool x18), SP.isv (.bool (bif (bif x15 then x17 else false) then x18 else false)), SP.isv (.bool (bif (bif x15 then x17 else false) then x18 else false)), SP.isv (u1), SP.tt, SP.isv (u13), SP.tt, SP.tt, SP.isv (u13), SP.tt, SP.tt, SP.isv (.bool x23), SP.isv (.bool (bif (bif (bif x15 then x17 else false) then x18 else false) then x23 else false)), SP.isv (.bool (bif (bif (bif x15 then x17 else false) then x18 else false) then x23 else false))] mixed hA (.cons (stE_isv _) (.cons (stE_isv _) (.cons (stE_isv _) (.cons (stE_isv _) (.cons (stE_isv _) (.cons (stE_isv _) (.cons (stE_tt _) (.cons (stE_isv _) (.cons (stE_isv _) (.cons (stE_isv _) (.cons (stE_isv _) (.cons (stE_isv _) (.cons (stE_isv _) (.cons (stE_isv _) (.cons (stE_isv _) (.cons (stE_tt _) (.cons (stE_isv _) (.cons (stE_tt _) (.cons (stE_tt _) (.cons (stE_isv _) (.cons (stE_tt _) (.cons (stE_tt _) (.cons (stE_isv _) (.cons (stE_isv _) (.cons (stE_isv _) .nil))))))))))))))))))))))))) (.cons ?z8_0 (.cons ?z8_1 (.cons ?z8_2 (.cons ?z8_3 (.cons ?z8_4 (.cons ?z8_5 (.cons ?z8_6 (.cons ?z8_7 (.cons ?z8_8 (.cons ?z8_9 (.cons ?z8_10 (.cons ?z8_11 (.cons ?z8_12 (.cons ?z8_13 (.cons ?z8_14 (.cons ?z8_15 (.cons ?z8_16 (.cons ?z8_17 (.cons ?z8_18 (.cons ?z8_19 (.cons ?z8_20 (.cons ?z8_21 (.cons ?z8_22 (.cons ?z8_23 (.cons ?z8_24 .nil))))))))))))))))))))))))) ?zsk8 ?zst8 ?zok8 ?zgd8 ?zk8
 case z8_0 =>
  intro S_ a' w' hA_ hJ_ hS_ hafter_ hbef_ hK hg K_ Q_ hK_
  refine x_ok (φ := SP.isv (u1)) (by exact ok_move (kn (hK 1 rfl) rfl q1)) fun v_ w2 hE hv_ => hK_ v_ w2 (T_ rfl rfl rfl rfl rfl rfl (by decide) (by decide) (by decide) (by decide) (by decide) (by decide) hE hJ_) hv_
 case z8_1 =>
  intro S_ a' w' hA_ hJ_ hS_ hafter_ hbef_ hK hg K_ Q_ hK_
  refine x_ok (φ := SP.isv (u13)) (by exact ok_move (kn (hK 4 rfl) rfl q4)) fun v_ w2 hE hv_ => hK_ v_ w2 (T_ rfl rfl rfl rfl rfl rfl (by decide) (by decide) (by decide) (by decide) (by decide) (by decide) hE hJ_) hv_
 case z8_2 =>
  intro S_ a' w' hA_ hJ_ hS_ hafter_ hbef_ hK hg K_ Q_ hK_
  have hJ2_ := hJ_; rw [eJ_] at hJ2_; obtain ⟨O_, hB_, k0_, m6_, m17_, m20_, m21_, v0_0_, v0_1_, v0_2_⟩ := hJ2_
  refine x_ok (φ := SP.isv (.bool x15)) (by have c_ := ok_c7_finds hB_.ok (GR.v_mono _ f2 k0_) (GR.v_mono _ f14 k0_) hx15; exact ok_call4 fn31 (ksv (j := 0) (hK 35 rfl) rfl rfl rfl) (ksv (j := 1) (hK 36 rfl) rfl rfl rfl) rfl rfl c_) fun v_ w2 hE hv_ => hK_ v_ w2 (T_ rfl rfl rfl rfl rfl rfl (by decide) (by decide) (by decide) (by decide) (by decide) (by decide) hE hJ_) hv_
 case z8_3 =>
  intro S_ a' w' hA_ hJ_ hS_ hafter_ hbef_ hK hg K_ Q_ hK_
  refine x_ok (φ := SP.isv (.bool x15)) (by exact ok_move (ksv (j := 2) (hK 37 rfl) rfl rfl rfl)) fun v_ w2 hE hv_ => hK_ v_ w2 (T_ rfl rfl rfl rfl rfl rfl (by decide) (by decide) (by decide) (by decide) (by decide) (by decide) hE hJ_) hv_
 case z8_4 =>
  intro S_ a' w' hA_ hJ_ hS_ hafter_ hbef_ hK hg K_ Q_ hK_
  refine x_ok (φ := SP.isv (u1)) (by exact ok_move (kn (hK 1 rfl) rfl q1)) fun v_ w2 hE hv_ => hK_ v_ w2 (T_ rfl rfl rfl rfl rfl rfl (by decide) (by decide) (by decide) (by decide) (by decide) (by decide) hE hJ_) hv_
 case z8_5 =>
  intro S_ a' w' hA_ hJ_ hS_ hafter_ hbef_ hK hg K_ Q_ hK_
  refine x_ok (φ := SP.isv (u13)) (by exact ok_move (kn (hK 4 rfl) rfl q4)) fun v_ w2 hE hv_ => hK_ v_ w2 (T_ rfl rfl rfl rfl rfl rfl (by decide) (by decide) (by decide) (by decide) (by decide) (by decide) hE hJ_) hv_
 case z8_6 =>
  intro S_ a' w' hA_ hJ_ hS_ hafter_ hbef_ hK hg K_ Q_ hK_
  subst eJ_
  obtain ⟨O_, hB_, k0_, m6_, m17_, m20_, m21_, v0_0_, v0_1_, v0_2_⟩ := hJ_
  refine x_ok (φ := SP.vl (rSl r_aEn) O_ x16) (by exact okl_slice_h (r := r_aEn) ty29 ty26 rfl (ksv (j := 5) (hK 40 rfl) rfl rfl hg) (GR.v_mono _ f14 k0_) rfl (run_gdb hx16 hg)) fun v_ w2 hE hv_ => ?_
  have hB2_ := Base.step hB_ hE hO
  exact hK_ v_ w2 ⟨O_, hB2_, (k0_.trans (KX.keep (KX.ext hE) (by decide))), fun _ hG_ => put_me (φ := fun u_ => (rSl r_aEn).v O_ w2 u_ x16) hA_ (by decide) hv_, fun h_ hG_ => po_ (d := some 41) (t := 52) (φ := fun u_ => (rSl r_aEn).v O_ w2 u_ x19) ((GR.v_mono _ (m17_ (addS_off rfl h_) hG_) (KX.keep (KX.ext hE) (by decide)))) (by decide), fun h_ hG_ => po_ (d := some 41) (t := 55) (φ := fun u_ => (rSl r_aEn).v O_ w2 u_ x21) ((GR.v_mono _ (m20_ (addS_off rfl h_) hG_) (KX.keep (KX.ext hE) (by decide)))) (by decide), fun h_ hG_ => po_ (d := some 41) (t := 56) (φ := fun u_ => (rSl r_aEn).v O_ w2 u_ x22) ((GR.v_mono _ (m21_ (addS_off rfl h_) hG_) (KX.keep (KX.ext hE) (by decide)))) (by decide), fun hp_ hG_ hq_ => po_ (d := some 41) (t := 50) (φ := fun u_ => OwnL 1 r_aEn 26 (Fr w0) O_ w2 (u_) []) (OwnL.kx (v0_0_ (addS_off rfl hp_) hG_ (addS_no hq_)) (KX.ext hE) (by decide) (by decide)) (by decide), fun hp_ hG_ hq_ => po_ (d := some 41) (t := 53) (φ := fun u_ => OwnL 1 r_aEn 26 (Fr w0) O_ w2 (u_) x20) (OwnL.kx (v0_1_ (addS_off rfl hp_) hG_ (addS_no hq_)) (KX.ext hE) (by decide) (by decide)) (by decide), fun hp_ hG_ => OwnL.kx (v0_2_ (addS_off rfl hp_) hG_) (KX.ext hE) (by decide) (by decide)⟩ trivial
 case z8_7 =>
  intro S_ a' w' hA_ hJ_ hS_ hafter_ hbef_ hK hg K_ Q_ hK_
  have hJ2_ := hJ_; rw [eJ_] at hJ2_; obtain ⟨O_, hB_, k0_, m6_, m17_, m20_, m21_, v0_0_, v0_1_, v0_2_⟩ := hJ2_
  refine x_ok (φ := SP.isv (.bool x17)) (by have c_ := ok_c7_finds hB_.ok (GR.v_mono _ f2 k0_) (m6_ (addS_off rfl (hbef_ 6 (by kernel_rfl))) hg) (run_gdb hx17 hg); exact ok_call4 fn31 (ksv (j := 4) (hK 39 rfl) rfl rfl hg) rfl rfl rfl c_) fun v_ w2 hE hv_ => hK_ v_ w2 (T_ rfl rfl rfl rfl rfl rfl (by decide) (by decide) (by decide) (by decide) (by decide) (by decide) hE hJ_) hv_
 case z8_8 =>
  intro S_ a' w' hA_ hJ_ hS_ hafter_ hbef_ hK hg K_ Q_ hK_
  refine x_ok (φ := SP.isv (.bool (bif x15 then x17 else false))) (by exact ok_pick (ksv (j := 3) (hK 38 rfl) rfl rfl rfl) (fun hb => ksv (j := 7) (hK 42 rfl) rfl rfl (act_g1 rfl rfl hb)) (fun _ => rfl)) fun v_ w2 hE hv_ => hK_ v_ w2 (T_ rfl rfl rfl rfl rfl rfl (by decide) (by decide) (by decide) (by decide) (by decide) (by decide) hE hJ_) hv_
 case z8_9 =>
  intro S_ a' w' hA_ hJ_ hS_ hafter_ hbef_ hK hg K_ Q_ hK_
  refine x_ok (φ := SP.isv (.bool (bif x15 then x17 else false))) (by exact ok_move (ksv (j := 8) (hK 43 rfl) rfl rfl rfl)) fun v_ w2 hE hv_ => hK_ v_ w2 (T_ rfl rfl rfl rfl rfl rfl (by decide) (by decide) (by decide) (by decide) (by decide) (by decide) hE hJ_) hv_
 case z8_10 =>
  intro S_ a' w' hA_ hJ_ hS_ hafter_ hbef_ hK hg K_ Q_ hK_
  refine x_ok (φ := SP.isv (u1)) (by exact ok_move (kn (hK 1 rfl) rfl q1)) fun v_ w2 hE hv_ => hK_ v_ w2 (T_ rfl rfl rfl rfl rfl rfl (by decide) (by decide) (by decide) (by decide) (by decide) (by decide) hE hJ_) hv_
 case z8_11 =>
  intro S_ a' w' hA_ hJ_ hS_ hafter_ hbef_ hK hg K_ Q_ hK_
  have hJ2_ := hJ_; rw [eJ_] at hJ2_; obtain ⟨O_, hB_, k0_, m6_, m17_, m20_, m21_, v0_0_, v0_1_, v0_2_⟩ := hJ2_
  refine x_ok (φ := SP.isv (.bool x18)) (by have c_ := ok_c7_finds hB_.ok (GR.v_mono _ f2 k0_) (rSl_nil _ _ _ 0) (run_gdb hx18 hg); exact ok_call4 fn31 (ksv (j := 10) (hK 45 rfl) rfl rfl hg) rfl rfl rfl c_) fun v_ w2 hE hv_ => hK_ v_ w2 (T_ rfl rfl rfl rfl rfl rfl (by decide) (by decide) (by decide) (by decide) (by decide) (by decide) hE hJ_) hv_
 case z8_12 =>
  intro S_ a' w' hA_ hJ_ hS_ hafter_ hbef_ hK hg K_ Q_ hK_
  refine x_ok (φ := SP.isv (.bool (bif (bif x15 then x17 else false) then x18 else false))) (by exact ok_pick (ksv (j := 9) (hK 44 rfl) rfl rfl rfl) (fun hb => ksv (j := 11) (hK 46 rfl) rfl rfl (act_g1 rfl rfl hb)) (fun _ => rfl)) fun v_ w2 hE hv_ => hK_ v_ w2 (T_ rfl rfl rfl rfl rfl rfl (by decide) (by decide) (by decide) (by decide) (by decide) (by decide) hE hJ_) hv_
 case z8_13 =>
  intro S_ a' w' hA_ hJ_ hS_ hafter_ hbef_ hK hg K_ Q_ hK_
  refine x_ok (φ := SP.isv (.bool (bif (bif x15 then x17 else false) then x18 else false))) (by exact ok_move (ksv (j := 12) (hK 47 rfl) rfl rfl rfl)) fun v_ w2 hE hv_ => hK_ v_ w2 (T_ rfl rfl rfl rfl rfl rfl (by decide) (by decide) (by decide) (by decide) (by decide) (by decide) hE hJ_) hv_
 case z8_14 =>
  intro S_ a' w' hA_ hJ_ hS_ hafter_ hbef_ hK hg K_ Q_ hK_
  refine x_ok (φ := SP.isv (u1)) (by exact ok_move (kn (hK 1 rfl) rfl q1)) fun v_ w2 hE hv_ => hK_ v_ w2 (T_ rfl rfl rfl rfl rfl rfl (by decide) (by decide) (by decide) (by decide) (by decide) (by decide) hE hJ_) hv_
 case z8_15 =>
  intro S_ a' w' hA_ hJ_ hS_ hafter_ hbef_ hK hg K_ Q_ hK_
  subst eJ_
  obtain ⟨O_, hB_, k0_, m6_, m17_, m20_, m21_, v0_0_, v0_1_, v0_2_⟩ := hJ_
  refine x_ok (φ := SP.ownr r_aEn 26 w'.heap.size O_ []) (by exact okl_buildSlice (r := r_aEn) fit_aEn rfl hB_.ok ty29 ty26 (Nat.le_refl _) parts_nil trivial rfl (by decide)) fun v_ w2 hE hv_ => ?_
  obtain ⟨O2_, hB2_, hX_, f_⟩ := ownNew hO hB_ hE hv_ rfl 1 (by decide)
  exact hK_ v_ w2 ⟨O2_, hB2_, (k0_.trans (KX.keep hX_ (by decide))), fun h_ hG_ => po_ (d := some 50) (t := 41) (φ := fun u_ => (rSl r_aEn).v O2_ w2 u_ x16) ((GR.v_mono _ (m6_ (addS_off rfl h_) hG_) (KX.keep hX_ (by decide)))) (by decide), fun h_ hG_ => po_ (d := some 50) (t := 52) (φ := fun u_ => (rSl r_aEn).v O2_ w2 u_ x19) ((GR.v_mono _ (m17_ (addS_off rfl h_) hG_) (KX.keep hX_ (by decide)))) (by decide), fun h_ hG_ => po_ (d := some 50) (t := 55) (φ := fun u_ => (rSl r_aEn).v O2_ w2 u_ x21) ((GR.v_mono _ (m20_ (addS_off rfl h_) hG_) (KX.keep hX_ (by decide)))) (by decide), fun h_ hG_ => po_ (d := some 50) (t := 56) (φ := fun u_ => (rSl r_aEn).v O2_ w2 u_ x22) ((GR.v_mono _ (m21_ (addS_off rfl h_) hG_) (KX.keep hX_ (by decide)))) (by decide), fun hp_ hG_ hq_ => put_me (φ := fun u_ => OwnL 1 r_aEn 26 (Fr w0) O2_ w2 (u_) []) hA_ (by decide) f_, fun hp_ hG_ hq_ => no_tf (addS_off rfl hp_) (hafter_ 18 (by kernel_rfl)), fun hp_ hG_ => no_tf (addS_off rfl hp_) (hafter_ 21 (by kernel_rfl))⟩ trivial
 case z8_16 =>
  intro S_ a' w' hA_ hJ_ hS_ hafter_ hbef_ hK hg K_ Q_ hK_
  refine x_ok (φ := SP.isv (u13)) (by exact ok_move (kn (hK 4 rfl) rfl q4)) fun v_ w2 hE hv_ => hK_ v_ w2 (T_ rfl rfl rfl rfl rfl rfl (by decide) (by decide) (by decide) (by decide) (by decide) (by decide) hE hJ_) hv_
 case z8_17 =>
  intro S_ a' w' hA_ hJ_ hS_ hafter_ hbef_ hK hg K_ Q_ hK_
  subst eJ_
  obtain ⟨O_, hB_, k0_, m6_, m17_, m20_, m21_, v0_0_, v0_1_, v0_2_⟩ := hJ_
  refine x_ok (φ := SP.vl (rSl r_aEn) O_ x19) (by exact okl_slice_h (r := r_aEn) ty29 ty26 rfl (ksv (j := 16) (hK 51 rfl) rfl rfl hg) (GR.v_mono _ f14 k0_) rfl (run_gdb hx19 hg)) fun v_ w2 hE hv_ => ?_
  have hB2_ := Base.step hB_ hE hO
  exact hK_ v_ w2 ⟨O_, hB2_, (k0_.trans (KX.keep (KX.ext hE) (by decide))), fun h_ hG_ => po_ (d := some 52) (t := 41) (φ := fun u_ => (rSl r_aEn).v O_ w2 u_ x16) ((GR.v_mono _ (m6_ (addS_off rfl h_) hG_) (KX.keep (KX.ext hE) (by decide)))) (by decide), fun _ hG_ => put_me (φ := fun u_ => (rSl r_aEn).v O_ w2 u_ x19) hA_ (by decide) hv_, fun h_ hG_ => po_ (d := some 52) (t := 55) (φ := fun u_ => (rSl r_aEn).v O_ w2 u_ x21) ((GR.v_mono _ (m20_ (addS_off rfl h_) hG_) (KX.keep (KX.ext hE) (by decide)))) (by decide), fun h_ hG_ => po_ (d := some 52) (t := 56) (φ := fun u_ => (rSl r_aEn).v O_ w2 u_ x22) ((GR.v_mono _ (m21_ (addS_off rfl h_) hG_) (KX.keep (KX.ext hE) (by decide)))) (by decide), fun hp_ hG_ hq_ => po_ (d := some 52) (t := 50) (φ := fun u_ => OwnL 1 r_aEn 26 (Fr w0) O_ w2 (u_) []) (OwnL.kx (v0_0_ (addS_off rfl hp_) hG_ (addS_no hq_)) (KX.ext hE) (by decide) (by decide)) (by decide), fun hp_ hG_ hq_ => po_ (d := some 52) (t := 53) (φ := fun u_ => OwnL 1 r_aEn 26 (Fr w0) O_ w2 (u_) x20) (OwnL.kx (v0_1_ (addS_off rfl hp_) hG_ (addS_no hq_)) (KX.ext hE) (by decide) (by decide)) (by decide), fun hp_ hG_ => OwnL.kx (v0_2_ (addS_off rfl hp_) hG_) (KX.ext hE) (by decide) (by decide)⟩ trivial
 case z8_18 =>
  intro S_ a' w' hA_ hJ_ hS_ hafter_ hbef_ hK hg K_ Q_ hK_
  subst eJ_
  obtain ⟨O_, hB_, k0_, m6_, m17_, m20_, m21_, v0_0_, v0_1_, v0_2_⟩ := hJ_
  refine x_append (r := r_aEn) fit_aEn rfl ty29 ty26 rfl (by decide) hO hB_ (okB_fr hB_) rfl (v0_0_ (addS_off rfl (hbef_ 15 (by kernel_rfl))) hg hS_) rfl (rd_of (m17_ (addS_off rfl (hbef_ 17 (by kernel_rfl))) hg)) (run_gdb hx20 hg) (by decide) fun u_ w2 O2_ f_ hB2_ hX_ => ?_
  exact hK_ u_ w2 ⟨O2_, hB2_, (k0_.trans (KX.keep hX_ (by decide))), fun h_ hG_ => po_ (d := some 53) (t := 41) (φ := fun u_ => (rSl r_aEn).v O2_ w2 u_ x16) ((GR.v_mono _ (m6_ (addS_off rfl h_) hG_) (KX.keep hX_ (by decide)))) (by decide), fun h_ hG_ => po_ (d := some 53) (t := 52) (φ := fun u_ => (rSl r_aEn).v O2_ w2 u_ x19) ((GR.v_mono _ (m17_ (addS_off rfl h_) hG_) (KX.keep hX_ (by decide)))) (by decide), fun h_ hG_ => po_ (d := some 53) (t := 55) (φ := fun u_ => (rSl r_aEn).v O2_ w2 u_ x21) ((GR.v_mono _ (m20_ (addS_off rfl h_) hG_) (KX.keep hX_ (by decide)))) (by decide), fun h_ hG_ => po_ (d := some 53) (t := 56) (φ := fun u_ => (rSl r_aEn).v O2_ w2 u_ x22) ((GR.v_mono _ (m21_ (addS_off rfl h_) hG_) (KX.keep hX_ (by decide)))) (by decide), fun hp_ hG_ hq_ => addS_me hq_, fun hp_ hG_ hq_ => put_me (φ := fun u_ => OwnL 1 r_aEn 26 (Fr w0) O2_ w2 (u_) x20) hA_ (by decide) f_, fun hp_ hG_ => no_tf (addS_off rfl hp_) (hafter_ 21 (by kernel_rfl))⟩ trivial
 case z8_19 =>
  intro S_ a' w' hA_ hJ_ hS_ hafter_ hbef_ hK hg K_ Q_ hK_
  refine x_ok (φ := SP.isv (u13)) (by exact ok_move (kn (hK 4 rfl) rfl q4)) fun v_ w2 hE hv_ => hK_ v_ w2 (T_ rfl rfl rfl rfl rfl rfl (by decide) (by decide) (by decide) (by decide) (by decide) (by decide) hE hJ_) hv_
 case z8_20 =>
  intro S_ a' w' hA_ hJ_ hS_ hafter_ hbef_ hK hg K_ Q_ hK_
  subst eJ_
  obtain ⟨O_, hB_, k0_, m6_, m17_, m20_, m21_, v0_0_, v0_1_, v0_2_⟩ := hJ_
  refine x_ok (φ := SP.vl (rSl r_aEn) O_ x21) (by exact okl_slice_l (r := r_aEn) ty29 ty26 rfl (ksv (j := 19) (hK 54 rfl) rfl rfl hg) (GR.v_mono _ f14 k0_) rfl (run_gdb hx21 hg)) fun v_ w2 hE hv_ => ?_
  have hB2_ := Base.step hB_ hE hO
  exact hK_ v_ w2 ⟨O_, hB2_, (k0_.trans (KX.keep (KX.ext hE) (by decide))), fun h_ hG_ => po_ (d := some 55) (t := 41) (φ := fun u_ => (rSl r_aEn).v O_ w2 u_ x16) ((GR.v_mono _ (m6_ (addS_off rfl h_) hG_) (KX.keep (KX.ext hE) (by decide)))) (by decide), fun h_ hG_ => po_ (d := some 55) (t := 52) (φ := fun u_ => (rSl r_aEn).v O_ w2 u_ x19) ((GR.v_mono _ (m17_ (addS_off rfl h_) hG_) (KX.keep (KX.ext hE) (by decide)))) (by decide), fun _ hG_ => put_me (φ := fun u_ => (rSl r_aEn).v O_ w2 u_ x21) hA_ (by decide) hv_, fun h_ hG_ => po_ (d := some 55) (t := 56) (φ := fun u_ => (rSl r_aEn).v O_ w2 u_ x22) ((GR.v_mono _ (m21_ (addS_off rfl h_) hG_) (KX.keep (KX.ext hE) (by decide)))) (by decide), fun hp_ hG_ hq_ => po_ (d := some 55) (t := 50) (φ := fun u_ => OwnL 1 r_aEn 26 (Fr w0) O_ w2 (u_) []) (OwnL.kx (v0_0_ (addS_off rfl hp_) hG_ (addS_no hq_)) (KX.ext hE) (by decide) (by decide)) (by decide), fun hp_ hG_ hq_ => po_ (d := some 55) (t := 53) (φ := fun u_ => OwnL 1 r_aEn 26 (Fr w0) O_ w2 (u_) x20) (OwnL.kx (v0_1_ (addS_off rfl hp_) hG_ (addS_no hq_)) (KX.ext hE) (by decide) (by decide)) (by decide), fun hp_ hG_ => OwnL.kx (v0_2_ (addS_off rfl hp_) hG_) (KX.ext hE) (by decide) (by decide)⟩ trivial
 case z8_21 =>
  intro S_ a' w' hA_ hJ_ hS_ hafter_ hbef_ hK hg K_ Q_ hK_
  subst eJ_
  obtain ⟨O_, hB_, k0_, m6_, m17_, m20_, m21_, v0_0_, v0_1_, v0_2_⟩ := hJ_
  refine x_append (r := r_aEn) fit_aEn rfl ty29 ty26 rfl (by decide) hO hB_ (okB_fr hB_) rfl (v0_1_ (addS_off rfl (hbef_ 18 (by kernel_rfl))) hg hS_) rfl (rd_of (m20_ (addS_off rfl (hbef_ 20 (by kernel_rfl))) hg)) (run_gdb hx22 hg) (by decide) fun u_ w2 O2_ f_ hB2_ hX_ => ?_
  obtain ⟨O3_, hB3_, hX3_, f3_⟩ := freezeL hO hB2_ f_ (by decide)
  have hX4_ := KX.trans_same hX_ hX3_
  exact hK_ u_ w2 ⟨O3_, hB3_, (k0_.trans (KX.keep hX4_ (by decide))), fun h_ hG_ => po_ (d := some 56) (t := 41) (φ := fun u_ => (rSl r_aEn).v O3_ w2 u_ x16) ((GR.v_mono _ (m6_ (addS_off rfl h_) hG_) (KX.keep hX4_ (by decide)))) (by decide), fun h_ hG_ => po_ (d := some 56) (t := 52) (φ := fun u_ => (rSl r_aEn).v O3_ w2 u_ x19) ((GR.v_mono _ (m17_ (addS_off rfl h_) hG_) (KX.keep hX4_ (by decide)))) (by decide), fun h_ hG_ => po_ (d := some 56) (t := 55) (φ := fun u_ => (rSl r_aEn).v O3_ w2 u_ x21) ((GR.v_mono _ (m20_ (addS_off rfl h_) hG_) (KX.keep hX4_ (by decide)))) (by decide), fun _ hG_ => put_me (φ := fun u_ => (rSl r_aEn).v O3_ w2 u_ x22) hA_ (by decide) f3_, fun hp_ hG_ hq_ => no_tf (hbef_ 18 (by kernel_rfl)) hq_, fun hp_ hG_ hq_ => addS_me hq_, fun hp_ hG_ => (OwnL.nil _ _ _ _ _ _)⟩ trivial
 case z8_22 =>
  intro S_ a' w' hA_ hJ_ hS_ hafter_ hbef_ hK hg K_ Q_ hK_
  have hJ2_ := hJ_; rw [eJ_] at hJ2_; obtain ⟨O_, hB_, k0_, m6_, m17_, m20_, m21_, v0_0_, v0_1_, v0_2_⟩ := hJ2_
  refine x_ok (φ := SP.isv (.bool x23)) (by have c_ := ok_c7_finds hB_.ok (GR.v_mono _ f2 k0_) (m21_ (addS_off rfl (hbef_ 21 (by kernel_rfl))) hg) (run_gdb hx23 hg); exact ok_call4 fn31 (ksv (j := 14) (hK 49 rfl) rfl rfl hg) rfl rfl rfl c_) fun v_ w2 hE hv_ => hK_ v_ w2 (T_ rfl rfl rfl rfl rfl rfl (by decide) (by decide) (by decide) (by decide) (by decide) (by decide) hE hJ_) hv_
 case z8_23 =>
  intro S_ a' w' hA_ hJ_ hS_ hafter_ hbef_ hK hg K_ Q_ hK_
  refine x_ok (φ := SP.isv (.bool (bif (bif (bif x15 then x17 else false) then x18 else false) then x23 else false))) (by exact ok_pick (ksv (j := 13) (hK 48 rfl) rfl rfl rfl) (fun hb => ksv (j := 22) (hK 57 rfl) rfl rfl (act_g1 rfl rfl hb)) (fun _ => rfl)) fun v_ w2 hE hv_ => hK_ v_ w2 (T_ rfl rfl rfl rfl rfl rfl (by decide) (by decide) (by decide) (by decide) (by decide) (by decide) hE hJ_) hv_
 case z8_24 =>
  intro S_ a' w' hA_ hJ_ hS_ hafter_ hbef_ hK hg K_ Q_ hK_
  refine x_ok (φ := SP.isv (.bool (bif (bif (bif x15 then x17 else false) then x18 else false) then x23 else false))) (by exact ok_assign (ksv (j := 23) (hK 58 rfl) rfl rfl rfl)) fun v_ w2 hE hv_ => hK_ v_ w2 (T_ rfl rfl rfl rfl rfl rfl (by decide) (by decide) (by decide) (by decide) (by decide) (by decide) hE hJ_) hv_
 case zsk8 =>
  subst eJ_
  intro i_ o_ S_ a_ w_ ho_ hact_ hA_ hS_ hbef_ hJ_
  obtain ⟨O_, hB_, k0_, m6_, m17_, m20_, m21_, v0_0_, v0_1_, v0_2_⟩ := hJ_
  exact ⟨O_, hB_, k0_, fun h_ hG_ => by obtain ⟨h1_, h2_⟩ := skip_off (j := 6) hact_ hG_ h_; exact po_ (t := 41) (φ := fun u_ => (rSl r_aEn).v O_ w_ u_ x16) (m6_ h1_ hG_) (uniqDst_ne (j := 6) (by kernel_rfl) ho_ h2_), fun h_ hG_ => by obtain ⟨h1_, h2_⟩ := skip_off (j := 17) hact_ hG_ h_; exact po_ (t := 52) (φ := fun u_ => (rSl r_aEn).v O_ w_ u_ x19) (m17_ h1_ hG_) (uniqDst_ne (j := 17) (by kernel_rfl) ho_ h2_), fun h_ hG_ => by obtain ⟨h1_, h2_⟩ := skip_off (j := 20) hact_ hG_ h_; exact po_ (t := 55) (φ := fun u_ => (rSl r_aEn).v O_ w_ u_ x21) (m20_ h1_ hG_) (uniqDst_ne (j := 20) (by kernel_rfl) ho_ h2_), fun h_ hG_ => by obtain ⟨h1_, h2_⟩ := skip_off (j := 21) hact_ hG_ h_; exact po_ (t := 56) (φ := fun u_ => (rSl r_aEn).v O_ w_ u_ x22) (m21_ h1_ hG_) (uniqDst_ne (j := 21) (by kernel_rfl) ho_ h2_), fun hp_ hG_ hq_ => by obtain ⟨h1_, h2_⟩ := skip_off (j := 15) hact_ hG_ hp_; exact po_ (t := 50) (φ := fun u_ => OwnL 1 r_aEn 26 (Fr w0) O_ w_ (u_) []) (v0_0_ h1_ hG_ (addS_no hq_)) (uniqDst_ne (j := 15) (by kernel_rfl) ho_ h2_), fun hp_ hG_ hq_ => by obtain ⟨h1_, h2_⟩ := skip_off (j := 18) hact_ hG_ hp_; exact po_ (t := 53) (φ := fun u_ => OwnL 1 r_aEn 26 (Fr w0) O_ w_ (u_) x20) (v0_1_ h1_ hG_ (addS_no hq_)) (uniqDst_ne (j := 18) (by kernel_rfl) ho_ h2_), fun hp_ hG_ => by obtain ⟨h1_, h2_⟩ := skip_off (j := 21) hact_ hG_ hp_; exact (v0_2_ h1_ hG_)⟩
 case zst8 => subst eJ_; exact fun w1_ hE_ => ⟨O, (Base.step hB hE_ hO), (Keep.ext hE_), fun h_ => no_ft h_, fun h_ => no_ft h_, fun h_ => no_ft h_, fun h_ => no_ft h_, fun hp_ => no_ft hp_, fun hp_ => no_ft hp_, fun hp_ => no_ft hp_⟩
 case zok8 | zgd8 => kernel_rfl
 subst eJ_; clear T_
 intro a8 w8 hA HF hJ_
 obtain ⟨O24, hB_, k0_, m6_, m17_, m20_, m21_, v0_0_, v0_1_, v0_2_⟩ := hJ_
 replace q1 := kn (HF 1) rfl q1
 replace q2 := kn (HF 2) rfl q2
 replace q3 := kn (HF 3) rfl q3
 replace q4 := kn (HF 4) rfl q4
 have q5' := ksv (j := 24) (HF 5) rfl rfl rfl
 have q5 := q5'; clear q5'
 clear HF
 replace f2 := GR.v_mono _ f2 k0_
 replace f14 := GR.v_mono _ f14 k0_
 clear hB; have hB := hB_; clear hB_
 clear k0_ m6_ m17_ m20_ m21_ v0_0_ v0_1_ v0_2_
 obtain ⟨x25, hx_, h⟩ := Comp.run_bind h; replace hx_ := Comp.run_pure hx_; rw [hx_] at q5; clear hx_
 refine nx_then (wp_seq ?_)
 obtain ⟨x26, hx26, h⟩ := Comp.run_bind h
 obtain ⟨x27, hx27, h⟩ := Comp.run_bind h
 obtain ⟨x28, hx28, h⟩ := Comp.run_bind h
 obtain ⟨x29, hx29, h⟩ := Comp.run_bind h
 obtain ⟨J_, eJ_⟩ : ∃ J_ : (Nat → Bool) → Act → World → Prop, J_ = (fun S_ a_ w_ => ∃ O_ : Tags, Base (Fr w0) O w0 O_ w_ ∧ Keep 0 O24 w8 O_ w_ ∧ (S_ 1 = true → PtrZ r_aEn O_ w_ (a_.get 60) x26) ∧ (S_ 4 = true → PtrZ r_aEn O_ w_ (a_.get 63) x27) ∧ (S_ 7 = true → PtrZ r_aEn O_ w_ (a_.get 66) x28) ∧ (S_ 10 = true → PtrZ r_aEn O_ w_ (a_.get 69) x29) ∧ (S_ 12 = true → S_ 16 = false → OwnBP 2 (Fr w0) O_ w_ (a_.get 6) #[.int .i64 0, .int .i64 0, .int .i64 0, .int .i64 0, .int .i64 0, .string (str []), .string (str []), .string (str []), .string (str [])] 26) ∧ (S_ 16 = true → OwnBP 2 (Fr w0) O_ w_ (a_.get 6) #[.int .i64 x26.Seq, .int .i64 x26.Shop, .int .i64 x26.Kind, .int .i64 x26.Day, .int .i64 x26.N, .string (str x26.Before), .string (str x26.After), .string (str x26.Prev), .string (str x26.Mark)] 26) ∧ (S_ 13 = true → S_ 17 = false → OwnBP 3 (Fr w0) O_ w_ (a_.get 7) #[.int .i64 0, .int .i64 0, .int .i64 0, .int .i64 0, .int .i64 0, .string (str []), .string (str []), .string (str []), .string (str [])] 26) ∧ (S_ 17 = true → OwnBP 3 (Fr w0) O_ w_ (a_.get 7) #[.int .i64 x27.Seq, .int .i64 x27.Shop, .int .i64 x27.Kind, .int .i64 x27.Day, .int .i64 x27.N, .string (str x27.Before), .string (str x27.After), .string (str x27.Prev), .string (str x27.Mark)] 26) ∧ (S_ 14 = true → S_ 18 = false → OwnBP 4 (Fr w0) O_ w_ (a_.get 8) #[.int .i64 0, .int .i64 0, .int .i64 0, .int .i64 0, .int .i64 0, .string (str []), .string (str []), .string (str []), .string (str [])] 26) ∧ (S_ 18 = true → OwnBP 4 (Fr w0) O_ w_ (a_.get 8) #[.int .i64 x28.Seq, .int .i64 x28.Shop, .int .i64 x28.Kind, .int .i64 x28.Day, .int .i64 x28.N, .string (str x28.Before), .string (str x28.After), .string (str x28.Prev), .string (str x28.Mark)] 26) ∧ (S_ 15 = true → S_ 19 = false → OwnBP 5 (Fr w0) O_ w_ (a_.get 9) #[.int .i64 0, .int .i64 0, .int .i64 0, .int .i64 0, .int .i64 0, .string (str []), .string (str []), .string (str []), .string (str [])] 26) ∧ (S_ 19 = true → OwnBP 5 (Fr w0) O_ w_ (a_.get 9) #[.int .i64 x29.Seq, .int .i64 x29.Shop, .int .i64 x29.Kind, .int .i64 x29.Day, .int .i64 x29.N, .string (str x29.Before), .string (str x29.After), .string (str x29.Prev), .string (str x29.Mark)] 26)) := ⟨_, rfl⟩
 have T_ : ∀ {i_ : Nat} {d_ : Option Tmp} {v_ : Value} {S_ a' w' w2}, Nat.beq 1 i_ = false → Nat.beq 4 i_ = false → Nat.beq 7 i_ = false → Nat.beq 10 i_ = false → Nat.beq 12 i_ = false → Nat.beq 13 i_ = false → Nat.beq 14 i_ = false → Nat.beq 15 i_ = false → Nat.beq 16 i_ = false → Nat.beq 17 i_ = false → Nat.beq 18 i_ = false → Nat.beq 19 i_ = false → d_ ≠ some 6 → d_ ≠ some 7 → d_ ≠ some 8 → d_ ≠ some 9 → d_ ≠ some 60 → d_ ≠ some 63 → d_ ≠ some 66 → d_ ≠ some 69 → Ext w' w2 → J_ S_ a' w' → J_ (addS S_ i_) (a'.put d_ v_) w2 := by
  subst eJ_; intro i_ d_ v_ S_ a' w' w2 n1_ n4_ n7_ n10_ n12_ n13_ n14_ n15_ n16_ n17_ n18_ n19_ s6_ s7_ s8_ s9_ s60_ s63_ s66_ s69_ hE hJ_
  obtain ⟨O_, hB_, k0_, m1_, m4_, m7_, m10_, v0_0_, v0_1_, v1_0_, v1_1_, v2_0_, v2_1_, v3_0_, v3_1_⟩ := hJ_
  exact ⟨O_, (Base.step hB_ hE hO), (k0_.trans (KX.keep (KX.ext hE) (by decide))), fun h_ => po_ (d := d_) (t := 60) (φ := fun u_ => PtrZ r_aEn O_ w2 u_ x26) ((PtrZ.keep (m1_ (addS_off n1_ h_)) (KX.keep (KX.ext hE) (by decide)) (by decide) fit_aEn)) s60_, fun h_ => po_ (d := d_) (t := 63) (φ := fun u_ => PtrZ r_aEn O_ w2 u_ x27) ((PtrZ.keep (m4_ (addS_off n4_ h_)) (KX.keep (KX.ext hE) (by decide)) (by decide) fit_aEn)) s63_, fun h_ => po_ (d := d_) (t := 66) (φ := fun u_ => PtrZ r_aEn O_ w2 u_ x28) ((PtrZ.keep (m7_ (addS_off n7_ h_)) (KX.keep (KX.ext hE) (by decide)) (by decide) fit_aEn)) s66_, fun h_ => po_ (d := d_) (t := 69) (φ := fun u_ => PtrZ r_aEn O_ w2 u_ x29) ((PtrZ.keep (m10_ (addS_off n10_ h_)) (KX.keep (KX.ext hE) (by decide)) (by decide) fit_aEn)) s69_, fun hp_ hq_ => po_ (d := d_) (t := 6) (φ := fun u_ => OwnBP 2 (Fr w0) O_ w2 (u_) #[.int .i64 0, .int .i64 0, .int .i64 0, .int .i64 0, .int .i64 0, .string (str []), .string (str []), .string (str []), .string (str [])] 26) (OwnBP.kx (v0_0_ (addS_off n12_ hp_) (addS_no hq_)) (KX.ext hE) (by decide)) s6_, fun hp_ => po_ (d := d_) (t := 6) (φ := fun u_ => OwnBP 2 (Fr w0) O_ w2 (u_) #[.int .i64 x26.Seq, .int .i64 x26.Shop, .int .i64 x26.Kind, .int .i64 x26.Day, .int .i64 x26.N, .string (str x26.Before), .string (str x26.After), .string (str x26.Prev), .string (str x26.Mark)] 26) (OwnBP.kx (v0_1_ (addS_off n16_ hp_)) (KX.ext hE) (by decide)) s6_, fun hp_ hq_ => po_ (d := d_) (t := 7) (φ := fun u_ => OwnBP 3 (Fr w0) O_ w2 (u_) #[.int .i64 0, .int .i64 0, .int .i64 0, .int .i64 0, .int .i64 0, .string (str []), .string (str []), .string (str []), .string (str [])] 26) (OwnBP.kx (v1_0_ (addS_off n13_ hp_) (addS_no hq_)) (KX.ext hE) (by decide)) s7_, fun hp_ => po_ (d := d_) (t := 7) (φ := fun u_ => OwnBP 3 (Fr w0) O_ w2 (u_) #[.int .i64 x27.Seq, .int .i64 x27.Shop, .int .i64 x27.Kind, .int .i64 x27.Day, .int .i64 x27.N, .string (str x27.Before), .string (str x27.After), .string (str x27.Prev), .string (str x27.Mark)] 26) (OwnBP.kx (v1_1_ (addS_off n17_ hp_)) (KX.ext hE) (by decide)) s7_, fun hp_ hq_ => po_ (d := d_) (t := 8) (φ := fun u_ => OwnBP 4 (Fr w0) O_ w2 (u_) #[.int .i64 0, .int .i64 0, .int .i64 0, .int .i64 0, .int .i64 0, .string (str []), .string (str []), .string (str []), .string (str [])] 26) (OwnBP.kx (v2_0_ (addS_off n14_ hp_) (addS_no hq_)) (KX.ext hE) (by decide)) s8_, fun hp_ => po_ (d := d_) (t := 8) (φ := fun u_ => OwnBP 4 (Fr w0) O_ w2 (u_) #[.int .i64 x28.Seq, .int .i64 x28.Shop, .int .i64 x28.Kind, .int .i64 x28.Day, .int .i64 x28.N, .string (str x28.Before), .string (str x28.After), .string (str x28.Prev), .string (str x28.Mark)] 26) (OwnBP.kx (v2_1_ (addS_off n18_ hp_)) (KX.ext hE) (by decide)) s8_, fun hp_ hq_ => po_ (d := d_) (t := 9) (φ := fun u_ => OwnBP 5 (Fr w0) O_ w2 (u_) #[.int .i64 0, .int .i64 0, .int .i64 0, .int .i64 0, .int .i64 0, .string (str []), .string (str []), .string (str []), .string (str [])] 26) (OwnBP.kx (v3_0_ (addS_off n15_ hp_) (addS_no hq_)) (KX.ext hE) (by decide)) s9_, fun hp_ => po_ (d := d_) (t := 9) (φ := fun u_ => OwnBP 5 (Fr w0) O_ w2 (u_) #[.int .i64 x29.Seq, .int .i64 x29.Shop, .int .i64 x29.Kind, .int .i64 x29.Day, .int .i64 x29.N, .string (str x29.Before), .string (str x29.After), .string (str x29.Prev), .string (str x29.Mark)] 26) (OwnBP.kx (v3_1_ (addS_off n19_ hp_)) (KX.ext hE) (by decide)) s9_⟩
 refine' regionX (draw := true) J_ [SP.isv (u13), SP.tt, SP.isv (.agg #[.int .i64 x26.Seq, .int .i64 x26.Shop, .int .i64 x26.Kind, .int .i64 x26.Day, .int .i64 x26.N, .string (str x26.Before), .string (str x26.After), .string (str x26.Prev), .string (str x26.Mark)]), SP.isv (u13), SP.tt, SP.isv (.agg #[.int .i64 x27.Seq, .int .i64 x27.Shop, .int .i64 x27.Kind, .int .i64 x27.Day, .int .i64 x27.N, .string (str x27.Before), .string (str x27.After), .string (str x27.Prev), .string (str x27.Mark)]), SP.isv (u13), SP.tt, SP.isv (.agg #[.int .i64 x28.Seq, .int .i64 x28.Shop, .int .i64 x28.Kind, .int .i64 x28.Day, .int .i64 x28.N, .string (str x28.Before), .string (str x28.After), .string (str x28.Prev), .string (str x28.Mark)]), SP.isv (u13), SP.tt, SP.isv (.agg #[.int .i64 x29.Seq, .int .i64 x29.Shop, .int .i64 x29.Kind, .int .i64 x29.Day, .int .i64 x29.N, .string (str x29.Before), .string (str x29.After), .string (str x29.Prev), .string (str x29.Mark)]), SP.tt, SP.tt, SP.tt, SP.tt, SP.tt, SP.tt, SP.tt, SP.tt] mixed hA (.cons (stE_isv _) (.cons (stE_tt _) (.cons (stE_isv _) (.cons (stE_isv _) (.cons (stE_tt _) (.cons (stE_isv _) (.cons (stE_isv _) (.cons (stE_tt _) (.cons (stE_isv _) (.cons (stE_isv _) (.cons (stE_tt _) (.cons (stE_isv _) (.cons (stE_tt _) (.cons (stE_tt _) (.cons (stE_tt _) (.cons (stE_tt _) (.cons (stE_tt _) (.cons (stE_tt _) (.cons (stE_tt _) (.cons (stE_tt _) .nil)))))))))))))))))))) (.cons ?z9_0 (.cons ?z9_1 (.cons ?z9_2 (.cons ?z9_3 (.cons ?z9_4 (.cons ?z9_5 (.cons ?z9_6 (.cons ?z9_7 (.cons ?z9_8 (.cons ?z9_9 (.cons ?z9_10 (.cons ?z9_11 (.cons ?z9_12 (.cons ?z9_13 (.cons ?z9_14 (.cons ?z9_15 (.cons ?z9_16 (.cons ?z9_17 (.cons ?z9_18 (.cons ?z9_19 .nil)))))))))))))))))))) ?zsk9 ?zst9 ?zok9 ?zgd9 ?zk9
 case z9_0 =>
  intro S_ a' w' hA_ hJ_ hS_ hafter_ hbef_ hK hg K_ Q_ hK_
  refine x_ok (φ := SP.isv (u13)) (by exact ok_move (kn (hK 4 rfl) rfl q4)) fun v_ w2 hE hv_ => hK_ v_ w2 (T_ rfl rfl rfl rfl rfl rfl rfl rfl rfl rfl rfl rfl (by decide) (by decide) (by decide) (by decide) (by decide) (by decide) (by decide) (by decide) hE hJ_) hv_
 case z9_1 =>
  intro S_ a' w' hA_ hJ_ hS_ hafter_ hbef_ hK hg K_ Q_ hK_
  subst eJ_
  obtain ⟨O_, hB_, k0_, m1_, m4_, m7_, m10_, v0_0_, v0_1_, v1_0_, v1_1_, v2_0_, v2_1_, v3_0_, v3_1_⟩ := hJ_
  refine x_ok (φ := SP.ptrz r_aEn O_ x26 (of_decide_eq_true rfl) fit_aEn) (by exact okl_idxZ (r := r_aEn) (by decide) fit_aEn ty29 ty26 rfl (ksv (j := 0) (hK 59 rfl) rfl rfl rfl) (GR.v_mono _ f14 k0_) rfl hx26) fun v_ w2 hE hv_ => ?_
  have hB2_ := Base.step hB_ hE hO
  exact hK_ v_ w2 ⟨O_, hB2_, (k0_.trans (KX.keep (KX.ext hE) (by decide))), fun _ => put_me (φ := fun u_ => PtrZ r_aEn O_ w2 u_ x26) hA_ (by decide) hv_, fun h_ => po_ (d := some 60) (t := 63) (φ := fun u_ => PtrZ r_aEn O_ w2 u_ x27) ((PtrZ.keep (m4_ (addS_off rfl h_)) (KX.keep (KX.ext hE) (by decide)) (by decide) fit_aEn)) (by decide), fun h_ => po_ (d := some 60) (t := 66) (φ := fun u_ => PtrZ r_aEn O_ w2 u_ x28) ((PtrZ.keep (m7_ (addS_off rfl h_)) (KX.keep (KX.ext hE) (by decide)) (by decide) fit_aEn)) (by decide), fun h_ => po_ (d := some 60) (t := 69) (φ := fun u_ => PtrZ r_aEn O_ w2 u_ x29) ((PtrZ.keep (m10_ (addS_off rfl h_)) (KX.keep (KX.ext hE) (by decide)) (by decide) fit_aEn)) (by decide), fun hp_ hq_ => po_ (d := some 60) (t := 6) (φ := fun u_ => OwnBP 2 (Fr w0) O_ w2 (u_) #[.int .i64 0, .int .i64 0, .int .i64 0, .int .i64 0, .int .i64 0, .string (str []), .string (str []), .string (str []), .string (str [])] 26) (OwnBP.kx (v0_0_ (addS_off rfl hp_) (addS_no hq_)) (KX.ext hE) (by decide)) (by decide), fun hp_ => po_ (d := some 60) (t := 6) (φ := fun u_ => OwnBP 2 (Fr w0) O_ w2 (u_) #[.int .i64 x26.Seq, .int .i64 x26.Shop, .int .i64 x26.Kind, .int .i64 x26.Day, .int .i64 x26.N, .string (str x26.Before), .string (str x26.After), .string (str x26.Prev), .string (str x26.Mark)] 26) (OwnBP.kx (v0_1_ (addS_off rfl hp_)) (KX.ext hE) (by decide)) (by decide), fun hp_ hq_ => po_ (d := some 60) (t := 7) (φ := fun u_ => OwnBP 3 (Fr w0) O_ w2 (u_) #[.int .i64 0, .int .i64 0, .int .i64 0, .int .i64 0, .int .i64 0, .string (str []), .string (str []), .string (str []), .string (str [])] 26) (OwnBP.kx (v1_0_ (addS_off rfl hp_) (addS_no hq_)) (KX.ext hE) (by decide)) (by decide), fun hp_ => po_ (d := some 60) (t := 7) (φ := fun u_ => OwnBP 3 (Fr w0) O_ w2 (u_) #[.int .i64 x27.Seq, .int .i64 x27.Shop, .int .i64 x27.Kind, .int .i64 x27.Day, .int .i64 x27.N, .string (str x27.Before), .string (str x27.After), .string (str x27.Prev), .string (str x27.Mark)] 26) (OwnBP.kx (v1_1_ (addS_off rfl hp_)) (KX.ext hE) (by decide)) (by decide), fun hp_ hq_ => po_ (d := some 60) (t := 8) (φ := fun u_ => OwnBP 4 (Fr w0) O_ w2 (u_) #[.int .i64 0, .int .i64 0, .int .i64 0, .int .i64 0, .int .i64 0, .string (str []), .string (str []), .string (str []), .string (str [])] 26) (OwnBP.kx (v2_0_ (addS_off rfl hp_) (addS_no hq_)) (KX.ext hE) (by decide)) (by decide), fun hp_ => po_ (d := some 60) (t := 8) (φ := fun u_ => OwnBP 4 (Fr w0) O_ w2 (u_) #[.int .i64 x28.Seq, .int .i64 x28.Shop, .int .i64 x28.Kind, .int .i64 x28.Day, .int .i64 x28.N, .string (str x28.Before), .string (str x28.After), .string (str x28.Prev), .string (str x28.Mark)] 26) (OwnBP.kx (v2_1_ (addS_off rfl hp_)) (KX.ext hE) (by decide)) (by decide), fun hp_ hq_ => po_ (d := some 60) (t := 9) (φ := fun u_ => OwnBP 5 (Fr w0) O_ w2 (u_) #[.int .i64 0, .int .i64 0, .int .i64 0, .int .i64 0, .int .i64 0, .string (str []), .string (str []), .string (str []), .string (str [])] 26) (OwnBP.kx (v3_0_ (addS_off rfl hp_) (addS_no hq_)) (KX.ext hE) (by decide)) (by decide), fun hp_ => po_ (d := some 60) (t := 9) (φ := fun u_ => OwnBP 5 (Fr w0) O_ w2 (u_) #[.int .i64 x29.Seq, .int .i64 x29.Shop, .int .i64 x29.Kind, .int .i64 x29.Day, .int .i64 x29.N, .string (str x29.Before), .string (str x29.After), .string (str x29.Prev), .string (str x29.Mark)] 26) (OwnBP.kx (v3_1_ (addS_off rfl hp_)) (KX.ext hE) (by decide)) (by decide)⟩ trivial
 case z9_2 =>
  intro S_ a' w' hA_ hJ_ hS_ hafter_ hbef_ hK hg K_ Q_ hK_
  have hJ2_ := hJ_; rw [eJ_] at hJ2_; obtain ⟨O_, hB_, k0_, m1_, m4_, m7_, m10_, v0_0_, v0_1_, v1_0_, v1_1_, v2_0_, v2_1_, v3_0_, v3_1_⟩ := hJ2_
  refine x_ok (φ := SP.isv (.agg #[.int .i64 x26.Seq, .int .i64 x26.Shop, .int .i64 x26.Kind, .int .i64 x26.Day, .int .i64 x26.N, .string (str x26.Before), .string (str x26.After), .string (str x26.Prev), .string (str x26.Mark)])) (by exact okl_ldr r_aEn fit_aEn ty26 rfl rfl rfl (PtrZ.ptr (m1_ (addS_off rfl (hbef_ 1 (by kernel_rfl))))) (fun _ _ _ h => rC_v.1 h)) fun v_ w2 hE hv_ => hK_ v_ w2 (T_ rfl rfl rfl rfl rfl rfl rfl rfl rfl rfl rfl rfl (by decide) (by decide) (by decide) (by decide) (by decide) (by decide) (by decide) (by decide) hE hJ_) hv_
 case z9_3 =>
  intro S_ a' w' hA_ hJ_ hS_ hafter_ hbef_ hK hg K_ Q_ hK_
  refine x_ok (φ := SP.isv (u13)) (by exact ok_move (kn (hK 4 rfl) rfl q4)) fun v_ w2 hE hv_ => hK_ v_ w2 (T_ rfl rfl rfl rfl rfl rfl rfl rfl rfl rfl rfl rfl (by decide) (by decide) (by decide) (by decide) (by decide) (by decide) (by decide) (by decide) hE hJ_) hv_
 case z9_4 =>
  intro S_ a' w' hA_ hJ_ hS_ hafter_ hbef_ hK hg K_ Q_ hK_
  subst eJ_
  obtain ⟨O_, hB_, k0_, m1_, m4_, m7_, m10_, v0_0_, v0_1_, v1_0_, v1_1_, v2_0_, v2_1_, v3_0_, v3_1_⟩ := hJ_
  refine x_ok (φ := SP.ptrz r_aEn O_ x27 (of_decide_eq_true rfl) fit_aEn) (by exact okl_idxZ (r := r_aEn) (by decide) fit_aEn ty29 ty26 rfl (ksv (j := 3) (hK 62 rfl) rfl rfl rfl) (GR.v_mono _ f14 k0_) rfl hx27) fun v_ w2 hE hv_ => ?_
  have hB2_ := Base.step hB_ hE hO
  exact hK_ v_ w2 ⟨O_, hB2_, (k0_.trans (KX.keep (KX.ext hE) (by decide))), fun h_ => po_ (d := some 63) (t := 60) (φ := fun u_ => PtrZ r_aEn O_ w2 u_ x26) ((PtrZ.keep (m1_ (addS_off rfl h_)) (KX.keep (KX.ext hE) (by decide)) (by decide) fit_aEn)) (by decide), fun _ => put_me (φ := fun u_ => PtrZ r_aEn O_ w2 u_ x27) hA_ (by decide) hv_, fun h_ => po_ (d := some 63) (t := 66) (φ := fun u_ => PtrZ r_aEn O_ w2 u_ x28) ((PtrZ.keep (m7_ (addS_off rfl h_)) (KX.keep (KX.ext hE) (by decide)) (by decide) fit_aEn)) (by decide), fun h_ => po_ (d := some 63) (t := 69) (φ := fun u_ => PtrZ r_aEn O_ w2 u_ x29) ((PtrZ.keep (m10_ (addS_off rfl h_)) (KX.keep (KX.ext hE) (by decide)) (by decide) fit_aEn)) (by decide), fun hp_ hq_ => po_ (d := some 63) (t := 6) (φ := fun u_ => OwnBP 2 (Fr w0) O_ w2 (u_) #[.int .i64 0, .int .i64 0, .int .i64 0, .int .i64 0, .int .i64 0, .string (str []), .string (str []), .string (str []), .string (str [])] 26) (OwnBP.kx (v0_0_ (addS_off rfl hp_) (addS_no hq_)) (KX.ext hE) (by decide)) (by decide), fun hp_ => po_ (d := some 63) (t := 6) (φ := fun u_ => OwnBP 2 (Fr w0) O_ w2 (u_) #[.int .i64 x26.Seq, .int .i64 x26.Shop, .int .i64 x26.Kind, .int .i64 x26.Day, .int .i64 x26.N, .string (str x26.Before), .string (str x26.After), .string (str x26.Prev), .string (str x26.Mark)] 26) (OwnBP.kx (v0_1_ (addS_off rfl hp_)) (KX.ext hE) (by decide)) (by decide), fun hp_ hq_ => po_ (d := some 63) (t := 7) (φ := fun u_ => OwnBP 3 (Fr w0) O_ w2 (u_) #[.int .i64 0, .int .i64 0, .int .i64 0, .int .i64 0, .int .i64 0, .string (str []), .string (str []), .string (str []), .string (str [])] 26) (OwnBP.kx (v1_0_ (addS_off rfl hp_) (addS_no hq_)) (KX.ext hE) (by decide)) (by decide), fun hp_ => po_ (d := some 63) (t := 7) (φ := fun u_ => OwnBP 3 (Fr w0) O_ w2 (u_) #[.int .i64 x27.Seq, .int .i64 x27.Shop, .int .i64 x27.Kind, .int .i64 x27.Day, .int .i64 x27.N, .string (str x27.Before), .string (str x27.After), .string (str x27.Prev), .string (str x27.Mark)] 26) (OwnBP.kx (v1_1_ (addS_off rfl hp_)) (KX.ext hE) (by decide)) (by decide), fun hp_ hq_ => po_ (d := some 63) (t := 8) (φ := fun u_ => OwnBP 4 (Fr w0) O_ w2 (u_) #[.int .i64 0, .int .i64 0, .int .i64 0, .int .i64 0, .int .i64 0, .string (str []), .string (str []), .string (str []), .string (str [])] 26) (OwnBP.kx (v2_0_ (addS_off rfl hp_) (addS_no hq_)) (KX.ext hE) (by decide)) (by decide), fun hp_ => po_ (d := some 63) (t := 8) (φ := fun u_ => OwnBP 4 (Fr w0) O_ w2 (u_) #[.int .i64 x28.Seq, .int .i64 x28.Shop, .int .i64 x28.Kind, .int .i64 x28.Day, .int .i64 x28.N, .string (str x28.Before), .string (str x28.After), .string (str x28.Prev), .string (str x28.Mark)] 26) (OwnBP.kx (v2_1_ (addS_off rfl hp_)) (KX.ext hE) (by decide)) (by decide), fun hp_ hq_ => po_ (d := some 63) (t := 9) (φ := fun u_ => OwnBP 5 (Fr w0) O_ w2 (u_) #[.int .i64 0, .int .i64 0, .int .i64 0, .int .i64 0, .int .i64 0, .string (str []), .string (str []), .string (str []), .string (str [])] 26) (OwnBP.kx (v3_0_ (addS_off rfl hp_) (addS_no hq_)) (KX.ext hE) (by decide)) (by decide), fun hp_ => po_ (d := some 63) (t := 9) (φ := fun u_ => OwnBP 5 (Fr w0) O_ w2 (u_) #[.int .i64 x29.Seq, .int .i64 x29.Shop, .int .i64 x29.Kind, .int .i64 x29.Day, .int .i64 x29.N, .string (str x29.Before), .string (str x29.After), .string (str x29.Prev), .string (str x29.Mark)] 26) (OwnBP.kx (v3_1_ (addS_off rfl hp_)) (KX.ext hE) (by decide)) (by decide)⟩ trivial
 case z9_5 =>
  intro S_ a' w' hA_ hJ_ hS_ hafter_ hbef_ hK hg K_ Q_ hK_
  have hJ2_ := hJ_; rw [eJ_] at hJ2_; obtain ⟨O_, hB_, k0_, m1_, m4_, m7_, m10_, v0_0_, v0_1_, v1_0_, v1_1_, v2_0_, v2_1_, v3_0_, v3_1_⟩ := hJ2_
  refine x_ok (φ := SP.isv (.agg #[.int .i64 x27.Seq, .int .i64 x27.Shop, .int .i64 x27.Kind, .int .i64 x27.Day, .int .i64 x27.N, .string (str x27.Before), .string (str x27.After), .string (str x27.Prev), .string (str x27.Mark)])) (by exact okl_ldr r_aEn fit_aEn ty26 rfl rfl rfl (PtrZ.ptr (m4_ (addS_off rfl (hbef_ 4 (by kernel_rfl))))) (fun _ _ _ h => rC_v.1 h)) fun v_ w2 hE hv_ => hK_ v_ w2 (T_ rfl rfl rfl rfl rfl rfl rfl rfl rfl rfl rfl rfl (by decide) (by decide) (by decide) (by decide) (by decide) (by decide) (by decide) (by decide) hE hJ_) hv_
 case z9_6 =>
  intro S_ a' w' hA_ hJ_ hS_ hafter_ hbef_ hK hg K_ Q_ hK_
  refine x_ok (φ := SP.isv (u13)) (by exact ok_move (kn (hK 4 rfl) rfl q4)) fun v_ w2 hE hv_ => hK_ v_ w2 (T_ rfl rfl rfl rfl rfl rfl rfl rfl rfl rfl rfl rfl (by decide) (by decide) (by decide) (by decide) (by decide) (by decide) (by decide) (by decide) hE hJ_) hv_
 case z9_7 =>
  intro S_ a' w' hA_ hJ_ hS_ hafter_ hbef_ hK hg K_ Q_ hK_
  subst eJ_
  obtain ⟨O_, hB_, k0_, m1_, m4_, m7_, m10_, v0_0_, v0_1_, v1_0_, v1_1_, v2_0_, v2_1_, v3_0_, v3_1_⟩ := hJ_
  refine x_ok (φ := SP.ptrz r_aEn O_ x28 (of_decide_eq_true rfl) fit_aEn) (by exact okl_idxZ (r := r_aEn) (by decide) fit_aEn ty29 ty26 rfl (ksv (j := 6) (hK 65 rfl) rfl rfl rfl) (GR.v_mono _ f14 k0_) rfl hx28) fun v_ w2 hE hv_ => ?_
  have hB2_ := Base.step hB_ hE hO
  exact hK_ v_ w2 ⟨O_, hB2_, (k0_.trans (KX.keep (KX.ext hE) (by decide))), fun h_ => po_ (d := some 66) (t := 60) (φ := fun u_ => PtrZ r_aEn O_ w2 u_ x26) ((PtrZ.keep (m1_ (addS_off rfl h_)) (KX.keep (KX.ext hE) (by decide)) (by decide) fit_aEn)) (by decide), fun h_ => po_ (d := some 66) (t := 63) (φ := fun u_ => PtrZ r_aEn O_ w2 u_ x27) ((PtrZ.keep (m4_ (addS_off rfl h_)) (KX.keep (KX.ext hE) (by decide)) (by decide) fit_aEn)) (by decide), fun _ => put_me (φ := fun u_ => PtrZ r_aEn O_ w2 u_ x28) hA_ (by decide) hv_, fun h_ => po_ (d := some 66) (t := 69) (φ := fun u_ => PtrZ r_aEn O_ w2 u_ x29) ((PtrZ.keep (m10_ (addS_off rfl h_)) (KX.keep (KX.ext hE) (by decide)) (by decide) fit_aEn)) (by decide), fun hp_ hq_ => po_ (d := some 66) (t := 6) (φ := fun u_ => OwnBP 2 (Fr w0) O_ w2 (u_) #[.int .i64 0, .int .i64 0, .int .i64 0, .int .i64 0, .int .i64 0, .string (str []), .string (str []), .string (str []), .string (str [])] 26) (OwnBP.kx (v0_0_ (addS_off rfl hp_) (addS_no hq_)) (KX.ext hE) (by decide)) (by decide), fun hp_ => po_ (d := some 66) (t := 6) (φ := fun u_ => OwnBP 2 (Fr w0) O_ w2 (u_) #[.int .i64 x26.Seq, .int .i64 x26.Shop, .int .i64 x26.Kind, .int .i64 x26.Day, .int .i64 x26.N, .string (str x26.Before), .string (str x26.After), .string (str x26.Prev), .string (str x26.Mark)] 26) (OwnBP.kx (v0_1_ (addS_off rfl hp_)) (KX.ext hE) (by decide)) (by decide), fun hp_ hq_ => po_ (d := some 66) (t := 7) (φ := fun u_ => OwnBP 3 (Fr w0) O_ w2 (u_) #[.int .i64 0, .int .i64 0, .int .i64 0, .int .i64 0, .int .i64 0, .string (str []), .string (str []), .string (str []), .string (str [])] 26) (OwnBP.kx (v1_0_ (addS_off rfl hp_) (addS_no hq_)) (KX.ext hE) (by decide)) (by decide), fun hp_ => po_ (d := some 66) (t := 7) (φ := fun u_ => OwnBP 3 (Fr w0) O_ w2 (u_) #[.int .i64 x27.Seq, .int .i64 x27.Shop, .int .i64 x27.Kind, .int .i64 x27.Day, .int .i64 x27.N, .string (str x27.Before), .string (str x27.After), .string (str x27.Prev), .string (str x27.Mark)] 26) (OwnBP.kx (v1_1_ (addS_off rfl hp_)) (KX.ext hE) (by decide)) (by decide), fun hp_ hq_ => po_ (d := some 66) (t := 8) (φ := fun u_ => OwnBP 4 (Fr w0) O_ w2 (u_) #[.int .i64 0, .int .i64 0, .int .i64 0, .int .i64 0, .int .i64 0, .string (str []), .string (str []), .string (str []), .string (str [])] 26) (OwnBP.kx (v2_0_ (addS_off rfl hp_) (addS_no hq_)) (KX.ext hE) (by decide)) (by decide), fun hp_ => po_ (d := some 66) (t := 8) (φ := fun u_ => OwnBP 4 (Fr w0) O_ w2 (u_) #[.int .i64 x28.Seq, .int .i64 x28.Shop, .int .i64 x28.Kind, .int .i64 x28.Day, .int .i64 x28.N, .string (str x28.Before), .string (str x28.After), .string (str x28.Prev), .string (str x28.Mark)] 26) (OwnBP.kx (v2_1_ (addS_off rfl hp_)) (KX.ext hE) (by decide)) (by decide), fun hp_ hq_ => po_ (d := some 66) (t := 9) (φ := fun u_ => OwnBP 5 (Fr w0) O_ w2 (u_) #[.int .i64 0, .int .i64 0, .int .i64 0, .int .i64 0, .int .i64 0, .string (str []), .string (str []), .string (str []), .string (str [])] 26) (OwnBP.kx (v3_0_ (addS_off rfl hp_) (addS_no hq_)) (KX.ext hE) (by decide)) (by decide), fun hp_ => po_ (d := some 66) (t := 9) (φ := fun u_ => OwnBP 5 (Fr w0) O_ w2 (u_) #[.int .i64 x29.Seq, .int .i64 x29.Shop, .int .i64 x29.Kind, .int .i64 x29.Day, .int .i64 x29.N, .string (str x29.Before), .string (str x29.After), .string (str x29.Prev), .string (str x29.Mark)] 26) (OwnBP.kx (v3_1_ (addS_off rfl hp_)) (KX.ext hE) (by decide)) (by decide)⟩ trivial
 case z9_8 =>
  intro S_ a' w' hA_ hJ_ hS_ hafter_ hbef_ hK hg K_ Q_ hK_
  have hJ2_ := hJ_; rw [eJ_] at hJ2_; obtain ⟨O_, hB_, k0_, m1_, m4_, m7_, m10_, v0_0_, v0_1_, v1_0_, v1_1_, v2_0_, v2_1_, v3_0_, v3_1_⟩ := hJ2_
  refine x_ok (φ := SP.isv (.agg #[.int .i64 x28.Seq, .int .i64 x28.Shop, .int .i64 x28.Kind, .int .i64 x28.Day, .int .i64 x28.N, .string (str x28.Before), .string (str x28.After), .string (str x28.Prev), .string (str x28.Mark)])) (by exact okl_ldr r_aEn fit_aEn ty26 rfl rfl rfl (PtrZ.ptr (m7_ (addS_off rfl (hbef_ 7 (by kernel_rfl))))) (fun _ _ _ h => rC_v.1 h)) fun v_ w2 hE hv_ => hK_ v_ w2 (T_ rfl rfl rfl rfl rfl rfl rfl rfl rfl rfl rfl rfl (by decide) (by decide) (by decide) (by decide) (by decide) (by decide) (by decide) (by decide) hE hJ_) hv_
 case z9_9 =>
  intro S_ a' w' hA_ hJ_ hS_ hafter_ hbef_ hK hg K_ Q_ hK_
  refine x_ok (φ := SP.isv (u13)) (by exact ok_move (kn (hK 4 rfl) rfl q4)) fun v_ w2 hE hv_ => hK_ v_ w2 (T_ rfl rfl rfl rfl rfl rfl rfl rfl rfl rfl rfl rfl (by decide) (by decide) (by decide) (by decide) (by decide) (by decide) (by decide) (by decide) hE hJ_) hv_
 case z9_10 =>
  intro S_ a' w' hA_ hJ_ hS_ hafter_ hbef_ hK hg K_ Q_ hK_
  subst eJ_
  obtain ⟨O_, hB_, k0_, m1_, m4_, m7_, m10_, v0_0_, v0_1_, v1_0_, v1_1_, v2_0_, v2_1_, v3_0_, v3_1_⟩ := hJ_
  refine x_ok (φ := SP.ptrz r_aEn O_ x29 (of_decide_eq_true rfl) fit_aEn) (by exact okl_idxZ (r := r_aEn) (by decide) fit_aEn ty29 ty26 rfl (ksv (j := 9) (hK 68 rfl) rfl rfl rfl) (GR.v_mono _ f14 k0_) rfl hx29) fun v_ w2 hE hv_ => ?_
  have hB2_ := Base.step hB_ hE hO
  exact hK_ v_ w2 ⟨O_, hB2_, (k0_.trans (KX.keep (KX.ext hE) (by decide))), fun h_ => po_ (d := some 69) (t := 60) (φ := fun u_ => PtrZ r_aEn O_ w2 u_ x26) ((PtrZ.keep (m1_ (addS_off rfl h_)) (KX.keep (KX.ext hE) (by decide)) (by decide) fit_aEn)) (by decide), fun h_ => po_ (d := some 69) (t := 63) (φ := fun u_ => PtrZ r_aEn O_ w2 u_ x27) ((PtrZ.keep (m4_ (addS_off rfl h_)) (KX.keep (KX.ext hE) (by decide)) (by decide) fit_aEn)) (by decide), fun h_ => po_ (d := some 69) (t := 66) (φ := fun u_ => PtrZ r_aEn O_ w2 u_ x28) ((PtrZ.keep (m7_ (addS_off rfl h_)) (KX.keep (KX.ext hE) (by decide)) (by decide) fit_aEn)) (by decide), fun _ => put_me (φ := fun u_ => PtrZ r_aEn O_ w2 u_ x29) hA_ (by decide) hv_, fun hp_ hq_ => po_ (d := some 69) (t := 6) (φ := fun u_ => OwnBP 2 (Fr w0) O_ w2 (u_) #[.int .i64 0, .int .i64 0, .int .i64 0, .int .i64 0, .int .i64 0, .string (str []), .string (str []), .string (str []), .string (str [])] 26) (OwnBP.kx (v0_0_ (addS_off rfl hp_) (addS_no hq_)) (KX.ext hE) (by decide)) (by decide), fun hp_ => po_ (d := some 69) (t := 6) (φ := fun u_ => OwnBP 2 (Fr w0) O_ w2 (u_) #[.int .i64 x26.Seq, .int .i64 x26.Shop, .int .i64 x26.Kind, .int .i64 x26.Day, .int .i64 x26.N, .string (str x26.Before), .string (str x26.After), .string (str x26.Prev), .string (str x26.Mark)] 26) (OwnBP.kx (v0_1_ (addS_off rfl hp_)) (KX.ext hE) (by decide)) (by decide), fun hp_ hq_ => po_ (d := some 69) (t := 7) (φ := fun u_ => OwnBP 3 (Fr w0) O_ w2 (u_) #[.int .i64 0, .int .i64 0, .int .i64 0, .int .i64 0, .int .i64 0, .string (str []), .string (str []), .string (str []), .string (str [])] 26) (OwnBP.kx (v1_0_ (addS_off rfl hp_) (addS_no hq_)) (KX.ext hE) (by decide)) (by decide), fun hp_ => po_ (d := some 69) (t := 7) (φ := fun u_ => OwnBP 3 (Fr w0) O_ w2 (u_) #[.int .i64 x27.Seq, .int .i64 x27.Shop, .int .i64 x27.Kind, .int .i64 x27.Day, .int .i64 x27.N, .string (str x27.Before), .string (str x27.After), .string (str x27.Prev), .string (str x27.Mark)] 26) (OwnBP.kx (v1_1_ (addS_off rfl hp_)) (KX.ext hE) (by decide)) (by decide), fun hp_ hq_ => po_ (d := some 69) (t := 8) (φ := fun u_ => OwnBP 4 (Fr w0) O_ w2 (u_) #[.int .i64 0, .int .i64 0, .int .i64 0, .int .i64 0, .int .i64 0, .string (str []), .string (str []), .string (str []), .string (str [])] 26) (OwnBP.kx (v2_0_ (addS_off rfl hp_) (addS_no hq_)) (KX.ext hE) (by decide)) (by decide), fun hp_ => po_ (d := some 69) (t := 8) (φ := fun u_ => OwnBP 4 (Fr w0) O_ w2 (u_) #[.int .i64 x28.Seq, .int .i64 x28.Shop, .int .i64 x28.Kind, .int .i64 x28.Day, .int .i64 x28.N, .string (str x28.Before), .string (str x28.After), .string (str x28.Prev), .string (str x28.Mark)] 26) (OwnBP.kx (v2_1_ (addS_off rfl hp_)) (KX.ext hE) (by decide)) (by decide), fun hp_ hq_ => po_ (d := some 69) (t := 9) (φ := fun u_ => OwnBP 5 (Fr w0) O_ w2 (u_) #[.int .i64 0, .int .i64 0, .int .i64 0, .int .i64 0, .int .i64 0, .string (str []), .string (str []), .string (str []), .string (str [])] 26) (OwnBP.kx (v3_0_ (addS_off rfl hp_) (addS_no hq_)) (KX.ext hE) (by decide)) (by decide), fun hp_ => po_ (d := some 69) (t := 9) (φ := fun u_ => OwnBP 5 (Fr w0) O_ w2 (u_) #[.int .i64 x29.Seq, .int .i64 x29.Shop, .int .i64 x29.Kind, .int .i64 x29.Day, .int .i64 x29.N, .string (str x29.Before), .string (str x29.After), .string (str x29.Prev), .string (str x29.Mark)] 26) (OwnBP.kx (v3_1_ (addS_off rfl hp_)) (KX.ext hE) (by decide)) (by decide)⟩ trivial
 case z9_11 =>
  intro S_ a' w' hA_ hJ_ hS_ hafter_ hbef_ hK hg K_ Q_ hK_
  have hJ2_ := hJ_; rw [eJ_] at hJ2_; obtain ⟨O_, hB_, k0_, m1_, m4_, m7_, m10_, v0_0_, v0_1_, v1_0_, v1_1_, v2_0_, v2_1_, v3_0_, v3_1_⟩ := hJ2_
  refine x_ok (φ := SP.isv (.agg #[.int .i64 x29.Seq, .int .i64 x29.Shop, .int .i64 x29.Kind, .int .i64 x29.Day, .int .i64 x29.N, .string (str x29.Before), .string (str x29.After), .string (str x29.Prev), .string (str x29.Mark)])) (by exact okl_ldr r_aEn fit_aEn ty26 rfl rfl rfl (PtrZ.ptr (m10_ (addS_off rfl (hbef_ 10 (by kernel_rfl))))) (fun _ _ _ h => rC_v.1 h)) fun v_ w2 hE hv_ => hK_ v_ w2 (T_ rfl rfl rfl rfl rfl rfl rfl rfl rfl rfl rfl rfl (by decide) (by decide) (by decide) (by decide) (by decide) (by decide) (by decide) (by decide) hE hJ_) hv_
 case z9_12 =>
  intro S_ a' w' hA_ hJ_ hS_ hafter_ hbef_ hK hg K_ Q_ hK_
  subst eJ_
  obtain ⟨O_, hB_, k0_, m1_, m4_, m7_, m10_, v0_0_, v0_1_, v1_0_, v1_1_, v2_0_, v2_1_, v3_0_, v3_1_⟩ := hJ_
  refine x_ok (φ := SP.box w'.heap.size #[.int .i64 0, .int .i64 0, .int .i64 0, .int .i64 0, .int .i64 0, .string (str []), .string (str []), .string (str []), .string (str [])] 26) (by exact ok_alloc (Nat.le_refl _) ty26) fun v_ w2 hE hv_ => ?_
  obtain ⟨O2_, b_, hB2_, hX_, e_, f_⟩ := boxNew hO hB_ hE hv_ 2 (by decide)
  exact hK_ v_ w2 ⟨O2_, hB2_, (k0_.trans (KX.keep hX_ (by decide))), fun h_ => po_ (d := some 6) (t := 60) (φ := fun u_ => PtrZ r_aEn O2_ w2 u_ x26) ((PtrZ.keep (m1_ (addS_off rfl h_)) (KX.keep hX_ (by decide)) (by decide) fit_aEn)) (by decide), fun h_ => po_ (d := some 6) (t := 63) (φ := fun u_ => PtrZ r_aEn O2_ w2 u_ x27) ((PtrZ.keep (m4_ (addS_off rfl h_)) (KX.keep hX_ (by decide)) (by decide) fit_aEn)) (by decide), fun h_ => po_ (d := some 6) (t := 66) (φ := fun u_ => PtrZ r_aEn O2_ w2 u_ x28) ((PtrZ.keep (m7_ (addS_off rfl h_)) (KX.keep hX_ (by decide)) (by decide) fit_aEn)) (by decide), fun h_ => po_ (d := some 6) (t := 69) (φ := fun u_ => PtrZ r_aEn O2_ w2 u_ x29) ((PtrZ.keep (m10_ (addS_off rfl h_)) (KX.keep hX_ (by decide)) (by decide) fit_aEn)) (by decide), fun hp_ hq_ => put_me (φ := fun u_ => OwnBP 2 (Fr w0) O2_ w2 (u_) #[.int .i64 0, .int .i64 0, .int .i64 0, .int .i64 0, .int .i64 0, .string (str []), .string (str []), .string (str []), .string (str [])] 26) hA_ (by decide) ⟨b_, e_, f_⟩, fun hp_ => no_tf (addS_off rfl hp_) (hafter_ 16 (by kernel_rfl)), fun hp_ hq_ => po_ (d := some 6) (t := 7) (φ := fun u_ => OwnBP 3 (Fr w0) O2_ w2 (u_) #[.int .i64 0, .int .i64 0, .int .i64 0, .int .i64 0, .int .i64 0, .string (str []), .string (str []), .string (str []), .string (str [])] 26) (OwnBP.kx (v1_0_ (addS_off rfl hp_) (addS_no hq_)) hX_ (by decide)) (by decide), fun hp_ => po_ (d := some 6) (t := 7) (φ := fun u_ => OwnBP 3 (Fr w0) O2_ w2 (u_) #[.int .i64 x27.Seq, .int .i64 x27.Shop, .int .i64 x27.Kind, .int .i64 x27.Day, .int .i64 x27.N, .string (str x27.Before), .string (str x27.After), .string (str x27.Prev), .string (str x27.Mark)] 26) (OwnBP.kx (v1_1_ (addS_off rfl hp_)) hX_ (by decide)) (by decide), fun hp_ hq_ => po_ (d := some 6) (t := 8) (φ := fun u_ => OwnBP 4 (Fr w0) O2_ w2 (u_) #[.int .i64 0, .int .i64 0, .int .i64 0, .int .i64 0, .int .i64 0, .string (str []), .string (str []), .string (str []), .string (str [])] 26) (OwnBP.kx (v2_0_ (addS_off rfl hp_) (addS_no hq_)) hX_ (by decide)) (by decide), fun hp_ => po_ (d := some 6) (t := 8) (φ := fun u_ => OwnBP 4 (Fr w0) O2_ w2 (u_) #[.int .i64 x28.Seq, .int .i64 x28.Shop, .int .i64 x28.Kind, .int .i64 x28.Day, .int .i64 x28.N, .string (str x28.Before), .string (str x28.After), .string (str x28.Prev), .string (str x28.Mark)] 26) (OwnBP.kx (v2_1_ (addS_off rfl hp_)) hX_ (by decide)) (by decide), fun hp_ hq_ => po_ (d := some 6) (t := 9) (φ := fun u_ => OwnBP 5 (Fr w0) O2_ w2 (u_) #[.int .i64 0, .int .i64 0, .int .i64 0, .int .i64 0, .int .i64 0, .string (str []), .string (str []), .string (str []), .string (str [])] 26) (OwnBP.kx (v3_0_ (addS_off rfl hp_) (addS_no hq_)) hX_ (by decide)) (by decide), fun hp_ => po_ (d := some 6) (t := 9) (φ := fun u_ => OwnBP 5 (Fr w0) O2_ w2 (u_) #[.int .i64 x29.Seq, .int .i64 x29.Shop, .int .i64 x29.Kind, .int .i64 x29.Day, .int .i64 x29.N, .string (str x29.Before), .string (str x29.After), .string (str x29.Prev), .string (str x29.Mark)] 26) (OwnBP.kx (v3_1_ (addS_off rfl hp_)) hX_ (by decide)) (by decide)⟩ trivial
 case z9_13 =>
  intro S_ a' w' hA_ hJ_ hS_ hafter_ hbef_ hK hg K_ Q_ hK_
  subst eJ_
  obtain ⟨O_, hB_, k0_, m1_, m4_, m7_, m10_, v0_0_, v0_1_, v1_0_, v1_1_, v2_0_, v2_1_, v3_0_, v3_1_⟩ := hJ_
  refine x_ok (φ := SP.box w'.heap.size #[.int .i64 0, .int .i64 0, .int .i64 0, .int .i64 0, .int .i64 0, .string (str []), .string (str []), .string (str []), .string (str [])] 26) (by exact ok_alloc (Nat.le_refl _) ty26) fun v_ w2 hE hv_ => ?_
  obtain ⟨O2_, b_, hB2_, hX_, e_, f_⟩ := boxNew hO hB_ hE hv_ 3 (by decide)
  exact hK_ v_ w2 ⟨O2_, hB2_, (k0_.trans (KX.keep hX_ (by decide))), fun h_ => po_ (d := some 7) (t := 60) (φ := fun u_ => PtrZ r_aEn O2_ w2 u_ x26) ((PtrZ.keep (m1_ (addS_off rfl h_)) (KX.keep hX_ (by decide)) (by decide) fit_aEn)) (by decide), fun h_ => po_ (d := some 7) (t := 63) (φ := fun u_ => PtrZ r_aEn O2_ w2 u_ x27) ((PtrZ.keep (m4_ (addS_off rfl h_)) (KX.keep hX_ (by decide)) (by decide) fit_aEn)) (by decide), fun h_ => po_ (d := some 7) (t := 66) (φ := fun u_ => PtrZ r_aEn O2_ w2 u_ x28) ((PtrZ.keep (m7_ (addS_off rfl h_)) (KX.keep hX_ (by decide)) (by decide) fit_aEn)) (by decide), fun h_ => po_ (d := some 7) (t := 69) (φ := fun u_ => PtrZ r_aEn O2_ w2 u_ x29) ((PtrZ.keep (m10_ (addS_off rfl h_)) (KX.keep hX_ (by decide)) (by decide) fit_aEn)) (by decide), fun hp_ hq_ => po_ (d := some 7) (t := 6) (φ := fun u_ => OwnBP 2 (Fr w0) O2_ w2 (u_) #[.int .i64 0, .int .i64 0, .int .i64 0, .int .i64 0, .int .i64 0, .string (str []), .string (str []), .string (str []), .string (str [])] 26) (OwnBP.kx (v0_0_ (addS_off rfl hp_) (addS_no hq_)) hX_ (by decide)) (by decide), fun hp_ => po_ (d := some 7) (t := 6) (φ := fun u_ => OwnBP 2 (Fr w0) O2_ w2 (u_) #[.int .i64 x26.Seq, .int .i64 x26.Shop, .int .i64 x26.Kind, .int .i64 x26.Day, .int .i64 x26.N, .string (str x26.Before), .string (str x26.After), .string (str x26.Prev), .string (str x26.Mark)] 26) (OwnBP.kx (v0_1_ (addS_off rfl hp_)) hX_ (by decide)) (by decide), fun hp_ hq_ => put_me (φ := fun u_ => OwnBP 3 (Fr w0) O2_ w2 (u_) #[.int .i64 0, .int .i64 0, .int .i64 0, .int .i64 0, .int .i64 0, .string (str []), .string (str []), .string (str []), .string (str [])] 26) hA_ (by decide) ⟨b_, e_, f_⟩, fun hp_ => no_tf (addS_off rfl hp_) (hafter_ 17 (by kernel_rfl)), fun hp_ hq_ => po_ (d := some 7) (t := 8) (φ := fun u_ => OwnBP 4 (Fr w0) O2_ w2 (u_) #[.int .i64 0, .int .i64 0, .int .i64 0, .int .i64 0, .int .i64 0, .string (str []), .string (str []), .string (str []), .string (str [])] 26) (OwnBP.kx (v2_0_ (addS_off rfl hp_) (addS_no hq_)) hX_ (by decide)) (by decide), fun hp_ => po_ (d := some 7) (t := 8) (φ := fun u_ => OwnBP 4 (Fr w0) O2_ w2 (u_) #[.int .i64 x28.Seq, .int .i64 x28.Shop, .int .i64 x28.Kind, .int .i64 x28.Day, .int .i64 x28.N, .string (str x28.Before), .string (str x28.After), .string (str x28.Prev), .string (str x28.Mark)] 26) (OwnBP.kx (v2_1_ (addS_off rfl hp_)) hX_ (by decide)) (by decide), fun hp_ hq_ => po_ (d := some 7) (t := 9) (φ := fun u_ => OwnBP 5 (Fr w0) O2_ w2 (u_) #[.int .i64 0, .int .i64 0, .int .i64 0, .int .i64 0, .int .i64 0, .string (str []), .string (str []), .string (str []), .string (str [])] 26) (OwnBP.kx (v3_0_ (addS_off rfl hp_) (addS_no hq_)) hX_ (by decide)) (by decide), fun hp_ => po_ (d := some 7) (t := 9) (φ := fun u_ => OwnBP 5 (Fr w0) O2_ w2 (u_) #[.int .i64 x29.Seq, .int .i64 x29.Shop, .int .i64 x29.Kind, .int .i64 x29.Day, .int .i64 x29.N, .string (str x29.Before), .string (str x29.After), .string (str x29.Prev), .string (str x29.Mark)] 26) (OwnBP.kx (v3_1_ (addS_off rfl hp_)) hX_ (by decide)) (by decide)⟩ trivial
 case z9_14 =>
  intro S_ a' w' hA_ hJ_ hS_ hafter_ hbef_ hK hg K_ Q_ hK_
  subst eJ_
  obtain ⟨O_, hB_, k0_, m1_, m4_, m7_, m10_, v0_0_, v0_1_, v1_0_, v1_1_, v2_0_, v2_1_, v3_0_, v3_1_⟩ := hJ_
  refine x_ok (φ := SP.box w'.heap.size #[.int .i64 0, .int .i64 0, .int .i64 0, .int .i64 0, .int .i64 0, .string (str []), .string (str []), .string (str []), .string (str [])] 26) (by exact ok_alloc (Nat.le_refl _) ty26) fun v_ w2 hE hv_ => ?_
  obtain ⟨O2_, b_, hB2_, hX_, e_, f_⟩ := boxNew hO hB_ hE hv_ 4 (by decide)
  exact hK_ v_ w2 ⟨O2_, hB2_, (k0_.trans (KX.keep hX_ (by decide))), fun h_ => po_ (d := some 8) (t := 60) (φ := fun u_ => PtrZ r_aEn O2_ w2 u_ x26) ((PtrZ.keep (m1_ (addS_off rfl h_)) (KX.keep hX_ (by decide)) (by decide) fit_aEn)) (by decide), fun h_ => po_ (d := some 8) (t := 63) (φ := fun u_ => PtrZ r_aEn O2_ w2 u_ x27) ((PtrZ.keep (m4_ (addS_off rfl h_)) (KX.keep hX_ (by decide)) (by decide) fit_aEn)) (by decide), fun h_ => po_ (d := some 8) (t := 66) (φ := fun u_ => PtrZ r_aEn O2_ w2 u_ x28) ((PtrZ.keep (m7_ (addS_off rfl h_)) (KX.keep hX_ (by decide)) (by decide) fit_aEn)) (by decide), fun h_ => po_ (d := some 8) (t := 69) (φ := fun u_ => PtrZ r_aEn O2_ w2 u_ x29) ((PtrZ.keep (m10_ (addS_off rfl h_)) (KX.keep hX_ (by decide)) (by decide) fit_aEn)) (by decide), fun hp_ hq_ => po_ (d := some 8) (t := 6) (φ := fun u_ => OwnBP 2 (Fr w0) O2_ w2 (u_) #[.int .i64 0, .int .i64 0, .int .i64 0, .int .i64 0, .int .i64 0, .string (str []), .string (str []), .string (str []), .string (str [])] 26) (OwnBP.kx (v0_0_ (addS_off rfl hp_) (addS_no hq_)) hX_ (by decide)) (by decide), fun hp_ => po_ (d := some 8) (t := 6) (φ := fun u_ => OwnBP 2 (Fr w0) O2_ w2 (u_) #[.int .i64 x26.Seq, .int .i64 x26.Shop, .int .i64 x26.Kind, .int .i64 x26.Day, .int .i64 x26.N, .string (str x26.Before), .string (str x26.After), .string (str x26.Prev), .string (str x26.Mark)] 26) (OwnBP.kx (v0_1_ (addS_off rfl hp_)) hX_ (by decide)) (by decide), fun hp_ hq_ => po_ (d := some 8) (t := 7) (φ := fun u_ => OwnBP 3 (Fr w0) O2_ w2 (u_) #[.int .i64 0, .int .i64 0, .int .i64 0, .int .i64 0, .int .i64 0, .string (str []), .string (str []), .string (str []), .string (str [])] 26) (OwnBP.kx (v1_0_ (addS_off rfl hp_) (addS_no hq_)) hX_ (by decide)) (by decide), fun hp_ => po_ (d := some 8) (t := 7) (φ := fun u_ => OwnBP 3 (Fr w0) O2_ w2 (u_) #[.int .i64 x27.Seq, .int .i64 x27.Shop, .int .i64 x27.Kind, .int .i64 x27.Day, .int .i64 x27.N, .string (str x27.Before), .string (str x27.After), .string (str x27.Prev), .string (str x27.Mark)] 26) (OwnBP.kx (v1_1_ (addS_off rfl hp_)) hX_ (by decide)) (by decide), fun hp_ hq_ => put_me (φ := fun u_ => OwnBP 4 (Fr w0) O2_ w2 (u_) #[.int .i64 0, .int .i64 0, .int .i64 0, .int .i64 0, .int .i64 0, .string (str []), .string (str []), .string (str []), .string (str [])] 26) hA_ (by decide) ⟨b_, e_, f_⟩, fun hp_ => no_tf (addS_off rfl hp_) (hafter_ 18 (by kernel_rfl)), fun hp_ hq_ => po_ (d := some 8) (t := 9) (φ := fun u_ => OwnBP 5 (Fr w0) O2_ w2 (u_) #[.int .i64 0, .int .i64 0, .int .i64 0, .int .i64 0, .int .i64 0, .string (str []), .string (str []), .string (str []), .string (str [])] 26) (OwnBP.kx (v3_0_ (addS_off rfl hp_) (addS_no hq_)) hX_ (by decide)) (by decide), fun hp_ => po_ (d := some 8) (t := 9) (φ := fun u_ => OwnBP 5 (Fr w0) O2_ w2 (u_) #[.int .i64 x29.Seq, .int .i64 x29.Shop, .int .i64 x29.Kind, .int .i64 x29.Day, .int .i64 x29.N, .string (str x29.Before), .string (str x29.After), .string (str x29.Prev), .string (str x29.Mark)] 26) (OwnBP.kx (v3_1_ (addS_off rfl hp_)) hX_ (by decide)) (by decide)⟩ trivial
 case z9_15 =>
  intro S_ a' w' hA_ hJ_ hS_ hafter_ hbef_ hK hg K_ Q_ hK_
  subst eJ_
  obtain ⟨O_, hB_, k0_, m1_, m4_, m7_, m10_, v0_0_, v0_1_, v1_0_, v1_1_, v2_0_, v2_1_, v3_0_, v3_1_⟩ := hJ_
  refine x_ok (φ := SP.box w'.heap.size #[.int .i64 0, .int .i64 0, .int .i64 0, .int .i64 0, .int .i64 0, .string (str []), .string (str []), .string (str []), .string (str [])] 26) (by exact ok_alloc (Nat.le_refl _) ty26) fun v_ w2 hE hv_ => ?_
  obtain ⟨O2_, b_, hB2_, hX_, e_, f_⟩ := boxNew hO hB_ hE hv_ 5 (by decide)
  exact hK_ v_ w2 ⟨O2_, hB2_, (k0_.trans (KX.keep hX_ (by decide))), fun h_ => po_ (d := some 9) (t := 60) (φ := fun u_ => PtrZ r_aEn O2_ w2 u_ x26) ((PtrZ.keep (m1_ (addS_off rfl h_)) (KX.keep hX_ (by decide)) (by decide) fit_aEn)) (by decide), fun h_ => po_ (d := some 9) (t := 63) (φ := fun u_ => PtrZ r_aEn O2_ w2 u_ x27) ((PtrZ.keep (m4_ (addS_off rfl h_)) (KX.keep hX_ (by decide)) (by decide) fit_aEn)) (by decide), fun h_ => po_ (d := some 9) (t := 66) (φ := fun u_ => PtrZ r_aEn O2_ w2 u_ x28) ((PtrZ.keep (m7_ (addS_off rfl h_)) (KX.keep hX_ (by decide)) (by decide) fit_aEn)) (by decide), fun h_ => po_ (d := some 9) (t := 69) (φ := fun u_ => PtrZ r_aEn O2_ w2 u_ x29) ((PtrZ.keep (m10_ (addS_off rfl h_)) (KX.keep hX_ (by decide)) (by decide) fit_aEn)) (by decide), fun hp_ hq_ => po_ (d := some 9) (t := 6) (φ := fun u_ => OwnBP 2 (Fr w0) O2_ w2 (u_) #[.int .i64 0, .int .i64 0, .int .i64 0, .int .i64 0, .int .i64 0, .string (str []), .string (str []), .string (str []), .string (str [])] 26) (OwnBP.kx (v0_0_ (addS_off rfl hp_) (addS_no hq_)) hX_ (by decide)) (by decide), fun hp_ => po_ (d := some 9) (t := 6) (φ := fun u_ => OwnBP 2 (Fr w0) O2_ w2 (u_) #[.int .i64 x26.Seq, .int .i64 x26.Shop, .int .i64 x26.Kind, .int .i64 x26.Day, .int .i64 x26.N, .string (str x26.Before), .string (str x26.After), .string (str x26.Prev), .string (str x26.Mark)] 26) (OwnBP.kx (v0_1_ (addS_off rfl hp_)) hX_ (by decide)) (by decide), fun hp_ hq_ => po_ (d := some 9) (t := 7) (φ := fun u_ => OwnBP 3 (Fr w0) O2_ w2 (u_) #[.int .i64 0, .int .i64 0, .int .i64 0, .int .i64 0, .int .i64 0, .string (str []), .string (str []), .string (str []), .string (str [])] 26) (OwnBP.kx (v1_0_ (addS_off rfl hp_) (addS_no hq_)) hX_ (by decide)) (by decide), fun hp_ => po_ (d := some 9) (t := 7) (φ := fun u_ => OwnBP 3 (Fr w0) O2_ w2 (u_) #[.int .i64 x27.Seq, .int .i64 x27.Shop, .int .i64 x27.Kind, .int .i64 x27.Day, .int .i64 x27.N, .string (str x27.Before), .string (str x27.After), .string (str x27.Prev), .string (str x27.Mark)] 26) (OwnBP.kx (v1_1_ (addS_off rfl hp_)) hX_ (by decide)) (by decide), fun hp_ hq_ => po_ (d := some 9) (t := 8) (φ := fun u_ => OwnBP 4 (Fr w0) O2_ w2 (u_) #[.int .i64 0, .int .i64 0, .int .i64 0, .int .i64 0, .int .i64 0, .string (str []), .string (str []), .string (str []), .string (str [])] 26) (OwnBP.kx (v2_0_ (addS_off rfl hp_) (addS_no hq_)) hX_ (by decide)) (by decide), fun hp_ => po_ (d := some 9) (t := 8) (φ := fun u_ => OwnBP 4 (Fr w0) O2_ w2 (u_) #[.int .i64 x28.Seq, .int .i64 x28.Shop, .int .i64 x28.Kind, .int .i64 x28.Day, .int .i64 x28.N, .string (str x28.Before), .string (str x28.After), .string (str x28.Prev), .string (str x28.Mark)] 26) (OwnBP.kx (v2_1_ (addS_off rfl hp_)) hX_ (by decide)) (by decide), fun hp_ hq_ => put_me (φ := fun u_ => OwnBP 5 (Fr w0) O2_ w2 (u_) #[.int .i64 0, .int .i64 0, .int .i64 0, .int .i64 0, .int .i64 0, .string (str []), .string (str []), .string (str []), .string (str [])] 26) hA_ (by decide) ⟨b_, e_, f_⟩, fun hp_ => no_tf (addS_off rfl hp_) (hafter_ 19 (by kernel_rfl))⟩ trivial
 case z9_16 =>
  intro S_ a' w' hA_ hJ_ hS_ hafter_ hbef_ hK hg K_ Q_ hK_
  subst eJ_
  obtain ⟨O_, hB_, k0_, m1_, m4_, m7_, m10_, v0_0_, v0_1_, v1_0_, v1_1_, v2_0_, v2_1_, v3_0_, v3_1_⟩ := hJ_
  obtain ⟨b_, eb_, fb_⟩ := (v0_0_ (addS_off rfl (hbef_ 12 (by kernel_rfl))) hS_)
  refine x_storeSub (vs := [.int .i64 x26.Seq, .int .i64 x26.Shop, .int .i64 x26.Kind, .int .i64 x26.Day, .int .i64 x26.N, .string (str x26.Before), .string (str x26.After), .string (str x26.Prev), .string (str x26.Mark)]) (cs' := #[.int .i64 x26.Seq, .int .i64 x26.Shop, .int .i64 x26.Kind, .int .i64 x26.Day, .int .i64 x26.N, .string (str x26.Before), .string (str x26.After), .string (str x26.Prev), .string (str x26.Mark)]) hO hB_ (okB_fr hB_) ty26 eb_ (ksv (j := 2) (hK 61 rfl) rfl rfl rfl) rfl (by simp [Value.oneCell']) fb_ (by simp) rfl fun w2 f_ hB2_ hX_ => ?_
  exact hK_ undef w2 ⟨O_, hB2_, (k0_.trans (KX.keep hX_ (by decide))), fun h_ => po_ (d := none) (t := 60) (φ := fun u_ => PtrZ r_aEn O_ w2 u_ x26) ((PtrZ.keep (m1_ (addS_off rfl h_)) (KX.keep hX_ (by decide)) (by decide) fit_aEn)) (by decide), fun h_ => po_ (d := none) (t := 63) (φ := fun u_ => PtrZ r_aEn O_ w2 u_ x27) ((PtrZ.keep (m4_ (addS_off rfl h_)) (KX.keep hX_ (by decide)) (by decide) fit_aEn)) (by decide), fun h_ => po_ (d := none) (t := 66) (φ := fun u_ => PtrZ r_aEn O_ w2 u_ x28) ((PtrZ.keep (m7_ (addS_off rfl h_)) (KX.keep hX_ (by decide)) (by decide) fit_aEn)) (by decide), fun h_ => po_ (d := none) (t := 69) (φ := fun u_ => PtrZ r_aEn O_ w2 u_ x29) ((PtrZ.keep (m10_ (addS_off rfl h_)) (KX.keep hX_ (by decide)) (by decide) fit_aEn)) (by decide), fun hp_ hq_ => addS_me hq_, fun hp_ => po_ (d := none) (t := 6) (φ := fun u_ => OwnBP 2 (Fr w0) O_ w2 (u_) #[.int .i64 x26.Seq, .int .i64 x26.Shop, .int .i64 x26.Kind, .int .i64 x26.Day, .int .i64 x26.N, .string (str x26.Before), .string (str x26.After), .string (str x26.Prev), .string (str x26.Mark)] 26) (⟨b_, eb_, f_⟩) (by decide), fun hp_ hq_ => po_ (d := none) (t := 7) (φ := fun u_ => OwnBP 3 (Fr w0) O_ w2 (u_) #[.int .i64 0, .int .i64 0, .int .i64 0, .int .i64 0, .int .i64 0, .string (str []), .string (str []), .string (str []), .string (str [])] 26) (OwnBP.kx (v1_0_ (addS_off rfl hp_) (addS_no hq_)) hX_ (by decide)) (by decide), fun hp_ => po_ (d := none) (t := 7) (φ := fun u_ => OwnBP 3 (Fr w0) O_ w2 (u_) #[.int .i64 x27.Seq, .int .i64 x27.Shop, .int .i64 x27.Kind, .int .i64 x27.Day, .int .i64 x27.N, .string (str x27.Before), .string (str x27.After), .string (str x27.Prev), .string (str x27.Mark)] 26) (OwnBP.kx (v1_1_ (addS_off rfl hp_)) hX_ (by decide)) (by decide), fun hp_ hq_ => po_ (d := none) (t := 8) (φ := fun u_ => OwnBP 4 (Fr w0) O_ w2 (u_) #[.int .i64 0, .int .i64 0, .int .i64 0, .int .i64 0, .int .i64 0, .string (str []), .string (str []), .string (str []), .string (str [])] 26) (OwnBP.kx (v2_0_ (addS_off rfl hp_) (addS_no hq_)) hX_ (by decide)) (by decide), fun hp_ => po_ (d := none) (t := 8) (φ := fun u_ => OwnBP 4 (Fr w0) O_ w2 (u_) #[.int .i64 x28.Seq, .int .i64 x28.Shop, .int .i64 x28.Kind, .int .i64 x28.Day, .int .i64 x28.N, .string (str x28.Before), .string (str x28.After), .string (str x28.Prev), .string (str x28.Mark)] 26) (OwnBP.kx (v2_1_ (addS_off rfl hp_)) hX_ (by decide)) (by decide), fun hp_ hq_ => po_ (d := none) (t := 9) (φ := fun u_ => OwnBP 5 (Fr w0) O_ w2 (u_) #[.int .i64 0, .int .i64 0, .int .i64 0, .int .i64 0, .int .i64 0, .string (str []), .string (str []), .string (str []), .string (str [])] 26) (OwnBP.kx (v3_0_ (addS_off rfl hp_) (addS_no hq_)) hX_ (by decide)) (by decide), fun hp_ => po_ (d := none) (t := 9) (φ := fun u_ => OwnBP 5 (Fr w0) O_ w2 (u_) #[.int .i64 x29.Seq, .int .i64 x29.Shop, .int .i64 x29.Kind, .int .i64 x29.Day, .int .i64 x29.N, .string (str x29.Before), .string (str x29.After), .string (str x29.Prev), .string (str x29.Mark)] 26) (OwnBP.kx (v3_1_ (addS_off rfl hp_)) hX_ (by decide)) (by decide)⟩ trivial
 case z9_17 =>
  intro S_ a' w' hA_ hJ_ hS_ hafter_ hbef_ hK hg K_ Q_ hK_
  subst eJ_
  obtain ⟨O_, hB_, k0_, m1_, m4_, m7_, m10_, v0_0_, v0_1_, v1_0_, v1_1_, v2_0_, v2_1_, v3_0_, v3_1_⟩ := hJ_
  obtain ⟨b_, eb_, fb_⟩ := (v1_0_ (addS_off rfl (hbef_ 13 (by kernel_rfl))) hS_)
  refine x_storeSub (vs := [.int .i64 x27.Seq, .int .i64 x27.Shop, .int .i64 x27.Kind, .int .i64 x27.Day, .int .i64 x27.N, .string (str x27.Before), .string (str x27.After), .string (str x27.Prev), .string (str x27.Mark)]) (cs' := #[.int .i64 x27.Seq, .int .i64 x27.Shop, .int .i64 x27.Kind, .int .i64 x27.Day, .int .i64 x27.N, .string (str x27.Before), .string (str x27.After), .string (str x27.Prev), .string (str x27.Mark)]) hO hB_ (okB_fr hB_) ty26 eb_ (ksv (j := 5) (hK 64 rfl) rfl rfl rfl) rfl (by simp [Value.oneCell']) fb_ (by simp) rfl fun w2 f_ hB2_ hX_ => ?_
  exact hK_ undef w2 ⟨O_, hB2_, (k0_.trans (KX.keep hX_ (by decide))), fun h_ => po_ (d := none) (t := 60) (φ := fun u_ => PtrZ r_aEn O_ w2 u_ x26) ((PtrZ.keep (m1_ (addS_off rfl h_)) (KX.keep hX_ (by decide)) (by decide) fit_aEn)) (by decide), fun h_ => po_ (d := none) (t := 63) (φ := fun u_ => PtrZ r_aEn O_ w2 u_ x27) ((PtrZ.keep (m4_ (addS_off rfl h_)) (KX.keep hX_ (by decide)) (by decide) fit_aEn)) (by decide), fun h_ => po_ (d := none) (t := 66) (φ := fun u_ => PtrZ r_aEn O_ w2 u_ x28) ((PtrZ.keep (m7_ (addS_off rfl h_)) (KX.keep hX_ (by decide)) (by decide) fit_aEn)) (by decide), fun h_ => po_ (d := none) (t := 69) (φ := fun u_ => PtrZ r_aEn O_ w2 u_ x29) ((PtrZ.keep (m10_ (addS_off rfl h_)) (KX.keep hX_ (by decide)) (by decide) fit_aEn)) (by decide), fun hp_ hq_ => po_ (d := none) (t := 6) (φ := fun u_ => OwnBP 2 (Fr w0) O_ w2 (u_) #[.int .i64 0, .int .i64 0, .int .i64 0, .int .i64 0, .int .i64 0, .string (str []), .string (str []), .string (str []), .string (str [])] 26) (OwnBP.kx (v0_0_ (addS_off rfl hp_) (addS_no hq_)) hX_ (by decide)) (by decide), fun hp_ => po_ (d := none) (t := 6) (φ := fun u_ => OwnBP 2 (Fr w0) O_ w2 (u_) #[.int .i64 x26.Seq, .int .i64 x26.Shop, .int .i64 x26.Kind, .int .i64 x26.Day, .int .i64 x26.N, .string (str x26.Before), .string (str x26.After), .string (str x26.Prev), .string (str x26.Mark)] 26) (OwnBP.kx (v0_1_ (addS_off rfl hp_)) hX_ (by decide)) (by decide), fun hp_ hq_ => addS_me hq_, fun hp_ => po_ (d := none) (t := 7) (φ := fun u_ => OwnBP 3 (Fr w0) O_ w2 (u_) #[.int .i64 x27.Seq, .int .i64 x27.Shop, .int .i64 x27.Kind, .int .i64 x27.Day, .int .i64 x27.N, .string (str x27.Before), .string (str x27.After), .string (str x27.Prev), .string (str x27.Mark)] 26) (⟨b_, eb_, f_⟩) (by decide), fun hp_ hq_ => po_ (d := none) (t := 8) (φ := fun u_ => OwnBP 4 (Fr w0) O_ w2 (u_) #[.int .i64 0, .int .i64 0, .int .i64 0, .int .i64 0, .int .i64 0, .string (str []), .string (str []), .string (str []), .string (str [])] 26) (OwnBP.kx (v2_0_ (addS_off rfl hp_) (addS_no hq_)) hX_ (by decide)) (by decide), fun hp_ => po_ (d := none) (t := 8) (φ := fun u_ => OwnBP 4 (Fr w0) O_ w2 (u_) #[.int .i64 x28.Seq, .int .i64 x28.Shop, .int .i64 x28.Kind, .int .i64 x28.Day, .int .i64 x28.N, .string (str x28.Before), .string (str x28.After), .string (str x28.Prev), .string (str x28.Mark)] 26) (OwnBP.kx (v2_1_ (addS_off rfl hp_)) hX_ (by decide)) (by decide), fun hp_ hq_ => po_ (d := none) (t := 9) (φ := fun u_ => OwnBP 5 (Fr w0) O_ w2 (u_) #[.int .i64 0, .int .i64 0, .int .i64 0, .int .i64 0, .int .i64 0, .string (str []), .string (str []), .string (str []), .string (str [])] 26) (OwnBP.kx (v3_0_ (addS_off rfl hp_) (addS_no hq_)) hX_ (by decide)) (by decide), fun hp_ => po_ (d := none) (t := 9) (φ := fun u_ => OwnBP 5 (Fr w0) O_ w2 (u_) #[.int .i64 x29.Seq, .int .i64 x29.Shop, .int .i64 x29.Kind, .int .i64 x29.Day, .int .i64 x29.N, .string (str x29.Before), .string (str x29.After), .string (str x29.Prev), .string (str x29.Mark)] 26) (OwnBP.kx (v3_1_ (addS_off rfl hp_)) hX_ (by decide)) (by decide)⟩ trivial
 case z9_18 =>
  intro S_ a' w' hA_ hJ_ hS_ hafter_ hbef_ hK hg K_ Q_ hK_
  subst eJ_
  obtain ⟨O_, hB_, k0_, m1_, m4_, m7_, m10_, v0_0_, v0_1_, v1_0_, v1_1_, v2_0_, v2_1_, v3_0_, v3_1_⟩ := hJ_
  obtain ⟨b_, eb_, fb_⟩ := (v2_0_ (addS_off rfl (hbef_ 14 (by kernel_rfl))) hS_)
  refine x_storeSub (vs := [.int .i64 x28.Seq, .int .i64 x28.Shop, .int .i64 x28.Kind, .int .i64 x28.Day, .int .i64 x28.N, .string (str x28.Before), .string (str x28.After), .string (str x28.Prev), .string (str x28.Mark)]) (cs' := #[.int .i64 x28.Seq, .int .i64 x28.Shop, .int .i64 x28.Kind, .int .i64 x28.Day, .int .i64 x28.N, .string (str x28.Before), .string (str x28.After), .string (str x28.Prev), .string (str x28.Mark)]) hO hB_ (okB_fr hB_) ty26 eb_ (ksv (j := 8) (hK 67 rfl) rfl rfl rfl) rfl (by simp [Value.oneCell']) fb_ (by simp) rfl fun w2 f_ hB2_ hX_ => ?_
  exact hK_ undef w2 ⟨O_, hB2_, (k0_.trans (KX.keep hX_ (by decide))), fun h_ => po_ (d := none) (t := 60) (φ := fun u_ => PtrZ r_aEn O_ w2 u_ x26) ((PtrZ.keep (m1_ (addS_off rfl h_)) (KX.keep hX_ (by decide)) (by decide) fit_aEn)) (by decide), fun h_ => po_ (d := none) (t := 63) (φ := fun u_ => PtrZ r_aEn O_ w2 u_ x27) ((PtrZ.keep (m4_ (addS_off rfl h_)) (KX.keep hX_ (by decide)) (by decide) fit_aEn)) (by decide), fun h_ => po_ (d := none) (t := 66) (φ := fun u_ => PtrZ r_aEn O_ w2 u_ x28) ((PtrZ.keep (m7_ (addS_off rfl h_)) (KX.keep hX_ (by decide)) (by decide) fit_aEn)) (by decide), fun h_ => po_ (d := none) (t := 69) (φ := fun u_ => PtrZ r_aEn O_ w2 u_ x29) ((PtrZ.keep (m10_ (addS_off rfl h_)) (KX.keep hX_ (by decide)) (by decide) fit_aEn)) (by decide), fun hp_ hq_ => po_ (d := none) (t := 6) (φ := fun u_ => OwnBP 2 (Fr w0) O_ w2 (u_) #[.int .i64 0, .int .i64 0, .int .i64 0, .int .i64 0, .int .i64 0, .string (str []), .string (str []), .string (str []), .string (str [])] 26) (OwnBP.kx (v0_0_ (addS_off rfl hp_) (addS_no hq_)) hX_ (by decide)) (by decide), fun hp_ => po_ (d := none) (t := 6) (φ := fun u_ => OwnBP 2 (Fr w0) O_ w2 (u_) #[.int .i64 x26.Seq, .int .i64 x26.Shop, .int .i64 x26.Kind, .int .i64 x26.Day, .int .i64 x26.N, .string (str x26.Before), .string (str x26.After), .string (str x26.Prev), .string (str x26.Mark)] 26) (OwnBP.kx (v0_1_ (addS_off rfl hp_)) hX_ (by decide)) (by decide), fun hp_ hq_ => po_ (d := none) (t := 7) (φ := fun u_ => OwnBP 3 (Fr w0) O_ w2 (u_) #[.int .i64 0, .int .i64 0, .int .i64 0, .int .i64 0, .int .i64 0, .string (str []), .string (str []), .string (str []), .string (str [])] 26) (OwnBP.kx (v1_0_ (addS_off rfl hp_) (addS_no hq_)) hX_ (by decide)) (by decide), fun hp_ => po_ (d := none) (t := 7) (φ := fun u_ => OwnBP 3 (Fr w0) O_ w2 (u_) #[.int .i64 x27.Seq, .int .i64 x27.Shop, .int .i64 x27.Kind, .int .i64 x27.Day, .int .i64 x27.N, .string (str x27.Before), .string (str x27.After), .string (str x27.Prev), .string (str x27.Mark)] 26) (OwnBP.kx (v1_1_ (addS_off rfl hp_)) hX_ (by decide)) (by decide), fun hp_ hq_ => addS_me hq_, fun hp_ => po_ (d := none) (t := 8) (φ := fun u_ => OwnBP 4 (Fr w0) O_ w2 (u_) #[.int .i64 x28.Seq, .int .i64 x28.Shop, .int .i64 x28.Kind, .int .i64 x28.Day, .int .i64 x28.N, .string (str x28.Before), .string (str x28.After), .string (str x28.Prev), .string (str x28.Mark)] 26) (⟨b_, eb_, f_⟩) (by decide), fun hp_ hq_ => po_ (d := none) (t := 9) (φ := fun u_ => OwnBP 5 (Fr w0) O_ w2 (u_) #[.int .i64 0, .int .i64 0, .int .i64 0, .int .i64 0, .int .i64 0, .string (str []), .string (str []), .string (str []), .string (str [])] 26) (OwnBP.kx (v3_0_ (addS_off rfl hp_) (addS_no hq_)) hX_ (by decide)) (by decide), fun hp_ => po_ (d := none) (t := 9) (φ := fun u_ => OwnBP 5 (Fr w0) O_ w2 (u_) #[.int .i64 x29.Seq, .int .i64 x29.Shop, .int .i64 x29.Kind, .int .i64 x29.Day, .int .i64 x29.N, .string (str x29.Before), .string (str x29.After), .string (str x29.Prev), .string (str x29.Mark)] 26) (OwnBP.kx (v3_1_ (addS_off rfl hp_)) hX_ (by decide)) (by decide)⟩ trivial
 case z9_19 =>
  intro S_ a' w' hA_ hJ_ hS_ hafter_ hbef_ hK hg K_ Q_ hK_
  subst eJ_
  obtain ⟨O_, hB_, k0_, m1_, m4_, m7_, m10_, v0_0_, v0_1_, v1_0_, v1_1_, v2_0_, v2_1_, v3_0_, v3_1_⟩ := hJ_
  obtain ⟨b_, eb_, fb_⟩ := (v3_0_ (addS_off rfl (hbef_ 15 (by kernel_rfl))) hS_)
  refine x_storeSub (vs := [.int .i64 x29.Seq, .int .i64 x29.Shop, .int .i64 x29.Kind, .int .i64 x29.Day, .int .i64 x29.N, .string (str x29.Before), .string (str x29.After), .string (str x29.Prev), .string (str x29.Mark)]) (cs' := #[.int .i64 x29.Seq, .int .i64 x29.Shop, .int .i64 x29.Kind, .int .i64 x29.Day, .int .i64 x29.N, .string (str x29.Before), .string (str x29.After), .string (str x29.Prev), .string (str x29.Mark)]) hO hB_ (okB_fr hB_) ty26 eb_ (ksv (j := 11) (hK 70 rfl) rfl rfl rfl) rfl (by simp [Value.oneCell']) fb_ (by simp) rfl fun w2 f_ hB2_ hX_ => ?_
  exact hK_ undef w2 ⟨O_, hB2_, (k0_.trans (KX.keep hX_ (by decide))), fun h_ => po_ (d := none) (t := 60) (φ := fun u_ => PtrZ r_aEn O_ w2 u_ x26) ((PtrZ.keep (m1_ (addS_off rfl h_)) (KX.keep hX_ (by decide)) (by decide) fit_aEn)) (by decide), fun h_ => po_ (d := none) (t := 63) (φ := fun u_ => PtrZ r_aEn O_ w2 u_ x27) ((PtrZ.keep (m4_ (addS_off rfl h_)) (KX.keep hX_ (by decide)) (by decide) fit_aEn)) (by decide), fun h_ => po_ (d := none) (t := 66) (φ := fun u_ => PtrZ r_aEn O_ w2 u_ x28) ((PtrZ.keep (m7_ (addS_off rfl h_)) (KX.keep hX_ (by decide)) (by decide) fit_aEn)) (by decide), fun h_ => po_ (d := none) (t := 69) (φ := fun u_ => PtrZ r_aEn O_ w2 u_ x29) ((PtrZ.keep (m10_ (addS_off rfl h_)) (KX.keep hX_ (by decide)) (by decide) fit_aEn)) (by decide), fun hp_ hq_ => po_ (d := none) (t := 6) (φ := fun u_ => OwnBP 2 (Fr w0) O_ w2 (u_) #[.int .i64 0, .int .i64 0, .int .i64 0, .int .i64 0, .int .i64 0, .string (str []), .string (str []), .string (str []), .string (str [])] 26) (OwnBP.kx (v0_0_ (addS_off rfl hp_) (addS_no hq_)) hX_ (by decide)) (by decide), fun hp_ => po_ (d := none) (t := 6) (φ := fun u_ => OwnBP 2 (Fr w0) O_ w2 (u_) #[.int .i64 x26.Seq, .int .i64 x26.Shop, .int .i64 x26.Kind, .int .i64 x26.Day, .int .i64 x26.N, .string (str x26.Before), .string (str x26.After), .string (str x26.Prev), .string (str x26.Mark)] 26) (OwnBP.kx (v0_1_ (addS_off rfl hp_)) hX_ (by decide)) (by decide), fun hp_ hq_ => po_ (d := none) (t := 7) (φ := fun u_ => OwnBP 3 (Fr w0) O_ w2 (u_) #[.int .i64 0, .int .i64 0, .int .i64 0, .int .i64 0, .int .i64 0, .string (str []), .string (str []), .string (str []), .string (str [])] 26) (OwnBP.kx (v1_0_ (addS_off rfl hp_) (addS_no hq_)) hX_ (by decide)) (by decide), fun hp_ => po_ (d := none) (t := 7) (φ := fun u_ => OwnBP 3 (Fr w0) O_ w2 (u_) #[.int .i64 x27.Seq, .int .i64 x27.Shop, .int .i64 x27.Kind, .int .i64 x27.Day, .int .i64 x27.N, .string (str x27.Before), .string (str x27.After), .string (str x27.Prev), .string (str x27.Mark)] 26) (OwnBP.kx (v1_1_ (addS_off rfl hp_)) hX_ (by decide)) (by decide), fun hp_ hq_ => po_ (d := none) (t := 8) (φ := fun u_ => OwnBP 4 (Fr w0) O_ w2 (u_) #[.int .i64 0, .int .i64 0, .int .i64 0, .int .i64 0, .int .i64 0, .string (str []), .string (str []), .string (str []), .string (str [])] 26) (OwnBP.kx (v2_0_ (addS_off rfl hp_) (addS_no hq_)) hX_ (by decide)) (by decide), fun hp_ => po_ (d := none) (t := 8) (φ := fun u_ => OwnBP 4 (Fr w0) O_ w2 (u_) #[.int .i64 x28.Seq, .int .i64 x28.Shop, .int .i64 x28.Kind, .int .i64 x28.Day, .int .i64 x28.N, .string (str x28.Before), .string (str x28.After), .string (str x28.Prev), .string (str x28.Mark)] 26) (OwnBP.kx (v2_1_ (addS_off rfl hp_)) hX_ (by decide)) (by decide), fun hp_ hq_ => addS_me hq_, fun hp_ => po_ (d := none) (t := 9) (φ := fun u_ => OwnBP 5 (Fr w0) O_ w2 (u_) #[.int .i64 x29.Seq, .int .i64 x29.Shop, .int .i64 x29.Kind, .int .i64 x29.Day, .int .i64 x29.N, .string (str x29.Before), .string (str x29.After), .string (str x29.Prev), .string (str x29.Mark)] 26) (⟨b_, eb_, f_⟩) (by decide)⟩ trivial
 case zsk9 =>
  subst eJ_
  intro i_ o_ S_ a_ w_ ho_ hact_ hA_ hS_ hbef_ hJ_
  obtain ⟨O_, hB_, k0_, m1_, m4_, m7_, m10_, v0_0_, v0_1_, v1_0_, v1_1_, v2_0_, v2_1_, v3_0_, v3_1_⟩ := hJ_
  exact ⟨O_, hB_, k0_, fun h_ => by obtain ⟨h1_, h2_⟩ := skip_off (j := 1) hact_ rfl h_; exact po_ (t := 60) (φ := fun u_ => PtrZ r_aEn O_ w_ u_ x26) (m1_ h1_) (uniqDst_ne (j := 1) (by kernel_rfl) ho_ h2_), fun h_ => by obtain ⟨h1_, h2_⟩ := skip_off (j := 4) hact_ rfl h_; exact po_ (t := 63) (φ := fun u_ => PtrZ r_aEn O_ w_ u_ x27) (m4_ h1_) (uniqDst_ne (j := 4) (by kernel_rfl) ho_ h2_), fun h_ => by obtain ⟨h1_, h2_⟩ := skip_off (j := 7) hact_ rfl h_; exact po_ (t := 66) (φ := fun u_ => PtrZ r_aEn O_ w_ u_ x28) (m7_ h1_) (uniqDst_ne (j := 7) (by kernel_rfl) ho_ h2_), fun h_ => by obtain ⟨h1_, h2_⟩ := skip_off (j := 10) hact_ rfl h_; exact po_ (t := 69) (φ := fun u_ => PtrZ r_aEn O_ w_ u_ x29) (m10_ h1_) (uniqDst_ne (j := 10) (by kernel_rfl) ho_ h2_), fun hp_ hq_ => by obtain ⟨h1_, h2_⟩ := skip_off (j := 12) hact_ rfl hp_; exact po_ (t := 6) (φ := fun u_ => OwnBP 2 (Fr w0) O_ w_ (u_) #[.int .i64 0, .int .i64 0, .int .i64 0, .int .i64 0, .int .i64 0, .string (str []), .string (str []), .string (str []), .string (str [])] 26) (v0_0_ h1_ (addS_no hq_)) (uniqDst_ne (j := 12) (by kernel_rfl) ho_ h2_), fun hp_ => by obtain ⟨h1_, h2_⟩ := skip_off (j := 16) hact_ rfl hp_; exact po_ (t := 6) (φ := fun u_ => OwnBP 2 (Fr w0) O_ w_ (u_) #[.int .i64 x26.Seq, .int .i64 x26.Shop, .int .i64 x26.Kind, .int .i64 x26.Day, .int .i64 x26.N, .string (str x26.Before), .string (str x26.After), .string (str x26.Prev), .string (str x26.Mark)] 26) (v0_1_ h1_) (uniqDst_ne (j := 12) (by kernel_rfl) ho_ (skip_ne hact_ rfl)), fun hp_ hq_ => by obtain ⟨h1_, h2_⟩ := skip_off (j := 13) hact_ rfl hp_; exact po_ (t := 7) (φ := fun u_ => OwnBP 3 (Fr w0) O_ w_ (u_) #[.int .i64 0, .int .i64 0, .int .i64 0, .int .i64 0, .int .i64 0, .string (str []), .string (str []), .string (str []), .string (str [])] 26) (v1_0_ h1_ (addS_no hq_)) (uniqDst_ne (j := 13) (by kernel_rfl) ho_ h2_), fun hp_ => by obtain ⟨h1_, h2_⟩ := skip_off (j := 17) hact_ rfl hp_; exact po_ (t := 7) (φ := fun u_ => OwnBP 3 (Fr w0) O_ w_ (u_) #[.int .i64 x27.Seq, .int .i64 x27.Shop, .int .i64 x27.Kind, .int .i64 x27.Day, .int .i64 x27.N, .string (str x27.Before), .string (str x27.After), .string (str x27.Prev), .string (str x27.Mark)] 26) (v1_1_ h1_) (uniqDst_ne (j := 13) (by kernel_rfl) ho_ (skip_ne hact_ rfl)), fun hp_ hq_ => by obtain ⟨h1_, h2_⟩ := skip_off (j := 14) hact_ rfl hp_; exact po_ (t := 8) (φ := fun u_ => OwnBP 4 (Fr w0) O_ w_ (u_) #[.int .i64 0, .int .i64 0, .int .i64 0, .int .i64 0, .int .i64 0, .string (str []), .string (str []), .string (str []), .string (str [])] 26) (v2_0_ h1_ (addS_no hq_)) (uniqDst_ne (j := 14) (by kernel_rfl) ho_ h2_), fun hp_ => by obtain ⟨h1_, h2_⟩ := skip_off (j := 18) hact_ rfl hp_; exact po_ (t := 8) (φ := fun u_ => OwnBP 4 (Fr w0) O_ w_ (u_) #[.int .i64 x28.Seq, .int .i64 x28.Shop, .int .i64 x28.Kind, .int .i64 x28.Day, .int .i64 x28.N, .string (str x28.Before), .string (str x28.After), .string (str x28.Prev), .string (str x28.Mark)] 26) (v2_1_ h1_) (uniqDst_ne (j := 14) (by kernel_rfl) ho_ (skip_ne hact_ rfl)), fun hp_ hq_ => by obtain ⟨h1_, h2_⟩ := skip_off (j := 15) hact_ rfl hp_; exact po_ (t := 9) (φ := fun u_ => OwnBP 5 (Fr w0) O_ w_ (u_) #[.int .i64 0, .int .i64 0, .int .i64 0, .int .i64 0, .int .i64 0, .string (str []), .string (str []), .string (str []), .string (str [])] 26) (v3_0_ h1_ (addS_no hq_)) (uniqDst_ne (j := 15) (by kernel_rfl) ho_ h2_), fun hp_ => by obtain ⟨h1_, h2_⟩ := skip_off (j := 19) hact_ rfl hp_; exact po_ (t := 9) (φ := fun u_ => OwnBP 5 (Fr w0) O_ w_ (u_) #[.int .i64 x29.Seq, .int .i64 x29.Shop, .int .i64 x29.Kind, .int .i64 x29.Day, .int .i64 x29.N, .string (str x29.Before), .string (str x29.After), .string (str x29.Prev), .string (str x29.Mark)] 26) (v3_1_ h1_) (uniqDst_ne (j := 15) (by kernel_rfl) ho_ (skip_ne hact_ rfl))⟩
 case zst9 => subst eJ_; exact fun w1_ hE_ => ⟨O24, (Base.step hB hE_ hO), (Keep.ext hE_), fun h_ => no_ft h_, fun h_ => no_ft h_, fun h_ => no_ft h_, fun h_ => no_ft h_, fun hp_ => no_ft hp_, fun hp_ => no_ft hp_, fun hp_ => no_ft hp_, fun hp_ => no_ft hp_, fun hp_ => no_ft hp_, fun hp_ => no_ft hp_, fun hp_ => no_ft hp_, fun hp_ => no_ft hp_⟩
 case zok9 | zgd9 => kernel_rfl
 subst eJ_; clear T_
 intro a9 w9 hA HF hJ_
 obtain ⟨O30, hB_, k0_, m1_, m4_, m7_, m10_, v0_0_, v0_1_, v1_0_, v1_1_, v2_0_, v2_1_, v3_0_, v3_1_⟩ := hJ_
 replace q1 := kn (HF 1) rfl q1
 replace q2 := kn (HF 2) rfl q2
 replace q3 := kn (HF 3) rfl q3
 replace q4 := kn (HF 4) rfl q4
 replace q5 := kn (HF 5) rfl q5
 obtain ⟨b31, q6', f32⟩ := (v0_1_ rfl)
 have q6 := q6'; clear q6'
 obtain ⟨b33, q7', f34⟩ := (v1_1_ rfl)
 have q7 := q7'; clear q7'
 obtain ⟨b35, q8', f36⟩ := (v2_1_ rfl)
 have q8 := q8'; clear q8'
 obtain ⟨b37, q9', f38⟩ := (v3_1_ rfl)
 have q9 := q9'; clear q9'
 clear HF
 replace f2 := GR.v_mono _ f2 k0_
 replace f14 := GR.v_mono _ f14 k0_
 clear hB; have hB := hB_; clear hB_
 clear k0_ m1_ m4_ m7_ m10_ v0_0_ v0_1_ v1_0_ v1_1_ v2_0_ v2_1_ v3_0_ v3_1_
 refine nx_then (wp_seq ?_)
 refine' regionT [_, SP.isv (.pointer (some ⟨b31, 1, none⟩))] hA (.cons (fun _ _ hE hK hg => ok_move (kn (hK 2 rfl) rfl q2)) (.cons (fun _ _ hE hK hg => ok_fieldAddr fl26_1 (kn (hK 6 rfl) rfl q6)) .nil)) ?zok10 ?zgd10 ?zk10
 case zok10 | zgd10 => kernel_rfl
 intro a10 w10 hA hE HF
 replace q1 := kn (HF 1) rfl q1
 replace q3 := kn (HF 3) rfl q3
 replace q4 := kn (HF 4) rfl q4
 replace q5 := kn (HF 5) rfl q5
 replace q6 := kn (HF 6) rfl q6
 replace q7 := kn (HF 7) rfl q7
 replace q8 := kn (HF 8) rfl q8
 replace q9 := kn (HF 9) rfl q9
 have q71 := ksv (HF 71) rfl rfl rfl
 have q72 := ksv (HF 72) rfl rfl rfl
 clear q2
 clear HF
 replace f2 := GR.v_ext _ f2 hE
 replace f14 := GR.v_ext _ f14 hE
 replace f32 := f32.ext hE
 replace f34 := f34.ext hE
 replace f36 := f36.ext hE
 replace f38 := f38.ext hE
 replace hB := Base.step hB hE hO; clear hE
 refine l_store1 (cs' := #[.int .i64 x26.Seq, .int .i64 0, .int .i64 x26.Kind, .int .i64 x26.Day, .int .i64 x26.N, .string (str x26.Before), .string (str x26.After), .string (str x26.Prev), .string (str x26.Mark)]) hO hB (okB_fr hB) ty3 q72 rfl rfl rfl f32 (by simp) rfl fun w11 f39 hB' hX => ?_
 clear hB f32; have hB := hB'; clear hB'
 replace f2 := GR.kx _ f2 hX (by decide)
 replace f14 := GR.kx _ f14 hX (by decide)
 replace f34 := f34.kx hX (by decide)
 replace f36 := f36.kx hX (by decide)
 replace f38 := f38.kx hX (by decide)
 clear hX
 refine l_ok (φ := SP.isv (.pointer (some ⟨b33, 3, none⟩))) hO hB (by exact ok_fieldAddr fl26_3 q7) rfl fun u_ w12 hE hB' hv_ => ?_
 replace hv_ := Eq.symm hv_; subst hv_; clear hB; have hB := hB'; clear hB'
 replace f2 := GR.v_ext _ f2 hE
 replace f14 := GR.v_ext _ f14 hE
 replace f39 := f39.ext hE
 replace f34 := f34.ext hE
 replace f36 := f36.ext hE
 replace f38 := f38.ext hE
 clear hE
 refine put_cont hA (by decide) fun a13 hA q_ hfr => ?_
 replace q1 := (hfr 1 rfl).trans q1
 replace q3 := (hfr 3 rfl).trans q3
 replace q4 := (hfr 4 rfl).trans q4
 replace q5 := (hfr 5 rfl).trans q5
 replace q6 := (hfr 6 rfl).trans q6
 replace q7 := (hfr 7 rfl).trans q7
 replace q8 := (hfr 8 rfl).trans q8
 replace q9 := (hfr 9 rfl).trans q9
 replace q71 := (hfr 71 rfl).trans q71
 have q73 := q_; clear q_ hfr
 refine l_store1 (cs' := #[.int .i64 x27.Seq, .int .i64 x27.Shop, .int .i64 x27.Kind, .int .i64 2, .int .i64 x27.N, .string (str x27.Before), .string (str x27.After), .string (str x27.Prev), .string (str x27.Mark)]) hO hB (okB_fr hB) ty3 q73 rfl rfl rfl f34 (by simp) rfl fun w14 f40 hB' hX => ?_
 clear hB f34; have hB := hB'; clear hB'
 replace f2 := GR.kx _ f2 hX (by decide)
 replace f14 := GR.kx _ f14 hX (by decide)
 replace f39 := f39.kx hX (by decide)
 replace f36 := f36.kx hX (by decide)
 replace f38 := f38.kx hX (by decide)
 clear hX
 refine l_ok (φ := SP.isv (.pointer (some ⟨b35, 4, none⟩))) hO hB (by exact ok_fieldAddr fl26_4 q8) rfl fun u_ w15 hE hB' hv_ => ?_
 replace hv_ := Eq.symm hv_; subst hv_; clear hB; have hB := hB'; clear hB'
 replace f2 := GR.v_ext _ f2 hE
 replace f14 := GR.v_ext _ f14 hE
 replace f39 := f39.ext hE
 replace f40 := f40.ext hE
 replace f36 := f36.ext hE
 replace f38 := f38.ext hE
 clear hE
 refine put_cont hA (by decide) fun a16 hA q_ hfr => ?_
 replace q1 := (hfr 1 rfl).trans q1
 replace q3 := (hfr 3 rfl).trans q3
 replace q4 := (hfr 4 rfl).trans q4
 replace q5 := (hfr 5 rfl).trans q5
 replace q6 := (hfr 6 rfl).trans q6
 replace q7 := (hfr 7 rfl).trans q7
 replace q8 := (hfr 8 rfl).trans q8
 replace q9 := (hfr 9 rfl).trans q9
 replace q71 := (hfr 71 rfl).trans q71
 have q74 := q_; clear q_ hfr
 refine l_store1 (cs' := #[.int .i64 x28.Seq, .int .i64 x28.Shop, .int .i64 x28.Kind, .int .i64 x28.Day, .int .i64 3, .string (str x28.Before), .string (str x28.After), .string (str x28.Prev), .string (str x28.Mark)]) hO hB (okB_fr hB) ty3 q74 rfl rfl rfl f36 (by simp) rfl fun w17 f41 hB' hX => ?_
 clear hB f36; have hB := hB'; clear hB'
 replace f2 := GR.kx _ f2 hX (by decide)
 replace f14 := GR.kx _ f14 hX (by decide)
 replace f39 := f39.kx hX (by decide)
 replace f40 := f40.kx hX (by decide)
 replace f38 := f38.kx hX (by decide)
 clear hX
 refine l_ok (φ := SP.isv (.pointer (some ⟨b37, 6, none⟩))) hO hB (by exact ok_fieldAddr fl26_6 q9) rfl fun u_ w18 hE hB' hv_ => ?_
 replace hv_ := Eq.symm hv_; subst hv_; clear hB; have hB := hB'; clear hB'
 replace f2 := GR.v_ext _ f2 hE
 replace f14 := GR.v_ext _ f14 hE
 replace f39 := f39.ext hE
 replace f40 := f40.ext hE
 replace f41 := f41.ext hE
 replace f38 := f38.ext hE
 clear hE
 refine put_cont hA (by decide) fun a19 hA q_ hfr => ?_
 replace q1 := (hfr 1 rfl).trans q1
 replace q3 := (hfr 3 rfl).trans q3
 replace q4 := (hfr 4 rfl).trans q4
 replace q5 := (hfr 5 rfl).trans q5
 replace q6 := (hfr 6 rfl).trans q6
 replace q7 := (hfr 7 rfl).trans q7
 replace q8 := (hfr 8 rfl).trans q8
 replace q9 := (hfr 9 rfl).trans q9
 replace q71 := (hfr 71 rfl).trans q71
 have q75 := q_; clear q_ hfr
 refine l_store1 (cs' := #[.int .i64 x29.Seq, .int .i64 x29.Shop, .int .i64 x29.Kind, .int .i64 x29.Day, .int .i64 x29.N, .string (str x29.Before), .string (str [114, 114, 114, 114, 114, 114, 114, 114]), .string (str x29.Prev), .string (str x29.Mark)]) hO hB (okB_fr hB) ty9 q75 q71 rfl rfl f38 (by simp) rfl fun w20 f42 hB' hX => ?_
 clear hB f38; have hB := hB'; clear hB'
 replace f2 := GR.kx _ f2 hX (by decide)
 replace f14 := GR.kx _ f14 hX (by decide)
 replace f39 := f39.kx hX (by decide)
 replace f40 := f40.kx hX (by decide)
 replace f41 := f41.kx hX (by decide)
 clear hX
 refine li_nil (nx_then (wp_seq ?_))
 refine' regionT [] hA .nil ?zok11 ?zgd11 ?zk11
 case zok11 | zgd11 => kernel_rfl
 intro a21 w21 hA hE HF
 replace q1 := kn (HF 1) rfl q1
 replace q3 := kn (HF 3) rfl q3
 replace q4 := kn (HF 4) rfl q4
 replace q5 := kn (HF 5) rfl q5
 replace q6 := kn (HF 6) rfl q6
 replace q7 := kn (HF 7) rfl q7
 replace q8 := kn (HF 8) rfl q8
 replace q9 := kn (HF 9) rfl q9
 clear HF
 replace f2 := GR.v_ext _ f2 hE
 replace f14 := GR.v_ext _ f14 hE
 replace f39 := f39.ext hE
 replace f40 := f40.ext hE
 replace f41 := f41.ext hE
 replace f42 := f42.ext hE
 replace hB := Base.step hB hE hO; clear hE
 refine l_ok (φ := SP.ownr r_aEn 26 w21.heap.size O30 []) hO hB (by exact okl_buildSlice (r := r_aEn) fit_aEn rfl hB.ok ty29 ty26 (Nat.le_refl _) parts_nil trivial rfl (by decide)) rfl fun u43 w22 hE hB' f44 => ?_
 clear hB'; obtain ⟨O45, hB', hX, f46⟩ := ownNew hO hB hE f44 rfl 6 (by decide)
 clear hB f44; have hB := hB'; clear hB'
 replace f2 := GR.kx _ f2 hX (by decide)
 replace f14 := GR.kx _ f14 hX (by decide)
 replace f39 := f39.kx hX (by decide)
 replace f40 := f40.kx hX (by decide)
 replace f41 := f41.kx hX (by decide)
 replace f42 := f42.kx hX (by decide)
 clear hX hE
 refine put_cont hA (by decide) fun a23 hA q_ hfr => ?_
 replace q1 := (hfr 1 rfl).trans q1
 replace q3 := (hfr 3 rfl).trans q3
 replace q4 := (hfr 4 rfl).trans q4
 replace q5 := (hfr 5 rfl).trans q5
 replace q6 := (hfr 6 rfl).trans q6
 replace q7 := (hfr 7 rfl).trans q7
 replace q8 := (hfr 8 rfl).trans q8
 replace q9 := (hfr 9 rfl).trans q9
 have q76 := q_; clear q_ hfr
 refine l_ok (φ := SP.isv (u13)) hO hB (by exact ok_move q4) rfl fun u_ w24 hE hB' hv_ => ?_
 replace hv_ := Eq.symm hv_; subst hv_; clear hB; have hB := hB'; clear hB'
 replace f2 := GR.v_ext _ f2 hE
 replace f14 := GR.v_ext _ f14 hE
 replace f46 := f46.ext hE
 replace f39 := f39.ext hE
 replace f40 := f40.ext hE
 replace f41 := f41.ext hE
 replace f42 := f42.ext hE
 clear hE
 refine put_cont hA (by decide) fun a25 hA q_ hfr => ?_
 replace q1 := (hfr 1 rfl).trans q1
 replace q3 := (hfr 3 rfl).trans q3
 replace q4 := (hfr 4 rfl).trans q4
 replace q5 := (hfr 5 rfl).trans q5
 replace q6 := (hfr 6 rfl).trans q6
 replace q7 := (hfr 7 rfl).trans q7
 replace q8 := (hfr 8 rfl).trans q8
 replace q9 := (hfr 9 rfl).trans q9
 replace q76 := (hfr 76 rfl).trans q76
 have q77 := q_; clear q_ hfr
 obtain ⟨x47, hx47, h⟩ := Comp.run_bind h
 refine l_append (r := r_aEn) fit_aEn rfl ty29 ty26 rfl (by decide) hO hB (okB_fr hB) q76 f46 q77 (rd_of f14) hx47 (by decide) fun u48 w26 O49 f50 hB' hX => ?_
 clear hB; have hB := hB'; clear hB'
 clear f46
 replace f2 := GR.kx _ f2 hX (by decide)
 replace f14 := GR.kx _ f14 hX (by decide)
 replace f39 := f39.kx hX (by decide)
 replace f40 := f40.kx hX (by decide)
 replace f41 := f41.kx hX (by decide)
 replace f42 := f42.kx hX (by decide)
 clear hX
 refine put_cont hA (by decide) fun a27 hA q_ hfr => ?_
 replace q1 := (hfr 1 rfl).trans q1
 replace q3 := (hfr 3 rfl).trans q3
 replace q4 := (hfr 4 rfl).trans q4
 replace q5 := (hfr 5 rfl).trans q5
 replace q6 := (hfr 6 rfl).trans q6
 replace q7 := (hfr 7 rfl).trans q7
 replace q8 := (hfr 8 rfl).trans q8
 replace q9 := (hfr 9 rfl).trans q9
 replace q76 := (hfr 76 rfl).trans q76
 replace q77 := (hfr 77 rfl).trans q77
 have q78 := q_; clear q_ hfr
 refine l_ok (φ := SP.isv (u48)) hO hB (by exact ok_assign q78) rfl fun u_ w28 hE hB' hv_ => ?_
 replace hv_ := Eq.symm hv_; subst hv_; clear hB; have hB := hB'; clear hB'
 replace f2 := GR.v_ext _ f2 hE
 replace f14 := GR.v_ext _ f14 hE
 replace f50 := f50.ext hE
 replace f39 := f39.ext hE
 replace f40 := f40.ext hE
 replace f41 := f41.ext hE
 replace f42 := f42.ext hE
 clear hE
 refine put_cont hA (by decide) fun a29 hA q_ hfr => ?_
 replace q1 := (hfr 1 rfl).trans q1
 replace q3 := (hfr 3 rfl).trans q3
 replace q4 := (hfr 4 rfl).trans q4
 replace q5 := (hfr 5 rfl).trans q5
 replace q6 := (hfr 6 rfl).trans q6
 replace q7 := (hfr 7 rfl).trans q7
 replace q8 := (hfr 8 rfl).trans q8
 replace q9 := (hfr 9 rfl).trans q9
 replace q78 := (hfr 78 rfl).trans q78
 have q10 := q_; clear q_ hfr
 refine li_nil (nx_then (wp_seq ?_))
 obtain ⟨x51, hx51, h⟩ := Comp.run_bind h
 refine' regionT [_, SP.elt (u48) (Int.toNat 1 * 9), SP.elt (u48) (Int.toNat 1 * 9 + 4)] hA (.cons (fun _ _ hE hK hg => ok_move (kn (hK 10 rfl) rfl q10)) (.cons (fun _ _ hE hK hg => okl_idxOwn rfl ty29 ty26 (ksv (j := 0) (hK 79 rfl) rfl rfl rfl) (OwnL.ext f50 hE) rfl (idx_lt hx51)) (.cons (fun _ _ hE hK hg => okl_fldElt fl26_4 rfl (kspS (φ := SP.elt (u48) (Int.toNat 1 * 9)) (j := 1) (hK 80 rfl) rfl rfl rfl)) .nil))) ?zok12 ?zgd12 ?zk12
 case zok12 | zgd12 => kernel_rfl
 intro a30 w30 hA hE HF
 replace q1 := kn (HF 1) rfl q1
 replace q3 := kn (HF 3) rfl q3
 replace q4 := kn (HF 4) rfl q4
 replace q5 := kn (HF 5) rfl q5
 replace q6 := kn (HF 6) rfl q6
 replace q7 := kn (HF 7) rfl q7
 replace q8 := kn (HF 8) rfl q8
 replace q9 := kn (HF 9) rfl q9
 replace q10 := kn (HF 10) rfl q10
 have f53 := ksp (HF 81) rfl rfl rfl
 obtain ⟨u52, q81'⟩ : ∃ u, a30.get 81 = u := ⟨_, rfl⟩
 rw [q81'] at f53
 have q81 := q81'; clear q81'
 clear HF
 replace f2 := GR.v_ext _ f2 hE
 replace f14 := GR.v_ext _ f14 hE
 replace f50 := f50.ext hE
 replace f39 := f39.ext hE
 replace f40 := f40.ext hE
 replace f41 := f41.ext hE
 replace f42 := f42.ext hE
 replace hB := Base.step hB hE hO; clear hE
 obtain ⟨x55, hx55, h⟩ := Comp.run_bind h
 obtain ⟨x56, hx56, h⟩ := Comp.run_bind h
 refine l_storeFld (f := (fun (x : aEn) => [.int .i64 x.Seq, .int .i64 x.Shop, .int .i64 x.Kind, .int .i64 x.Day, .int .i64 x.N, .string (str x.Before), .string (str x.After), .string (str x.Prev), .string (str x.Mark)])) (hl := (fun _ => rfl)) (ho := (fun _ => by simp [Value.oneCell'])) hO hB (okB_fr hB) ty3 q81 f53 f50 rfl rfl rfl (by decide) hx55 hx56 rfl (by decide) fun w31 f54 hB' hX => ?_
 clear hB; have hB := hB'; clear hB'
 replace f2 := GR.kx _ f2 hX (by decide)
 replace f14 := GR.kx _ f14 hX (by decide)
 replace f39 := f39.kx hX (by decide)
 replace f40 := f40.kx hX (by decide)
 replace f41 := f41.kx hX (by decide)
 replace f42 := f42.kx hX (by decide)
 clear hX f50
 refine li_nil (nx_then (wp_seq ?_))
 obtain ⟨x57, hx57, h⟩ := Comp.run_bind h
 obtain ⟨x58, hx58, h⟩ := Comp.run_bind h
 obtain ⟨x59, hx59, h⟩ := Comp.run_bind h
 obtain ⟨x60, hx60, h⟩ := Comp.run_bind h
 obtain ⟨x61, hx61, h⟩ := Comp.run_bind h
 obtain ⟨x62, hx62, h⟩ := Comp.run_bind h
 obtain ⟨x63, hx63, h⟩ := Comp.run_bind h
 obtain ⟨x64, hx64, h⟩ := Comp.run_bind h
 obtain ⟨x65, hx65, h⟩ := Comp.run_bind h
 refine' region [_, _, _, SP.isv (.agg #[.int .i64 x26.Seq, .int .i64 0, .int .i64 x26.Kind, .int .i64 x26.Day, .int .i64 x26.N, .string (str x26.Before), .string (str x26.After), .string (str x26.Prev), .string (str x26.Mark)]), SP.vl (rSl r_aEn) O49 x57, SP.isv (.bool x58), _, _, _, _, SP.isv (.agg #[.int .i64 x27.Seq, .int .i64 x27.Shop, .int .i64 x27.Kind, .int .i64 2, .int .i64 x27.N, .string (str x27.Before), .string (str x27.After), .string (str x27.Prev), .string (str x27.Mark)]), SP.vl (rSl r_aEn) O49 x59, SP.isv (.bool x60), _, _, _, _, SP.isv (.bool x61), _, _, _, _, _, SP.isv (.agg #[.int .i64 x28.Seq, .int .i64 x28.Shop, .int .i64 x28.Kind, .int .i64 x28.Day, .int .i64 3, .string (str x28.Before), .string (str x28.After), .string (str x28.Prev), .string (str x28.Mark)]), SP.vl (rSl r_aEn) O49 x62, SP.isv (.bool x63), _, _, _, _, _, SP.isv (.agg #[.int .i64 x29.Seq, .int .i64 x29.Shop, .int .i64 x29.Kind, .int .i64 x29.Day, .int .i64 x29.N, .string (str x29.Before), .string (str [114, 114, 114, 114, 114, 114, 114, 114]), .string (str x29.Prev), .string (str x29.Mark)]), SP.vl (rSl r_aEn) O49 x64, SP.isv (.bool x65), _, _] mixed hA (.cons (fun _ _ hE hK hg => ok_move (kn (hK 1 rfl) rfl q1)) (.cons (fun _ _ hE hK hg => ok_move (kn (hK 1 rfl) rfl q1)) (.cons (fun _ _ hE hK hg => ok_move (kn (hK 4 rfl) rfl q4)) (.cons (fun _ _ hE hK hg => ok_loadOwnAgg ty26 rfl (kn (hK 6 rfl) rfl q6) (OwnB.ext f39 hE).own rfl) (.cons ?z13_4 (.cons ?z13_5 (.cons (fun _ _ hE hK hg => ok_move (ksv (j := 5) (hK 87 rfl) rfl rfl rfl)) (.cons (fun _ _ hE hK hg => ok_move (kn (hK 1 rfl) rfl q1)) (.cons (fun _ _ hE hK hg => ok_move (kn (hK 1 rfl) rfl q1)) (.cons (fun _ _ hE hK hg => ok_move (kn (hK 4 rfl) rfl q4)) (.cons (fun _ _ hE hK hg => ok_loadOwnAgg ty26 rfl (kn (hK 7 rfl) rfl q7) (OwnB.ext f40 hE).own rfl) (.cons ?z13_11 (.cons ?z13_12 (.cons ?z13_13 (.cons (fun _ _ hE hK hg => ok_move (ksv (j := 13) (hK 95 rfl) rfl rfl rfl)) (.cons (fun _ _ hE hK hg => ok_move (kn (hK 1 rfl) rfl q1)) (.cons (fun _ _ hE hK hg => ok_move (kn (hK 10 rfl) rfl q10)) (.cons ?z13_17 (.cons ?z13_18 (.cons (fun _ _ hE hK hg => ok_move (ksv (j := 18) (hK 100 rfl) rfl rfl rfl)) (.cons (fun _ _ hE hK hg => ok_move (kn (hK 1 rfl) rfl q1)) (.cons (fun _ _ hE hK hg => ok_move (kn (hK 1 rfl) rfl q1)) (.cons (fun _ _ hE hK hg => ok_move (kn (hK 4 rfl) rfl q4)) (.cons (fun _ _ hE hK hg => ok_loadOwnAgg ty26 rfl (kn (hK 8 rfl) rfl q8) (OwnB.ext f41 hE).own rfl) (.cons ?z13_24 (.cons ?z13_25 (.cons ?z13_26 (.cons (fun _ _ hE hK hg => ok_move (ksv (j := 26) (hK 108 rfl) rfl rfl rfl)) (.cons (fun _ _ hE hK hg => ok_move (kn (hK 1 rfl) rfl q1)) (.cons (fun _ _ hE hK hg => ok_move (kn (hK 1 rfl) rfl q1)) (.cons (fun _ _ hE hK hg => ok_move (kn (hK 4 rfl) rfl q4)) (.cons (fun _ _ hE hK hg => ok_loadOwnAgg ty26 rfl (kn (hK 9 rfl) rfl q9) (OwnB.ext f42 hE).own rfl) (.cons ?z13_32 (.cons ?z13_33 (.cons ?z13_34 (.cons (fun _ _ hE hK hg => ok_assign (ksv (j := 34) (hK 116 rfl) rfl rfl rfl)) .nil)))))))))))))))))))))))))))))))))))) ?zok13 ?zgd13 ?zk13
 case z13_4 => intro a' w' hE hK hg; have c_ := ok_c7_put (OkO.ext hB.ok hE) (GR.v_ext _ f2 hE) (GR.v_ext _ f14 hE) hx57; exact ok_weak (ok_call4 fn53 (ksv (j := 1) (hK 83 rfl) rfl rfl rfl) (ksv (j := 2) (hK 84 rfl) rfl rfl rfl) rfl (ksv (j := 3) (hK 85 rfl) rfl rfl rfl) c_) (fun _ _ _ h => (OwnR.val h (fun g hg => (OkO.ext hB.ok hE) g (OwnR.ge h g hg).1)))
 case z13_5 => intro a' w' hE hK hg; have c_ := ok_c7_finds (OkO.ext hB.ok hE) (GR.v_ext _ f2 hE) (kspS (φ := SP.vl (rSl r_aEn) O49 x57) (j := 4) (hK 86 rfl) rfl rfl rfl) hx58; exact ok_call4 fn31 (ksv (j := 0) (hK 82 rfl) rfl rfl rfl) rfl rfl rfl c_
 case z13_11 => intro a' w' hE hK hg; have c_ := ok_c7_put (OkO.ext hB.ok hE) (GR.v_ext _ f2 hE) (GR.v_ext _ f14 hE) (run_gdb hx59 hg); exact ok_weak (ok_call4 fn53 (ksv (j := 8) (hK 90 rfl) rfl rfl hg) (ksv (j := 9) (hK 91 rfl) rfl rfl hg) rfl (ksv (j := 10) (hK 92 rfl) rfl rfl hg) c_) (fun _ _ _ h => (OwnR.val h (fun g hg => (OkO.ext hB.ok hE) g (OwnR.ge h g hg).1)))
 case z13_12 => intro a' w' hE hK hg; have c_ := ok_c7_finds (OkO.ext hB.ok hE) (GR.v_ext _ f2 hE) (kspS (φ := SP.vl (rSl r_aEn) O49 x59) (j := 11) (hK 93 rfl) rfl rfl hg) (run_gdb hx60 hg); exact ok_call4 fn31 (ksv (j := 7) (hK 89 rfl) rfl rfl hg) rfl rfl rfl c_
 case z13_13 => intro a' w' hE hK hg; exact ok_pick (ksv (j := 6) (hK 88 rfl) rfl rfl rfl) (fun hb => ksv (j := 12) (hK 94 rfl) rfl rfl (act_g1 rfl rfl hb)) (fun _ => rfl)
 case z13_17 => intro a' w' hE hK hg; have c_ := ok_c7_finds (okO_zero _) (GR.lend _ (GR.v_ext _ f2 hE)) (OwnL.lend (OwnL.ext f54 hE)) (run_gdb hx61 hg); exact ok_call4 fn31 (ksv (j := 15) (hK 97 rfl) rfl rfl hg) (ksv (j := 16) (hK 98 rfl) rfl rfl hg) rfl rfl c_
 case z13_18 => intro a' w' hE hK hg; exact ok_pick (ksv (j := 14) (hK 96 rfl) rfl rfl rfl) (fun hb => ksv (j := 17) (hK 99 rfl) rfl rfl (act_g1 rfl rfl hb)) (fun _ => rfl)
 case z13_24 => intro a' w' hE hK hg; have c_ := ok_c7_put (OkO.ext hB.ok hE) (GR.v_ext _ f2 hE) (GR.v_ext _ f14 hE) (run_gdb hx62 hg); exact ok_weak (ok_call4 fn53 (ksv (j := 21) (hK 103 rfl) rfl rfl hg) (ksv (j := 22) (hK 104 rfl) rfl rfl hg) rfl (ksv (j := 23) (hK 105 rfl) rfl rfl hg) c_) (fun _ _ _ h => (OwnR.val h (fun g hg => (OkO.ext hB.ok hE) g (OwnR.ge h g hg).1)))
 case z13_25 => intro a' w' hE hK hg; have c_ := ok_c7_finds (OkO.ext hB.ok hE) (GR.v_ext _ f2 hE) (kspS (φ := SP.vl (rSl r_aEn) O49 x62) (j := 24) (hK 106 rfl) rfl rfl hg) (run_gdb hx63 hg); exact ok_call4 fn31 (ksv (j := 20) (hK 102 rfl) rfl rfl hg) rfl rfl rfl c_
 case z13_26 => intro a' w' hE hK hg; exact ok_pick (ksv (j := 19) (hK 101 rfl) rfl rfl rfl) (fun hb => ksv (j := 25) (hK 107 rfl) rfl rfl (act_g1 rfl rfl hb)) (fun _ => rfl)
 case z13_32 => intro a' w' hE hK hg; have c_ := ok_c7_put (OkO.ext hB.ok hE) (GR.v_ext _ f2 hE) (GR.v_ext _ f14 hE) (run_gdb hx64 hg); exact ok_weak (ok_call4 fn53 (ksv (j := 29) (hK 111 rfl) rfl rfl hg) (ksv (j := 30) (hK 112 rfl) rfl rfl hg) rfl (ksv (j := 31) (hK 113 rfl) rfl rfl hg) c_) (fun _ _ _ h => (OwnR.val h (fun g hg => (OkO.ext hB.ok hE) g (OwnR.ge h g hg).1)))
 case z13_33 => intro a' w' hE hK hg; have c_ := ok_c7_finds (OkO.ext hB.ok hE) (GR.v_ext _ f2 hE) (kspS (φ := SP.vl (rSl r_aEn) O49 x64) (j := 32) (hK 114 rfl) rfl rfl hg) (run_gdb hx65 hg); exact ok_call4 fn31 (ksv (j := 28) (hK 110 rfl) rfl rfl hg) rfl rfl rfl c_
 case z13_34 => intro a' w' hE hK hg; exact ok_pick (ksv (j := 27) (hK 109 rfl) rfl rfl rfl) (fun hb => ksv (j := 33) (hK 115 rfl) rfl rfl (act_g1 rfl rfl hb)) (fun _ => rfl)
 case zok13 | zgd13 => kernel_rfl
 intro a32 w32 hA hE HF
 replace q1 := kn (HF 1) rfl q1
 replace q3 := kn (HF 3) rfl q3
 replace q4 := kn (HF 4) rfl q4
 replace q5 := kn (HF 5) rfl q5
 have q11 := ksv (HF 11) rfl rfl rfl
 clear q6
 clear q7
 clear q8
 clear q9
 clear q10
 clear HF
 replace f2 := GR.v_ext _ f2 hE
 replace f14 := GR.v_ext _ f14 hE
 replace f54 := f54.ext hE
 replace f39 := f39.ext hE
 replace f40 := f40.ext hE
 replace f41 := f41.ext hE
 replace f42 := f42.ext hE
 replace hB := Base.step hB hE hO; clear hE
 obtain ⟨x66, hx_, h⟩ := Comp.run_bind h; replace hx_ := Comp.run_pure hx_; rw [hx_] at q11; clear hx_
 refine li_nil (nx_then (wp_seq ?_))
 obtain ⟨x67, hx67, h⟩ := Comp.run_bind h
 obtain ⟨x68, hx68, h⟩ := Comp.run_bind h
 refine' region [_, _, SP.vl (rSl r_aEn) O49 x67, _, SP.isv (.agg #[.int .i64 0, .int .i64 0, .int .i64 2, .int .i64 3, .int .i64 7, .string (str []), .string (str [115, 115, 115, 115, 115, 115, 115, 115]), .string (str []), .string (str [])]), SP.vl (rSl r_aEn) O49 x68, SP.vl (rSl r_aEn) O49 x68] mixed hA (.cons (fun _ _ hE hK hg => ok_move (kn (hK 1 rfl) rfl q1)) (.cons (fun _ _ hE hK hg => ok_move (kn (hK 4 rfl) rfl q4)) (.cons (fun _ _ hE hK hg => okl_slice_h (r := r_aEn) ty29 ty26 rfl (ksv (j := 1) (hK 118 rfl) rfl rfl rfl) (GR.v_ext _ f14 hE) rfl hx67) (.cons (fun _ _ hE hK hg => ok_move (kn (hK 3 rfl) rfl q3)) (.cons (fun _ _ hE hK hg => okl_build plc26 ty26 (pk_cons (v := .int .i64 2) rfl (pk_cons (v := .int .i64 7) rfl (pk_cons (v := .int .i64 3) rfl (pk_cons (v := .string (str [115, 115, 115, 115, 115, 115, 115, 115])) (ksv (j := 3) (hK 120 rfl) rfl rfl rfl) pk_nil)))) rfl (.cons rfl rfl rfl (leb rfl) (.cons rfl rfl rfl (leb rfl) (.cons rfl rfl rfl (leb rfl) (.cons rfl rfl rfl (leb rfl) .nil)))) rfl) (.cons ?z14_5 (.cons (fun _ _ hE hK hg => ok_assign_pr (φ := SP.vl (rSl r_aEn) O49 x68) (kspS (j := 5) (hK 122 rfl) rfl rfl rfl)) .nil))))))) ?zok14 ?zgd14 ?zk14
 case z14_5 => intro a' w' hE hK hg; have c_ := ok_c7_after (OkO.ext hB.ok hE) (GR.v_ext _ f2 hE) (kspS (φ := SP.vl (rSl r_aEn) O49 x67) (j := 2) (hK 119 rfl) rfl rfl rfl) hx68; exact ok_weak (ok_call3 fn30 (ksv (j := 0) (hK 117 rfl) rfl rfl rfl) rfl (ksv (j := 4) (hK 121 rfl) rfl rfl rfl) c_) (fun _ _ _ h => (OwnR.val h (fun g hg => (OkO.ext hB.ok hE) g (OwnR.ge h g hg).1)))
 case zok14 | zgd14 => kernel_rfl
 intro a33 w33 hA hE HF
 replace q1 := kn (HF 1) rfl q1
 replace q4 := kn (HF 4) rfl q4
 replace q5 := kn (HF 5) rfl q5
 replace q11 := kn (HF 11) rfl q11
 have f70 := ksp (HF 12) rfl rfl rfl
 obtain ⟨u69, q12'⟩ : ∃ u, a33.get 12 = u := ⟨_, rfl⟩
 rw [q12'] at f70
 have q12 := q12'; clear q12'
 clear q3
 clear HF
 replace f2 := GR.v_ext _ f2 hE
 replace f14 := GR.v_ext _ f14 hE
 replace hB := Base.step hB hE hO; clear hE
 refine li_nil (nx_then (wp_seq ?_))
 refine' regionT [] hA .nil ?zok15 ?zgd15 ?zk15
 case zok15 | zgd15 => kernel_rfl
 intro a34 w34 hA hE HF
 replace q1 := kn (HF 1) rfl q1
 replace q4 := kn (HF 4) rfl q4
 replace q5 := kn (HF 5) rfl q5
 replace q11 := kn (HF 11) rfl q11
 replace q12 := kn (HF 12) rfl q12
 clear HF
 replace f2 := GR.v_ext _ f2 hE
 replace f14 := GR.v_ext _ f14 hE
 replace f70 := GR.v_ext _ f70 hE
 replace hB := Base.step hB hE hO; clear hE
 refine l_ok (φ := SP.ownr r_aEn 26 w34.heap.size O49 []) hO hB (by exact okl_buildSlice (r := r_aEn) fit_aEn rfl hB.ok ty29 ty26 (Nat.le_refl _) parts_nil trivial rfl (by decide)) rfl fun u71 w35 hE hB' f72 => ?_
 clear hB'; obtain ⟨O73, hB', hX, f74⟩ := ownNew hO hB hE f72 rfl 7 (by decide)
 clear hB f72; have hB := hB'; clear hB'
 replace f2 := GR.kx _ f2 hX (by decide)
 replace f14 := GR.kx _ f14 hX (by decide)
 replace f70 := GR.kx _ f70 hX (by decide)
 clear hX hE
 refine put_cont hA (by decide) fun a36 hA q_ hfr => ?_
 replace q1 := (hfr 1 rfl).trans q1
 replace q4 := (hfr 4 rfl).trans q4
 replace q5 := (hfr 5 rfl).trans q5
 replace q11 := (hfr 11 rfl).trans q11
 replace q12 := (hfr 12 rfl).trans q12
 have q123 := q_; clear q_ hfr
 refine l_ok (φ := SP.isv (u13)) hO hB (by exact ok_move q4) rfl fun u_ w37 hE hB' hv_ => ?_
 replace hv_ := Eq.symm hv_; subst hv_; clear hB; have hB := hB'; clear hB'
 replace f2 := GR.v_ext _ f2 hE
 replace f14 := GR.v_ext _ f14 hE
 replace f70 := GR.v_ext _ f70 hE
 replace f74 := f74.ext hE
 clear hE
 refine put_cont hA (by decide) fun a38 hA q_ hfr => ?_
 replace q1 := (hfr 1 rfl).trans q1
 replace q4 := (hfr 4 rfl).trans q4
 replace q5 := (hfr 5 rfl).trans q5
 replace q11 := (hfr 11 rfl).trans q11
 replace q12 := (hfr 12 rfl).trans q12
 replace q123 := (hfr 123 rfl).trans q123
 have q124 := q_; clear q_ hfr
 obtain ⟨x75, hx75, h⟩ := Comp.run_bind h
 refine l_append (r := r_aEn) fit_aEn rfl ty29 ty26 rfl (by decide) hO hB (okB_fr hB) q123 f74 q124 (rd_of f14) hx75 (by decide) fun u76 w39 O77 f78 hB' hX => ?_
 clear hB; have hB := hB'; clear hB'
 clear f74
 replace f2 := GR.kx _ f2 hX (by decide)
 replace f14 := GR.kx _ f14 hX (by decide)
 replace f70 := GR.kx _ f70 hX (by decide)
 clear hX
 refine put_cont hA (by decide) fun a40 hA q_ hfr => ?_
 replace q1 := (hfr 1 rfl).trans q1
 replace q4 := (hfr 4 rfl).trans q4
 replace q5 := (hfr 5 rfl).trans q5
 replace q11 := (hfr 11 rfl).trans q11
 replace q12 := (hfr 12 rfl).trans q12
 replace q123 := (hfr 123 rfl).trans q123
 replace q124 := (hfr 124 rfl).trans q124
 have q125 := q_; clear q_ hfr
 refine l_ok (φ := SP.isv (u76)) hO hB (by exact ok_assign q125) rfl fun u_ w41 hE hB' hv_ => ?_
 replace hv_ := Eq.symm hv_; subst hv_; clear hB; have hB := hB'; clear hB'
 replace f2 := GR.v_ext _ f2 hE
 replace f14 := GR.v_ext _ f14 hE
 replace f70 := GR.v_ext _ f70 hE
 replace f78 := f78.ext hE
 clear hE
 refine put_cont hA (by decide) fun a42 hA q_ hfr => ?_
 replace q1 := (hfr 1 rfl).trans q1
 replace q4 := (hfr 4 rfl).trans q4
 replace q5 := (hfr 5 rfl).trans q5
 replace q11 := (hfr 11 rfl).trans q11
 replace q12 := (hfr 12 rfl).trans q12
 replace q125 := (hfr 125 rfl).trans q125
 have q13 := q_; clear q_ hfr
 refine li_nil (nx_then (wp_seq ?_))
 obtain ⟨x79, hx79, h⟩ := Comp.run_bind h
 refine' regionT [_, SP.elt (u76) (Int.toNat 1 * 9), SP.elt (u76) (Int.toNat 1 * 9 + 8)] hA (.cons (fun _ _ hE hK hg => ok_move (kn (hK 13 rfl) rfl q13)) (.cons (fun _ _ hE hK hg => okl_idxOwn rfl ty29 ty26 (ksv (j := 0) (hK 126 rfl) rfl rfl rfl) (OwnL.ext f78 hE) rfl (idx_lt hx79)) (.cons (fun _ _ hE hK hg => okl_fldElt fl26_8 rfl (kspS (φ := SP.elt (u76) (Int.toNat 1 * 9)) (j := 1) (hK 127 rfl) rfl rfl rfl)) .nil))) ?zok16 ?zgd16 ?zk16
 case zok16 | zgd16 => kernel_rfl
 intro a43 w43 hA hE HF
 replace q1 := kn (HF 1) rfl q1
 replace q4 := kn (HF 4) rfl q4
 replace q5 := kn (HF 5) rfl q5
 replace q11 := kn (HF 11) rfl q11
 replace q12 := kn (HF 12) rfl q12
 replace q13 := kn (HF 13) rfl q13
 have f81 := ksp (HF 128) rfl rfl rfl
 obtain ⟨u80, q128'⟩ : ∃ u, a43.get 128 = u := ⟨_, rfl⟩
 rw [q128'] at f81
 have q128 := q128'; clear q128'
 clear HF
 replace f2 := GR.v_ext _ f2 hE
 replace f14 := GR.v_ext _ f14 hE
 replace f70 := GR.v_ext _ f70 hE
 replace f78 := f78.ext hE
 replace hB := Base.step hB hE hO; clear hE
 obtain ⟨x83, hx83, h⟩ := Comp.run_bind h
 obtain ⟨x84, hx84, h⟩ := Comp.run_bind h
 refine l_storeFld (f := (fun (x : aEn) => [.int .i64 x.Seq, .int .i64 x.Shop, .int .i64 x.Kind, .int .i64 x.Day, .int .i64 x.N, .string (str x.Before), .string (str x.After), .string (str x.Prev), .string (str x.Mark)])) (hl := (fun _ => rfl)) (ho := (fun _ => by simp [Value.oneCell'])) hO hB (okB_fr hB) ty9 q128 f81 f78 rfl rfl rfl (by decide) hx83 hx84 rfl (by decide) fun w44 f82 hB' hX => ?_
 clear hB; have hB := hB'; clear hB'
 replace f2 := GR.kx _ f2 hX (by decide)
 replace f14 := GR.kx _ f14 hX (by decide)
 replace f70 := GR.kx _ f70 hX (by decide)
 clear hX f78
 refine li_nil (nx_then (wp_seq ?_))
 obtain ⟨x85, hx85, h⟩ := Comp.run_bind h
 obtain ⟨x86, hx86, h⟩ := Comp.run_bind h
 obtain ⟨x87, hx87, h⟩ := Comp.run_bind h
 obtain ⟨x88, hx88, h⟩ := Comp.run_bind h
 refine' region [_, _, _, SP.isv (.bool x85), _, _, _, _, SP.vl (rSl r_aEn) O77 x86, SP.isv (.bool x87), _, _, _, _, _, SP.isv (.bool x88), _, _] mixed hA (.cons (fun _ _ hE hK hg => ok_move (kn (hK 1 rfl) rfl q1)) (.cons (fun _ _ hE hK hg => ok_move (kn (hK 4 rfl) rfl q4)) (.cons (fun _ _ hE hK hg => ok_move (kn (hK 12 rfl) rfl q12)) (.cons ?z17_3 (.cons (fun _ _ hE hK hg => ok_move (ksv (j := 3) (hK 132 rfl) rfl rfl rfl)) (.cons (fun _ _ hE hK hg => ok_move (kn (hK 1 rfl) rfl q1)) (.cons (fun _ _ hE hK hg => ok_move (kn (hK 4 rfl) rfl q4)) (.cons (fun _ _ hE hK hg => ok_move (kn (hK 4 rfl) rfl q4)) (.cons ?z17_8 (.cons ?z17_9 (.cons ?z17_10 (.cons (fun _ _ hE hK hg => ok_move (ksv (j := 10) (hK 139 rfl) rfl rfl rfl)) (.cons (fun _ _ hE hK hg => ok_move (kn (hK 1 rfl) rfl q1)) (.cons (fun _ _ hE hK hg => ok_move (kn (hK 4 rfl) rfl q4)) (.cons (fun _ _ hE hK hg => ok_move (kn (hK 13 rfl) rfl q13)) (.cons ?z17_15 (.cons ?z17_16 (.cons (fun _ _ hE hK hg => ok_assign (ksv (j := 16) (hK 145 rfl) rfl rfl rfl)) .nil)))))))))))))))))) ?zok17 ?zgd17 ?zk17
 case z17_3 => intro a' w' hE hK hg; have c_ := ok_c7_fork (OkO.ext hB.ok hE) (GR.v_ext _ f2 hE) (GR.v_ext _ f14 hE) (GR.v_ext _ f70 hE) hx85; exact ok_call5 fn35 (ksv (j := 0) (hK 129 rfl) rfl rfl rfl) (ksv (j := 1) (hK 130 rfl) rfl rfl rfl) (ksv (j := 2) (hK 131 rfl) rfl rfl rfl) rfl rfl c_
 case z17_8 => intro a' w' hE hK hg; exact okl_slice_h (r := r_aEn) ty29 ty26 rfl (ksv (j := 7) (hK 136 rfl) rfl rfl hg) (GR.v_ext _ f14 hE) rfl (run_gdb hx86 hg)
 case z17_9 => intro a' w' hE hK hg; have c_ := ok_c7_fork (OkO.ext hB.ok hE) (GR.v_ext _ f2 hE) (GR.v_ext _ f14 hE) (kspS (φ := SP.vl (rSl r_aEn) O77 x86) (j := 8) (hK 137 rfl) rfl rfl hg) (run_gdb hx87 hg); exact ok_call5 fn35 (ksv (j := 5) (hK 134 rfl) rfl rfl hg) (ksv (j := 6) (hK 135 rfl) rfl rfl hg) rfl rfl rfl c_
 case z17_10 => intro a' w' hE hK hg; exact ok_pick (ksv (j := 4) (hK 133 rfl) rfl rfl rfl) (fun hb => ksv (j := 9) (hK 138 rfl) rfl rfl (act_g1 rfl rfl hb)) (fun _ => rfl)
 case z17_15 => intro a' w' hE hK hg; have c_ := ok_c7_fork (okO_zero _) (GR.lend _ (GR.v_ext _ f2 hE)) (GR.lend _ (GR.v_ext _ f14 hE)) (OwnL.lend (OwnL.ext f82 hE)) (run_gdb hx88 hg); exact ok_call5 fn35 (ksv (j := 12) (hK 141 rfl) rfl rfl hg) (ksv (j := 13) (hK 142 rfl) rfl rfl hg) (ksv (j := 14) (hK 143 rfl) rfl rfl hg) rfl rfl c_
 case z17_16 => intro a' w' hE hK hg; exact ok_pick (ksv (j := 11) (hK 140 rfl) rfl rfl rfl) (fun hb => ksv (j := 15) (hK 144 rfl) rfl rfl (act_g1 rfl rfl hb)) (fun _ => rfl)
 case zok17 | zgd17 => kernel_rfl
 intro a45 w45 hA hE HF
 replace q1 := kn (HF 1) rfl q1
 replace q4 := kn (HF 4) rfl q4
 replace q5 := kn (HF 5) rfl q5
 replace q11 := kn (HF 11) rfl q11
 have q14 := ksv (HF 14) rfl rfl rfl
 clear q12
 clear q13
 clear HF
 replace f2 := GR.v_ext _ f2 hE
 replace f14 := GR.v_ext _ f14 hE
 replace f70 := GR.v_ext _ f70 hE
 replace f82 := f82.ext hE
 replace hB := Base.step hB hE hO; clear hE
 obtain ⟨x89, hx_, h⟩ := Comp.run_bind h; replace hx_ := Comp.run_pure hx_; rw [hx_] at q14; clear hx_
 refine li_nil (nx_then (wp_seq ?_))
 obtain ⟨x90, hx90, h⟩ := Comp.run_bind h
 obtain ⟨x91, hx91, h⟩ := Comp.run_bind h
 obtain ⟨x92, hx92, h⟩ := Comp.run_bind h
 refine' region [_, _, _, _, _, _, _, _, _, SP.isv (.bool x90), _, _, _, SP.vl (rSl r_aEn) O77 x91, SP.isv (.bool x92), _, _] mixed hA (.cons (fun _ _ hE hK hg => ok_move (kn (hK 5 rfl) rfl q5)) (.cons (fun _ _ hE hK hg => ok_move (ksv (j := 0) (hK 146 rfl) rfl rfl rfl)) (.cons (fun _ _ hE hK hg => ok_move (kn (hK 11 rfl) rfl q11)) (.cons ?z18_3 (.cons (fun _ _ hE hK hg => ok_move (ksv (j := 3) (hK 149 rfl) rfl rfl rfl)) (.cons (fun _ _ hE hK hg => ok_move (kn (hK 14 rfl) rfl q14)) (.cons ?z18_6 (.cons (fun _ _ hE hK hg => ok_move (ksv (j := 6) (hK 152 rfl) rfl rfl rfl)) (.cons (fun _ _ hE hK hg => ok_move (kn (hK 4 rfl) rfl q4)) (.cons ?z18_9 (.cons ?z18_10 (.cons (fun _ _ hE hK hg => ok_move (ksv (j := 10) (hK 156 rfl) rfl rfl rfl)) (.cons (fun _ _ hE hK hg => ok_move (kn (hK 1 rfl) rfl q1)) (.cons ?z18_13 (.cons ?z18_14 (.cons ?z18_15 (.cons (fun _ _ hE hK hg => ok_assign (ksv (j := 15) (hK 161 rfl) rfl rfl rfl)) .nil))))))))))))))))) ?zok18 ?zgd18 ?zk18
 case z18_3 => intro a' w' hE hK hg; exact ok_pick (ksv (j := 1) (hK 147 rfl) rfl rfl rfl) (fun hb => ksv (j := 2) (hK 148 rfl) rfl rfl (act_g1 rfl rfl hb)) (fun _ => rfl)
 case z18_6 => intro a' w' hE hK hg; exact ok_pick (ksv (j := 4) (hK 150 rfl) rfl rfl rfl) (fun hb => ksv (j := 5) (hK 151 rfl) rfl rfl (act_g1 rfl rfl hb)) (fun _ => rfl)
 case z18_9 => intro a' w' hE hK hg; have c_ := ok_c7_finds (OkO.ext hB.ok hE) (rSl_nil _ _ _ 0) (GR.v_ext _ f14 hE) (run_gdb hx90 hg); exact ok_call4 fn31 rfl (ksv (j := 8) (hK 154 rfl) rfl rfl hg) rfl rfl c_
 case z18_10 => intro a' w' hE hK hg; exact ok_pick (ksv (j := 7) (hK 153 rfl) rfl rfl rfl) (fun hb => ksv (j := 9) (hK 155 rfl) rfl rfl (act_g1 rfl rfl hb)) (fun _ => rfl)
 case z18_13 => intro a' w' hE hK hg; exact ok_weak (okl_make (r := r_aEn) (B := w45.heap.size) rfl ty29 ty26 (by decide) rfl hE.size rfl rfl (fun _ _ => ⟨_, rfl, rfl⟩) (run_gdb hx91 hg)) (fun _ _ _ h => OwnR.val h (fun g hg => hB.ok g (Nat.le_trans (Nat.le_refl _) (OwnR.ge h g hg).1)))
 case z18_14 => intro a' w' hE hK hg; have c_ := ok_c7_finds (OkO.ext hB.ok hE) (GR.v_ext _ f2 hE) (kspS (φ := SP.vl (rSl r_aEn) O77 x91) (j := 13) (hK 159 rfl) rfl rfl hg) (run_gdb hx92 hg); exact ok_call4 fn31 (ksv (j := 12) (hK 158 rfl) rfl rfl hg) rfl rfl rfl c_
 case z18_15 => intro a' w' hE hK hg; exact ok_pick (ksv (j := 11) (hK 157 rfl) rfl rfl rfl) (fun hb => ksv (j := 14) (hK 160 rfl) rfl rfl (act_g1 rfl rfl hb)) (fun _ => rfl)
 case zok18 | zgd18 => kernel_rfl
 intro a46 w46 hA hE HF
 have q0 := ksv (HF 0) rfl rfl rfl
 clear q1
 clear q4
 clear q5
 clear q11
 clear q14
 clear HF
 replace f2 := GR.v_ext _ f2 hE
 replace f14 := GR.v_ext _ f14 hE
 replace hB := Base.step hB hE hO; clear hE
 obtain ⟨x93, hx_, h⟩ := Comp.run_bind h; replace hx_ := Comp.run_pure hx_; rw [hx_] at q0; clear hx_
 refine li_nil (nx_then (wp_ret ?_))
 have h := Comp.run_pure h; subst h
 exact retPure Try.results14 hA q0 hB.ext rfl
theorem ok_r1_trim {O : Tags} {w0 : World} (hO : OkO O w0) {v_0 : Value} {x_0 : List Int} (h_0 : (rSl (rInt .u32)).v O w0 v_0 x_0) {n : Nat} {y : (List Int)} (h : (r1_trim x_0).run n = some y) : Pure Try.prog 100 #[v_0] w0 (SP.vl (rSl (rInt .u32)) O y).holds := by
 unfold r1_trim at h
 refine pure_of_wp Try.func100 rfl 21 Try.ntmps100 (by simp) fun a0 hA hs0 => ?_
 have q0 : a0.get 0 = v_0 := hs0 0 _ rfl
 clear hs0
 have hB : Base (Fr w0) O w0 O w0 := Base.start hO
 refine wp_seq ?_
 refine' region [_] mixed hA (.cons (fun _ _ hE hK hg => ok_assign rfl) .nil) ?zok1 ?zgd1 ?zk1
 case zok1 | zgd1 => kernel_rfl
 intro a1 w1 hA hE HF
 replace q0 := kn (HF 0) rfl q0
 clear HF
 replace h_0 := GR.v_ext _ h_0 hE
 replace hB := Base.step hB hE hO; clear hE
 refine li_nil (nx_then (wp_seq ?_))
 refine' region [_, _, _] mixed hA (.cons (fun _ _ hE hK hg => ok_move (kn (hK 0 rfl) rfl q0)) (.cons (fun _ _ hE hK hg => okl_len (r := (rInt .u32)) ty87 (ksv (j := 0) (hK 4 rfl) rfl rfl rfl) (rd_of (GR.v_ext _ h_0 hE))) (.cons (fun _ _ hE hK hg => ok_assign (ksv (j := 1) (hK 5 rfl) rfl rfl rfl)) .nil))) ?zok2 ?zgd2 ?zk2
 case zok2 | zgd2 => kernel_rfl
 intro a2 w2 hA hE HF
 replace q0 := kn (HF 0) rfl q0
 have q3 := ksv (HF 3) rfl rfl rfl
 clear HF
 replace h_0 := GR.v_ext _ h_0 hE
 replace hB := Base.step hB hE hO; clear hE
 refine li_nil (nx_then ?_)
 refine seq_join (fun a w => ∃ (O8 : Tags) (x7 : Int), a.fit 21 ∧ Base (Fr w0) O w0 O8 w ∧ a.get 0 = v_0 ∧ (rSl (rInt .u32)).v O8 w v_0 x_0 ∧ a.get 3 = .int .i64 x7 ∧ (r1_trim_j1 x_0 x7).run n = some y) ?_ ?_
 ·
  refine wp_block ?_
  obtain ⟨e2, he2, hk2⟩ := Comp.run_bind h; clear h
  refine loop_m (fun m a w => ∃ (O2 : Tags) (x1 : Int), a.fit 21 ∧ Base (Fr w0) O w0 O2 w ∧ a.get 0 = v_0 ∧ (rSl (rInt .u32)).v O2 w v_0 x_0 ∧ a.get 3 = .int .i64 x1 ∧ Comp.loopN (fun s => r1_trim_l2 x_0 s) n m x1 = some e2) (m := n) ?st2 ?_
  case st2 =>
   exact ⟨_, _, hA, hB, q0, h_0, q3, Comp.run_loop he2⟩
  intro m_ a3 w3 hI
  clear hA hB he2 q0 q3 h_0
  obtain ⟨O2, x1, hA, hB, q0, h_0, q3, hl⟩ := hI
  obtain ⟨m2, hlt2, st2, h, hnext2, hdone2⟩ := Comp.loopN_succ hl; clear hl
  replace h : (r1_trim_l2 x_0 x1).run n = some st2 := h
  unfold r1_trim_l2 at h
  refine wp_seq (wp_seq ?_)
  obtain ⟨x3, hx3, h⟩ := Comp.run_bind h
  refine' region [_, _, _, _, _, _, SP.ptr (rInt .u32) O2 x3, SP.isv (.int .u32 x3), _, _] mixed hA (.cons (fun _ _ hE hK hg => ok_move (kn (hK 3 rfl) rfl q3)) (.cons (fun _ _ hE hK hg => ok_gtr (ksv (j := 0) (hK 6 rfl) rfl rfl rfl) rfl) (.cons (fun _ _ hE hK hg => ok_move (ksv (j := 1) (hK 7 rfl) rfl rfl rfl)) (.cons (fun _ _ hE hK hg => ok_move (kn (hK 0 rfl) rfl q0)) (.cons (fun _ _ hE hK hg => ok_move (kn (hK 3 rfl) rfl q3)) (.cons ?z3_5 (.cons ?z3_6 (.cons ?z3_7 (.cons ?z3_8 (.cons ?z3_9 .nil)))))))))) ?zok3 ?zgd3 ?zk3
  case z3_5 => intro a' w' hE hK hg; exact ok_sub (ksv (j := 4) (hK 10 rfl) rfl rfl hg) rfl
  case z3_6 => intro a' w' hE hK hg; exact okl_idx (r := (rInt .u32)) (O := O2) ty87 ty123 rfl (ksv (j := 3) (hK 9 rfl) rfl rfl hg) (rd_of (GR.v_ext _ h_0 hE)) (ksv (j := 5) (hK 11 rfl) rfl rfl hg) (run_gdb hx3 hg)
  case z3_7 => intro a' w' hE hK hg; exact okl_ldr (rInt .u32) (fun _ => rfl) ty123 rfl rfl rfl (kspS (φ := SP.ptr (rInt .u32) O2 x3) (j := 6) (hK 12 rfl) rfl rfl hg) (fun _ _ _ h => rInt_v.1 h)
  case z3_8 => intro a' w' hE hK hg; exact ok_eqlI (ksv (j := 7) (hK 13 rfl) rfl rfl hg) rfl
  case z3_9 => intro a' w' hE hK hg; exact ok_pick (ksv (j := 2) (hK 8 rfl) rfl rfl rfl) (fun hb => ksv (j := 8) (hK 14 rfl) rfl rfl (act_g1 rfl rfl hb)) (fun _ => rfl)
  case zok3 | zgd3 => kernel_rfl
  intro a4 w4 hA hE HF
  replace q0 := kn (HF 0) rfl q0
  replace q3 := kn (HF 3) rfl q3
  have q15 := ksv (HF 15) rfl rfl rfl
  clear HF
  replace h_0 := GR.v_ext _ h_0 hE
  replace hB := Base.step hB hE hO; clear hE
  obtain ⟨x4, hx_, h⟩ := Comp.run_bind h; replace hx_ := Comp.run_pure hx_; rw [hx_] at q15; clear hx_
  refine li_nil (nx_then ?_)
  refine wp_cond_b q15 (fun hc => ?_) (fun hc => ?_)
  ·
   replace h := Comp.run_b_t hc h; clear hc
   refine wp_skip (nx_then (wp_block ?_))
   refine' region [_, _, _] mixed hA (.cons (fun _ _ hE hK hg => ok_move (kn (hK 3 rfl) rfl q3)) (.cons (fun _ _ hE hK hg => ok_sub (ksv (j := 0) (hK 16 rfl) rfl rfl rfl) rfl) (.cons (fun _ _ hE hK hg => ok_assign (ksv (j := 1) (hK 17 rfl) rfl rfl rfl)) .nil))) ?zok4 ?zgd4 ?zk4
   case zok4 | zgd4 => kernel_rfl
   intro a5 w5 hA hE HF
   replace q0 := kn (HF 0) rfl q0
   have q3' := ksv (HF 3) rfl rfl rfl
   replace q3 := q3'; clear q3'
   clear q15
   clear HF
   replace h_0 := GR.v_ext _ h_0 hE
   replace hB := Base.step hB hE hO; clear hE
   refine li_nil (nx_blk (nx_then ?_))
   have h := hnext2 _ (Comp.run_pure h).symm
   refine ⟨m2, hlt2, ?_⟩
   exact ⟨_, _, hA, hB, q0, h_0, q3, h⟩
  ·
   replace h := Comp.run_b_f hc h; clear hc
   refine wp_exit (ex_then (ex_then (ex_same ?_)))
   have hd_ := hdone2 _ (Comp.run_pure h).symm; clear h
   subst hd_; have h := hk2; clear hk2; try dsimp only at h
   refine nx_then ?_
   exact ⟨_, _, hA, hB, q0, h_0, q3, h⟩
 intro a6 w6 hI
 clear hA hB h q0 q3 h_0
 obtain ⟨O8, x7, hA, hB, q0, h_0, q3, h⟩ := hI
 unfold r1_trim_j1 at h
 refine wp_seq ?_
 obtain ⟨x9, hx9, h⟩ := Comp.run_bind h
 refine' region [_, _, SP.vl (rSl (rInt .u32)) O8 x9, SP.vl (rSl (rInt .u32)) O8 x9] mixed hA (.cons (fun _ _ hE hK hg => ok_move (kn (hK 0 rfl) rfl q0)) (.cons (fun _ _ hE hK hg => ok_move (kn (hK 3 rfl) rfl q3)) (.cons (fun _ _ hE hK hg => okl_slice_h (r := (rInt .u32)) ty87 ty123 rfl (ksv (j := 0) (hK 18 rfl) rfl rfl rfl) (GR.v_ext _ h_0 hE) (ksv (j := 1) (hK 19 rfl) rfl rfl rfl) hx9) (.cons (fun _ _ hE hK hg => ok_assign_pr (φ := SP.vl (rSl (rInt .u32)) O8 x9) (kspS (j := 2) (hK 20 rfl) rfl rfl rfl)) .nil)))) ?zok5 ?zgd5 ?zk5
 case zok5 | zgd5 => kernel_rfl
 intro a7 w7 hA hE HF
 have f11 := ksp (HF 2) rfl rfl rfl
 obtain ⟨u10, q2'⟩ : ∃ u, a7.get 2 = u := ⟨_, rfl⟩
 rw [q2'] at f11
 have q2 := q2'; clear q2'
 clear q0
 clear q3
 clear HF
 replace h_0 := GR.v_ext _ h_0 hE
 replace hB := Base.step hB hE hO; clear hE
 refine li_nil (nx_then (wp_ret ?_))
 have h := Comp.run_pure h; subst h
 exact retPure Try.results100 hA q2 hB.ext (hB.res (rSl (rInt .u32)) f11)
theorem okp_r1_trim {O : Tags} {w0 : World} (hO : OkO O w0) {v_0 : Value} {x_0 : List Int} (h_0 : (rSl (rInt .u32)).v O w0 v_0 x_0) {n : Nat} {y : (List Int)} (h : (r1_trim x_0).run n = some y) : Pure Try.prog 100 #[v_0] w0 (SP.isv (preV v_0 y.length)).holds := by
 unfold r1_trim at h
 refine pure_of_wp Try.func100 rfl 21 Try.ntmps100 (by simp) fun a0 hA hs0 => ?_
 have q0 : a0.get 0 = v_0 := hs0 0 _ rfl
 clear hs0
 have hB : Base (Fr w0) O w0 O w0 := Base.start hO
 refine wp_seq ?_
 refine' region [_] mixed hA (.cons (fun _ _ hE hK hg => ok_assign rfl) .nil) ?zok1 ?zgd1 ?zk1
 case zok1 | zgd1 => kernel_rfl
 intro a1 w1 hA hE HF
 replace q0 := kn (HF 0) rfl q0
 clear HF
 replace h_0 := GR.v_ext _ h_0 hE
 replace hB := Base.step hB hE hO; clear hE
 refine li_nil (nx_then (wp_seq ?_))
 refine' region [_, _, _] mixed hA (.cons (fun _ _ hE hK hg => ok_move (kn (hK 0 rfl) rfl q0)) (.cons (fun _ _ hE hK hg => okl_len (r := (rInt .u32)) ty87 (ksv (j := 0) (hK 4 rfl) rfl rfl rfl) (rd_of (GR.v_ext _ h_0 hE))) (.cons (fun _ _ hE hK hg => ok_assign (ksv (j := 1) (hK 5 rfl) rfl rfl rfl)) .nil))) ?zok2 ?zgd2 ?zk2
 case zok2 | zgd2 => kernel_rfl
 intro a2 w2 hA hE HF
 replace q0 := kn (HF 0) rfl q0
 have q3 := ksv (HF 3) rfl rfl rfl
 clear HF
 replace h_0 := GR.v_ext _ h_0 hE
 replace hB := Base.step hB hE hO; clear hE
 refine li_nil (nx_then ?_)
 refine seq_join (fun a w => ∃ (O8 : Tags) (x7 : Int), a.fit 21 ∧ Base (Fr w0) O w0 O8 w ∧ a.get 0 = v_0 ∧ (rSl (rInt .u32)).v O8 w v_0 x_0 ∧ a.get 3 = .int .i64 x7 ∧ (r1_trim_j1 x_0 x7).run n = some y) ?_ ?_
 ·
  refine wp_block ?_
  obtain ⟨e2, he2, hk2⟩ := Comp.run_bind h; clear h
  refine loop_m (fun m a w => ∃ (O2 : Tags) (x1 : Int), a.fit 21 ∧ Base (Fr w0) O w0 O2 w ∧ a.get 0 = v_0 ∧ (rSl (rInt .u32)).v O2 w v_0 x_0 ∧ a.get 3 = .int .i64 x1 ∧ Comp.loopN (fun s => r1_trim_l2 x_0 s) n m x1 = some e2) (m := n) ?st2 ?_
  case st2 =>
   exact ⟨_, _, hA, hB, q0, h_0, q3, Comp.run_loop he2⟩
  intro m_ a3 w3 hI
  clear hA hB he2 q0 q3 h_0
  obtain ⟨O2, x1, hA, hB, q0, h_0, q3, hl⟩ := hI
  obtain ⟨m2, hlt2, st2, h, hnext2, hdone2⟩ := Comp.loopN_succ hl; clear hl
  replace h : (r1_trim_l2 x_0 x1).run n = some st2 := h
  unfold r1_trim_l2 at h
  refine wp_seq (wp_seq ?_)
  obtain ⟨x3, hx3, h⟩ := Comp.run_bind h
  refine' region [_, _, _, _, _, _, SP.ptr (rInt .u32) O2 x3, SP.isv (.int .u32 x3), _, _] mixed hA (.cons (fun _ _ hE hK hg => ok_move (kn (hK 3 rfl) rfl q3)) (.cons (fun _ _ hE hK hg => ok_gtr (ksv (j := 0) (hK 6 rfl) rfl rfl rfl) rfl) (.cons (fun _ _ hE hK hg => ok_move (ksv (j := 1) (hK 7 rfl) rfl rfl rfl)) (.cons (fun _ _ hE hK hg => ok_move (kn (hK 0 rfl) rfl q0)) (.cons (fun _ _ hE hK hg => ok_move (kn (hK 3 rfl) rfl q3)) (.cons ?z3_5 (.cons ?z3_6 (.cons ?z3_7 (.cons ?z3_8 (.cons ?z3_9 .nil)))))))))) ?zok3 ?zgd3 ?zk3
  case z3_5 => intro a' w' hE hK hg; exact ok_sub (ksv (j := 4) (hK 10 rfl) rfl rfl hg) rfl
  case z3_6 => intro a' w' hE hK hg; exact okl_idx (r := (rInt .u32)) (O := O2) ty87 ty123 rfl (ksv (j := 3) (hK 9 rfl) rfl rfl hg) (rd_of (GR.v_ext _ h_0 hE)) (ksv (j := 5) (hK 11 rfl) rfl rfl hg) (run_gdb hx3 hg)
  case z3_7 => intro a' w' hE hK hg; exact okl_ldr (rInt .u32) (fun _ => rfl) ty123 rfl rfl rfl (kspS (φ := SP.ptr (rInt .u32) O2 x3) (j := 6) (hK 12 rfl) rfl rfl hg) (fun _ _ _ h => rInt_v.1 h)
  case z3_8 => intro a' w' hE hK hg; exact ok_eqlI (ksv (j := 7) (hK 13 rfl) rfl rfl hg) rfl
  case z3_9 => intro a' w' hE hK hg; exact ok_pick (ksv (j := 2) (hK 8 rfl) rfl rfl rfl) (fun hb => ksv (j := 8) (hK 14 rfl) rfl rfl (act_g1 rfl rfl hb)) (fun _ => rfl)
  case zok3 | zgd3 => kernel_rfl
  intro a4 w4 hA hE HF
  replace q0 := kn (HF 0) rfl q0
  replace q3 := kn (HF 3) rfl q3
  have q15 := ksv (HF 15) rfl rfl rfl
  clear HF
  replace h_0 := GR.v_ext _ h_0 hE
  replace hB := Base.step hB hE hO; clear hE
  obtain ⟨x4, hx_, h⟩ := Comp.run_bind h; replace hx_ := Comp.run_pure hx_; rw [hx_] at q15; clear hx_
  refine li_nil (nx_then ?_)
  refine wp_cond_b q15 (fun hc => ?_) (fun hc => ?_)
  ·
   replace h := Comp.run_b_t hc h; clear hc
   refine wp_skip (nx_then (wp_block ?_))
   refine' region [_, _, _] mixed hA (.cons (fun _ _ hE hK hg => ok_move (kn (hK 3 rfl) rfl q3)) (.cons (fun _ _ hE hK hg => ok_sub (ksv (j := 0) (hK 16 rfl) rfl rfl rfl) rfl) (.cons (fun _ _ hE hK hg => ok_assign (ksv (j := 1) (hK 17 rfl) rfl rfl rfl)) .nil))) ?zok4 ?zgd4 ?zk4
   case zok4 | zgd4 => kernel_rfl
   intro a5 w5 hA hE HF
   replace q0 := kn (HF 0) rfl q0
   have q3' := ksv (HF 3) rfl rfl rfl
   replace q3 := q3'; clear q3'
   clear q15
   clear HF
   replace h_0 := GR.v_ext _ h_0 hE
   replace hB := Base.step hB hE hO; clear hE
   refine li_nil (nx_blk (nx_then ?_))
   have h := hnext2 _ (Comp.run_pure h).symm
   refine ⟨m2, hlt2, ?_⟩
   exact ⟨_, _, hA, hB, q0, h_0, q3, h⟩
  ·
   replace h := Comp.run_b_f hc h; clear hc
   refine wp_exit (ex_then (ex_then (ex_same ?_)))
   have hd_ := hdone2 _ (Comp.run_pure h).symm; clear h
   subst hd_; have h := hk2; clear hk2; try dsimp only at h
   refine nx_then ?_
   exact ⟨_, _, hA, hB, q0, h_0, q3, h⟩
 intro a6 w6 hI
 clear hA hB h q0 q3 h_0
 obtain ⟨O8, x7, hA, hB, q0, h_0, q3, h⟩ := hI
 unfold r1_trim_j1 at h
 refine wp_seq ?_
 obtain ⟨x9, hx9, h⟩ := Comp.run_bind h
 refine' region [_, _, SP.isv (preV v_0 x9.length), SP.isv (preV v_0 x9.length)] mixed hA (.cons (fun _ _ hE hK hg => ok_move (kn (hK 0 rfl) rfl q0)) (.cons (fun _ _ hE hK hg => ok_move (kn (hK 3 rfl) rfl q3)) (.cons (fun _ _ hE hK hg => okl_slice_p (r := (rInt .u32)) ty87 ty123 rfl (ksv (j := 0) (hK 18 rfl) rfl rfl rfl) (GR.v_ext _ h_0 hE) (ksv (j := 1) (hK 19 rfl) rfl rfl rfl) hx9) (.cons (fun _ _ hE hK hg => ok_assign_pr (φ := SP.isv (preV v_0 x9.length)) (kspS (j := 2) (hK 20 rfl) rfl rfl rfl)) .nil)))) ?zok5 ?zgd5 ?zk5
 case zok5 | zgd5 => kernel_rfl
 intro a7 w7 hA hE HF
 have q2 := ksv (HF 2) rfl rfl rfl
 clear q0
 clear q3
 clear HF
 replace h_0 := GR.v_ext _ h_0 hE
 replace hB := Base.step hB hE hO; clear hE
 refine li_nil (nx_then (wp_ret ?_))
 have h := Comp.run_pure h; subst h
 exact retPure Try.results100 hA q2 hB.ext rfl
theorem pre_r1_trim {xs ys : List Int} {n : Nat} (h : (r1_trim xs).run n = some ys) : ys = xs.take ys.length := by
 unfold r1_trim at h
 obtain ⟨k, _, h⟩ := Comp.run_bind h
 unfold r1_trim_j1 at h
 obtain ⟨z, hz, h⟩ := Comp.run_bind h
 have := Comp.run_pure h; subst this
 obtain ⟨⟨h1, h2, h3⟩, h4⟩ := run_sub hz
 have h4 : xs.take k.toNat = z := by simpa using h4
 rw [← h4, List.length_take, Nat.min_eq_left (by omega)]
theorem m_r1_trim {O : Tags} {w : World} (hO : OkO O w) {u : Value} {xs ys : List Int} (h : OwnR (rInt .u32) 123 0 O w u xs) {n : Nat} (hy : (r1_trim xs).run n = some ys) : Calls Try.prog 100 #[u] w (IoPost (rInt .u32) 123 O w u ys fun v u' => v = u') :=
 io_pre h (pre_r1_trim hy) (okp_r1_trim (okO_zero w) h.lend hy)
theorem ok_r1_digits {O : Tags} {w0 : World} (hO : OkO O w0) {x_0 : Int} {n : Nat} {y : (List Int)} (h : (r1_digits x_0).run n = some y) : Pure Try.prog 102 #[.int .u64 x_0] w0 (SP.ownr (rInt .u32) 123 (w0.heap.size) O y).holds := by
 unfold r1_digits at h
 refine pure_of_wp Try.func102 rfl 10 Try.ntmps102 (by simp) fun a0 hA hs0 => ?_
 have q0 : a0.get 0 = .int .u64 x_0 := hs0 0 _ rfl
 clear hs0
 have hB : Base (Fr w0) O w0 O w0 := Base.start hO
 refine wp_seq ?_
 refine' region [_] mixed hA (.cons (fun _ _ hE hK hg => ok_assign rfl) .nil) ?zok1 ?zgd1 ?zk1
 case zok1 | zgd1 => kernel_rfl
 intro a1 w1 hA hE HF
 replace q0 := kn (HF 0) rfl q0
 clear HF
 replace hB := Base.step hB hE hO; clear hE
 refine li_nil (nx_then (wp_seq ?_))
 refine' regionT [_, _, _, _, _, SP.ownr (rInt .u32) 123 w1.heap.size O [(IntKind.wrap .u32 x_0), (IntKind.wrap .u32 (shrF .u64 x_0 32))]] hA (.cons (fun _ _ hE hK hg => ok_move (kn (hK 0 rfl) rfl q0)) (.cons (fun _ _ hE hK hg => ok_convI ty122 ty123 (ksv (j := 0) (hK 3 rfl) rfl rfl rfl)) (.cons (fun _ _ hE hK hg => ok_move (kn (hK 0 rfl) rfl q0)) (.cons (fun _ _ hE hK hg => okl_shr (ksv (j := 2) (hK 5 rfl) rfl rfl rfl) rfl (by decide)) (.cons (fun _ _ hE hK hg => ok_convI ty122 ty123 (ksv (j := 3) (hK 6 rfl) rfl rfl rfl)) (.cons (fun _ _ hE hK hg => okl_buildSlice (r := (rInt .u32)) (fun _ => rfl) rfl (OkO.ext hB.ok hE) ty87 ty123 hE.size (parts_cons (ksv (j := 1) (hK 4 rfl) rfl rfl rfl) (parts_cons (ksv (j := 4) (hK 7 rfl) rfl rfl rfl) parts_nil)) ⟨(by exact rInt_v.2 rfl), ⟨(by exact rInt_v.2 rfl), trivial⟩⟩ rfl (by decide)) .nil)))))) ?zok2 ?zgd2 ?zk2
 case zok2 | zgd2 => kernel_rfl
 intro a2 w2 hA hE HF
 have f2 := ksp (HF 8) rfl rfl rfl
 obtain ⟨u1, q8'⟩ : ∃ u, a2.get 8 = u := ⟨_, rfl⟩
 rw [q8'] at f2
 have q8 := q8'; clear q8'
 clear q0
 clear HF
 obtain ⟨O3, hB', hX, f4⟩ := ownNew hO hB hE f2 rfl 1 (by decide)
 clear hB f2; have hB := hB'; clear hB'
 clear hX hE
 obtain ⟨x5, hx5, h⟩ := Comp.run_bind h
 refine l_io (r := (rInt .u32)) (E := 123) (k := 1) hO hB (okB_fr hB) fn100 (map1 q8) (m_r1_trim hB.ok (OwnL.arg f4 (by decide)) hx5) f4 (by decide) fun u7 u6 w3 O8 f9 hB' hX hps => ?_
 clear hB; have hB := hB'; clear hB'
 clear f4
 replace hps : _ = _ := hps; subst hps
 clear hX
 refine put_cont hA (by decide) fun a4 hA q_ hfr => ?_
 replace q8 := (hfr 8 rfl).trans q8
 have q9 := q_; clear q_ hfr
 refine l_ok (φ := SP.isv (u7)) hO hB (by exact ok_assign q9) rfl fun u_ w5 hE hB' hv_ => ?_
 replace hv_ := Eq.symm hv_; subst hv_; clear hB; have hB := hB'; clear hB'
 replace f9 := f9.ext hE
 clear hE
 refine put_cont hA (by decide) fun a6 hA q_ hfr => ?_
 replace q9 := (hfr 9 rfl).trans q9
 have q2 := q_; clear q_ hfr
 refine li_nil (nx_then (wp_ret ?_))
 have h := Comp.run_pure h; subst h
 exact retPure Try.results102 hA q2 hB.ext (OwnL.res f9 (by decide) hB.zero)
theorem ok_r1_signed {O : Tags} {w0 : World} (hO : OkO O w0) {x_0 : Bool} {v_1 : Value} {x_1 : List Int} (h_1 : (rSl (rInt .u32)).v O w0 v_1 x_1) {n : Nat} {y : (api_Num × Bool)} (h : (r1_signed x_0 x_1).run n = some y) : Pure Try.prog 101 #[.bool x_0, v_1] w0 (SP.tup2 (SP.vl r_api_Num O y.1) (SP.isv (.bool y.2))).holds := by
 unfold r1_signed at h
 refine pure_of_wp Try.func101 rfl 22 Try.ntmps101 (by simp) fun a0 hA hs0 => ?_
 have q0 : a0.get 0 = .bool x_0 := hs0 0 _ rfl
 have q1 : a0.get 1 = v_1 := hs0 1 _ rfl
 clear hs0
 have hB : Base (Fr w0) O w0 O w0 := Base.start hO
 refine wp_seq ?_
 refine' region [SP.box w0.heap.size #[.bool false, .slice none 0 0] 89, _] mixed hA (.cons (fun _ _ hE hK hg => ok_alloc hE.size ty89) (.cons (fun _ _ hE hK hg => ok_assign rfl) .nil)) ?zok1 ?zgd1 ?zk1
 case zok1 | zgd1 => kernel_rfl
 intro a1 w1 hA hE HF
 replace q0 := kn (HF 0) rfl q0
 replace q1 := kn (HF 1) rfl q1
 have f2 := ksp (HF 4) rfl rfl rfl
 obtain ⟨u1, q4'⟩ : ∃ u, a1.get 4 = u := ⟨_, rfl⟩
 rw [q4'] at f2
 have q4 := q4'; clear q4'
 clear HF
 obtain ⟨O3, b4, hB', hX, e_, f5⟩ := boxNew hO hB hE f2 1 (by decide)
 subst e_
 clear hB f2; have hB := hB'; clear hB'
 replace h_1 := GR.kx _ h_1 hX (by decide)
 clear hX hE
 refine li_nil (nx_then (wp_seq ?_))
 obtain ⟨x6, hx6, h⟩ := Comp.run_bind h
 refine' region [_, SP.vl (rSl (rInt .u32)) O3 x6, SP.vl (rSl (rInt .u32)) O3 x6] mixed hA (.cons (fun _ _ hE hK hg => ok_move (kn (hK 1 rfl) rfl q1)) (.cons ?z2_1 (.cons (fun _ _ hE hK hg => ok_assign_pr (φ := SP.vl (rSl (rInt .u32)) O3 x6) (kspS (j := 1) (hK 8 rfl) rfl rfl rfl)) .nil))) ?zok2 ?zgd2 ?zk2
 case z2_1 => intro a' w' hE hK hg; have c_ := ok_r1_trim (OkO.ext hB.ok hE) (GR.v_ext _ h_1 hE) hx6; exact ok_call1 fn100 (ksv (j := 0) (hK 7 rfl) rfl rfl rfl) c_
 case zok2 | zgd2 => kernel_rfl
 intro a2 w2 hA hE HF
 replace q0 := kn (HF 0) rfl q0
 replace q4 := kn (HF 4) rfl q4
 have f8 := ksp (HF 6) rfl rfl rfl
 obtain ⟨u7, q6'⟩ : ∃ u, a2.get 6 = u := ⟨_, rfl⟩
 rw [q6'] at f8
 have q6 := q6'; clear q6'
 clear q1
 clear HF
 replace h_1 := GR.v_ext _ h_1 hE
 replace f5 := f5.ext hE
 replace hB := Base.step hB hE hO; clear hE
 refine li_nil (nx_then (wp_seq (wp_seq ?_)))
 refine' region [_, _, _] mixed hA (.cons (fun _ _ hE hK hg => ok_move (kn (hK 6 rfl) rfl q6)) (.cons (fun _ _ hE hK hg => okl_len (r := (rInt .u32)) ty87 (ksv (j := 0) (hK 9 rfl) rfl rfl rfl) (rd_of (GR.v_ext _ f8 hE))) (.cons (fun _ _ hE hK hg => ok_gtr (ksv (j := 1) (hK 10 rfl) rfl rfl rfl) rfl) .nil))) ?zok3 ?zgd3 ?zk3
 case zok3 | zgd3 => kernel_rfl
 intro a3 w3 hA hE HF
 replace q0 := kn (HF 0) rfl q0
 replace q4 := kn (HF 4) rfl q4
 replace q6 := kn (HF 6) rfl q6
 have q11 := ksv (HF 11) rfl rfl rfl
 clear HF
 replace f8 := GR.v_ext _ f8 hE
 replace f5 := f5.ext hE
 replace hB := Base.step hB hE hO; clear hE
 refine li_nil (nx_then ?_)
 refine wp_cond_b q11 (fun hc => ?_) (fun hc => ?_)
 ·
  replace h := Comp.run_b_t hc h; clear hc
  refine wp_seq ?_
  refine' regionT [SP.isv (.agg #[.bool false, .slice none 0 0])] hA (.cons (fun _ _ hE hK hg => okl_build plc89 ty89 pk_nil rfl .nil rfl) .nil) ?zok4 ?zgd4 ?zk4
  case zok4 | zgd4 => kernel_rfl
  intro a4 w4 hA hE HF
  replace q4 := kn (HF 4) rfl q4
  have q12 := ksv (HF 12) rfl rfl rfl
  clear q0
  clear q6
  clear q11
  clear HF
  replace f8 := GR.v_ext _ f8 hE
  replace f5 := f5.ext hE
  replace hB := Base.step hB hE hO; clear hE
  refine l_storeSub (vs := [.bool false, .slice none 0 0]) (cs' := #[.bool false, .slice none 0 0]) hO hB (okB_fr hB) ty89 q4 q12 rfl (by simp [Value.oneCell']) f5 (by simp) rfl fun w5 f9 hB' hX => ?_
  clear hB f5; have hB := hB'; clear hB'
  clear hX
  refine l_ok (φ := SP.isv (.bool false)) hO hB (by exact ok_assign rfl) rfl fun u_ w6 hE hB' hv_ => ?_
  replace hv_ := Eq.symm hv_; subst hv_; clear hB; have hB := hB'; clear hB'
  replace f9 := f9.ext hE
  clear hE
  refine put_cont hA (by decide) fun a7 hA q_ hfr => ?_
  replace q4 := (hfr 4 rfl).trans q4
  have q5 := q_; clear q_ hfr
  refine li_nil (nx_then (wp_ret (rt_then ?_)))
  have h := Comp.run_pure h; subst h
  exact retG2 Try.results101 hA (.agg q4 ty89 rfl rfl f9.own) (.tmp q5) ⟨_, rfl, hB.ext, ⟨_, _, rfl, (hB.res r_api_Num ⟨_, ⟨_, _, rfl, rfl, ⟨_, _, rfl, (rel_ofF (r := (rSl (rInt .u32))) (rSl_nil _ _ _ 0) rfl rfl), rfl⟩⟩, rfl⟩), rfl⟩⟩
 ·
  replace h := Comp.run_b_f hc h; clear hc
  refine wp_skip (nx_then (wp_seq (wp_seq ?_)))
  refine' region [_, _, _] mixed hA (.cons (fun _ _ hE hK hg => ok_move (kn (hK 6 rfl) rfl q6)) (.cons (fun _ _ hE hK hg => okl_len (r := (rInt .u32)) ty87 (ksv (j := 0) (hK 13 rfl) rfl rfl rfl) (rd_of (GR.v_ext _ f8 hE))) (.cons (fun _ _ hE hK hg => ok_eqlI (ksv (j := 1) (hK 14 rfl) rfl rfl rfl) rfl) .nil))) ?zok5 ?zgd5 ?zk5
  case zok5 | zgd5 => kernel_rfl
  intro a8 w8 hA hE HF
  replace q0 := kn (HF 0) rfl q0
  replace q4 := kn (HF 4) rfl q4
  replace q6 := kn (HF 6) rfl q6
  have q15 := ksv (HF 15) rfl rfl rfl
  clear q11
  clear HF
  replace f8 := GR.v_ext _ f8 hE
  replace f5 := f5.ext hE
  replace hB := Base.step hB hE hO; clear hE
  refine li_nil (nx_then ?_)
  refine wp_cond_b q15 (fun hc => ?_) (fun hc => ?_)
  ·
   replace h := Comp.run_b_t hc h; clear hc
   refine wp_seq ?_
   refine' regionT [SP.isv (.agg #[.bool false, .slice none 0 0])] hA (.cons (fun _ _ hE hK hg => okl_build plc89 ty89 pk_nil rfl .nil rfl) .nil) ?zok6 ?zgd6 ?zk6
   case zok6 | zgd6 => kernel_rfl
   intro a9 w9 hA hE HF
   replace q4 := kn (HF 4) rfl q4
   have q16 := ksv (HF 16) rfl rfl rfl
   clear q0
   clear q6
   clear q15
   clear HF
   replace f8 := GR.v_ext _ f8 hE
   replace f5 := f5.ext hE
   replace hB := Base.step hB hE hO; clear hE
   refine l_storeSub (vs := [.bool false, .slice none 0 0]) (cs' := #[.bool false, .slice none 0 0]) hO hB (okB_fr hB) ty89 q4 q16 rfl (by simp [Value.oneCell']) f5 (by simp) rfl fun w10 f10 hB' hX => ?_
   clear hB f5; have hB := hB'; clear hB'
   clear hX
   refine l_ok (φ := SP.isv (.bool true)) hO hB (by exact ok_assign rfl) rfl fun u_ w11 hE hB' hv_ => ?_
   replace hv_ := Eq.symm hv_; subst hv_; clear hB; have hB := hB'; clear hB'
   replace f10 := f10.ext hE
   clear hE
   refine put_cont hA (by decide) fun a12 hA q_ hfr => ?_
   replace q4 := (hfr 4 rfl).trans q4
   have q5 := q_; clear q_ hfr
   refine li_nil (nx_then (wp_ret (rt_then ?_)))
   have h := Comp.run_pure h; subst h
   exact retG2 Try.results101 hA (.agg q4 ty89 rfl rfl f10.own) (.tmp q5) ⟨_, rfl, hB.ext, ⟨_, _, rfl, (hB.res r_api_Num ⟨_, ⟨_, _, rfl, rfl, ⟨_, _, rfl, (rel_ofF (r := (rSl (rInt .u32))) (rSl_nil _ _ _ 0) rfl rfl), rfl⟩⟩, rfl⟩), rfl⟩⟩
  ·
   replace h := Comp.run_b_f hc h; clear hc
   refine wp_skip (nx_then (wp_seq ?_))
   refine' regionT [_] hA (.cons (fun _ _ hE hK hg => ok_move (kn (hK 0 rfl) rfl q0)) .nil) ?zok7 ?zgd7 ?zk7
   case zok7 | zgd7 => kernel_rfl
   intro a13 w13 hA hE HF
   replace q4 := kn (HF 4) rfl q4
   replace q6 := kn (HF 6) rfl q6
   have q17 := ksv (HF 17) rfl rfl rfl
   clear q0
   clear q15
   clear HF
   replace f8 := GR.v_ext _ f8 hE
   replace f5 := f5.ext hE
   replace hB := Base.step hB hE hO; clear hE
   refine l_ok (φ := SP.ownr (rInt .u32) 123 w13.heap.size O3 []) hO hB (by exact okl_buildSlice (r := (rInt .u32)) (fun _ => rfl) rfl hB.ok ty87 ty123 (Nat.le_refl _) parts_nil trivial rfl (by decide)) rfl fun u11 w14 hE hB' f12 => ?_
   clear hB'; obtain ⟨O13, hB', hX, f14⟩ := ownNew hO hB hE f12 rfl 2 (by decide)
   clear hB f12; have hB := hB'; clear hB'
   replace f8 := GR.kx _ f8 hX (by decide)
   replace f5 := f5.kx hX (by decide)
   clear hX hE
   refine put_cont hA (by decide) fun a15 hA q_ hfr => ?_
   replace q4 := (hfr 4 rfl).trans q4
   replace q6 := (hfr 6 rfl).trans q6
   replace q17 := (hfr 17 rfl).trans q17
   have q18 := q_; clear q_ hfr
   refine l_ok (φ := SP.isv (u7)) hO hB (by exact ok_move q6) rfl fun u_ w16 hE hB' hv_ => ?_
   replace hv_ := Eq.symm hv_; subst hv_; clear hB; have hB := hB'; clear hB'
   replace f8 := GR.v_ext _ f8 hE
   replace f14 := f14.ext hE
   replace f5 := f5.ext hE
   clear hE
   refine put_cont hA (by decide) fun a17 hA q_ hfr => ?_
   replace q4 := (hfr 4 rfl).trans q4
   replace q6 := (hfr 6 rfl).trans q6
   replace q17 := (hfr 17 rfl).trans q17
   replace q18 := (hfr 18 rfl).trans q18
   have q19 := q_; clear q_ hfr
   obtain ⟨x15, hx15, h⟩ := Comp.run_bind h
   refine l_append (r := (rInt .u32)) (fun _ => rfl) rfl ty87 ty123 rfl (by decide) hO hB (okB_fr hB) q18 f14 q19 (rd_of f8) hx15 (by decide) fun u16 w18 O17 f18 hB' hX => ?_
   clear hB; have hB := hB'; clear hB'
   clear f14
   replace f8 := GR.kx _ f8 hX (by decide)
   replace f5 := f5.kx hX (by decide)
   clear hX
   refine put_cont hA (by decide) fun a19 hA q_ hfr => ?_
   replace q4 := (hfr 4 rfl).trans q4
   replace q17 := (hfr 17 rfl).trans q17
   replace q18 := (hfr 18 rfl).trans q18
   replace q19 := (hfr 19 rfl).trans q19
   have q20 := q_; clear q_ hfr
   refine l_ok (φ := SP.isv (.agg #[.bool x_0, u16])) hO hB (by refine okl_build (vals := [(0, .bool x_0), (1, u16)]) (out := [.bool x_0, u16]) plc89 ty89 ?_ rfl ?_ rfl; exact (pk_cons (v := .bool x_0) q17 (pk_cons (v := u16) q20 pk_nil)); exact (.cons rfl rfl rfl (leb rfl) (.cons rfl (own_cells f18) rfl (leb rfl) .nil))) rfl fun u_ w20 hE hB' hv_ => ?_
   replace hv_ := Eq.symm hv_; subst hv_; clear hB; have hB := hB'; clear hB'
   replace f18 := f18.ext hE
   replace f5 := f5.ext hE
   clear hE
   refine put_cont hA (by decide) fun a21 hA q_ hfr => ?_
   replace q4 := (hfr 4 rfl).trans q4
   replace q17 := (hfr 17 rfl).trans q17
   replace q20 := (hfr 20 rfl).trans q20
   have q21 := q_; clear q_ hfr
   refine l_storeSub (vs := [.bool x_0, u16]) (cs' := #[.bool x_0, u16]) hO hB (okB_fr hB) ty89 q4 q21 rfl (by intro c_ hc_; simp only [List.mem_cons, List.not_mem_nil, or_false] at hc_; rcases hc_ with rfl | rfl <;> first | rfl | assumption | exact own_one f18) f5 (by simp) rfl fun w22 f19 hB' hX => ?_
   clear hB f5; have hB := hB'; clear hB'
   replace f18 := f18.kx hX (by decide) (by decide)
   clear hX
   refine l_ok (φ := SP.isv (.bool true)) hO hB (by exact ok_assign rfl) rfl fun u_ w23 hE hB' hv_ => ?_
   replace hv_ := Eq.symm hv_; subst hv_; clear hB; have hB := hB'; clear hB'
   replace f19 := f19.ext hE
   replace f18 := f18.ext hE
   clear hE
   refine put_cont hA (by decide) fun a24 hA q_ hfr => ?_
   replace q4 := (hfr 4 rfl).trans q4
   have q5 := q_; clear q_ hfr
   refine li_nil (nx_then (wp_ret ?_))
   obtain ⟨O20, hB', hX, f21⟩ := freezeL hO hB f18 (by decide)
   clear f18 hB; have hB := hB'; clear hB'
   replace f19 := f19.kx hX (by decide)
   clear hX
   have h := Comp.run_pure h; subst h
   exact retG2 Try.results101 hA (.agg q4 ty89 rfl rfl f19.own) (.tmp q5) ⟨_, rfl, hB.ext, ⟨_, _, rfl, (hB.res r_api_Num ⟨_, ⟨_, _, rfl, rfl, ⟨_, _, rfl, (rel_ofF (r := (rSl (rInt .u32))) f21 rfl rfl), rfl⟩⟩, rfl⟩), rfl⟩⟩
theorem ok_r1_Of {O : Tags} {w0 : World} (hO : OkO O w0) {x_0 : Int} {n : Nat} {y : api_Num} (h : (r1_Of x_0).run n = some y) : Pure Try.prog 65 #[.int .i64 x_0] w0 (SP.vl r_api_Num O y).holds := by
 unfold r1_Of at h
 refine pure_of_wp Try.func65 rfl 21 Try.ntmps65 (by simp) fun a0 hA hs0 => ?_
 have q0 : a0.get 0 = .int .i64 x_0 := hs0 0 _ rfl
 clear hs0
 have hB : Base (Fr w0) O w0 O w0 := Base.start hO
 refine wp_seq ?_
 refine' region [SP.box w0.heap.size #[.bool false, .slice none 0 0] 89] mixed hA (.cons (fun _ _ hE hK hg => ok_alloc hE.size ty89) .nil) ?zok1 ?zgd1 ?zk1
 case zok1 | zgd1 => kernel_rfl
 intro a1 w1 hA hE HF
 replace q0 := kn (HF 0) rfl q0
 have f2 := ksp (HF 2) rfl rfl rfl
 obtain ⟨u1, q2'⟩ : ∃ u, a1.get 2 = u := ⟨_, rfl⟩
 rw [q2'] at f2
 have q2 := q2'; clear q2'
 clear HF
 obtain ⟨O3, b4, hB', hX, e_, f5⟩ := boxNew hO hB hE f2 1 (by decide)
 subst e_
 clear hB f2; have hB := hB'; clear hB'
 clear hX hE
 refine li_nil (nx_then (wp_seq ?_))
 refine' region [_, _, _] mixed hA (.cons (fun _ _ hE hK hg => ok_move (kn (hK 0 rfl) rfl q0)) (.cons (fun _ _ hE hK hg => ok_convI ty3 ty122 (ksv (j := 0) (hK 6 rfl) rfl rfl rfl)) (.cons (fun _ _ hE hK hg => ok_assign (ksv (j := 1) (hK 7 rfl) rfl rfl rfl)) .nil))) ?zok2 ?zgd2 ?zk2
 case zok2 | zgd2 => kernel_rfl
 intro a2 w2 hA hE HF
 replace q0 := kn (HF 0) rfl q0
 replace q2 := kn (HF 2) rfl q2
 have q3 := ksv (HF 3) rfl rfl rfl
 clear HF
 replace f5 := f5.ext hE
 replace hB := Base.step hB hE hO; clear hE
 refine li_nil (nx_then ?_)
 refine seq_join (fun a w => ∃ (O8 : Tags) (x7 : Int), a.fit 21 ∧ Base (Fr w0) O w0 O8 w ∧ a.get 0 = .int .i64 x_0 ∧ a.get 2 = .pointer (some ⟨b4, 0, none⟩) ∧ a.get 3 = .int .u64 x7 ∧ OwnB 1 (Fr w0) O8 w b4 #[.bool false, .slice none 0 0] 89 ∧ (r1_Of_j1 x_0 x7).run n = some y) ?_ ?_
 ·
  refine wp_seq ?_
  refine' region [_, _] mixed hA (.cons (fun _ _ hE hK hg => ok_move (kn (hK 0 rfl) rfl q0)) (.cons (fun _ _ hE hK hg => ok_lss (ksv (j := 0) (hK 8 rfl) rfl rfl rfl) rfl) .nil)) ?zok3 ?zgd3 ?zk3
  case zok3 | zgd3 => kernel_rfl
  intro a3 w3 hA hE HF
  replace q0 := kn (HF 0) rfl q0
  replace q2 := kn (HF 2) rfl q2
  replace q3 := kn (HF 3) rfl q3
  have q9 := ksv (HF 9) rfl rfl rfl
  clear HF
  replace f5 := f5.ext hE
  replace hB := Base.step hB hE hO; clear hE
  refine li_nil (nx_then ?_)
  refine wp_cond_b q9 (fun hc => ?_) (fun hc => ?_)
  ·
   replace h := Comp.run_b_t hc h; clear hc
   refine' region [_, _, _] mixed hA (.cons (fun _ _ hE hK hg => ok_move (kn (hK 3 rfl) rfl q3)) (.cons (fun _ _ hE hK hg => ok_neg (ksv (j := 0) (hK 10 rfl) rfl rfl rfl)) (.cons (fun _ _ hE hK hg => ok_assign (ksv (j := 1) (hK 11 rfl) rfl rfl rfl)) .nil))) ?zok4 ?zgd4 ?zk4
   case zok4 | zgd4 => kernel_rfl
   intro a4 w4 hA hE HF
   replace q0 := kn (HF 0) rfl q0
   replace q2 := kn (HF 2) rfl q2
   have q3' := ksv (HF 3) rfl rfl rfl
   replace q3 := q3'; clear q3'
   clear q9
   clear HF
   replace f5 := f5.ext hE
   replace hB := Base.step hB hE hO; clear hE
   obtain ⟨x6, hx_, h⟩ := Comp.run_bind h; replace hx_ := Comp.run_pure hx_; rw [hx_] at q3; clear hx_
   refine li_nil (nx_then ?_)
   exact ⟨_, _, hA, hB, q0, q2, q3, f5, h⟩
  ·
   replace h := Comp.run_b_f hc h; clear hc
   refine wp_skip (nx_then ?_)
   exact ⟨_, _, hA, hB, q0, q2, q3, f5, h⟩
 intro a5 w5 hI
 clear hA hB h q0 q2 q3 f5
 obtain ⟨O8, x7, hA, hB, q0, q2, q3, f5, h⟩ := hI
 unfold r1_Of_j1 at h
 refine wp_seq ?_
 obtain ⟨x9, hx9, h⟩ := Comp.run_bind h
 obtain ⟨x10, hx10, h⟩ := Comp.run_bind h
 refine' regionT [_, _, _, SP.vl (rSl (rInt .u32)) O8 x9, SP.tup2 (SP.vl r_api_Num O8 x10.1) (SP.isv (.bool x10.2)), SP.tup2 (SP.vl r_api_Num O8 x10.1) (SP.isv (.bool x10.2)), SP.vl r_api_Num O8 x10.1, SP.isv (.bool x10.2)] hA (.cons (fun _ _ hE hK hg => ok_move (kn (hK 0 rfl) rfl q0)) (.cons (fun _ _ hE hK hg => ok_lss (ksv (j := 0) (hK 13 rfl) rfl rfl rfl) rfl) (.cons (fun _ _ hE hK hg => ok_move (kn (hK 3 rfl) rfl q3)) (.cons ?z5_3 (.cons ?z5_4 (.cons (fun _ _ hE hK hg => ok_move_pr (φ := SP.tup2 (SP.vl r_api_Num O8 x10.1) (SP.isv (.bool x10.2))) (kspS (j := 4) (hK 17 rfl) rfl rfl rfl)) (.cons (fun _ _ hE hK hg => okl_ext0 (kspS (φ := SP.tup2 (SP.vl r_api_Num O8 x10.1) (SP.isv (.bool x10.2))) (j := 5) (hK 12 rfl) rfl rfl rfl)) (.cons (fun _ _ hE hK hg => okl_ext1 (kspS (φ := SP.tup2 (SP.vl r_api_Num O8 x10.1) (SP.isv (.bool x10.2))) (j := 5) (hK 12 rfl) rfl rfl rfl)) .nil)))))))) ?zok5 ?zgd5 ?zk5
 case z5_3 => intro a' w' hE hK hg; have c_ := ok_r1_digits (OkO.ext hB.ok hE)  hx9; exact ok_weak (ok_call1 fn102 (ksv (j := 2) (hK 15 rfl) rfl rfl rfl) c_) (fun _ _ _ h => (OwnR.val h (fun g hg => (OkO.ext hB.ok hE) g (OwnR.ge h g hg).1)))
 case z5_4 => intro a' w' hE hK hg; have c_ := ok_r1_signed (OkO.ext hB.ok hE) (kspS (φ := SP.vl (rSl (rInt .u32)) O8 x9) (j := 3) (hK 16 rfl) rfl rfl rfl) hx10; exact ok_call2 fn101 (ksv (j := 1) (hK 14 rfl) rfl rfl rfl) rfl c_
 case zok5 | zgd5 => kernel_rfl
 intro a6 w6 hA hE HF
 replace q2 := kn (HF 2) rfl q2
 have f12 := ksp (HF 18) rfl rfl rfl
 obtain ⟨u11, q18'⟩ : ∃ u, a6.get 18 = u := ⟨_, rfl⟩
 rw [q18'] at f12
 have q18 := q18'; clear q18'
 have q19 := ksv (HF 19) rfl rfl rfl
 clear q0
 clear q3
 clear HF
 replace f5 := f5.ext hE
 replace hB := Base.step hB hE hO; clear hE
 refine l_ok (φ := SP.box w6.heap.size #[.bool false, .slice none 0 0] 89) hO hB (by exact ok_alloc (Nat.le_refl _) ty89) rfl fun u13 w7 hE hB' f14 => ?_
 clear hB'; obtain ⟨O15, b17, hB', hX, e_, f16⟩ := boxNew hO hB hE f14 2 (by decide)
 subst e_; clear hB f14; have hB := hB'; clear hB'
 replace f12 := GR.kx _ f12 hX (by decide)
 replace f5 := f5.kx hX (by decide)
 clear hX hE
 refine put_cont hA (by decide) fun a8 hA q_ hfr => ?_
 replace q2 := (hfr 2 rfl).trans q2
 replace q18 := (hfr 18 rfl).trans q18
 replace q19 := (hfr 19 rfl).trans q19
 have q4 := q_; clear q_ hfr
 obtain ⟨u18, e_, f19⟩ := openV_api_Num f12; subst e_
 refine l_storeSub (vs := [.bool x10.1.Neg, u18]) (cs' := #[.bool x10.1.Neg, u18]) hO hB (okB_fr hB) ty89 q4 q18 rfl (by intro c_ hc_; simp only [List.mem_cons, List.not_mem_nil, or_false] at hc_; rcases hc_ with rfl | rfl <;> first | rfl | assumption | exact sl_one f19 rfl rfl) f16 (by simp) rfl fun w9 f20 hB' hX => ?_
 clear hB f16; have hB := hB'; clear hB'
 replace f19 := GR.kx _ f19 hX (by decide)
 replace f5 := f5.kx hX (by decide)
 clear hX
 refine l_ok (φ := SP.isv (.bool x10.2)) hO hB (by exact ok_assign q19) rfl fun u_ w10 hE hB' hv_ => ?_
 replace hv_ := Eq.symm hv_; subst hv_; clear hB; have hB := hB'; clear hB'
 replace f5 := f5.ext hE
 replace f20 := f20.ext hE
 replace f19 := GR.v_ext _ f19 hE
 clear hE
 refine put_cont hA (by decide) fun a11 hA q_ hfr => ?_
 replace q2 := (hfr 2 rfl).trans q2
 replace q4 := (hfr 4 rfl).trans q4
 replace q19 := (hfr 19 rfl).trans q19
 have q5 := q_; clear q_ hfr
 refine li_nil (nx_then (wp_seq ?_))
 refine' regionT [SP.isv (.agg #[.bool x10.1.Neg, u18])] hA (.cons (fun _ _ hE hK hg => ok_loadOwnAgg ty89 rfl (kn (hK 4 rfl) rfl q4) (OwnB.ext f20 hE).own rfl) .nil) ?zok6 ?zgd6 ?zk6
 case zok6 | zgd6 => kernel_rfl
 intro a12 w12 hA hE HF
 replace q2 := kn (HF 2) rfl q2
 have q20 := ksv (HF 20) rfl rfl rfl
 clear q4
 clear HF
 replace f5 := f5.ext hE
 replace f20 := f20.ext hE
 replace f19 := GR.v_ext _ f19 hE
 replace hB := Base.step hB hE hO; clear hE
 refine l_storeSub (vs := [.bool x10.1.Neg, u18]) (cs' := #[.bool x10.1.Neg, u18]) hO hB (okB_fr hB) ty89 q2 q20 rfl (by intro c_ hc_; simp only [List.mem_cons, List.not_mem_nil, or_false] at hc_; rcases hc_ with rfl | rfl <;> first | rfl | assumption | exact sl_one f19 rfl rfl) f5 (by simp) rfl fun w13 f21 hB' hX => ?_
 clear hB f5; have hB := hB'; clear hB'
 replace f19 := GR.kx _ f19 hX (by decide)
 clear hX
 refine li_nil (nx_then (wp_ret ?_))
 have h := Comp.run_pure h; subst h
 exact retG1 Try.results65 hA (.agg q2 ty89 rfl rfl f21.own) ⟨_, rfl, hB.ext, (hB.res r_api_Num ⟨_, ⟨_, _, rfl, rfl, ⟨_, _, rfl, (rel_ofF (r := (rSl (rInt .u32))) f19 rfl rfl), rfl⟩⟩, rfl⟩)⟩
theorem ok_r1_Right {O : Tags} {w0 : World} (hO : OkO O w0) {v_0 : Value} {x_0 : api_Num} (h_0 : r_api_Num.v O w0 v_0 x_0) {n : Nat} {y : Bool} (h : (r1_Right x_0).run n = some y) : Pure Try.prog 99 #[v_0] w0 (SP.isv (.bool y)).holds := by
 unfold r1_Right at h
 refine pure_of_wp Try.func99 rfl 25 Try.ntmps99 (by simp) fun a0 hA hs0 => ?_
 have q0 : a0.get 0 = v_0 := hs0 0 _ rfl
 clear hs0
 have hB : Base (Fr w0) O w0 O w0 := Base.start hO
 refine wp_seq ?_
 refine' region [SP.vl (rBox r_api_Num) O x_0, _] mixed hA (.cons (fun _ _ hE hK hg => okl_boxV (r := r_api_Num) fit_api_Num (OkO.ext hB.ok hE) (kn (hK 0 rfl) rfl q0) (GR.v_ext _ h_0 hE)) (.cons (fun _ _ hE hK hg => ok_assign rfl) .nil)) ?zok1 ?zgd1 ?zk1
 case zok1 | zgd1 => kernel_rfl
 intro a1 w1 hA hE HF
 have f2 := ksp (HF 1) rfl rfl rfl
 obtain ⟨u1, q1'⟩ : ∃ u, a1.get 1 = u := ⟨_, rfl⟩
 rw [q1'] at f2
 have q1 := q1'; clear q1'
 clear q0
 clear HF
 replace h_0 := GR.v_ext _ h_0 hE
 replace hB := Base.step hB hE hO; clear hE
 refine li_nil (nx_then (wp_seq (wp_seq ?_)))
 refine' region [SP.ptr (rSl (rInt .u32)) O x_0.D, SP.vl (rSl (rInt .u32)) O x_0.D, _, _] mixed hA (.cons (fun _ _ hE hK hg => okl_fldB (S := r_api_Num) fit_api_Num rfl (fun _ => rfl) sb_api_Num_1 fl89_1 (kn (hK 1 rfl) rfl q1) (GR.v_ext _ f2 hE)) (.cons (fun _ _ hE hK hg => okl_ld (r := (rSl (rInt .u32))) (fun _ => rfl) ty87 rfl rfl rfl (kspS (φ := SP.ptr (rSl (rInt .u32)) O x_0.D) (j := 0) (hK 3 rfl) rfl rfl rfl)) (.cons (fun _ _ hE hK hg => okl_len (r := (rInt .u32)) ty87 rfl (rd_of (kspS (φ := SP.vl (rSl (rInt .u32)) O x_0.D) (j := 1) (hK 4 rfl) rfl rfl rfl))) (.cons (fun _ _ hE hK hg => ok_eqlI (ksv (j := 2) (hK 5 rfl) rfl rfl rfl) rfl) .nil)))) ?zok2 ?zgd2 ?zk2
 case zok2 | zgd2 => kernel_rfl
 intro a2 w2 hA hE HF
 replace q1 := kn (HF 1) rfl q1
 have q6 := ksv (HF 6) rfl rfl rfl
 clear HF
 replace f2 := GR.v_ext _ f2 hE
 replace hB := Base.step hB hE hO; clear hE
 refine li_nil (nx_then ?_)
 refine wp_cond_b q6 (fun hc => ?_) (fun hc => ?_)
 ·
  replace h := Comp.run_b_t hc h; clear hc
  refine wp_seq ?_
  refine' region [SP.ptr rBool O x_0.Neg, SP.isv (.bool x_0.Neg), _, _] mixed hA (.cons (fun _ _ hE hK hg => okl_fldB (S := r_api_Num) fit_api_Num rfl (fun _ => rfl) sb_api_Num_0 fl89_0 (kn (hK 1 rfl) rfl q1) (GR.v_ext _ f2 hE)) (.cons (fun _ _ hE hK hg => okl_ldr rBool (fun _ => rfl) ty4 rfl rfl rfl (kspS (φ := SP.ptr rBool O x_0.Neg) (j := 0) (hK 7 rfl) rfl rfl rfl) (fun _ _ _ h => rBool_v.1 h)) (.cons (fun _ _ hE hK hg => ok_not (ksv (j := 1) (hK 8 rfl) rfl rfl rfl)) (.cons (fun _ _ hE hK hg => ok_assign (ksv (j := 2) (hK 9 rfl) rfl rfl rfl)) .nil)))) ?zok3 ?zgd3 ?zk3
  case zok3 | zgd3 => kernel_rfl
  intro a3 w3 hA hE HF
  have q2 := ksv (HF 2) rfl rfl rfl
  clear q1
  clear q6
  clear HF
  replace f2 := GR.v_ext _ f2 hE
  replace hB := Base.step hB hE hO; clear hE
  refine li_nil (nx_then (wp_ret (rt_then ?_)))
  have h := Comp.run_pure h; subst h
  exact retPure Try.results99 hA q2 hB.ext rfl
 ·
  replace h := Comp.run_b_f hc h; clear hc
  refine wp_skip (nx_then (wp_seq ?_))
  obtain ⟨x3, hx3, h⟩ := Comp.run_bind h
  refine' region [SP.ptr (rSl (rInt .u32)) O x_0.D, SP.vl (rSl (rInt .u32)) O x_0.D, _, _, _, SP.ptr (rSl (rInt .u32)) O x_0.D, SP.vl (rSl (rInt .u32)) O x_0.D, SP.ptr (rSl (rInt .u32)) O x_0.D, SP.vl (rSl (rInt .u32)) O x_0.D, _, _, SP.ptr (rInt .u32) O x3, SP.isv (.int .u32 x3), _, _, _] mixed hA (.cons (fun _ _ hE hK hg => okl_fldB (S := r_api_Num) fit_api_Num rfl (fun _ => rfl) sb_api_Num_1 fl89_1 (kn (hK 1 rfl) rfl q1) (GR.v_ext _ f2 hE)) (.cons (fun _ _ hE hK hg => okl_ld (r := (rSl (rInt .u32))) (fun _ => rfl) ty87 rfl rfl rfl (kspS (φ := SP.ptr (rSl (rInt .u32)) O x_0.D) (j := 0) (hK 10 rfl) rfl rfl rfl)) (.cons (fun _ _ hE hK hg => okl_len (r := (rInt .u32)) ty87 rfl (rd_of (kspS (φ := SP.vl (rSl (rInt .u32)) O x_0.D) (j := 1) (hK 11 rfl) rfl rfl rfl))) (.cons (fun _ _ hE hK hg => ok_leq (ksv (j := 2) (hK 12 rfl) rfl rfl rfl) rfl) (.cons (fun _ _ hE hK hg => ok_move (ksv (j := 3) (hK 13 rfl) rfl rfl rfl)) (.cons (fun _ _ hE hK hg => okl_fldB (S := r_api_Num) fit_api_Num rfl (fun _ => rfl) sb_api_Num_1 fl89_1 (kn (hK 1 rfl) rfl q1) (GR.v_ext _ f2 hE)) (.cons ?z4_6 (.cons (fun _ _ hE hK hg => okl_fldB (S := r_api_Num) fit_api_Num rfl (fun _ => rfl) sb_api_Num_1 fl89_1 (kn (hK 1 rfl) rfl q1) (GR.v_ext _ f2 hE)) (.cons ?z4_8 (.cons ?z4_9 (.cons ?z4_10 (.cons ?z4_11 (.cons ?z4_12 (.cons ?z4_13 (.cons ?z4_14 (.cons (fun _ _ hE hK hg => ok_assign (ksv (j := 14) (hK 24 rfl) rfl rfl rfl)) .nil)))))))))))))))) ?zok4 ?zgd4 ?zk4
  case z4_6 => intro a' w' hE hK hg; exact okl_ld (r := (rSl (rInt .u32))) (fun _ => rfl) ty87 rfl rfl rfl (kspS (φ := SP.ptr (rSl (rInt .u32)) O x_0.D) (j := 5) (hK 15 rfl) rfl rfl hg)
  case z4_8 => intro a' w' hE hK hg; exact okl_ld (r := (rSl (rInt .u32))) (fun _ => rfl) ty87 rfl rfl rfl (kspS (φ := SP.ptr (rSl (rInt .u32)) O x_0.D) (j := 7) (hK 17 rfl) rfl rfl hg)
  case z4_9 => intro a' w' hE hK hg; exact okl_len (r := (rInt .u32)) ty87 rfl (rd_of (kspS (φ := SP.vl (rSl (rInt .u32)) O x_0.D) (j := 8) (hK 18 rfl) rfl rfl hg))
  case z4_10 => intro a' w' hE hK hg; exact ok_sub (ksv (j := 9) (hK 19 rfl) rfl rfl hg) rfl
  case z4_11 => intro a' w' hE hK hg; exact okl_idx (r := (rInt .u32)) (O := O) ty87 ty123 rfl rfl (rd_of (kspS (φ := SP.vl (rSl (rInt .u32)) O x_0.D) (j := 6) (hK 16 rfl) rfl rfl hg)) (ksv (j := 10) (hK 20 rfl) rfl rfl hg) (run_gdb hx3 hg)
  case z4_12 => intro a' w' hE hK hg; exact okl_ldr (rInt .u32) (fun _ => rfl) ty123 rfl rfl rfl (kspS (φ := SP.ptr (rInt .u32) O x3) (j := 11) (hK 21 rfl) rfl rfl hg) (fun _ _ _ h => rInt_v.1 h)
  case z4_13 => intro a' w' hE hK hg; exact ok_neqI (ksv (j := 12) (hK 22 rfl) rfl rfl hg) rfl
  case z4_14 => intro a' w' hE hK hg; exact ok_pick (ksv (j := 4) (hK 14 rfl) rfl rfl rfl) (fun hb => ksv (j := 13) (hK 23 rfl) rfl rfl (act_g1 rfl rfl hb)) (fun _ => rfl)
  case zok4 | zgd4 => kernel_rfl
  intro a4 w4 hA hE HF
  have q2 := ksv (HF 2) rfl rfl rfl
  clear q1
  clear q6
  clear HF
  replace f2 := GR.v_ext _ f2 hE
  replace hB := Base.step hB hE hO; clear hE
  obtain ⟨x4, hx_, h⟩ := Comp.run_bind h; replace hx_ := Comp.run_pure hx_; rw [hx_] at q2; clear hx_
  refine li_nil (nx_then (wp_ret ?_))
  have h := Comp.run_pure h; subst h
  exact retPure Try.results99 hA q2 hB.ext rfl
theorem ok_r1_Text {O : Tags} {w0 : World} (hO : OkO O w0) {v_0 : Value} {x_0 : api_Num} (h_0 : r_api_Num.v O w0 v_0 x_0) {n : Nat} {y : Bytes} (h : (r1_Text x_0).run n = some y) : Pure Try.prog 64 #[v_0] w0 (SP.isv (.string (str y))).holds := by
 unfold r1_Text at h
 refine pure_of_wp Try.func64 rfl 58 Try.ntmps64 (by simp) fun a0 hA hs0 => ?_
 have q0 : a0.get 0 = v_0 := hs0 0 _ rfl
 clear hs0
 have hB : Base (Fr w0) O w0 O w0 := Base.start hO
 refine wp_seq ?_
 refine' region [SP.vl (rBox r_api_Num) O x_0, _] mixed hA (.cons (fun _ _ hE hK hg => okl_boxV (r := r_api_Num) fit_api_Num (OkO.ext hB.ok hE) (kn (hK 0 rfl) rfl q0) (GR.v_ext _ h_0 hE)) (.cons (fun _ _ hE hK hg => ok_assign rfl) .nil)) ?zok1 ?zgd1 ?zk1
 case zok1 | zgd1 => kernel_rfl
 intro a1 w1 hA hE HF
 have f2 := ksp (HF 1) rfl rfl rfl
 obtain ⟨u1, q1'⟩ : ∃ u, a1.get 1 = u := ⟨_, rfl⟩
 rw [q1'] at f2
 have q1 := q1'; clear q1'
 clear q0
 clear HF
 replace h_0 := GR.v_ext _ h_0 hE
 replace hB := Base.step hB hE hO; clear hE
 refine li_nil (nx_then (wp_seq (wp_seq ?_)))
 obtain ⟨x3, hx3, h⟩ := Comp.run_bind h
 refine' region [SP.vl r_api_Num O x_0, SP.isv (.bool x3), _] mixed hA (.cons (fun _ _ hE hK hg => okl_ld (r := r_api_Num) fit_api_Num ty89 rfl rfl (kn (hK 1 rfl) rfl q1) (ptr_of_box fit_api_Num (GR.v_ext _ f2 hE))) (.cons ?z2_1 (.cons (fun _ _ hE hK hg => ok_not (ksv (j := 1) (hK 8 rfl) rfl rfl rfl)) .nil))) ?zok2 ?zgd2 ?zk2
 case z2_1 => intro a' w' hE hK hg; have c_ := ok_r1_Right (OkO.ext hB.ok hE) (kspS (φ := SP.vl r_api_Num O x_0) (j := 0) (hK 7 rfl) rfl rfl rfl) hx3; exact ok_call1 fn99 rfl c_
 case zok2 | zgd2 => kernel_rfl
 intro a2 w2 hA hE HF
 replace q1 := kn (HF 1) rfl q1
 have q9 := ksv (HF 9) rfl rfl rfl
 clear HF
 replace f2 := GR.v_ext _ f2 hE
 replace hB := Base.step hB hE hO; clear hE
 refine li_nil (nx_then ?_)
 refine wp_cond_b q9 (fun hc => ?_) (fun hc => ?_)
 ·
  replace h := Comp.run_b_t hc h; clear hc
  refine wp_seq ?_
  refine' region [_] mixed hA (.cons (fun _ _ hE hK hg => ok_assign rfl) .nil) ?zok3 ?zgd3 ?zk3
  case zok3 | zgd3 => kernel_rfl
  intro a3 w3 hA hE HF
  have q2 := ksv (HF 2) rfl rfl rfl
  clear q1
  clear q9
  clear HF
  replace f2 := GR.v_ext _ f2 hE
  replace hB := Base.step hB hE hO; clear hE
  refine li_nil (nx_then (wp_ret (rt_then ?_)))
  have h := Comp.run_pure h; subst h
  exact retPure Try.results64 hA q2 hB.ext rfl
 ·
  replace h := Comp.run_b_f hc h; clear hc
  refine wp_skip (nx_then (wp_seq (wp_seq ?_)))
  refine' region [SP.ptr (rSl (rInt .u32)) O x_0.D, SP.vl (rSl (rInt .u32)) O x_0.D, _, _] mixed hA (.cons (fun _ _ hE hK hg => okl_fldB (S := r_api_Num) fit_api_Num rfl (fun _ => rfl) sb_api_Num_1 fl89_1 (kn (hK 1 rfl) rfl q1) (GR.v_ext _ f2 hE)) (.cons (fun _ _ hE hK hg => okl_ld (r := (rSl (rInt .u32))) (fun _ => rfl) ty87 rfl rfl rfl (kspS (φ := SP.ptr (rSl (rInt .u32)) O x_0.D) (j := 0) (hK 10 rfl) rfl rfl rfl)) (.cons (fun _ _ hE hK hg => okl_len (r := (rInt .u32)) ty87 rfl (rd_of (kspS (φ := SP.vl (rSl (rInt .u32)) O x_0.D) (j := 1) (hK 11 rfl) rfl rfl rfl))) (.cons (fun _ _ hE hK hg => ok_eqlI (ksv (j := 2) (hK 12 rfl) rfl rfl rfl) rfl) .nil)))) ?zok4 ?zgd4 ?zk4
  case zok4 | zgd4 => kernel_rfl
  intro a4 w4 hA hE HF
  replace q1 := kn (HF 1) rfl q1
  have q13 := ksv (HF 13) rfl rfl rfl
  clear q9
  clear HF
  replace f2 := GR.v_ext _ f2 hE
  replace hB := Base.step hB hE hO; clear hE
  refine li_nil (nx_then ?_)
  refine wp_cond_b q13 (fun hc => ?_) (fun hc => ?_)
  ·
   replace h := Comp.run_b_t hc h; clear hc
   refine wp_seq ?_
   refine' region [_] mixed hA (.cons (fun _ _ hE hK hg => ok_assign rfl) .nil) ?zok5 ?zgd5 ?zk5
   case zok5 | zgd5 => kernel_rfl
   intro a5 w5 hA hE HF
   have q2 := ksv (HF 2) rfl rfl rfl
   clear q1
   clear q13
   clear HF
   replace f2 := GR.v_ext _ f2 hE
   replace hB := Base.step hB hE hO; clear hE
   refine li_nil (nx_then (wp_ret (rt_then ?_)))
   have h := Comp.run_pure h; subst h
   exact retPure Try.results64 hA q2 hB.ext rfl
  ·
   replace h := Comp.run_b_f hc h; clear hc
   refine wp_skip (nx_then (wp_seq ?_))
   refine' region [_] mixed hA (.cons (fun _ _ hE hK hg => ok_assign rfl) .nil) ?zok6 ?zgd6 ?zk6
   case zok6 | zgd6 => kernel_rfl
   intro a6 w6 hA hE HF
   replace q1 := kn (HF 1) rfl q1
   have q3 := ksv (HF 3) rfl rfl rfl
   clear q13
   clear HF
   replace f2 := GR.v_ext _ f2 hE
   replace hB := Base.step hB hE hO; clear hE
   refine li_nil (nx_then (wp_seq ?_))
   refine' regionT [] hA .nil ?zok7 ?zgd7 ?zk7
   case zok7 | zgd7 => kernel_rfl
   intro a7 w7 hA hE HF
   replace q1 := kn (HF 1) rfl q1
   replace q3 := kn (HF 3) rfl q3
   clear HF
   replace f2 := GR.v_ext _ f2 hE
   replace hB := Base.step hB hE hO; clear hE
   refine l_ok (φ := SP.ownr (rInt .u32) 123 w7.heap.size O []) hO hB (by exact okl_buildSlice (r := (rInt .u32)) (fun _ => rfl) rfl hB.ok ty87 ty123 (Nat.le_refl _) parts_nil trivial rfl (by decide)) rfl fun u4 w8 hE hB' f5 => ?_
   clear hB'; obtain ⟨O6, hB', hX, f7⟩ := ownNew hO hB hE f5 rfl 1 (by decide)
   clear hB f5; have hB := hB'; clear hB'
   replace f2 := GR.kx _ f2 hX (by decide)
   clear hX hE
   refine put_cont hA (by decide) fun a9 hA q_ hfr => ?_
   replace q1 := (hfr 1 rfl).trans q1
   replace q3 := (hfr 3 rfl).trans q3
   have q14 := q_; clear q_ hfr
   refine l_ok (φ := SP.ptr (rSl (rInt .u32)) O6 x_0.D) hO hB (by exact okl_fldB (S := r_api_Num) fit_api_Num rfl (fun _ => rfl) sb_api_Num_1 fl89_1 q1 f2) rfl fun u8 w10 hE hB' f9 => ?_
   clear hB; have hB := hB'; clear hB'
   replace f2 := GR.v_ext _ f2 hE
   replace f7 := f7.ext hE
   clear hE
   refine put_cont hA (by decide) fun a11 hA q_ hfr => ?_
   replace q1 := (hfr 1 rfl).trans q1
   replace q3 := (hfr 3 rfl).trans q3
   replace q14 := (hfr 14 rfl).trans q14
   have q15 := q_; clear q_ hfr
   refine l_ok (φ := SP.vl (rSl (rInt .u32)) O6 x_0.D) hO hB (by exact okl_ld (r := (rSl (rInt .u32))) (fun _ => rfl) ty87 rfl rfl q15 f9) rfl fun u10 w12 hE hB' f11 => ?_
   clear hB; have hB := hB'; clear hB'
   replace f2 := GR.v_ext _ f2 hE
   replace f7 := f7.ext hE
   clear hE
   refine put_cont hA (by decide) fun a13 hA q_ hfr => ?_
   replace q1 := (hfr 1 rfl).trans q1
   replace q3 := (hfr 3 rfl).trans q3
   replace q14 := (hfr 14 rfl).trans q14
   replace q15 := (hfr 15 rfl).trans q15
   have q16 := q_; clear q_ hfr
   obtain ⟨x12, hx12, h⟩ := Comp.run_bind h
   refine l_append (r := (rInt .u32)) (fun _ => rfl) rfl ty87 ty123 rfl (by decide) hO hB (okB_fr hB) q14 f7 q16 (rd_of f11) hx12 (by decide) fun u13 w14 O14 f15 hB' hX => ?_
   clear hB; have hB := hB'; clear hB'
   clear f7
   replace f2 := GR.kx _ f2 hX (by decide)
   replace f11 := GR.kx _ f11 hX (by decide)
   clear hX
   refine put_cont hA (by decide) fun a15 hA q_ hfr => ?_
   replace q1 := (hfr 1 rfl).trans q1
   replace q3 := (hfr 3 rfl).trans q3
   replace q14 := (hfr 14 rfl).trans q14
   replace q16 := (hfr 16 rfl).trans q16
   have q17 := q_; clear q_ hfr
   refine l_ok (φ := SP.isv (u13)) hO hB (by exact ok_assign q17) rfl fun u_ w16 hE hB' hv_ => ?_
   replace hv_ := Eq.symm hv_; subst hv_; clear hB; have hB := hB'; clear hB'
   replace f2 := GR.v_ext _ f2 hE
   replace f15 := f15.ext hE
   clear hE
   refine put_cont hA (by decide) fun a17 hA q_ hfr => ?_
   replace q1 := (hfr 1 rfl).trans q1
   replace q3 := (hfr 3 rfl).trans q3
   replace q17 := (hfr 17 rfl).trans q17
   have q4 := q_; clear q_ hfr
   refine li_nil (nx_then ?_)
   refine seq_join (fun a w => ∃ (O56 : Tags) (x55 : Bytes), a.fit 58 ∧ Base (Fr w0) O w0 O56 w ∧ a.get 1 = u1 ∧ (rBox r_api_Num).v O56 w u1 x_0 ∧ a.get 3 = .string (str x55) ∧ (r1_Text_j1 x_0 x55).run n = some y) ?_ ?_
   ·
    refine wp_block ?_
    obtain ⟨O20, hB', hX, f21⟩ := retagL (okB_fr hB) hB f15 2 (by decide) (by decide)
    clear f15 hB; have hB := hB'; clear hB'
    replace f2 := GR.kx _ f2 hX (by decide)
    clear hX
    obtain ⟨e2, he2, hk2⟩ := Comp.run_bind h; clear h
    refine loop_m (fun m a w => ∃ (O22 : Tags) (x16 : Bytes) (x17 : List Int) (u18 : Value), a.fit 58 ∧ Base (Fr w0) O w0 O22 w ∧ a.get 1 = u1 ∧ (rBox r_api_Num).v O22 w u1 x_0 ∧ a.get 3 = .string (str x16) ∧ a.get 4 = u18 ∧ OwnL 2 (rInt .u32) 123 (Fr w0) O22 w u18 x17 ∧ Comp.loopN (fun s => r1_Text_l2 s.1 s.2) n m (x16, x17) = some e2) (m := n) ?st2 ?_
    case st2 =>
     exact ⟨_, _, _, _, hA, hB, q1, f2, q3, q4, f21, Comp.run_loop he2⟩
    intro m_ a18 w18 hI
    clear hA hB he2 q1 q3 q4 f2 f21
    obtain ⟨O22, x16, x17, u18, hA, hB, q1, f2, q3, q4, f19, hl⟩ := hI
    obtain ⟨m2, hlt2, st2, h, hnext2, hdone2⟩ := Comp.loopN_succ hl; clear hl
    replace h : (r1_Text_l2 x16 x17).run n = some st2 := h
    unfold r1_Text_l2 at h
    refine wp_seq (wp_seq ?_)
    refine' region [_, _, _] mixed hA (.cons (fun _ _ hE hK hg => ok_move (kn (hK 4 rfl) rfl q4)) (.cons (fun _ _ hE hK hg => okl_len (r := (rInt .u32)) ty87 (ksv (j := 0) (hK 18 rfl) rfl rfl rfl) (OwnL.rd (OwnL.ext f19 hE))) (.cons (fun _ _ hE hK hg => ok_gtr (ksv (j := 1) (hK 19 rfl) rfl rfl rfl) rfl) .nil))) ?zok8 ?zgd8 ?zk8
    case zok8 | zgd8 => kernel_rfl
    intro a19 w19 hA hE HF
    replace q1 := kn (HF 1) rfl q1
    replace q3 := kn (HF 3) rfl q3
    replace q4 := kn (HF 4) rfl q4
    have q20 := ksv (HF 20) rfl rfl rfl
    clear HF
    replace f2 := GR.v_ext _ f2 hE
    replace f19 := f19.ext hE
    replace hB := Base.step hB hE hO; clear hE
    refine li_nil (nx_then ?_)
    refine wp_cond_b q20 (fun hc => ?_) (fun hc => ?_)
    ·
     replace h := Comp.run_b_t hc h; clear hc
     refine wp_skip (nx_then (wp_block (wp_seq ?_)))
     refine' region [_] mixed hA (.cons (fun _ _ hE hK hg => ok_assign rfl) .nil) ?zok9 ?zgd9 ?zk9
     case zok9 | zgd9 => kernel_rfl
     intro a20 w20 hA hE HF
     replace q1 := kn (HF 1) rfl q1
     replace q3 := kn (HF 3) rfl q3
     replace q4 := kn (HF 4) rfl q4
     have q5 := ksv (HF 5) rfl rfl rfl
     clear q20
     clear HF
     replace f2 := GR.v_ext _ f2 hE
     replace f19 := f19.ext hE
     replace hB := Base.step hB hE hO; clear hE
     refine li_nil (nx_then ?_)
     refine seq_join (fun a w => ∃ (O45 : Tags) (x41 : List Int) (x44 : Int) (u42 : Value), a.fit 58 ∧ Base (Fr w0) O w0 O45 w ∧ a.get 1 = u1 ∧ (rBox r_api_Num).v O45 w u1 x_0 ∧ a.get 3 = .string (str x16) ∧ a.get 4 = u42 ∧ OwnL 2 (rInt .u32) 123 (Fr w0) O45 w u42 x41 ∧ a.get 5 = .int .u64 x44 ∧ (r1_Text_j3 x16 x41 x44).run n = some st2) ?_ ?_
     ·
      refine wp_seq ?_
      refine' region [_, _, _, _] mixed hA (.cons (fun _ _ hE hK hg => ok_move (kn (hK 4 rfl) rfl q4)) (.cons (fun _ _ hE hK hg => okl_len (r := (rInt .u32)) ty87 (ksv (j := 0) (hK 21 rfl) rfl rfl rfl) (OwnL.rd (OwnL.ext f19 hE))) (.cons (fun _ _ hE hK hg => ok_sub (ksv (j := 1) (hK 22 rfl) rfl rfl rfl) rfl) (.cons (fun _ _ hE hK hg => ok_assign (ksv (j := 2) (hK 23 rfl) rfl rfl rfl)) .nil)))) ?zok10 ?zgd10 ?zk10
      case zok10 | zgd10 => kernel_rfl
      intro a21 w21 hA hE HF
      replace q1 := kn (HF 1) rfl q1
      replace q3 := kn (HF 3) rfl q3
      replace q4 := kn (HF 4) rfl q4
      replace q5 := kn (HF 5) rfl q5
      have q6 := ksv (HF 6) rfl rfl rfl
      clear HF
      replace f2 := GR.v_ext _ f2 hE
      replace f19 := f19.ext hE
      replace hB := Base.step hB hE hO; clear hE
      obtain ⟨x23, hx_, h⟩ := Comp.run_bind h; replace hx_ := Comp.run_pure hx_; rw [hx_] at q6; clear hx_
      refine li_nil (nx_then (wp_block ?_))
      obtain ⟨e4, he4, hk4⟩ := Comp.run_bind h; clear h
      refine loop_m (fun m a w => ∃ (O29 : Tags) (x24 : List Int) (x27 : Int) (x28 : Int) (u25 : Value), a.fit 58 ∧ Base (Fr w0) O w0 O29 w ∧ a.get 1 = u1 ∧ (rBox r_api_Num).v O29 w u1 x_0 ∧ a.get 3 = .string (str x16) ∧ a.get 4 = u25 ∧ OwnL 2 (rInt .u32) 123 (Fr w0) O29 w u25 x24 ∧ a.get 5 = .int .u64 x27 ∧ a.get 6 = .int .i64 x28 ∧ Comp.loopN (fun s => r1_Text_l4 s.1 s.2.1 s.2.2) n m (x24, x27, x28) = some e4) (m := n) ?st4 ?_
      case st4 =>
       exact ⟨_, _, _, _, _, hA, hB, q1, f2, q3, q4, f19, q5, q6, Comp.run_loop he4⟩
      intro m_ a22 w22 hI
      clear hA hB he4 q1 q3 q4 q5 q6 f19 f2
      obtain ⟨O29, x24, x27, x28, u25, hA, hB, q1, f2, q3, q4, f26, q5, q6, hl⟩ := hI
      obtain ⟨m4, hlt4, st4, h, hnext4, hdone4⟩ := Comp.loopN_succ hl; clear hl
      replace h : (r1_Text_l4 x24 x27 x28).run n = some st4 := h
      unfold r1_Text_l4 at h
      refine wp_seq (wp_seq ?_)
      refine' region [_, _] mixed hA (.cons (fun _ _ hE hK hg => ok_move (kn (hK 6 rfl) rfl q6)) (.cons (fun _ _ hE hK hg => ok_geq (ksv (j := 0) (hK 24 rfl) rfl rfl rfl) rfl) .nil)) ?zok11 ?zgd11 ?zk11
      case zok11 | zgd11 => kernel_rfl
      intro a23 w23 hA hE HF
      replace q1 := kn (HF 1) rfl q1
      replace q3 := kn (HF 3) rfl q3
      replace q4 := kn (HF 4) rfl q4
      replace q5 := kn (HF 5) rfl q5
      replace q6 := kn (HF 6) rfl q6
      have q25 := ksv (HF 25) rfl rfl rfl
      clear HF
      replace f2 := GR.v_ext _ f2 hE
      replace f26 := f26.ext hE
      replace hB := Base.step hB hE hO; clear hE
      refine li_nil (nx_then ?_)
      refine wp_cond_b q25 (fun hc => ?_) (fun hc => ?_)
      ·
       replace h := Comp.run_b_t hc h; clear hc
       refine wp_skip (nx_then (wp_seq (wp_block (wp_seq ?_))))
       obtain ⟨x30, hx30, h⟩ := Comp.run_bind h
       refine' region [_, _, _, _, SP.ptr (rInt .u32) O29 x30, SP.isv (.int .u32 x30), _, _, _] mixed hA (.cons (fun _ _ hE hK hg => ok_move (kn (hK 5 rfl) rfl q5)) (.cons (fun _ _ hE hK hg => okl_shl (ksv (j := 0) (hK 28 rfl) rfl rfl rfl) rfl (by decide)) (.cons (fun _ _ hE hK hg => ok_move (kn (hK 4 rfl) rfl q4)) (.cons (fun _ _ hE hK hg => ok_move (kn (hK 6 rfl) rfl q6)) (.cons (fun _ _ hE hK hg => okl_idx (r := (rInt .u32)) (O := O29) ty87 ty123 rfl (ksv (j := 2) (hK 30 rfl) rfl rfl rfl) (OwnL.rd (OwnL.ext f26 hE)) (ksv (j := 3) (hK 31 rfl) rfl rfl rfl) hx30) (.cons (fun _ _ hE hK hg => okl_ldr (rInt .u32) (fun _ => rfl) ty123 rfl rfl rfl (kspS (φ := SP.ptr (rInt .u32) O29 x30) (j := 4) (hK 32 rfl) rfl rfl rfl) (fun _ _ _ h => rInt_v.1 h)) (.cons (fun _ _ hE hK hg => ok_convI ty123 ty122 (ksv (j := 5) (hK 33 rfl) rfl rfl rfl)) (.cons (fun _ _ hE hK hg => ok_add (ksv (j := 1) (hK 29 rfl) rfl rfl rfl) (ksv (j := 6) (hK 34 rfl) rfl rfl rfl)) (.cons (fun _ _ hE hK hg => ok_assign (ksv (j := 7) (hK 35 rfl) rfl rfl rfl)) .nil))))))))) ?zok12 ?zgd12 ?zk12
       case zok12 | zgd12 => kernel_rfl
       intro a24 w24 hA hE HF
       replace q1 := kn (HF 1) rfl q1
       replace q3 := kn (HF 3) rfl q3
       replace q4 := kn (HF 4) rfl q4
       have q5' := ksv (HF 5) rfl rfl rfl
       replace q5 := q5'; clear q5'
       replace q6 := kn (HF 6) rfl q6
       clear q25
       clear HF
       replace f2 := GR.v_ext _ f2 hE
       replace f26 := f26.ext hE
       replace hB := Base.step hB hE hO; clear hE
       obtain ⟨x31, hx_, h⟩ := Comp.run_bind h; replace hx_ := Comp.run_pure hx_; rw [hx_] at q5; clear hx_
       refine li_nil (nx_then (wp_seq ?_))
       obtain ⟨x32, hx32, h⟩ := Comp.run_bind h
       refine' regionT [_, _, _, _, _, SP.elt (u25) (Int.toNat x28 * 1)] hA (.cons (fun _ _ hE hK hg => ok_move (kn (hK 4 rfl) rfl q4)) (.cons (fun _ _ hE hK hg => ok_move (kn (hK 6 rfl) rfl q6)) (.cons (fun _ _ hE hK hg => ok_move (kn (hK 5 rfl) rfl q5)) (.cons (fun _ _ hE hK hg => ok_quo (ksv (j := 2) (hK 38 rfl) rfl rfl rfl) rfl (by decide)) (.cons (fun _ _ hE hK hg => ok_convI ty122 ty123 (ksv (j := 3) (hK 39 rfl) rfl rfl rfl)) (.cons (fun _ _ hE hK hg => okl_idxOwn rfl ty87 ty123 (ksv (j := 0) (hK 36 rfl) rfl rfl rfl) (OwnL.ext f26 hE) (ksv (j := 1) (hK 37 rfl) rfl rfl rfl) (idx_lt hx32)) .nil)))))) ?zok13 ?zgd13 ?zk13
       case zok13 | zgd13 => kernel_rfl
       intro a25 w25 hA hE HF
       replace q1 := kn (HF 1) rfl q1
       replace q3 := kn (HF 3) rfl q3
       replace q4 := kn (HF 4) rfl q4
       replace q5 := kn (HF 5) rfl q5
       replace q6 := kn (HF 6) rfl q6
       have q40 := ksv (HF 40) rfl rfl rfl
       have f34 := ksp (HF 41) rfl rfl rfl
       obtain ⟨u33, q41'⟩ : ∃ u, a25.get 41 = u := ⟨_, rfl⟩
       rw [q41'] at f34
       have q41 := q41'; clear q41'
       clear HF
       replace f2 := GR.v_ext _ f2 hE
       replace f26 := f26.ext hE
       replace hB := Base.step hB hE hO; clear hE
       obtain ⟨x36, hx36, h⟩ := Comp.run_bind h
       refine l_storeElt (r := (rInt .u32)) (fun _ => rfl) rfl hO hB (okB_fr hB) ty123 q41 f34 f26 q40 (by exact rInt_v.2 rfl) hx36 (by decide) fun w26 f35 hB' hX => ?_
       clear hB; have hB := hB'; clear hB'
       replace f2 := GR.kx _ f2 hX (by decide)
       clear hX f26
       refine li_nil (nx_then ?_)
       refine' region [_, _, _] mixed hA (.cons (fun _ _ hE hK hg => ok_move (kn (hK 5 rfl) rfl q5)) (.cons (fun _ _ hE hK hg => ok_rem (ksv (j := 0) (hK 42 rfl) rfl rfl rfl) rfl (by decide)) (.cons (fun _ _ hE hK hg => ok_assign (ksv (j := 1) (hK 43 rfl) rfl rfl rfl)) .nil))) ?zok14 ?zgd14 ?zk14
       case zok14 | zgd14 => kernel_rfl
       intro a27 w27 hA hE HF
       replace q1 := kn (HF 1) rfl q1
       replace q3 := kn (HF 3) rfl q3
       replace q4 := kn (HF 4) rfl q4
       have q5' := ksv (HF 5) rfl rfl rfl
       replace q5 := q5'; clear q5'
       replace q6 := kn (HF 6) rfl q6
       clear HF
       replace f2 := GR.v_ext _ f2 hE
       replace f35 := f35.ext hE
       replace hB := Base.step hB hE hO; clear hE
       refine li_nil (nx_blk (nx_then ?_))
       refine' region [_, _, _] mixed hA (.cons (fun _ _ hE hK hg => ok_move (kn (hK 6 rfl) rfl q6)) (.cons (fun _ _ hE hK hg => ok_sub (ksv (j := 0) (hK 26 rfl) rfl rfl rfl) rfl) (.cons (fun _ _ hE hK hg => ok_assign (ksv (j := 1) (hK 27 rfl) rfl rfl rfl)) .nil))) ?zok15 ?zgd15 ?zk15
       case zok15 | zgd15 => kernel_rfl
       intro a28 w28 hA hE HF
       replace q1 := kn (HF 1) rfl q1
       replace q3 := kn (HF 3) rfl q3
       replace q4 := kn (HF 4) rfl q4
       replace q5 := kn (HF 5) rfl q5
       have q6' := ksv (HF 6) rfl rfl rfl
       replace q6 := q6'; clear q6'
       clear HF
       replace f2 := GR.v_ext _ f2 hE
       replace f35 := f35.ext hE
       replace hB := Base.step hB hE hO; clear hE
       refine li_nil (nx_then ?_)
       have h := hnext4 _ (Comp.run_pure h).symm
       refine ⟨m4, hlt4, ?_⟩
       exact ⟨_, _, _, _, _, hA, hB, q1, f2, q3, q4, f35, q5, q6, h⟩
      ·
       replace h := Comp.run_b_f hc h; clear hc
       refine wp_exit (ex_then (ex_then (ex_same ?_)))
       have hd_ := hdone4 _ (Comp.run_pure h).symm; clear h
       subst hd_; have h := hk4; clear hk4; try dsimp only at h
       refine nx_then ?_
       exact ⟨_, _, _, _, hA, hB, q1, f2, q3, q4, f26, q5, h⟩
     intro a29 w29 hI
     clear hA hB h q1 q3 q4 q5 f19 f2
     obtain ⟨O45, x41, x44, u42, hA, hB, q1, f2, q3, q4, f43, q5, h⟩ := hI
     unfold r1_Text_j3 at h
     refine wp_seq ?_
     obtain ⟨x46, hx46, h⟩ := Comp.run_bind h
     obtain ⟨x47, hx47, h⟩ := Comp.run_bind h
     refine' region [_, _, _, SP.vl (rSl (rInt .u8)) O45 [(IntKind.wrap .u8 (IntKind.wrap .u64 (48 + x44)))], SP.isv (.string (str x46)), _, SP.isv (.string (str x47)), _] mixed hA (.cons (fun _ _ hE hK hg => ok_move (kn (hK 5 rfl) rfl q5)) (.cons (fun _ _ hE hK hg => ok_add rfl (ksv (j := 0) (hK 44 rfl) rfl rfl rfl)) (.cons (fun _ _ hE hK hg => ok_convI ty122 ty5 (ksv (j := 1) (hK 45 rfl) rfl rfl rfl)) (.cons (fun _ _ hE hK hg => okl_buildSliceV (r := (rInt .u8)) (fun _ => rfl) rfl (OkO.ext hB.ok hE) ty104 ty5 (parts_cons (ksv (j := 2) (hK 46 rfl) rfl rfl rfl) parts_nil) ⟨(by exact rInt_v.2 rfl), trivial⟩ rfl (by decide)) (.cons (fun _ _ hE hK hg => okl_bytesToStr ty104 ty5 ty9 rfl (rd_of (kspS (φ := SP.vl (rSl (rInt .u8)) O45 [(IntKind.wrap .u8 (IntKind.wrap .u64 (48 + x44)))]) (j := 3) (hK 47 rfl) rfl rfl rfl)) hx46) (.cons (fun _ _ hE hK hg => ok_move (kn (hK 3 rfl) rfl q3)) (.cons (fun _ _ hE hK hg => okl_addS (ksv (j := 4) (hK 48 rfl) rfl rfl rfl) (ksv (j := 5) (hK 49 rfl) rfl rfl rfl) hx47) (.cons (fun _ _ hE hK hg => ok_assign (ksv (j := 6) (hK 50 rfl) rfl rfl rfl)) .nil)))))))) ?zok16 ?zgd16 ?zk16
     case zok16 | zgd16 => kernel_rfl
     intro a30 w30 hA hE HF
     replace q1 := kn (HF 1) rfl q1
     have q3' := ksv (HF 3) rfl rfl rfl
     replace q3 := q3'; clear q3'
     replace q4 := kn (HF 4) rfl q4
     clear q5
     clear HF
     replace f2 := GR.v_ext _ f2 hE
     replace f43 := f43.ext hE
     replace hB := Base.step hB hE hO; clear hE
     refine li_nil (nx_then ?_)
     refine' regionT [_] hA (.cons (fun _ _ hE hK hg => ok_move (kn (hK 4 rfl) rfl q4)) .nil) ?zok17 ?zgd17 ?zk17
     case zok17 | zgd17 => kernel_rfl
     intro a31 w31 hA hE HF
     replace q1 := kn (HF 1) rfl q1
     replace q3 := kn (HF 3) rfl q3
     replace q4 := kn (HF 4) rfl q4
     have q51 := ksv (HF 51) rfl rfl rfl
     clear HF
     replace f2 := GR.v_ext _ f2 hE
     replace f43 := f43.ext hE
     replace hB := Base.step hB hE hO; clear hE
     obtain ⟨x48, hx48, h⟩ := Comp.run_bind h
     refine l_io (r := (rInt .u32)) (E := 123) (k := 2) hO hB (okB_fr hB) fn100 (map1 q51) (m_r1_trim hB.ok (OwnL.arg f43 (by decide)) hx48) f43 (by decide) fun u50 u49 w32 O51 f52 hB' hX hps => ?_
     clear hB; have hB := hB'; clear hB'
     clear f43
     replace hps : _ = _ := hps; subst hps
     replace f2 := GR.kx _ f2 hX (by decide)
     clear hX
     refine put_cont hA (by decide) fun a33 hA q_ hfr => ?_
     replace q1 := (hfr 1 rfl).trans q1
     replace q3 := (hfr 3 rfl).trans q3
     replace q4 := (hfr 4 rfl).trans q4
     replace q51 := (hfr 51 rfl).trans q51
     have q52 := q_; clear q_ hfr
     refine l_ok (φ := SP.isv (u50)) hO hB (by exact ok_assign q52) rfl fun u_ w34 hE hB' hv_ => ?_
     replace hv_ := Eq.symm hv_; subst hv_; clear hB; have hB := hB'; clear hB'
     replace f2 := GR.v_ext _ f2 hE
     replace f52 := f52.ext hE
     clear hE
     refine put_cont hA (by decide) fun a35 hA q_ hfr => ?_
     replace q1 := (hfr 1 rfl).trans q1
     replace q3 := (hfr 3 rfl).trans q3
     replace q52 := (hfr 52 rfl).trans q52
     clear q4
     have q4 := q_; clear q_ hfr
     refine li_nil (nx_blk (nx_then ?_))
     have h := hnext2 _ (Comp.run_pure h).symm
     refine ⟨m2, hlt2, ?_⟩
     exact ⟨_, _, _, _, hA, hB, q1, f2, q3, q4, f52, h⟩
    ·
     replace h := Comp.run_b_f hc h; clear hc
     refine wp_exit (ex_then (ex_then (ex_same ?_)))
     have hd_ := hdone2 _ (Comp.run_pure h).symm; clear h
     subst hd_; have h := hk2; clear hk2; try dsimp only at h
     refine nx_then ?_
     exact ⟨_, _, hA, hB, q1, f2, q3, h⟩
   intro a36 w36 hI
   clear hA hB h q1 q3 q4 f15 f2
   obtain ⟨O56, x55, hA, hB, q1, f2, q3, h⟩ := hI
   unfold r1_Text_j1 at h
   refine wp_seq (wp_seq ?_)
   refine' region [SP.ptr rBool O56 x_0.Neg, SP.isv (.bool x_0.Neg)] mixed hA (.cons (fun _ _ hE hK hg => okl_fldB (S := r_api_Num) fit_api_Num rfl (fun _ => rfl) sb_api_Num_0 fl89_0 (kn (hK 1 rfl) rfl q1) (GR.v_ext _ f2 hE)) (.cons (fun _ _ hE hK hg => okl_ldr rBool (fun _ => rfl) ty4 rfl rfl rfl (kspS (φ := SP.ptr rBool O56 x_0.Neg) (j := 0) (hK 53 rfl) rfl rfl rfl) (fun _ _ _ h => rBool_v.1 h)) .nil)) ?zok18 ?zgd18 ?zk18
   case zok18 | zgd18 => kernel_rfl
   intro a37 w37 hA hE HF
   replace q3 := kn (HF 3) rfl q3
   have q54 := ksv (HF 54) rfl rfl rfl
   clear q1
   clear HF
   replace f2 := GR.v_ext _ f2 hE
   replace hB := Base.step hB hE hO; clear hE
   refine li_nil (nx_then ?_)
   refine wp_cond_b q54 (fun hc => ?_) (fun hc => ?_)
   ·
    replace h := Comp.run_b_t hc h; clear hc
    refine wp_seq ?_
    obtain ⟨x57, hx57, h⟩ := Comp.run_bind h
    refine' region [_, SP.isv (.string (str x57)), _] mixed hA (.cons (fun _ _ hE hK hg => ok_move (kn (hK 3 rfl) rfl q3)) (.cons (fun _ _ hE hK hg => okl_addS rfl (ksv (j := 0) (hK 55 rfl) rfl rfl rfl) hx57) (.cons (fun _ _ hE hK hg => ok_assign (ksv (j := 1) (hK 56 rfl) rfl rfl rfl)) .nil))) ?zok19 ?zgd19 ?zk19
    case zok19 | zgd19 => kernel_rfl
    intro a38 w38 hA hE HF
    have q2 := ksv (HF 2) rfl rfl rfl
    clear q3
    clear q54
    clear HF
    replace hB := Base.step hB hE hO; clear hE
    refine li_nil (nx_then (wp_ret (rt_then ?_)))
    have h := Comp.run_pure h; subst h
    exact retPure Try.results64 hA q2 hB.ext rfl
   ·
    replace h := Comp.run_b_f hc h; clear hc
    refine wp_skip (nx_then (wp_seq ?_))
    refine' region [_, _] mixed hA (.cons (fun _ _ hE hK hg => ok_move (kn (hK 3 rfl) rfl q3)) (.cons (fun _ _ hE hK hg => ok_assign (ksv (j := 0) (hK 57 rfl) rfl rfl rfl)) .nil)) ?zok20 ?zgd20 ?zk20
    case zok20 | zgd20 => kernel_rfl
    intro a39 w39 hA hE HF
    have q2 := ksv (HF 2) rfl rfl rfl
    clear q3
    clear q54
    clear HF
    replace hB := Base.step hB hE hO; clear hE
    refine li_nil (nx_then (wp_ret ?_))
    have h := Comp.run_pure h; subst h
    exact retPure Try.results64 hA q2 hB.ext rfl
theorem ok_r7_Keys {O : Tags} {w0 : World} (hO : OkO O w0) {x_0 : Int} {n : Nat} {y : (List Bytes)} (h : (r7_Keys x_0).run n = some y) : Pure Try.prog 23 #[.int .i64 x_0] w0 (SP.ownr rStr 9 (w0.heap.size) O y).holds := by
 unfold r7_Keys at h
 refine pure_of_wp Try.func23 rfl 18 Try.ntmps23 (by simp) fun a0 hA hs0 => ?_
 have q0 : a0.get 0 = .int .i64 x_0 := hs0 0 _ rfl
 clear hs0
 have hB : Base (Fr w0) O w0 O w0 := Base.start hO
 refine wp_seq ?_
 refine' region [_] mixed hA (.cons (fun _ _ hE hK hg => ok_assign rfl) .nil) ?zok1 ?zgd1 ?zk1
 case zok1 | zgd1 => kernel_rfl
 intro a1 w1 hA hE HF
 replace q0 := kn (HF 0) rfl q0
 clear HF
 replace hB := Base.step hB hE hO; clear hE
 refine li_nil (nx_then (wp_seq ?_))
 refine' region [_] mixed hA (.cons (fun _ _ hE hK hg => ok_assign rfl) .nil) ?zok2 ?zgd2 ?zk2
 case zok2 | zgd2 => kernel_rfl
 intro a2 w2 hA hE HF
 replace q0 := kn (HF 0) rfl q0
 have q3 := ksv (HF 3) rfl rfl rfl
 clear HF
 replace hB := Base.step hB hE hO; clear hE
 refine li_nil (nx_then ?_)
 refine seq_join (fun a w => ∃ (O20 : Tags) (x17 : List Bytes) (u18 : Value), a.fit 18 ∧ Base (Fr w0) O w0 O20 w ∧ a.get 3 = u18 ∧ OwnL 1 rStr 9 (Fr w0) O20 w u18 x17 ∧ (r7_Keys_j1 x17).run n = some y) ?_ ?_
 ·
  refine wp_seq ?_
  refine' region [_] mixed hA (.cons (fun _ _ hE hK hg => ok_assign rfl) .nil) ?zok3 ?zgd3 ?zk3
  case zok3 | zgd3 => kernel_rfl
  intro a3 w3 hA hE HF
  replace q0 := kn (HF 0) rfl q0
  replace q3 := kn (HF 3) rfl q3
  have q4 := ksv (HF 4) rfl rfl rfl
  clear HF
  replace hB := Base.step hB hE hO; clear hE
  refine li_nil (nx_then (wp_block ?_))
  obtain ⟨e2, he2, hk2⟩ := Comp.run_bind h; clear h
  refine loop_m (fun m a w => ∃ (O5 : Tags) (x1 : List Bytes) (x4 : Int) (u2 : Value), a.fit 18 ∧ Base (Fr w0) O w0 O5 w ∧ a.get 0 = .int .i64 x_0 ∧ a.get 3 = u2 ∧ OwnL 1 rStr 9 (Fr w0) O5 w u2 x1 ∧ a.get 4 = .int .i64 x4 ∧ Comp.loopN (fun s => r7_Keys_l2 x_0 s.1 s.2) n m (x1, x4) = some e2) (m := n) ?st2 ?_
  case st2 =>
   exact ⟨_, _, _, _, hA, hB, q0, q3, (OwnL.nil _ _ _ _ _ _), q4, Comp.run_loop he2⟩
  intro m_ a4 w4 hI
  clear hA hB he2 q0 q3 q4
  obtain ⟨O5, x1, x4, u2, hA, hB, q0, q3, f3, q4, hl⟩ := hI
  obtain ⟨m2, hlt2, st2, h, hnext2, hdone2⟩ := Comp.loopN_succ hl; clear hl
  replace h : (r7_Keys_l2 x_0 x1 x4).run n = some st2 := h
  unfold r7_Keys_l2 at h
  refine wp_seq (wp_seq ?_)
  refine' region [_, _, _] mixed hA (.cons (fun _ _ hE hK hg => ok_move (kn (hK 4 rfl) rfl q4)) (.cons (fun _ _ hE hK hg => ok_move (kn (hK 0 rfl) rfl q0)) (.cons (fun _ _ hE hK hg => ok_lss (ksv (j := 0) (hK 5 rfl) rfl rfl rfl) (ksv (j := 1) (hK 6 rfl) rfl rfl rfl)) .nil))) ?zok4 ?zgd4 ?zk4
  case zok4 | zgd4 => kernel_rfl
  intro a5 w5 hA hE HF
  replace q0 := kn (HF 0) rfl q0
  replace q3 := kn (HF 3) rfl q3
  replace q4 := kn (HF 4) rfl q4
  have q7 := ksv (HF 7) rfl rfl rfl
  clear HF
  replace f3 := f3.ext hE
  replace hB := Base.step hB hE hO; clear hE
  refine li_nil (nx_then ?_)
  refine wp_cond_b q7 (fun hc => ?_) (fun hc => ?_)
  ·
   replace h := Comp.run_b_t hc h; clear hc
   refine wp_skip (nx_then (wp_seq (wp_block ?_)))
   obtain ⟨x6, hx6, h⟩ := Comp.run_bind h
   obtain ⟨x7, hx7, h⟩ := Comp.run_bind h
   obtain ⟨x8, hx8, h⟩ := Comp.run_bind h
   refine' regionT [_, _, SP.vl r_api_Num O5 x6, SP.isv (.string (str x7)), SP.isv (.string (str x8)), SP.vl (rSl rStr) O5 [x8]] hA (.cons (fun _ _ hE hK hg => ok_move (kn (hK 3 rfl) rfl q3)) (.cons (fun _ _ hE hK hg => ok_move (kn (hK 4 rfl) rfl q4)) (.cons ?z5_2 (.cons ?z5_3 (.cons (fun _ _ hE hK hg => okl_addS rfl (ksv (j := 3) (hK 13 rfl) rfl rfl rfl) hx8) (.cons (fun _ _ hE hK hg => okl_buildSliceV (r := rStr) (fun _ => rfl) rfl (OkO.ext hB.ok hE) ty28 ty9 (parts_cons (ksv (j := 4) (hK 14 rfl) rfl rfl rfl) parts_nil) ⟨(by exact rStr_v.2 rfl), trivial⟩ rfl (by decide)) .nil)))))) ?zok5 ?zgd5 ?zk5
   case z5_2 => intro a' w' hE hK hg; have c_ := ok_r1_Of (OkO.ext hB.ok hE)  hx6; exact ok_call1 fn65 (ksv (j := 1) (hK 11 rfl) rfl rfl rfl) c_
   case z5_3 => intro a' w' hE hK hg; have c_ := ok_r1_Text (OkO.ext hB.ok hE) (kspS (φ := SP.vl r_api_Num O5 x6) (j := 2) (hK 12 rfl) rfl rfl rfl) hx7; exact ok_call1 fn64 rfl c_
   case zok5 | zgd5 => kernel_rfl
   intro a6 w6 hA hE HF
   replace q0 := kn (HF 0) rfl q0
   replace q3 := kn (HF 3) rfl q3
   replace q4 := kn (HF 4) rfl q4
   have q10 := ksv (HF 10) rfl rfl rfl
   have f10 := ksp (HF 15) rfl rfl rfl
   obtain ⟨u9, q15'⟩ : ∃ u, a6.get 15 = u := ⟨_, rfl⟩
   rw [q15'] at f10
   have q15 := q15'; clear q15'
   clear q7
   clear HF
   replace f3 := f3.ext hE
   replace hB := Base.step hB hE hO; clear hE
   obtain ⟨x11, hx11, h⟩ := Comp.run_bind h
   refine l_append (r := rStr) (fun _ => rfl) rfl ty28 ty9 rfl (by decide) hO hB (okB_fr hB) q10 f3 q15 (rd_of f10) hx11 (by decide) fun u12 w7 O13 f14 hB' hX => ?_
   clear hB; have hB := hB'; clear hB'
   clear f3
   replace f10 := GR.kx _ f10 hX (by decide)
   clear hX
   refine put_cont hA (by decide) fun a8 hA q_ hfr => ?_
   replace q0 := (hfr 0 rfl).trans q0
   replace q3 := (hfr 3 rfl).trans q3
   replace q4 := (hfr 4 rfl).trans q4
   replace q10 := (hfr 10 rfl).trans q10
   replace q15 := (hfr 15 rfl).trans q15
   have q16 := q_; clear q_ hfr
   refine l_ok (φ := SP.isv (u12)) hO hB (by exact ok_assign q16) rfl fun u_ w9 hE hB' hv_ => ?_
   replace hv_ := Eq.symm hv_; subst hv_; clear hB; have hB := hB'; clear hB'
   replace f14 := f14.ext hE
   clear hE
   refine put_cont hA (by decide) fun a10 hA q_ hfr => ?_
   replace q0 := (hfr 0 rfl).trans q0
   replace q4 := (hfr 4 rfl).trans q4
   replace q16 := (hfr 16 rfl).trans q16
   clear q3
   have q3 := q_; clear q_ hfr
   refine li_nil (nx_blk (nx_then ?_))
   refine' region [_, _, _] mixed hA (.cons (fun _ _ hE hK hg => ok_move (kn (hK 4 rfl) rfl q4)) (.cons (fun _ _ hE hK hg => ok_add (ksv (j := 0) (hK 8 rfl) rfl rfl rfl) rfl) (.cons (fun _ _ hE hK hg => ok_assign (ksv (j := 1) (hK 9 rfl) rfl rfl rfl)) .nil))) ?zok6 ?zgd6 ?zk6
   case zok6 | zgd6 => kernel_rfl
   intro a11 w11 hA hE HF
   replace q0 := kn (HF 0) rfl q0
   replace q3 := kn (HF 3) rfl q3
   have q4' := ksv (HF 4) rfl rfl rfl
   replace q4 := q4'; clear q4'
   clear HF
   replace f14 := f14.ext hE
   replace hB := Base.step hB hE hO; clear hE
   refine li_nil (nx_then ?_)
   have h := hnext2 _ (Comp.run_pure h).symm
   refine ⟨m2, hlt2, ?_⟩
   exact ⟨_, _, _, _, hA, hB, q0, q3, f14, q4, h⟩
  ·
   replace h := Comp.run_b_f hc h; clear hc
   refine wp_exit (ex_then (ex_then (ex_same ?_)))
   have hd_ := hdone2 _ (Comp.run_pure h).symm; clear h
   subst hd_; have h := hk2; clear hk2; try dsimp only at h
   refine nx_then ?_
   exact ⟨_, _, _, hA, hB, q3, f3, h⟩
 intro a12 w12 hI
 clear hA hB h q0 q3
 obtain ⟨O20, x17, u18, hA, hB, q3, f19, h⟩ := hI
 unfold r7_Keys_j1 at h
 refine wp_seq ?_
 refine' region [_, _] mixed hA (.cons (fun _ _ hE hK hg => ok_move (kn (hK 3 rfl) rfl q3)) (.cons (fun _ _ hE hK hg => ok_assign (ksv (j := 0) (hK 17 rfl) rfl rfl rfl)) .nil)) ?zok7 ?zgd7 ?zk7
 case zok7 | zgd7 => kernel_rfl
 intro a13 w13 hA hE HF
 have q2 := ksv (HF 2) rfl rfl rfl
 clear q3
 clear HF
 replace f19 := f19.ext hE
 replace hB := Base.step hB hE hO; clear hE
 refine li_nil (nx_then (wp_ret ?_))
 have h := Comp.run_pure h; subst h
 exact retPure Try.results23 hA q2 hB.ext (OwnL.res f19 (by decide) hB.zero)
theorem ok_c7_Case_lists {O : Tags} {w0 : World} (hO : OkO O w0) {v_0 : Value} {x_0 : c7_Case} (h_0 : r_c7_Case.v O w0 v_0 x_0) {n : Nat} {y : (List (List Int))} (h : (c7_Case_lists x_0).run n = some y) : Pure Try.prog 55 #[v_0] w0 (SP.ownr (rSl (rInt .i64)) 58 (w0.heap.size) O y).holds := by
 unfold c7_Case_lists at h
 refine pure_of_wp Try.func55 rfl 33 Try.ntmps55 (by simp) fun a0 hA hs0 => ?_
 have q0 : a0.get 0 = v_0 := hs0 0 _ rfl
 clear hs0
 have hB : Base (Fr w0) O w0 O w0 := Base.start hO
 refine wp_seq ?_
 refine' region [SP.vl (rBox r_c7_Case) O x_0, _] mixed hA (.cons (fun _ _ hE hK hg => okl_boxV (r := r_c7_Case) fit_c7_Case (OkO.ext hB.ok hE) (kn (hK 0 rfl) rfl q0) (GR.v_ext _ h_0 hE)) (.cons (fun _ _ hE hK hg => ok_assign rfl) .nil)) ?zok1 ?zgd1 ?zk1
 case zok1 | zgd1 => kernel_rfl
 intro a1 w1 hA hE HF
 have f2 := ksp (HF 1) rfl rfl rfl
 obtain ⟨u1, q1'⟩ : ∃ u, a1.get 1 = u := ⟨_, rfl⟩
 rw [q1'] at f2
 have q1 := q1'; clear q1'
 clear q0
 clear HF
 replace h_0 := GR.v_ext _ h_0 hE
 replace hB := Base.step hB hE hO; clear hE
 refine li_nil (nx_then (wp_seq ?_))
 refine' region [_] mixed hA (.cons (fun _ _ hE hK hg => ok_assign rfl) .nil) ?zok2 ?zgd2 ?zk2
 case zok2 | zgd2 => kernel_rfl
 intro a2 w2 hA hE HF
 replace q1 := kn (HF 1) rfl q1
 have q3 := ksv (HF 3) rfl rfl rfl
 clear HF
 replace f2 := GR.v_ext _ f2 hE
 replace hB := Base.step hB hE hO; clear hE
 refine li_nil (nx_then ?_)
 refine seq_join (fun a w => ∃ (O23 : Tags) (x20 : List (List Int)) (u21 : Value), a.fit 33 ∧ Base (Fr w0) O w0 O23 w ∧ a.get 3 = u21 ∧ OwnL 1 (rSl (rInt .i64)) 58 (Fr w0) O23 w u21 x20 ∧ (c7_Case_lists_j1 x20).run n = some y) ?_ ?_
 ·
  refine wp_seq ?_
  refine' region [_] mixed hA (.cons (fun _ _ hE hK hg => ok_assign rfl) .nil) ?zok3 ?zgd3 ?zk3
  case zok3 | zgd3 => kernel_rfl
  intro a3 w3 hA hE HF
  replace q1 := kn (HF 1) rfl q1
  replace q3 := kn (HF 3) rfl q3
  have q4 := ksv (HF 4) rfl rfl rfl
  clear HF
  replace f2 := GR.v_ext _ f2 hE
  replace hB := Base.step hB hE hO; clear hE
  refine li_nil (nx_then (wp_block ?_))
  obtain ⟨e2, he2, hk2⟩ := Comp.run_bind h; clear h
  refine loop_m (fun m a w => ∃ (O7 : Tags) (x3 : List (List Int)) (x6 : Int) (u4 : Value), a.fit 33 ∧ Base (Fr w0) O w0 O7 w ∧ a.get 1 = u1 ∧ (rBox r_c7_Case).v O7 w u1 x_0 ∧ a.get 3 = u4 ∧ OwnL 1 (rSl (rInt .i64)) 58 (Fr w0) O7 w u4 x3 ∧ a.get 4 = .int .i64 x6 ∧ Comp.loopN (fun s => c7_Case_lists_l2 x_0 s.1 s.2) n m (x3, x6) = some e2) (m := n) ?st2 ?_
  case st2 =>
   exact ⟨_, _, _, _, hA, hB, q1, f2, q3, (OwnL.nil _ _ _ _ _ _), q4, Comp.run_loop he2⟩
  intro m_ a4 w4 hI
  clear hA hB he2 q1 q3 q4 f2
  obtain ⟨O7, x3, x6, u4, hA, hB, q1, f2, q3, f5, q4, hl⟩ := hI
  obtain ⟨m2, hlt2, st2, h, hnext2, hdone2⟩ := Comp.loopN_succ hl; clear hl
  replace h : (c7_Case_lists_l2 x_0 x3 x6).run n = some st2 := h
  unfold c7_Case_lists_l2 at h
  refine wp_seq (wp_seq ?_)
  refine' region [_, SP.ptr (rSl (rSl (rInt .i64))) O7 x_0.L, SP.vl (rSl (rSl (rInt .i64))) O7 x_0.L, _, _, _, _, _, _] mixed hA (.cons (fun _ _ hE hK hg => ok_move (kn (hK 4 rfl) rfl q4)) (.cons (fun _ _ hE hK hg => okl_fldB (S := r_c7_Case) fit_c7_Case rfl (fun _ => rfl) sb_c7_Case_0 fl24_0 (kn (hK 1 rfl) rfl q1) (GR.v_ext _ f2 hE)) (.cons (fun _ _ hE hK hg => okl_ld (r := (rSl (rSl (rInt .i64)))) (fun _ => rfl) ty22 rfl rfl rfl (kspS (φ := SP.ptr (rSl (rSl (rInt .i64))) O7 x_0.L) (j := 1) (hK 6 rfl) rfl rfl rfl)) (.cons (fun _ _ hE hK hg => okl_len (r := (rSl (rInt .i64))) ty22 rfl (rd_of (kspS (φ := SP.vl (rSl (rSl (rInt .i64))) O7 x_0.L) (j := 2) (hK 7 rfl) rfl rfl rfl))) (.cons (fun _ _ hE hK hg => ok_lss (ksv (j := 0) (hK 5 rfl) rfl rfl rfl) (ksv (j := 3) (hK 8 rfl) rfl rfl rfl)) (.cons (fun _ _ hE hK hg => ok_move (ksv (j := 4) (hK 9 rfl) rfl rfl rfl)) (.cons (fun _ _ hE hK hg => ok_move (kn (hK 4 rfl) rfl q4)) (.cons ?z4_7 (.cons ?z4_8 .nil))))))))) ?zok4 ?zgd4 ?zk4
  case z4_7 => intro a' w' hE hK hg; exact ok_lss (ksv (j := 6) (hK 11 rfl) rfl rfl hg) rfl
  case z4_8 => intro a' w' hE hK hg; exact ok_pick (ksv (j := 5) (hK 10 rfl) rfl rfl rfl) (fun hb => ksv (j := 7) (hK 12 rfl) rfl rfl (act_g1 rfl rfl hb)) (fun _ => rfl)
  case zok4 | zgd4 => kernel_rfl
  intro a5 w5 hA hE HF
  replace q1 := kn (HF 1) rfl q1
  replace q3 := kn (HF 3) rfl q3
  replace q4 := kn (HF 4) rfl q4
  have q13 := ksv (HF 13) rfl rfl rfl
  clear HF
  replace f2 := GR.v_ext _ f2 hE
  replace f5 := f5.ext hE
  replace hB := Base.step hB hE hO; clear hE
  obtain ⟨x8, hx_, h⟩ := Comp.run_bind h; replace hx_ := Comp.run_pure hx_; rw [hx_] at q13; clear hx_
  refine li_nil (nx_then ?_)
  refine wp_cond_b q13 (fun hc => ?_) (fun hc => ?_)
  ·
   replace h := Comp.run_b_t hc h; clear hc
   refine wp_skip (nx_then (wp_seq (wp_block ?_)))
   obtain ⟨x9, hx9, h⟩ := Comp.run_bind h
   obtain ⟨x10, hx10, h⟩ := Comp.run_bind h
   obtain ⟨x11, hx11, h⟩ := Comp.run_bind h
   refine' region [_, SP.ptr (rSl (rSl (rInt .i64))) O7 x_0.L, SP.vl (rSl (rSl (rInt .i64))) O7 x_0.L, _, SP.ptr (rSl (rInt .i64)) O7 x9, SP.vl (rSl (rInt .i64)) O7 x9, SP.ptr (rSl (rSl (rInt .i64))) O7 x_0.L, SP.vl (rSl (rSl (rInt .i64))) O7 x_0.L, _, SP.ptr (rSl (rInt .i64)) O7 x10, SP.vl (rSl (rInt .i64)) O7 x10, _, _, SP.vl (rSl (rInt .i64)) O7 x11, SP.vl (rSl (rSl (rInt .i64))) O7 [x11]] mixed hA (.cons (fun _ _ hE hK hg => ok_move (kn (hK 3 rfl) rfl q3)) (.cons (fun _ _ hE hK hg => okl_fldB (S := r_c7_Case) fit_c7_Case rfl (fun _ => rfl) sb_c7_Case_0 fl24_0 (kn (hK 1 rfl) rfl q1) (GR.v_ext _ f2 hE)) (.cons (fun _ _ hE hK hg => okl_ld (r := (rSl (rSl (rInt .i64)))) (fun _ => rfl) ty22 rfl rfl rfl (kspS (φ := SP.ptr (rSl (rSl (rInt .i64))) O7 x_0.L) (j := 1) (hK 17 rfl) rfl rfl rfl)) (.cons (fun _ _ hE hK hg => ok_move (kn (hK 4 rfl) rfl q4)) (.cons (fun _ _ hE hK hg => okl_idx (r := (rSl (rInt .i64))) (O := O7) ty22 ty58 rfl rfl (rd_of (kspS (φ := SP.vl (rSl (rSl (rInt .i64))) O7 x_0.L) (j := 2) (hK 18 rfl) rfl rfl rfl)) (ksv (j := 3) (hK 19 rfl) rfl rfl rfl) hx9) (.cons (fun _ _ hE hK hg => okl_ld (r := (rSl (rInt .i64))) (fun _ => rfl) ty58 rfl rfl rfl (kspS (φ := SP.ptr (rSl (rInt .i64)) O7 x9) (j := 4) (hK 20 rfl) rfl rfl rfl)) (.cons (fun _ _ hE hK hg => okl_fldB (S := r_c7_Case) fit_c7_Case rfl (fun _ => rfl) sb_c7_Case_0 fl24_0 (kn (hK 1 rfl) rfl q1) (GR.v_ext _ f2 hE)) (.cons (fun _ _ hE hK hg => okl_ld (r := (rSl (rSl (rInt .i64)))) (fun _ => rfl) ty22 rfl rfl rfl (kspS (φ := SP.ptr (rSl (rSl (rInt .i64))) O7 x_0.L) (j := 6) (hK 22 rfl) rfl rfl rfl)) (.cons (fun _ _ hE hK hg => ok_move (kn (hK 4 rfl) rfl q4)) (.cons (fun _ _ hE hK hg => okl_idx (r := (rSl (rInt .i64))) (O := O7) ty22 ty58 rfl rfl (rd_of (kspS (φ := SP.vl (rSl (rSl (rInt .i64))) O7 x_0.L) (j := 7) (hK 23 rfl) rfl rfl rfl)) (ksv (j := 8) (hK 24 rfl) rfl rfl rfl) hx10) (.cons (fun _ _ hE hK hg => okl_ld (r := (rSl (rInt .i64))) (fun _ => rfl) ty58 rfl rfl rfl (kspS (φ := SP.ptr (rSl (rInt .i64)) O7 x10) (j := 9) (hK 25 rfl) rfl rfl rfl)) (.cons (fun _ _ hE hK hg => okl_len (r := (rInt .i64)) ty58 rfl (rd_of (kspS (φ := SP.vl (rSl (rInt .i64)) O7 x10) (j := 10) (hK 26 rfl) rfl rfl rfl))) (.cons (fun _ _ hE hK hg => ok_min (ksv (j := 11) (hK 27 rfl) rfl rfl rfl) rfl) (.cons (fun _ _ hE hK hg => okl_slice_h (r := (rInt .i64)) ty58 ty3 rfl rfl (kspS (φ := SP.vl (rSl (rInt .i64)) O7 x9) (j := 5) (hK 21 rfl) rfl rfl rfl) (ksv (j := 12) (hK 28 rfl) rfl rfl rfl) hx11) (.cons (fun _ _ hE hK hg => okl_buildSliceV (r := (rSl (rInt .i64))) (fun _ => rfl) rfl (OkO.ext hB.ok hE) ty22 ty58 (parts_cons rfl parts_nil) ⟨(kspS (φ := SP.vl (rSl (rInt .i64)) O7 x11) (j := 13) (hK 29 rfl) rfl rfl rfl), trivial⟩ rfl (by decide)) .nil))))))))))))))) ?zok5 ?zgd5 ?zk5
   case zok5 | zgd5 => kernel_rfl
   intro a6 w6 hA hE HF
   replace q1 := kn (HF 1) rfl q1
   replace q3 := kn (HF 3) rfl q3
   replace q4 := kn (HF 4) rfl q4
   have q16 := ksv (HF 16) rfl rfl rfl
   have f13 := ksp (HF 30) rfl rfl rfl
   obtain ⟨u12, q30'⟩ : ∃ u, a6.get 30 = u := ⟨_, rfl⟩
   rw [q30'] at f13
   have q30 := q30'; clear q30'
   clear q13
   clear HF
   replace f2 := GR.v_ext _ f2 hE
   replace f5 := f5.ext hE
   replace hB := Base.step hB hE hO; clear hE
   obtain ⟨x14, hx14, h⟩ := Comp.run_bind h
   refine l_append (r := (rSl (rInt .i64))) (fun _ => rfl) rfl ty22 ty58 rfl (by decide) hO hB (okB_fr hB) q16 f5 q30 (rd_of f13) hx14 (by decide) fun u15 w7 O16 f17 hB' hX => ?_
   clear hB; have hB := hB'; clear hB'
   clear f5
   replace f2 := GR.kx _ f2 hX (by decide)
   replace f13 := GR.kx _ f13 hX (by decide)
   clear hX
   refine put_cont hA (by decide) fun a8 hA q_ hfr => ?_
   replace q1 := (hfr 1 rfl).trans q1
   replace q3 := (hfr 3 rfl).trans q3
   replace q4 := (hfr 4 rfl).trans q4
   replace q16 := (hfr 16 rfl).trans q16
   replace q30 := (hfr 30 rfl).trans q30
   have q31 := q_; clear q_ hfr
   refine l_ok (φ := SP.isv (u15)) hO hB (by exact ok_assign q31) rfl fun u_ w9 hE hB' hv_ => ?_
   replace hv_ := Eq.symm hv_; subst hv_; clear hB; have hB := hB'; clear hB'
   replace f2 := GR.v_ext _ f2 hE
   replace f17 := f17.ext hE
   clear hE
   refine put_cont hA (by decide) fun a10 hA q_ hfr => ?_
   replace q1 := (hfr 1 rfl).trans q1
   replace q4 := (hfr 4 rfl).trans q4
   replace q31 := (hfr 31 rfl).trans q31
   clear q3
   have q3 := q_; clear q_ hfr
   refine li_nil (nx_blk (nx_then ?_))
   refine' region [_, _, _] mixed hA (.cons (fun _ _ hE hK hg => ok_move (kn (hK 4 rfl) rfl q4)) (.cons (fun _ _ hE hK hg => ok_add (ksv (j := 0) (hK 14 rfl) rfl rfl rfl) rfl) (.cons (fun _ _ hE hK hg => ok_assign (ksv (j := 1) (hK 15 rfl) rfl rfl rfl)) .nil))) ?zok6 ?zgd6 ?zk6
   case zok6 | zgd6 => kernel_rfl
   intro a11 w11 hA hE HF
   replace q1 := kn (HF 1) rfl q1
   replace q3 := kn (HF 3) rfl q3
   have q4' := ksv (HF 4) rfl rfl rfl
   replace q4 := q4'; clear q4'
   clear HF
   replace f2 := GR.v_ext _ f2 hE
   replace f17 := f17.ext hE
   replace hB := Base.step hB hE hO; clear hE
   refine li_nil (nx_then ?_)
   have h := hnext2 _ (Comp.run_pure h).symm
   refine ⟨m2, hlt2, ?_⟩
   exact ⟨_, _, _, _, hA, hB, q1, f2, q3, f17, q4, h⟩
  ·
   replace h := Comp.run_b_f hc h; clear hc
   refine wp_exit (ex_then (ex_then (ex_same ?_)))
   have hd_ := hdone2 _ (Comp.run_pure h).symm; clear h
   subst hd_; have h := hk2; clear hk2; try dsimp only at h
   refine nx_then ?_
   exact ⟨_, _, _, hA, hB, q3, f5, h⟩
 intro a12 w12 hI
 clear hA hB h q1 q3 f2
 obtain ⟨O23, x20, u21, hA, hB, q3, f22, h⟩ := hI
 unfold c7_Case_lists_j1 at h
 refine wp_seq ?_
 refine' region [_, _] mixed hA (.cons (fun _ _ hE hK hg => ok_move (kn (hK 3 rfl) rfl q3)) (.cons (fun _ _ hE hK hg => ok_assign (ksv (j := 0) (hK 32 rfl) rfl rfl rfl)) .nil)) ?zok7 ?zgd7 ?zk7
 case zok7 | zgd7 => kernel_rfl
 intro a13 w13 hA hE HF
 have q2 := ksv (HF 2) rfl rfl rfl
 clear q3
 clear HF
 replace f22 := f22.ext hE
 replace hB := Base.step hB hE hO; clear hE
 refine li_nil (nx_then (wp_ret ?_))
 have h := Comp.run_pure h; subst h
 exact retPure Try.results55 hA q2 hB.ext (OwnL.res f22 (by decide) hB.zero)
theorem ok_r1_Mod {O : Tags} {w0 : World} (hO : OkO O w0) {x_0 : Int} {x_1 : Int} {n : Nat} {y : Int} (h : (r1_Mod x_0 x_1).run n = some y) : Pure Try.prog 37 #[.int .i64 x_0, .int .i64 x_1] w0 (SP.isv (.int .i64 y)).holds := by
 unfold r1_Mod at h
 refine pure_of_wp Try.func37 rfl 14 Try.ntmps37 (by simp) fun a0 hA hs0 => ?_
 have q0 : a0.get 0 = .int .i64 x_0 := hs0 0 _ rfl
 have q1 : a0.get 1 = .int .i64 x_1 := hs0 1 _ rfl
 clear hs0
 have hB : Base (Fr w0) O w0 O w0 := Base.start hO
 refine wp_seq ?_
 refine' region [_] mixed hA (.cons (fun _ _ hE hK hg => ok_assign rfl) .nil) ?zok1 ?zgd1 ?zk1
 case zok1 | zgd1 => kernel_rfl
 intro a1 w1 hA hE HF
 replace q0 := kn (HF 0) rfl q0
 replace q1 := kn (HF 1) rfl q1
 clear HF
 replace hB := Base.step hB hE hO; clear hE
 refine li_nil (nx_then (wp_seq (wp_seq ?_)))
 refine' region [_, _] mixed hA (.cons (fun _ _ hE hK hg => ok_move (kn (hK 1 rfl) rfl q1)) (.cons (fun _ _ hE hK hg => ok_lss (ksv (j := 0) (hK 5 rfl) rfl rfl rfl) rfl) .nil)) ?zok2 ?zgd2 ?zk2
 case zok2 | zgd2 => kernel_rfl
 intro a2 w2 hA hE HF
 replace q0 := kn (HF 0) rfl q0
 replace q1 := kn (HF 1) rfl q1
 have q6 := ksv (HF 6) rfl rfl rfl
 clear HF
 replace hB := Base.step hB hE hO; clear hE
 refine li_nil (nx_then ?_)
 refine wp_cond_b q6 (fun hc => ?_) (fun hc => ?_)
 ·
  replace h := Comp.run_b_t hc h; clear hc
  refine wp_seq ?_
  refine' region [_] mixed hA (.cons (fun _ _ hE hK hg => ok_assign rfl) .nil) ?zok3 ?zgd3 ?zk3
  case zok3 | zgd3 => kernel_rfl
  intro a3 w3 hA hE HF
  have q4 := ksv (HF 4) rfl rfl rfl
  clear q0
  clear q1
  clear q6
  clear HF
  replace hB := Base.step hB hE hO; clear hE
  refine li_nil (nx_then (wp_ret (rt_then ?_)))
  have h := Comp.run_pure h; subst h
  exact retPure Try.results37 hA q4 hB.ext rfl
 ·
  replace h := Comp.run_b_f hc h; clear hc
  refine wp_skip (nx_then (wp_seq ?_))
  obtain ⟨x1, hx1, h⟩ := Comp.run_bind h
  obtain ⟨x2, hx2, h⟩ := Comp.run_bind h
  refine' region [_, _, SP.isv (.int .i64 x1), _, _, _, SP.isv (.int .i64 x2), _] mixed hA (.cons (fun _ _ hE hK hg => ok_move (kn (hK 0 rfl) rfl q0)) (.cons (fun _ _ hE hK hg => ok_move (kn (hK 1 rfl) rfl q1)) (.cons (fun _ _ hE hK hg => ok_isv (ok_rem (ksv (j := 0) (hK 7 rfl) rfl rfl rfl) (ksv (j := 1) (hK 8 rfl) rfl rfl rfl) (run_rem hx1).1) (congrArg _ (run_rem hx1).2)) (.cons (fun _ _ hE hK hg => ok_move (kn (hK 1 rfl) rfl q1)) (.cons (fun _ _ hE hK hg => ok_add (ksv (j := 2) (hK 9 rfl) rfl rfl rfl) (ksv (j := 3) (hK 10 rfl) rfl rfl rfl)) (.cons (fun _ _ hE hK hg => ok_move (kn (hK 1 rfl) rfl q1)) (.cons (fun _ _ hE hK hg => ok_isv (ok_rem (ksv (j := 4) (hK 11 rfl) rfl rfl rfl) (ksv (j := 5) (hK 12 rfl) rfl rfl rfl) (run_rem hx2).1) (congrArg _ (run_rem hx2).2)) (.cons (fun _ _ hE hK hg => ok_assign (ksv (j := 6) (hK 13 rfl) rfl rfl rfl)) .nil)))))))) ?zok4 ?zgd4 ?zk4
  case zok4 | zgd4 => kernel_rfl
  intro a4 w4 hA hE HF
  have q4 := ksv (HF 4) rfl rfl rfl
  clear q0
  clear q1
  clear q6
  clear HF
  replace hB := Base.step hB hE hO; clear hE
  refine li_nil (nx_then (wp_ret ?_))
  have h := Comp.run_pure h; subst h
  exact retPure Try.results37 hA q4 hB.ext rfl
end Go.Proofs.Ytkbipbfncbopnaa
end
