/- Lemmas behind a claim of this seat. No statement of the program stands here. -/
import Derived.Test.YtkbipbfncbopnaaKChecksF
set_option linter.unusedSimpArgs false
set_option linter.unusedVariables false
section
namespace Go.Proofs.Ytkbipbfncbopnaa
open Go Go.RowKit Go.Eng Go.Lift Go.F
set_option linter.unusedVariables false
set_option linter.unusedSimpArgs false
set_option maxRecDepth 100000
theorem ok_r7_Odd {O : Tags} {w0 : World} (hO : OkO O w0) {x_0 : aEn} {x_1 : Vector Int 2} {x_2 : Bytes} {n : Nat} {y : aEn} (h : (r7_Odd x_0 x_1 x_2).run n = some y) : Pure Try.prog 24 #[.agg #[.int .i64 x_0.Seq, .int .i64 x_0.Shop, .int .i64 x_0.Kind, .int .i64 x_0.Day, .int .i64 x_0.N, .string (str x_0.Before), .string (str x_0.After), .string (str x_0.Prev), .string (str x_0.Mark)], .agg (cellsA (fun x => [.int .i64 x]) x_1).toArray, .string (str x_2)] w0 (SP.isv (.agg #[.int .i64 y.Seq, .int .i64 y.Shop, .int .i64 y.Kind, .int .i64 y.Day, .int .i64 y.N, .string (str y.Before), .string (str y.After), .string (str y.Prev), .string (str y.Mark)])).holds := by
 unfold r7_Odd at h
 refine pure_of_wp Try.func24 rfl 59 Try.ntmps24 (by simp) fun a0 hA hs0 => ?_
 have q0 : a0.get 0 = .agg #[.int .i64 x_0.Seq, .int .i64 x_0.Shop, .int .i64 x_0.Kind, .int .i64 x_0.Day, .int .i64 x_0.N, .string (str x_0.Before), .string (str x_0.After), .string (str x_0.Prev), .string (str x_0.Mark)] := hs0 0 _ rfl
 have q1 : a0.get 1 = .agg (cellsA (fun x => [.int .i64 x]) x_1).toArray := hs0 1 _ rfl
 have q2 : a0.get 2 = .string (str x_2) := hs0 2 _ rfl
 clear hs0
 have hB : Base (Fr w0) O w0 O w0 := Base.start hO
 refine wp_seq ?_
 refine' regionT [] hA .nil ?zok1 ?zgd1 ?zk1
 case zok1 | zgd1 => kernel_rfl
 intro a1 w1 hA hE HF
 replace q0 := kn (HF 0) rfl q0
 replace q1 := kn (HF 1) rfl q1
 replace q2 := kn (HF 2) rfl q2
 clear HF
 replace hB := Base.step hB hE hO; clear hE
 refine l_ok (φ := SP.box w1.heap.size #[.int .i64 x_0.Seq, .int .i64 x_0.Shop, .int .i64 x_0.Kind, .int .i64 x_0.Day, .int .i64 x_0.N, .string (str x_0.Before), .string (str x_0.After), .string (str x_0.Prev), .string (str x_0.Mark)] 26) hO hB (by exact ok_box (v := .agg #[.int .i64 x_0.Seq, .int .i64 x_0.Shop, .int .i64 x_0.Kind, .int .i64 x_0.Day, .int .i64 x_0.N, .string (str x_0.Before), .string (str x_0.After), .string (str x_0.Prev), .string (str x_0.Mark)]) (Nat.le_refl _) q0) rfl fun u1 w2 hE hB' f2 => ?_
 clear hB'; obtain ⟨O3, b5, hB', hX, e_, f4⟩ := boxNew hO hB hE f2 1 (by decide)
 subst e_; clear hB f2; have hB := hB'; clear hB'
 clear hX hE
 refine put_cont hA (by decide) fun a3 hA q_ hfr => ?_
 replace q0 := (hfr 0 rfl).trans q0
 replace q1 := (hfr 1 rfl).trans q1
 replace q2 := (hfr 2 rfl).trans q2
 have q3 := q_; clear q_ hfr
 refine l_ok (φ := SP.vl (rBox (rVec 2 1 (fun x => [.int .i64 x]) (fun _ => rfl) (fun _ => by simp [Value.oneCell']))) O3 x_1) hO hB (by exact okl_boxV (r := (rVec 2 1 (fun x => [.int .i64 x]) (fun _ => rfl) (fun _ => by simp [Value.oneCell']))) (by intro h; cases h) hB.ok q1 (by first | exact (rC_v (x := x_1)).2 rfl | exact ⟨_, rfl, rfl⟩)) rfl fun u6 w4 hE hB' f7 => ?_
 clear hB; have hB := hB'; clear hB'
 replace f4 := f4.ext hE
 clear hE
 refine put_cont hA (by decide) fun a5 hA q_ hfr => ?_
 replace q1 := (hfr 1 rfl).trans q1
 replace q2 := (hfr 2 rfl).trans q2
 replace q3 := (hfr 3 rfl).trans q3
 have q4 := q_; clear q_ hfr
 refine l_ok (φ := SP.box w4.heap.size #[.int .i64 0, .int .i64 0, .int .i64 0, .int .i64 0, .int .i64 0, .string (str []), .string (str []), .string (str []), .string (str [])] 26) hO hB (by exact ok_alloc (Nat.le_refl _) ty26) rfl fun u8 w6 hE hB' f9 => ?_
 clear hB'; obtain ⟨O10, b12, hB', hX, e_, f11⟩ := boxNew hO hB hE f9 2 (by decide)
 subst e_; clear hB f9; have hB := hB'; clear hB'
 replace f7 := GR.kx _ f7 hX (by decide)
 replace f4 := f4.kx hX (by decide)
 clear hX hE
 refine put_cont hA (by decide) fun a7 hA q_ hfr => ?_
 replace q2 := (hfr 2 rfl).trans q2
 replace q3 := (hfr 3 rfl).trans q3
 replace q4 := (hfr 4 rfl).trans q4
 have q6 := q_; clear q_ hfr
 refine li_nil (nx_then (wp_seq ?_))
 obtain ⟨x13, hx13, h⟩ := Comp.run_bind h
 obtain ⟨x14, hx14, h⟩ := Comp.run_bind h
 obtain ⟨x15, hx15, h⟩ := Comp.run_bind h
 obtain ⟨x16, hx16, h⟩ := Comp.run_bind h
 refine' region [SP.ptrz (rInt .i64) O10 x13 (of_decide_eq_true rfl) (fun _ => rfl), SP.isv (.int .i64 x13), SP.isv (.pointer (some ⟨b5, 3, none⟩)), SP.isv (.int .i64 x_0.Day), _, SP.vl (rSl (rInt .i64)) O10 [x13, 0, 1, 2, 3, 4, 5, (-1), 100000, 100001, (IntKind.wrap .i64 (x_0.Day - 1))], SP.ptrz (rInt .i64) O10 x14 (of_decide_eq_true rfl) (fun _ => rfl), SP.isv (.int .i64 x14), SP.isv (.int .i64 x15), SP.ptr (rInt .i64) O10 x16, SP.isv (.int .i64 x16), _] mixed hA (.cons ?z2_0 (.cons (fun _ _ hE hK hg => okl_ldr (rInt .i64) (fun _ => rfl) ty3 rfl rfl rfl (PtrZ.ptr (kspS (φ := SP.ptrz (rInt .i64) O10 x13 (of_decide_eq_true rfl) (fun _ => rfl)) (j := 0) (hK 8 rfl) rfl rfl rfl)) (fun _ _ _ h => rInt_v.1 h)) (.cons (fun _ _ hE hK hg => ok_fieldAddr fl26_3 (kn (hK 3 rfl) rfl q3)) (.cons (fun _ _ hE hK hg => ok_loadOwn ty3 rfl (ksv (j := 2) (hK 10 rfl) rfl rfl rfl) (OwnB.ext f4 hE).own rfl) (.cons (fun _ _ hE hK hg => ok_sub (ksv (j := 3) (hK 11 rfl) rfl rfl rfl) rfl) (.cons (fun _ _ hE hK hg => okl_buildSliceV (r := (rInt .i64)) (fun _ => rfl) rfl (OkO.ext hB.ok hE) ty58 ty3 (parts_cons (ksv (j := 1) (hK 9 rfl) rfl rfl rfl) (parts_cons rfl (parts_cons rfl (parts_cons rfl (parts_cons rfl (parts_cons rfl (parts_cons rfl (parts_cons rfl (parts_cons rfl (parts_cons rfl (parts_cons (ksv (j := 4) (hK 12 rfl) rfl rfl rfl) parts_nil))))))))))) ⟨(by exact rInt_v.2 rfl), ⟨(by exact rInt_v.2 rfl), ⟨(by exact rInt_v.2 rfl), ⟨(by exact rInt_v.2 rfl), ⟨(by exact rInt_v.2 rfl), ⟨(by exact rInt_v.2 rfl), ⟨(by exact rInt_v.2 rfl), ⟨(by exact rInt_v.2 rfl), ⟨(by exact rInt_v.2 rfl), ⟨(by exact rInt_v.2 rfl), ⟨(by exact rInt_v.2 rfl), trivial⟩⟩⟩⟩⟩⟩⟩⟩⟩⟩⟩ rfl (by decide)) (.cons ?z2_6 (.cons (fun _ _ hE hK hg => okl_ldr (rInt .i64) (fun _ => rfl) ty3 rfl rfl rfl (PtrZ.ptr (kspS (φ := SP.ptrz (rInt .i64) O10 x14 (of_decide_eq_true rfl) (fun _ => rfl)) (j := 6) (hK 14 rfl) rfl rfl rfl)) (fun _ _ _ h => rInt_v.1 h)) (.cons ?z2_8 (.cons (fun _ _ hE hK hg => okl_idx (r := (rInt .i64)) (O := O10) ty58 ty3 rfl rfl (rd_of (kspS (φ := SP.vl (rSl (rInt .i64)) O10 [x13, 0, 1, 2, 3, 4, 5, (-1), 100000, 100001, (IntKind.wrap .i64 (x_0.Day - 1))]) (j := 5) (hK 13 rfl) rfl rfl rfl)) (ksv (j := 8) (hK 16 rfl) rfl rfl rfl) hx16) (.cons (fun _ _ hE hK hg => okl_ldr (rInt .i64) (fun _ => rfl) ty3 rfl rfl rfl (kspS (φ := SP.ptr (rInt .i64) O10 x16) (j := 9) (hK 17 rfl) rfl rfl rfl) (fun _ _ _ h => rInt_v.1 h)) (.cons (fun _ _ hE hK hg => ok_assign (ksv (j := 10) (hK 18 rfl) rfl rfl rfl)) .nil)))))))))))) ?zok2 ?zgd2 ?zk2
 case z2_0 => intro a' w' hE hK hg; exact okl_idxArrZ (r := (rInt .i64)) (f := (fun x => [.int .i64 x])) (hl := (fun _ => rfl)) (ho := (fun _ => by simp [Value.oneCell'])) (by decide) (fun _ => rfl) (fun _ _ _ => rfl) ty38 ty3 (kn (hK 4 rfl) rfl q4) (ptrz_of_box (by intro h; cases h) (GR.v_ext _ f7 hE)) rfl hx13
 case z2_6 => intro a' w' hE hK hg; exact okl_idxArrZ (r := (rInt .i64)) (f := (fun x => [.int .i64 x])) (hl := (fun _ => rfl)) (ho := (fun _ => by simp [Value.oneCell'])) (by decide) (fun _ => rfl) (fun _ _ _ => rfl) ty38 ty3 (kn (hK 4 rfl) rfl q4) (ptrz_of_box (by intro h; cases h) (GR.v_ext _ f7 hE)) rfl hx14
 case z2_8 => intro a' w' hE hK hg; have c_ := ok_r1_Mod (OkO.ext hB.ok hE)  hx15; exact ok_call2 fn37 (ksv (j := 7) (hK 15 rfl) rfl rfl rfl) rfl c_
 case zok2 | zgd2 => kernel_rfl
 intro a8 w8 hA hE HF
 replace q2 := kn (HF 2) rfl q2
 replace q3 := kn (HF 3) rfl q3
 replace q4 := kn (HF 4) rfl q4
 replace q6 := kn (HF 6) rfl q6
 have q7 := ksv (HF 7) rfl rfl rfl
 clear HF
 replace f7 := GR.v_ext _ f7 hE
 replace f4 := f4.ext hE
 replace f11 := f11.ext hE
 replace hB := Base.step hB hE hO; clear hE
 refine li_nil (nx_then ?_)
 refine seq_join (fun a w => ∃ (O37 : Tags) (x20 : Int) (x21 : Int) (x22 : Int) (x23 : Int) (x24 : Int) (x25 : Bytes) (x26 : Bytes) (x27 : Bytes) (x28 : Bytes), a.fit 59 ∧ Base (Fr w0) O w0 O37 w ∧ a.get 3 = .pointer (some ⟨b5, 0, none⟩) ∧ a.get 6 = .pointer (some ⟨b12, 0, none⟩) ∧ OwnB 2 (Fr w0) O37 w b12 #[.int .i64 0, .int .i64 0, .int .i64 0, .int .i64 0, .int .i64 0, .string (str []), .string (str []), .string (str []), .string (str [])] 26 ∧ OwnB 1 (Fr w0) O37 w b5 #[.int .i64 x20, .int .i64 x21, .int .i64 x22, .int .i64 x23, .int .i64 x24, .string (str x25), .string (str x26), .string (str x27), .string (str x28)] 26 ∧ (r7_Odd_j1 x20 x21 x22 x23 x24 x25 x26 x27 x28).run n = some y) ?_ ?_
 ·
  refine wp_seq ?_
  obtain ⟨x17, hx17, h⟩ := Comp.run_bind h
  obtain ⟨x18, hx18, h⟩ := Comp.run_bind h
  refine' region [SP.ptrz (rInt .i64) O10 x17 (of_decide_eq_true rfl) (fun _ => rfl), SP.isv (.int .i64 x17), SP.isv (.int .i64 x18)] mixed hA (.cons ?z3_0 (.cons (fun _ _ hE hK hg => okl_ldr (rInt .i64) (fun _ => rfl) ty3 rfl rfl rfl (PtrZ.ptr (kspS (φ := SP.ptrz (rInt .i64) O10 x17 (of_decide_eq_true rfl) (fun _ => rfl)) (j := 0) (hK 19 rfl) rfl rfl rfl)) (fun _ _ _ h => rInt_v.1 h)) (.cons ?z3_2 .nil))) ?zok3 ?zgd3 ?zk3
  case z3_0 => intro a' w' hE hK hg; exact okl_idxArrZ (r := (rInt .i64)) (f := (fun x => [.int .i64 x])) (hl := (fun _ => rfl)) (ho := (fun _ => by simp [Value.oneCell'])) (by decide) (fun _ => rfl) (fun _ _ _ => rfl) ty38 ty3 (kn (hK 4 rfl) rfl q4) (ptrz_of_box (by intro h; cases h) (GR.v_ext _ f7 hE)) rfl hx17
  case z3_2 => intro a' w' hE hK hg; have c_ := ok_r1_Mod (OkO.ext hB.ok hE)  hx18; exact ok_call2 fn37 (ksv (j := 1) (hK 20 rfl) rfl rfl rfl) rfl c_
  case zok3 | zgd3 => kernel_rfl
  intro a9 w9 hA hE HF
  replace q2 := kn (HF 2) rfl q2
  replace q3 := kn (HF 3) rfl q3
  replace q6 := kn (HF 6) rfl q6
  replace q7 := kn (HF 7) rfl q7
  have q21 := ksv (HF 21) rfl rfl rfl
  clear q4
  clear HF
  replace f7 := GR.v_ext _ f7 hE
  replace f4 := f4.ext hE
  replace f11 := f11.ext hE
  replace hB := Base.step hB hE hO; clear hE
  refine li_nil (nx_then (wp_block (wp_seq ?_)))
  refine' region [_, _] mixed hA (.cons (fun _ _ hE hK hg => ok_eqlI (kn (hK 21 rfl) rfl q21) rfl) (.cons (fun _ _ hE hK hg => ok_assign (ksv (j := 0) (hK 23 rfl) rfl rfl rfl)) .nil)) ?zok4 ?zgd4 ?zk4
  case zok4 | zgd4 => kernel_rfl
  intro a10 w10 hA hE HF
  replace q2 := kn (HF 2) rfl q2
  replace q3 := kn (HF 3) rfl q3
  replace q6 := kn (HF 6) rfl q6
  replace q7 := kn (HF 7) rfl q7
  replace q21 := kn (HF 21) rfl q21
  have q22 := ksv (HF 22) rfl rfl rfl
  clear HF
  replace f4 := f4.ext hE
  replace f11 := f11.ext hE
  replace hB := Base.step hB hE hO; clear hE
  refine li_nil (nx_then ?_)
  refine wp_cond_b q22 (fun hc => ?_) (fun hc => ?_)
  ·
   replace h := Comp.run_b_t hc h; clear hc
   refine' regionT [_, SP.isv (.pointer (some ⟨b5, 0, none⟩))] hA (.cons (fun _ _ hE hK hg => ok_move (kn (hK 7 rfl) rfl q7)) (.cons (fun _ _ hE hK hg => ok_fieldAddr fl26_0 (kn (hK 3 rfl) rfl q3)) .nil)) ?zok5 ?zgd5 ?zk5
   case zok5 | zgd5 => kernel_rfl
   intro a11 w11 hA hE HF
   replace q3 := kn (HF 3) rfl q3
   replace q6 := kn (HF 6) rfl q6
   have q24 := ksv (HF 24) rfl rfl rfl
   have q25 := ksv (HF 25) rfl rfl rfl
   clear q2
   clear q7
   clear q21
   clear q22
   clear HF
   replace f4 := f4.ext hE
   replace f11 := f11.ext hE
   replace hB := Base.step hB hE hO; clear hE
   refine l_store1 (cs' := #[.int .i64 x16, .int .i64 x_0.Shop, .int .i64 x_0.Kind, .int .i64 x_0.Day, .int .i64 x_0.N, .string (str x_0.Before), .string (str x_0.After), .string (str x_0.Prev), .string (str x_0.Mark)]) hO hB (okB_fr hB) ty3 q25 q24 rfl rfl f4 (by simp) rfl fun w12 f19 hB' hX => ?_
   clear hB f4; have hB := hB'; clear hB'
   replace f11 := f11.kx hX (by decide)
   clear hX
   refine li_nil (nx_blk (nx_then ?_))
   exact ⟨_, _, _, _, _, _, _, _, _, _, hA, hB, q3, q6, f11, f19, h⟩
  ·
   replace h := Comp.run_b_f hc h; clear hc
   refine wp_seq ?_
   refine' region [_, _] mixed hA (.cons (fun _ _ hE hK hg => ok_eqlI (kn (hK 21 rfl) rfl q21) rfl) (.cons (fun _ _ hE hK hg => ok_assign (ksv (j := 0) (hK 27 rfl) rfl rfl rfl)) .nil)) ?zok6 ?zgd6 ?zk6
   case zok6 | zgd6 => kernel_rfl
   intro a13 w13 hA hE HF
   replace q2 := kn (HF 2) rfl q2
   replace q3 := kn (HF 3) rfl q3
   replace q6 := kn (HF 6) rfl q6
   replace q7 := kn (HF 7) rfl q7
   replace q21 := kn (HF 21) rfl q21
   have q26 := ksv (HF 26) rfl rfl rfl
   clear q22
   clear HF
   replace f4 := f4.ext hE
   replace f11 := f11.ext hE
   replace hB := Base.step hB hE hO; clear hE
   refine li_nil (nx_then ?_)
   refine wp_cond_b q26 (fun hc => ?_) (fun hc => ?_)
   ·
    replace h := Comp.run_b_t hc h; clear hc
    refine' regionT [_, SP.isv (.pointer (some ⟨b5, 1, none⟩))] hA (.cons (fun _ _ hE hK hg => ok_move (kn (hK 7 rfl) rfl q7)) (.cons (fun _ _ hE hK hg => ok_fieldAddr fl26_1 (kn (hK 3 rfl) rfl q3)) .nil)) ?zok7 ?zgd7 ?zk7
    case zok7 | zgd7 => kernel_rfl
    intro a14 w14 hA hE HF
    replace q3 := kn (HF 3) rfl q3
    replace q6 := kn (HF 6) rfl q6
    have q28 := ksv (HF 28) rfl rfl rfl
    have q29 := ksv (HF 29) rfl rfl rfl
    clear q2
    clear q7
    clear q21
    clear q26
    clear HF
    replace f4 := f4.ext hE
    replace f11 := f11.ext hE
    replace hB := Base.step hB hE hO; clear hE
    refine l_store1 (cs' := #[.int .i64 x_0.Seq, .int .i64 x16, .int .i64 x_0.Kind, .int .i64 x_0.Day, .int .i64 x_0.N, .string (str x_0.Before), .string (str x_0.After), .string (str x_0.Prev), .string (str x_0.Mark)]) hO hB (okB_fr hB) ty3 q29 q28 rfl rfl f4 (by simp) rfl fun w15 f29 hB' hX => ?_
    clear hB f4; have hB := hB'; clear hB'
    replace f11 := f11.kx hX (by decide)
    clear hX
    refine li_nil (nx_blk (nx_then ?_))
    exact ⟨_, _, _, _, _, _, _, _, _, _, hA, hB, q3, q6, f11, f29, h⟩
   ·
    replace h := Comp.run_b_f hc h; clear hc
    refine wp_seq ?_
    refine' region [_, _] mixed hA (.cons (fun _ _ hE hK hg => ok_eqlI (kn (hK 21 rfl) rfl q21) rfl) (.cons (fun _ _ hE hK hg => ok_assign (ksv (j := 0) (hK 31 rfl) rfl rfl rfl)) .nil)) ?zok8 ?zgd8 ?zk8
    case zok8 | zgd8 => kernel_rfl
    intro a16 w16 hA hE HF
    replace q2 := kn (HF 2) rfl q2
    replace q3 := kn (HF 3) rfl q3
    replace q6 := kn (HF 6) rfl q6
    replace q7 := kn (HF 7) rfl q7
    replace q21 := kn (HF 21) rfl q21
    have q30 := ksv (HF 30) rfl rfl rfl
    clear q26
    clear HF
    replace f4 := f4.ext hE
    replace f11 := f11.ext hE
    replace hB := Base.step hB hE hO; clear hE
    refine li_nil (nx_then ?_)
    refine wp_cond_b q30 (fun hc => ?_) (fun hc => ?_)
    ·
     replace h := Comp.run_b_t hc h; clear hc
     refine' regionT [_, SP.isv (.pointer (some ⟨b5, 2, none⟩))] hA (.cons (fun _ _ hE hK hg => ok_move (kn (hK 7 rfl) rfl q7)) (.cons (fun _ _ hE hK hg => ok_fieldAddr fl26_2 (kn (hK 3 rfl) rfl q3)) .nil)) ?zok9 ?zgd9 ?zk9
     case zok9 | zgd9 => kernel_rfl
     intro a17 w17 hA hE HF
     replace q3 := kn (HF 3) rfl q3
     replace q6 := kn (HF 6) rfl q6
     have q32 := ksv (HF 32) rfl rfl rfl
     have q33 := ksv (HF 33) rfl rfl rfl
     clear q2
     clear q7
     clear q21
     clear q30
     clear HF
     replace f4 := f4.ext hE
     replace f11 := f11.ext hE
     replace hB := Base.step hB hE hO; clear hE
     refine l_store1 (cs' := #[.int .i64 x_0.Seq, .int .i64 x_0.Shop, .int .i64 x16, .int .i64 x_0.Day, .int .i64 x_0.N, .string (str x_0.Before), .string (str x_0.After), .string (str x_0.Prev), .string (str x_0.Mark)]) hO hB (okB_fr hB) ty3 q33 q32 rfl rfl f4 (by simp) rfl fun w18 f30 hB' hX => ?_
     clear hB f4; have hB := hB'; clear hB'
     replace f11 := f11.kx hX (by decide)
     clear hX
     refine li_nil (nx_blk (nx_then ?_))
     exact ⟨_, _, _, _, _, _, _, _, _, _, hA, hB, q3, q6, f11, f30, h⟩
    ·
     replace h := Comp.run_b_f hc h; clear hc
     refine wp_seq ?_
     refine' region [_, _] mixed hA (.cons (fun _ _ hE hK hg => ok_eqlI (kn (hK 21 rfl) rfl q21) rfl) (.cons (fun _ _ hE hK hg => ok_assign (ksv (j := 0) (hK 35 rfl) rfl rfl rfl)) .nil)) ?zok10 ?zgd10 ?zk10
     case zok10 | zgd10 => kernel_rfl
     intro a19 w19 hA hE HF
     replace q2 := kn (HF 2) rfl q2
     replace q3 := kn (HF 3) rfl q3
     replace q6 := kn (HF 6) rfl q6
     replace q7 := kn (HF 7) rfl q7
     replace q21 := kn (HF 21) rfl q21
     have q34 := ksv (HF 34) rfl rfl rfl
     clear q30
     clear HF
     replace f4 := f4.ext hE
     replace f11 := f11.ext hE
     replace hB := Base.step hB hE hO; clear hE
     refine li_nil (nx_then ?_)
     refine wp_cond_b q34 (fun hc => ?_) (fun hc => ?_)
     ·
      replace h := Comp.run_b_t hc h; clear hc
      refine' regionT [_, SP.isv (.pointer (some ⟨b5, 3, none⟩))] hA (.cons (fun _ _ hE hK hg => ok_move (kn (hK 7 rfl) rfl q7)) (.cons (fun _ _ hE hK hg => ok_fieldAddr fl26_3 (kn (hK 3 rfl) rfl q3)) .nil)) ?zok11 ?zgd11 ?zk11
      case zok11 | zgd11 => kernel_rfl
      intro a20 w20 hA hE HF
      replace q3 := kn (HF 3) rfl q3
      replace q6 := kn (HF 6) rfl q6
      have q36 := ksv (HF 36) rfl rfl rfl
      have q37 := ksv (HF 37) rfl rfl rfl
      clear q2
      clear q7
      clear q21
      clear q34
      clear HF
      replace f4 := f4.ext hE
      replace f11 := f11.ext hE
      replace hB := Base.step hB hE hO; clear hE
      refine l_store1 (cs' := #[.int .i64 x_0.Seq, .int .i64 x_0.Shop, .int .i64 x_0.Kind, .int .i64 x16, .int .i64 x_0.N, .string (str x_0.Before), .string (str x_0.After), .string (str x_0.Prev), .string (str x_0.Mark)]) hO hB (okB_fr hB) ty3 q37 q36 rfl rfl f4 (by simp) rfl fun w21 f31 hB' hX => ?_
      clear hB f4; have hB := hB'; clear hB'
      replace f11 := f11.kx hX (by decide)
      clear hX
      refine li_nil (nx_blk (nx_then ?_))
      exact ⟨_, _, _, _, _, _, _, _, _, _, hA, hB, q3, q6, f11, f31, h⟩
     ·
      replace h := Comp.run_b_f hc h; clear hc
      refine wp_seq ?_
      refine' region [_, _] mixed hA (.cons (fun _ _ hE hK hg => ok_eqlI (kn (hK 21 rfl) rfl q21) rfl) (.cons (fun _ _ hE hK hg => ok_assign (ksv (j := 0) (hK 39 rfl) rfl rfl rfl)) .nil)) ?zok12 ?zgd12 ?zk12
      case zok12 | zgd12 => kernel_rfl
      intro a22 w22 hA hE HF
      replace q2 := kn (HF 2) rfl q2
      replace q3 := kn (HF 3) rfl q3
      replace q6 := kn (HF 6) rfl q6
      replace q7 := kn (HF 7) rfl q7
      replace q21 := kn (HF 21) rfl q21
      have q38 := ksv (HF 38) rfl rfl rfl
      clear q34
      clear HF
      replace f4 := f4.ext hE
      replace f11 := f11.ext hE
      replace hB := Base.step hB hE hO; clear hE
      refine li_nil (nx_then ?_)
      refine wp_cond_b q38 (fun hc => ?_) (fun hc => ?_)
      ·
       replace h := Comp.run_b_t hc h; clear hc
       refine' regionT [_, SP.isv (.pointer (some ⟨b5, 4, none⟩))] hA (.cons (fun _ _ hE hK hg => ok_move (kn (hK 7 rfl) rfl q7)) (.cons (fun _ _ hE hK hg => ok_fieldAddr fl26_4 (kn (hK 3 rfl) rfl q3)) .nil)) ?zok13 ?zgd13 ?zk13
       case zok13 | zgd13 => kernel_rfl
       intro a23 w23 hA hE HF
       replace q3 := kn (HF 3) rfl q3
       replace q6 := kn (HF 6) rfl q6
       have q40 := ksv (HF 40) rfl rfl rfl
       have q41 := ksv (HF 41) rfl rfl rfl
       clear q2
       clear q7
       clear q21
       clear q38
       clear HF
       replace f4 := f4.ext hE
       replace f11 := f11.ext hE
       replace hB := Base.step hB hE hO; clear hE
       refine l_store1 (cs' := #[.int .i64 x_0.Seq, .int .i64 x_0.Shop, .int .i64 x_0.Kind, .int .i64 x_0.Day, .int .i64 x16, .string (str x_0.Before), .string (str x_0.After), .string (str x_0.Prev), .string (str x_0.Mark)]) hO hB (okB_fr hB) ty3 q41 q40 rfl rfl f4 (by simp) rfl fun w24 f32 hB' hX => ?_
       clear hB f4; have hB := hB'; clear hB'
       replace f11 := f11.kx hX (by decide)
       clear hX
       refine li_nil (nx_blk (nx_then ?_))
       exact ⟨_, _, _, _, _, _, _, _, _, _, hA, hB, q3, q6, f11, f32, h⟩
      ·
       replace h := Comp.run_b_f hc h; clear hc
       refine wp_seq ?_
       refine' region [_, _] mixed hA (.cons (fun _ _ hE hK hg => ok_eqlI (kn (hK 21 rfl) rfl q21) rfl) (.cons (fun _ _ hE hK hg => ok_assign (ksv (j := 0) (hK 43 rfl) rfl rfl rfl)) .nil)) ?zok14 ?zgd14 ?zk14
       case zok14 | zgd14 => kernel_rfl
       intro a25 w25 hA hE HF
       replace q2 := kn (HF 2) rfl q2
       replace q3 := kn (HF 3) rfl q3
       replace q6 := kn (HF 6) rfl q6
       replace q21 := kn (HF 21) rfl q21
       have q42 := ksv (HF 42) rfl rfl rfl
       clear q7
       clear q38
       clear HF
       replace f4 := f4.ext hE
       replace f11 := f11.ext hE
       replace hB := Base.step hB hE hO; clear hE
       refine li_nil (nx_then ?_)
       refine wp_cond_b q42 (fun hc => ?_) (fun hc => ?_)
       ·
        replace h := Comp.run_b_t hc h; clear hc
        refine' regionT [_, SP.isv (.pointer (some ⟨b5, 5, none⟩))] hA (.cons (fun _ _ hE hK hg => ok_move (kn (hK 2 rfl) rfl q2)) (.cons (fun _ _ hE hK hg => ok_fieldAddr fl26_5 (kn (hK 3 rfl) rfl q3)) .nil)) ?zok15 ?zgd15 ?zk15
        case zok15 | zgd15 => kernel_rfl
        intro a26 w26 hA hE HF
        replace q3 := kn (HF 3) rfl q3
        replace q6 := kn (HF 6) rfl q6
        have q44 := ksv (HF 44) rfl rfl rfl
        have q45 := ksv (HF 45) rfl rfl rfl
        clear q2
        clear q21
        clear q42
        clear HF
        replace f4 := f4.ext hE
        replace f11 := f11.ext hE
        replace hB := Base.step hB hE hO; clear hE
        refine l_store1 (cs' := #[.int .i64 x_0.Seq, .int .i64 x_0.Shop, .int .i64 x_0.Kind, .int .i64 x_0.Day, .int .i64 x_0.N, .string (str x_2), .string (str x_0.After), .string (str x_0.Prev), .string (str x_0.Mark)]) hO hB (okB_fr hB) ty9 q45 q44 rfl rfl f4 (by simp) rfl fun w27 f33 hB' hX => ?_
        clear hB f4; have hB := hB'; clear hB'
        replace f11 := f11.kx hX (by decide)
        clear hX
        refine li_nil (nx_blk (nx_then ?_))
        exact ⟨_, _, _, _, _, _, _, _, _, _, hA, hB, q3, q6, f11, f33, h⟩
       ·
        replace h := Comp.run_b_f hc h; clear hc
        refine wp_seq ?_
        refine' region [_, _] mixed hA (.cons (fun _ _ hE hK hg => ok_eqlI (kn (hK 21 rfl) rfl q21) rfl) (.cons (fun _ _ hE hK hg => ok_assign (ksv (j := 0) (hK 47 rfl) rfl rfl rfl)) .nil)) ?zok16 ?zgd16 ?zk16
        case zok16 | zgd16 => kernel_rfl
        intro a28 w28 hA hE HF
        replace q2 := kn (HF 2) rfl q2
        replace q3 := kn (HF 3) rfl q3
        replace q6 := kn (HF 6) rfl q6
        replace q21 := kn (HF 21) rfl q21
        have q46 := ksv (HF 46) rfl rfl rfl
        clear q42
        clear HF
        replace f4 := f4.ext hE
        replace f11 := f11.ext hE
        replace hB := Base.step hB hE hO; clear hE
        refine li_nil (nx_then ?_)
        refine wp_cond_b q46 (fun hc => ?_) (fun hc => ?_)
        ·
         replace h := Comp.run_b_t hc h; clear hc
         refine' regionT [_, SP.isv (.pointer (some ⟨b5, 6, none⟩))] hA (.cons (fun _ _ hE hK hg => ok_move (kn (hK 2 rfl) rfl q2)) (.cons (fun _ _ hE hK hg => ok_fieldAddr fl26_6 (kn (hK 3 rfl) rfl q3)) .nil)) ?zok17 ?zgd17 ?zk17
         case zok17 | zgd17 => kernel_rfl
         intro a29 w29 hA hE HF
         replace q3 := kn (HF 3) rfl q3
         replace q6 := kn (HF 6) rfl q6
         have q48 := ksv (HF 48) rfl rfl rfl
         have q49 := ksv (HF 49) rfl rfl rfl
         clear q2
         clear q21
         clear q46
         clear HF
         replace f4 := f4.ext hE
         replace f11 := f11.ext hE
         replace hB := Base.step hB hE hO; clear hE
         refine l_store1 (cs' := #[.int .i64 x_0.Seq, .int .i64 x_0.Shop, .int .i64 x_0.Kind, .int .i64 x_0.Day, .int .i64 x_0.N, .string (str x_0.Before), .string (str x_2), .string (str x_0.Prev), .string (str x_0.Mark)]) hO hB (okB_fr hB) ty9 q49 q48 rfl rfl f4 (by simp) rfl fun w30 f34 hB' hX => ?_
         clear hB f4; have hB := hB'; clear hB'
         replace f11 := f11.kx hX (by decide)
         clear hX
         refine li_nil (nx_blk (nx_then ?_))
         exact ⟨_, _, _, _, _, _, _, _, _, _, hA, hB, q3, q6, f11, f34, h⟩
        ·
         replace h := Comp.run_b_f hc h; clear hc
         refine wp_seq ?_
         refine' region [_, _] mixed hA (.cons (fun _ _ hE hK hg => ok_eqlI (kn (hK 21 rfl) rfl q21) rfl) (.cons (fun _ _ hE hK hg => ok_assign (ksv (j := 0) (hK 51 rfl) rfl rfl rfl)) .nil)) ?zok18 ?zgd18 ?zk18
         case zok18 | zgd18 => kernel_rfl
         intro a31 w31 hA hE HF
         replace q2 := kn (HF 2) rfl q2
         replace q3 := kn (HF 3) rfl q3
         replace q6 := kn (HF 6) rfl q6
         replace q21 := kn (HF 21) rfl q21
         have q50 := ksv (HF 50) rfl rfl rfl
         clear q46
         clear HF
         replace f4 := f4.ext hE
         replace f11 := f11.ext hE
         replace hB := Base.step hB hE hO; clear hE
         refine li_nil (nx_then ?_)
         refine wp_cond_b q50 (fun hc => ?_) (fun hc => ?_)
         ·
          replace h := Comp.run_b_t hc h; clear hc
          refine' regionT [_, SP.isv (.pointer (some ⟨b5, 7, none⟩))] hA (.cons (fun _ _ hE hK hg => ok_move (kn (hK 2 rfl) rfl q2)) (.cons (fun _ _ hE hK hg => ok_fieldAddr fl26_7 (kn (hK 3 rfl) rfl q3)) .nil)) ?zok19 ?zgd19 ?zk19
          case zok19 | zgd19 => kernel_rfl
          intro a32 w32 hA hE HF
          replace q3 := kn (HF 3) rfl q3
          replace q6 := kn (HF 6) rfl q6
          have q52 := ksv (HF 52) rfl rfl rfl
          have q53 := ksv (HF 53) rfl rfl rfl
          clear q2
          clear q21
          clear q50
          clear HF
          replace f4 := f4.ext hE
          replace f11 := f11.ext hE
          replace hB := Base.step hB hE hO; clear hE
          refine l_store1 (cs' := #[.int .i64 x_0.Seq, .int .i64 x_0.Shop, .int .i64 x_0.Kind, .int .i64 x_0.Day, .int .i64 x_0.N, .string (str x_0.Before), .string (str x_0.After), .string (str x_2), .string (str x_0.Mark)]) hO hB (okB_fr hB) ty9 q53 q52 rfl rfl f4 (by simp) rfl fun w33 f35 hB' hX => ?_
          clear hB f4; have hB := hB'; clear hB'
          replace f11 := f11.kx hX (by decide)
          clear hX
          refine li_nil (nx_blk (nx_then ?_))
          exact ⟨_, _, _, _, _, _, _, _, _, _, hA, hB, q3, q6, f11, f35, h⟩
         ·
          replace h := Comp.run_b_f hc h; clear hc
          refine wp_seq ?_
          refine' region [_, _] mixed hA (.cons (fun _ _ hE hK hg => ok_eqlI (kn (hK 21 rfl) rfl q21) rfl) (.cons (fun _ _ hE hK hg => ok_assign (ksv (j := 0) (hK 55 rfl) rfl rfl rfl)) .nil)) ?zok20 ?zgd20 ?zk20
          case zok20 | zgd20 => kernel_rfl
          intro a34 w34 hA hE HF
          replace q2 := kn (HF 2) rfl q2
          replace q3 := kn (HF 3) rfl q3
          replace q6 := kn (HF 6) rfl q6
          have q54 := ksv (HF 54) rfl rfl rfl
          clear q21
          clear q50
          clear HF
          replace f4 := f4.ext hE
          replace f11 := f11.ext hE
          replace hB := Base.step hB hE hO; clear hE
          refine li_nil (nx_then ?_)
          refine wp_cond_b q54 (fun hc => ?_) (fun hc => ?_)
          ·
           replace h := Comp.run_b_t hc h; clear hc
           refine' regionT [_, SP.isv (.pointer (some ⟨b5, 8, none⟩))] hA (.cons (fun _ _ hE hK hg => ok_move (kn (hK 2 rfl) rfl q2)) (.cons (fun _ _ hE hK hg => ok_fieldAddr fl26_8 (kn (hK 3 rfl) rfl q3)) .nil)) ?zok21 ?zgd21 ?zk21
           case zok21 | zgd21 => kernel_rfl
           intro a35 w35 hA hE HF
           replace q3 := kn (HF 3) rfl q3
           replace q6 := kn (HF 6) rfl q6
           have q56 := ksv (HF 56) rfl rfl rfl
           have q57 := ksv (HF 57) rfl rfl rfl
           clear q2
           clear q54
           clear HF
           replace f4 := f4.ext hE
           replace f11 := f11.ext hE
           replace hB := Base.step hB hE hO; clear hE
           refine l_store1 (cs' := #[.int .i64 x_0.Seq, .int .i64 x_0.Shop, .int .i64 x_0.Kind, .int .i64 x_0.Day, .int .i64 x_0.N, .string (str x_0.Before), .string (str x_0.After), .string (str x_0.Prev), .string (str x_2)]) hO hB (okB_fr hB) ty9 q57 q56 rfl rfl f4 (by simp) rfl fun w36 f36 hB' hX => ?_
           clear hB f4; have hB := hB'; clear hB'
           replace f11 := f11.kx hX (by decide)
           clear hX
           refine li_nil (nx_blk (nx_then ?_))
           exact ⟨_, _, _, _, _, _, _, _, _, _, hA, hB, q3, q6, f11, f36, h⟩
          ·
           replace h := Comp.run_b_f hc h; clear hc
           refine wp_skip (nx_blk (nx_then ?_))
           exact ⟨_, _, _, _, _, _, _, _, _, _, hA, hB, q3, q6, f11, f4, h⟩
 intro a37 w37 hI
 clear hA hB h q2 q3 q4 q6 q7 f11 f4 f7
 obtain ⟨O37, x20, x21, x22, x23, x24, x25, x26, x27, x28, hA, hB, q3, q6, f11, f19, h⟩ := hI
 unfold r7_Odd_j1 at h
 refine wp_seq ?_
 refine' regionT [SP.isv (.agg #[.int .i64 x20, .int .i64 x21, .int .i64 x22, .int .i64 x23, .int .i64 x24, .string (str x25), .string (str x26), .string (str x27), .string (str x28)])] hA (.cons (fun _ _ hE hK hg => ok_loadOwnAgg ty26 rfl (kn (hK 3 rfl) rfl q3) (OwnB.ext f19 hE).own rfl) .nil) ?zok22 ?zgd22 ?zk22
 case zok22 | zgd22 => kernel_rfl
 intro a38 w38 hA hE HF
 replace q6 := kn (HF 6) rfl q6
 have q58 := ksv (HF 58) rfl rfl rfl
 clear q3
 clear HF
 replace f19 := f19.ext hE
 replace f11 := f11.ext hE
 replace hB := Base.step hB hE hO; clear hE
 refine l_storeSub (vs := [.int .i64 x20, .int .i64 x21, .int .i64 x22, .int .i64 x23, .int .i64 x24, .string (str x25), .string (str x26), .string (str x27), .string (str x28)]) (cs' := #[.int .i64 x20, .int .i64 x21, .int .i64 x22, .int .i64 x23, .int .i64 x24, .string (str x25), .string (str x26), .string (str x27), .string (str x28)]) hO hB (okB_fr hB) ty26 q6 q58 rfl (by simp [Value.oneCell']) f11 (by simp) rfl fun w39 f38 hB' hX => ?_
 clear hB f11; have hB := hB'; clear hB'
 clear hX
 refine li_nil (nx_then (wp_ret ?_))
 have h := Comp.run_pure h; subst h
 exact retG1 Try.results24 hA (.agg q6 ty26 rfl rfl f38.own) ⟨_, rfl, hB.ext, rfl⟩
theorem ok_r7_shop {O : Tags} {w0 : World} (hO : OkO O w0) {v_0 : Value} {x_0 : List Bytes} (h_0 : (rSl rStr).v O w0 v_0 x_0) {x_1 : Int} {n : Nat} {y : Bool} (h : (r7_shop x_0 x_1).run n = some y) : Pure Try.prog 113 #[v_0, .int .i64 x_1] w0 (SP.isv (.bool y)).holds := by
 unfold r7_shop at h
 refine pure_of_wp Try.func113 rfl 13 Try.ntmps113 (by simp) fun a0 hA hs0 => ?_
 have q0 : a0.get 0 = v_0 := hs0 0 _ rfl
 have q1 : a0.get 1 = .int .i64 x_1 := hs0 1 _ rfl
 clear hs0
 have hB : Base (Fr w0) O w0 O w0 := Base.start hO
 refine wp_seq ?_
 refine' region [_] mixed hA (.cons (fun _ _ hE hK hg => ok_assign rfl) .nil) ?zok1 ?zgd1 ?zk1
 case zok1 | zgd1 => kernel_rfl
 intro a1 w1 hA hE HF
 replace q0 := kn (HF 0) rfl q0
 replace q1 := kn (HF 1) rfl q1
 clear HF
 replace h_0 := GR.v_ext _ h_0 hE
 replace hB := Base.step hB hE hO; clear hE
 refine li_nil (nx_then (wp_seq ?_))
 refine' region [_, _, _, _, _, _, _, _, _] mixed hA (.cons (fun _ _ hE hK hg => ok_move (kn (hK 1 rfl) rfl q1)) (.cons (fun _ _ hE hK hg => ok_geq (ksv (j := 0) (hK 5 rfl) rfl rfl rfl) rfl) (.cons (fun _ _ hE hK hg => ok_move (ksv (j := 1) (hK 6 rfl) rfl rfl rfl)) (.cons (fun _ _ hE hK hg => ok_move (kn (hK 1 rfl) rfl q1)) (.cons (fun _ _ hE hK hg => ok_move (kn (hK 0 rfl) rfl q0)) (.cons ?z2_5 (.cons ?z2_6 (.cons ?z2_7 (.cons (fun _ _ hE hK hg => ok_assign (ksv (j := 7) (hK 12 rfl) rfl rfl rfl)) .nil))))))))) ?zok2 ?zgd2 ?zk2
 case z2_5 => intro a' w' hE hK hg; exact okl_len (r := rStr) ty28 (ksv (j := 4) (hK 9 rfl) rfl rfl hg) (rd_of (GR.v_ext _ h_0 hE))
 case z2_6 => intro a' w' hE hK hg; exact ok_lss (ksv (j := 3) (hK 8 rfl) rfl rfl hg) (ksv (j := 5) (hK 10 rfl) rfl rfl hg)
 case z2_7 => intro a' w' hE hK hg; exact ok_pick (ksv (j := 2) (hK 7 rfl) rfl rfl rfl) (fun hb => ksv (j := 6) (hK 11 rfl) rfl rfl (act_g1 rfl rfl hb)) (fun _ => rfl)
 case zok2 | zgd2 => kernel_rfl
 intro a2 w2 hA hE HF
 have q4 := ksv (HF 4) rfl rfl rfl
 clear q0
 clear q1
 clear HF
 replace h_0 := GR.v_ext _ h_0 hE
 replace hB := Base.step hB hE hO; clear hE
 obtain ⟨x1, hx_, h⟩ := Comp.run_bind h; replace hx_ := Comp.run_pure hx_; rw [hx_] at q4; clear hx_
 refine li_nil (nx_then (wp_ret ?_))
 have h := Comp.run_pure h; subst h
 exact retPure Try.results113 hA q4 hB.ext rfl
theorem ok_r7_number {O : Tags} {w0 : World} (hO : OkO O w0) {v_0 : Value} {x_0 : List Bytes} (h_0 : (rSl rStr).v O w0 v_0 x_0) {x_1 : aEn} {n : Nat} {y : Int} (h : (r7_number x_0 x_1).run n = some y) : Pure Try.prog 114 #[v_0, .agg #[.int .i64 x_1.Seq, .int .i64 x_1.Shop, .int .i64 x_1.Kind, .int .i64 x_1.Day, .int .i64 x_1.N, .string (str x_1.Before), .string (str x_1.After), .string (str x_1.Prev), .string (str x_1.Mark)]] w0 (SP.isv (.int .i64 y)).holds := by
 unfold r7_number at h
 refine pure_of_wp Try.func114 rfl 36 Try.ntmps114 (by simp) fun a0 hA hs0 => ?_
 have q0 : a0.get 0 = v_0 := hs0 0 _ rfl
 have q1 : a0.get 1 = .agg #[.int .i64 x_1.Seq, .int .i64 x_1.Shop, .int .i64 x_1.Kind, .int .i64 x_1.Day, .int .i64 x_1.N, .string (str x_1.Before), .string (str x_1.After), .string (str x_1.Prev), .string (str x_1.Mark)] := hs0 1 _ rfl
 clear hs0
 have hB : Base (Fr w0) O w0 O w0 := Base.start hO
 refine wp_seq ?_
 refine' region [SP.vl (rBox r_aEn) O x_1, _] mixed hA (.cons ?z1_0 (.cons (fun _ _ hE hK hg => ok_assign rfl) .nil)) ?zok1 ?zgd1 ?zk1
 case z1_0 => intro a' w' hE hK hg; exact okl_boxV (r := r_aEn) fit_aEn (OkO.ext hB.ok hE) (kn (hK 1 rfl) rfl q1) (by first | exact (rC_v (x := x_1)).2 rfl | exact ⟨_, rfl, rfl⟩)
 case zok1 | zgd1 => kernel_rfl
 intro a1 w1 hA hE HF
 replace q0 := kn (HF 0) rfl q0
 have f2 := ksp (HF 3) rfl rfl rfl
 obtain ⟨u1, q3'⟩ : ∃ u, a1.get 3 = u := ⟨_, rfl⟩
 rw [q3'] at f2
 have q3 := q3'; clear q3'
 clear q1
 clear HF
 replace h_0 := GR.v_ext _ h_0 hE
 replace hB := Base.step hB hE hO; clear hE
 refine li_nil (nx_then (wp_seq (wp_seq ?_)))
 refine' region [SP.ptr (rInt .i64) O x_1.Kind, SP.isv (.int .i64 x_1.Kind), _] mixed hA (.cons (fun _ _ hE hK hg => okl_fldB (S := r_aEn) fit_aEn rfl (fun _ => rfl) sb_aEn_2 fl26_2 (kn (hK 3 rfl) rfl q3) (GR.v_ext _ f2 hE)) (.cons (fun _ _ hE hK hg => okl_ldr (rInt .i64) (fun _ => rfl) ty3 rfl rfl rfl (kspS (φ := SP.ptr (rInt .i64) O x_1.Kind) (j := 0) (hK 5 rfl) rfl rfl rfl) (fun _ _ _ h => rInt_v.1 h)) (.cons (fun _ _ hE hK hg => ok_eqlI (ksv (j := 1) (hK 6 rfl) rfl rfl rfl) rfl) .nil))) ?zok2 ?zgd2 ?zk2
 case zok2 | zgd2 => kernel_rfl
 intro a2 w2 hA hE HF
 replace q0 := kn (HF 0) rfl q0
 replace q3 := kn (HF 3) rfl q3
 have q7 := ksv (HF 7) rfl rfl rfl
 clear HF
 replace h_0 := GR.v_ext _ h_0 hE
 replace f2 := GR.v_ext _ f2 hE
 replace hB := Base.step hB hE hO; clear hE
 refine li_nil (nx_then ?_)
 refine wp_cond_b q7 (fun hc => ?_) (fun hc => ?_)
 ·
  replace h := Comp.run_b_t hc h; clear hc
  refine wp_seq (wp_seq ?_)
  obtain ⟨x3, hx3, h⟩ := Comp.run_bind h
  refine' region [_, SP.ptr (rInt .i64) O x_1.N, SP.isv (.int .i64 x_1.N), SP.isv (.bool x3), _] mixed hA (.cons (fun _ _ hE hK hg => ok_move (kn (hK 0 rfl) rfl q0)) (.cons (fun _ _ hE hK hg => okl_fldB (S := r_aEn) fit_aEn rfl (fun _ => rfl) sb_aEn_4 fl26_4 (kn (hK 3 rfl) rfl q3) (GR.v_ext _ f2 hE)) (.cons (fun _ _ hE hK hg => okl_ldr (rInt .i64) (fun _ => rfl) ty3 rfl rfl rfl (kspS (φ := SP.ptr (rInt .i64) O x_1.N) (j := 1) (hK 9 rfl) rfl rfl rfl) (fun _ _ _ h => rInt_v.1 h)) (.cons ?z3_3 (.cons (fun _ _ hE hK hg => ok_not (ksv (j := 3) (hK 11 rfl) rfl rfl rfl)) .nil))))) ?zok3 ?zgd3 ?zk3
  case z3_3 => intro a' w' hE hK hg; have c_ := ok_r7_shop (OkO.ext hB.ok hE) (GR.v_ext _ h_0 hE) hx3; exact ok_call2 fn113 (ksv (j := 0) (hK 8 rfl) rfl rfl rfl) (ksv (j := 2) (hK 10 rfl) rfl rfl rfl) c_
  case zok3 | zgd3 => kernel_rfl
  intro a3 w3 hA hE HF
  have q12 := ksv (HF 12) rfl rfl rfl
  clear q0
  clear q3
  clear q7
  clear HF
  replace h_0 := GR.v_ext _ h_0 hE
  replace f2 := GR.v_ext _ f2 hE
  replace hB := Base.step hB hE hO; clear hE
  refine li_nil (nx_then ?_)
  refine wp_cond_b q12 (fun hc => ?_) (fun hc => ?_)
  ·
   replace h := Comp.run_b_t hc h; clear hc
   refine wp_seq ?_
   refine' region [_] mixed hA (.cons (fun _ _ hE hK hg => ok_assign rfl) .nil) ?zok4 ?zgd4 ?zk4
   case zok4 | zgd4 => kernel_rfl
   intro a4 w4 hA hE HF
   have q4 := ksv (HF 4) rfl rfl rfl
   clear q12
   clear HF
   replace hB := Base.step hB hE hO; clear hE
   refine li_nil (nx_then (wp_ret (rt_then (rt_then ?_))))
   have h := Comp.run_pure h; subst h
   exact retPure Try.results114 hA q4 hB.ext rfl
  ·
   replace h := Comp.run_b_f hc h; clear hc
   refine wp_skip (nx_then (wp_seq ?_))
   refine' region [_] mixed hA (.cons (fun _ _ hE hK hg => ok_assign rfl) .nil) ?zok5 ?zgd5 ?zk5
   case zok5 | zgd5 => kernel_rfl
   intro a5 w5 hA hE HF
   have q4 := ksv (HF 4) rfl rfl rfl
   clear q12
   clear HF
   replace hB := Base.step hB hE hO; clear hE
   refine li_nil (nx_then (wp_ret (rt_then ?_)))
   have h := Comp.run_pure h; subst h
   exact retPure Try.results114 hA q4 hB.ext rfl
 ·
  replace h := Comp.run_b_f hc h; clear hc
  refine wp_skip (nx_then (wp_seq (wp_seq ?_)))
  refine' region [SP.ptr (rInt .i64) O x_1.Kind, SP.isv (.int .i64 x_1.Kind), _, _, SP.ptr (rInt .i64) O x_1.N, SP.isv (.int .i64 x_1.N), _, _, SP.ptr (rInt .i64) O x_1.N, SP.isv (.int .i64 x_1.N), _, _, _, _, SP.ptr (rInt .i64) O x_1.Kind, SP.isv (.int .i64 x_1.Kind), _, _, SP.ptr (rInt .i64) O x_1.N, SP.isv (.int .i64 x_1.N), _, _, _] mixed hA (.cons (fun _ _ hE hK hg => okl_fldB (S := r_aEn) fit_aEn rfl (fun _ => rfl) sb_aEn_2 fl26_2 (kn (hK 3 rfl) rfl q3) (GR.v_ext _ f2 hE)) (.cons (fun _ _ hE hK hg => okl_ldr (rInt .i64) (fun _ => rfl) ty3 rfl rfl rfl (kspS (φ := SP.ptr (rInt .i64) O x_1.Kind) (j := 0) (hK 13 rfl) rfl rfl rfl) (fun _ _ _ h => rInt_v.1 h)) (.cons (fun _ _ hE hK hg => ok_eqlI (ksv (j := 1) (hK 14 rfl) rfl rfl rfl) rfl) (.cons (fun _ _ hE hK hg => ok_move (ksv (j := 2) (hK 15 rfl) rfl rfl rfl)) (.cons (fun _ _ hE hK hg => okl_fldB (S := r_aEn) fit_aEn rfl (fun _ => rfl) sb_aEn_4 fl26_4 (kn (hK 3 rfl) rfl q3) (GR.v_ext _ f2 hE)) (.cons ?z6_5 (.cons ?z6_6 (.cons ?z6_7 (.cons (fun _ _ hE hK hg => okl_fldB (S := r_aEn) fit_aEn rfl (fun _ => rfl) sb_aEn_4 fl26_4 (kn (hK 3 rfl) rfl q3) (GR.v_ext _ f2 hE)) (.cons ?z6_9 (.cons ?z6_10 (.cons ?z6_11 (.cons ?z6_12 (.cons (fun _ _ hE hK hg => ok_move (ksv (j := 12) (hK 25 rfl) rfl rfl rfl)) (.cons (fun _ _ hE hK hg => okl_fldB (S := r_aEn) fit_aEn rfl (fun _ => rfl) sb_aEn_2 fl26_2 (kn (hK 3 rfl) rfl q3) (GR.v_ext _ f2 hE)) (.cons ?z6_15 (.cons ?z6_16 (.cons ?z6_17 (.cons (fun _ _ hE hK hg => okl_fldB (S := r_aEn) fit_aEn rfl (fun _ => rfl) sb_aEn_4 fl26_4 (kn (hK 3 rfl) rfl q3) (GR.v_ext _ f2 hE)) (.cons ?z6_19 (.cons ?z6_20 (.cons ?z6_21 (.cons ?z6_22 .nil))))))))))))))))))))))) ?zok6 ?zgd6 ?zk6
  case z6_5 => intro a' w' hE hK hg; exact okl_ldr (rInt .i64) (fun _ => rfl) ty3 rfl rfl rfl (kspS (φ := SP.ptr (rInt .i64) O x_1.N) (j := 4) (hK 17 rfl) rfl rfl hg) (fun _ _ _ h => rInt_v.1 h)
  case z6_6 => intro a' w' hE hK hg; exact ok_lss (ksv (j := 5) (hK 18 rfl) rfl rfl hg) rfl
  case z6_7 => intro a' w' hE hK hg; exact ok_move (ksv (j := 6) (hK 19 rfl) rfl rfl hg)
  case z6_9 => intro a' w' hE hK hg; exact okl_ldr (rInt .i64) (fun _ => rfl) ty3 rfl rfl rfl (kspS (φ := SP.ptr (rInt .i64) O x_1.N) (j := 8) (hK 21 rfl) rfl rfl hg) (fun _ _ _ h => rInt_v.1 h)
  case z6_10 => intro a' w' hE hK hg; exact ok_gtr (ksv (j := 9) (hK 22 rfl) rfl rfl hg) rfl
  case z6_11 => intro a' w' hE hK hg; exact ok_pick (ksv (j := 7) (hK 20 rfl) rfl rfl hg) (fun _ => rfl) (fun hb => ksv (j := 10) (hK 23 rfl) rfl rfl (act_g1 rfl hg hb))
  case z6_12 => intro a' w' hE hK hg; exact ok_pick (ksv (j := 3) (hK 16 rfl) rfl rfl rfl) (fun hb => ksv (j := 11) (hK 24 rfl) rfl rfl (act_g1 rfl rfl hb)) (fun _ => rfl)
  case z6_15 => intro a' w' hE hK hg; exact okl_ldr (rInt .i64) (fun _ => rfl) ty3 rfl rfl rfl (kspS (φ := SP.ptr (rInt .i64) O x_1.Kind) (j := 14) (hK 27 rfl) rfl rfl hg) (fun _ _ _ h => rInt_v.1 h)
  case z6_16 => intro a' w' hE hK hg; exact ok_neqI (ksv (j := 15) (hK 28 rfl) rfl rfl hg) rfl
  case z6_17 => intro a' w' hE hK hg; exact ok_move (ksv (j := 16) (hK 29 rfl) rfl rfl hg)
  case z6_19 => intro a' w' hE hK hg; exact okl_ldr (rInt .i64) (fun _ => rfl) ty3 rfl rfl rfl (kspS (φ := SP.ptr (rInt .i64) O x_1.N) (j := 18) (hK 31 rfl) rfl rfl hg) (fun _ _ _ h => rInt_v.1 h)
  case z6_20 => intro a' w' hE hK hg; exact ok_neqI (ksv (j := 19) (hK 32 rfl) rfl rfl hg) rfl
  case z6_21 => intro a' w' hE hK hg; exact ok_pick (ksv (j := 17) (hK 30 rfl) rfl rfl hg) (fun hb => ksv (j := 20) (hK 33 rfl) rfl rfl (act_g1 rfl hg hb)) (fun _ => rfl)
  case z6_22 => intro a' w' hE hK hg; exact ok_pick (ksv (j := 13) (hK 26 rfl) rfl rfl rfl) (fun _ => rfl) (fun hb => ksv (j := 21) (hK 34 rfl) rfl rfl (act_g1 rfl rfl hb))
  case zok6 | zgd6 => kernel_rfl
  intro a6 w6 hA hE HF
  have q35 := ksv (HF 35) rfl rfl rfl
  clear q0
  clear q3
  clear q7
  clear HF
  replace h_0 := GR.v_ext _ h_0 hE
  replace f2 := GR.v_ext _ f2 hE
  replace hB := Base.step hB hE hO; clear hE
  obtain ⟨x4, hx_, h⟩ := Comp.run_bind h; replace hx_ := Comp.run_pure hx_; rw [hx_] at q35; clear hx_
  refine li_nil (nx_then ?_)
  refine wp_cond_b q35 (fun hc => ?_) (fun hc => ?_)
  ·
   replace h := Comp.run_b_t hc h; clear hc
   refine wp_seq ?_
   refine' region [_] mixed hA (.cons (fun _ _ hE hK hg => ok_assign rfl) .nil) ?zok7 ?zgd7 ?zk7
   case zok7 | zgd7 => kernel_rfl
   intro a7 w7 hA hE HF
   have q4 := ksv (HF 4) rfl rfl rfl
   clear q35
   clear HF
   replace hB := Base.step hB hE hO; clear hE
   refine li_nil (nx_then (wp_ret (rt_then ?_)))
   have h := Comp.run_pure h; subst h
   exact retPure Try.results114 hA q4 hB.ext rfl
  ·
   replace h := Comp.run_b_f hc h; clear hc
   refine wp_skip (nx_then (wp_seq ?_))
   refine' region [_] mixed hA (.cons (fun _ _ hE hK hg => ok_assign rfl) .nil) ?zok8 ?zgd8 ?zk8
   case zok8 | zgd8 => kernel_rfl
   intro a8 w8 hA hE HF
   have q4 := ksv (HF 4) rfl rfl rfl
   clear q35
   clear HF
   replace hB := Base.step hB hE hO; clear hE
   refine li_nil (nx_then (wp_ret ?_))
   have h := Comp.run_pure h; subst h
   exact retPure Try.results114 hA q4 hB.ext rfl
theorem ok_r7_first {O : Tags} {w0 : World} (hO : OkO O w0) {x_0 : aEn} {n : Nat} {y : Int} (h : (r7_first x_0).run n = some y) : Pure Try.prog 115 #[.agg #[.int .i64 x_0.Seq, .int .i64 x_0.Shop, .int .i64 x_0.Kind, .int .i64 x_0.Day, .int .i64 x_0.N, .string (str x_0.Before), .string (str x_0.After), .string (str x_0.Prev), .string (str x_0.Mark)]] w0 (SP.isv (.int .i64 y)).holds := by
 unfold r7_first at h
 refine pure_of_wp Try.func115 rfl 9 Try.ntmps115 (by simp) fun a0 hA hs0 => ?_
 have q0 : a0.get 0 = .agg #[.int .i64 x_0.Seq, .int .i64 x_0.Shop, .int .i64 x_0.Kind, .int .i64 x_0.Day, .int .i64 x_0.N, .string (str x_0.Before), .string (str x_0.After), .string (str x_0.Prev), .string (str x_0.Mark)] := hs0 0 _ rfl
 clear hs0
 have hB : Base (Fr w0) O w0 O w0 := Base.start hO
 refine wp_seq ?_
 refine' region [SP.vl (rBox r_aEn) O x_0, _] mixed hA (.cons ?z1_0 (.cons (fun _ _ hE hK hg => ok_assign rfl) .nil)) ?zok1 ?zgd1 ?zk1
 case z1_0 => intro a' w' hE hK hg; exact okl_boxV (r := r_aEn) fit_aEn (OkO.ext hB.ok hE) (kn (hK 0 rfl) rfl q0) (by first | exact (rC_v (x := x_0)).2 rfl | exact ⟨_, rfl, rfl⟩)
 case zok1 | zgd1 => kernel_rfl
 intro a1 w1 hA hE HF
 have f2 := ksp (HF 1) rfl rfl rfl
 obtain ⟨u1, q1'⟩ : ∃ u, a1.get 1 = u := ⟨_, rfl⟩
 rw [q1'] at f2
 have q1 := q1'; clear q1'
 clear q0
 clear HF
 replace hB := Base.step hB hE hO; clear hE
 refine li_nil (nx_then (wp_seq (wp_seq ?_)))
 refine' region [SP.ptr rStr O x_0.Prev, SP.isv (.string (str x_0.Prev)), _] mixed hA (.cons (fun _ _ hE hK hg => okl_fldB (S := r_aEn) fit_aEn rfl (fun _ => rfl) sb_aEn_7 fl26_7 (kn (hK 1 rfl) rfl q1) (GR.v_ext _ f2 hE)) (.cons (fun _ _ hE hK hg => okl_ldr rStr (fun _ => rfl) ty9 rfl rfl rfl (kspS (φ := SP.ptr rStr O x_0.Prev) (j := 0) (hK 3 rfl) rfl rfl rfl) (fun _ _ _ h => rStr_v.1 h)) (.cons (fun _ _ hE hK hg => okl_neqS (ksv (j := 1) (hK 4 rfl) rfl rfl rfl) rfl) .nil))) ?zok2 ?zgd2 ?zk2
 case zok2 | zgd2 => kernel_rfl
 intro a2 w2 hA hE HF
 replace q1 := kn (HF 1) rfl q1
 have q5 := ksv (HF 5) rfl rfl rfl
 clear HF
 replace f2 := GR.v_ext _ f2 hE
 replace hB := Base.step hB hE hO; clear hE
 refine li_nil (nx_then ?_)
 refine wp_cond_b q5 (fun hc => ?_) (fun hc => ?_)
 ·
  replace h := Comp.run_b_t hc h; clear hc
  refine wp_seq ?_
  refine' region [_] mixed hA (.cons (fun _ _ hE hK hg => ok_assign rfl) .nil) ?zok3 ?zgd3 ?zk3
  case zok3 | zgd3 => kernel_rfl
  intro a3 w3 hA hE HF
  have q2 := ksv (HF 2) rfl rfl rfl
  clear q1
  clear q5
  clear HF
  replace f2 := GR.v_ext _ f2 hE
  replace hB := Base.step hB hE hO; clear hE
  refine li_nil (nx_then (wp_ret (rt_then ?_)))
  have h := Comp.run_pure h; subst h
  exact retPure Try.results115 hA q2 hB.ext rfl
 ·
  replace h := Comp.run_b_f hc h; clear hc
  refine wp_skip (nx_then (wp_seq (wp_seq ?_)))
  refine' region [SP.ptr rStr O x_0.Before, SP.isv (.string (str x_0.Before)), _] mixed hA (.cons (fun _ _ hE hK hg => okl_fldB (S := r_aEn) fit_aEn rfl (fun _ => rfl) sb_aEn_5 fl26_5 (kn (hK 1 rfl) rfl q1) (GR.v_ext _ f2 hE)) (.cons (fun _ _ hE hK hg => okl_ldr rStr (fun _ => rfl) ty9 rfl rfl rfl (kspS (φ := SP.ptr rStr O x_0.Before) (j := 0) (hK 6 rfl) rfl rfl rfl) (fun _ _ _ h => rStr_v.1 h)) (.cons (fun _ _ hE hK hg => okl_neqS (ksv (j := 1) (hK 7 rfl) rfl rfl rfl) rfl) .nil))) ?zok4 ?zgd4 ?zk4
  case zok4 | zgd4 => kernel_rfl
  intro a4 w4 hA hE HF
  have q8 := ksv (HF 8) rfl rfl rfl
  clear q1
  clear q5
  clear HF
  replace f2 := GR.v_ext _ f2 hE
  replace hB := Base.step hB hE hO; clear hE
  refine li_nil (nx_then ?_)
  refine wp_cond_b q8 (fun hc => ?_) (fun hc => ?_)
  ·
   replace h := Comp.run_b_t hc h; clear hc
   refine wp_seq ?_
   refine' region [_] mixed hA (.cons (fun _ _ hE hK hg => ok_assign rfl) .nil) ?zok5 ?zgd5 ?zk5
   case zok5 | zgd5 => kernel_rfl
   intro a5 w5 hA hE HF
   have q2 := ksv (HF 2) rfl rfl rfl
   clear q8
   clear HF
   replace hB := Base.step hB hE hO; clear hE
   refine li_nil (nx_then (wp_ret (rt_then ?_)))
   have h := Comp.run_pure h; subst h
   exact retPure Try.results115 hA q2 hB.ext rfl
  ·
   replace h := Comp.run_b_f hc h; clear hc
   refine wp_skip (nx_then (wp_seq ?_))
   refine' region [_] mixed hA (.cons (fun _ _ hE hK hg => ok_assign rfl) .nil) ?zok6 ?zgd6 ?zk6
   case zok6 | zgd6 => kernel_rfl
   intro a6 w6 hA hE HF
   have q2 := ksv (HF 2) rfl rfl rfl
   clear q8
   clear HF
   replace hB := Base.step hB hE hO; clear hE
   refine li_nil (nx_then (wp_ret ?_))
   have h := Comp.run_pure h; subst h
   exact retPure Try.results115 hA q2 hB.ext rfl
theorem ok_r7_follows {O : Tags} {w0 : World} (hO : OkO O w0) {x_0 : aEn} {x_1 : aEn} {n : Nat} {y : Int} (h : (r7_follows x_0 x_1).run n = some y) : Pure Try.prog 116 #[.agg #[.int .i64 x_0.Seq, .int .i64 x_0.Shop, .int .i64 x_0.Kind, .int .i64 x_0.Day, .int .i64 x_0.N, .string (str x_0.Before), .string (str x_0.After), .string (str x_0.Prev), .string (str x_0.Mark)], .agg #[.int .i64 x_1.Seq, .int .i64 x_1.Shop, .int .i64 x_1.Kind, .int .i64 x_1.Day, .int .i64 x_1.N, .string (str x_1.Before), .string (str x_1.After), .string (str x_1.Prev), .string (str x_1.Mark)]] w0 (SP.isv (.int .i64 y)).holds := by
 unfold r7_follows at h
 refine pure_of_wp Try.func116 rfl 20 Try.ntmps116 (by simp) fun a0 hA hs0 => ?_
 have q0 : a0.get 0 = .agg #[.int .i64 x_0.Seq, .int .i64 x_0.Shop, .int .i64 x_0.Kind, .int .i64 x_0.Day, .int .i64 x_0.N, .string (str x_0.Before), .string (str x_0.After), .string (str x_0.Prev), .string (str x_0.Mark)] := hs0 0 _ rfl
 have q1 : a0.get 1 = .agg #[.int .i64 x_1.Seq, .int .i64 x_1.Shop, .int .i64 x_1.Kind, .int .i64 x_1.Day, .int .i64 x_1.N, .string (str x_1.Before), .string (str x_1.After), .string (str x_1.Prev), .string (str x_1.Mark)] := hs0 1 _ rfl
 clear hs0
 have hB : Base (Fr w0) O w0 O w0 := Base.start hO
 refine wp_seq ?_
 refine' region [SP.vl (rBox r_aEn) O x_0, SP.vl (rBox r_aEn) O x_1, _] mixed hA (.cons ?z1_0 (.cons ?z1_1 (.cons (fun _ _ hE hK hg => ok_assign rfl) .nil))) ?zok1 ?zgd1 ?zk1
 case z1_0 => intro a' w' hE hK hg; exact okl_boxV (r := r_aEn) fit_aEn (OkO.ext hB.ok hE) (kn (hK 0 rfl) rfl q0) (by first | exact (rC_v (x := x_0)).2 rfl | exact ⟨_, rfl, rfl⟩)
 case z1_1 => intro a' w' hE hK hg; exact okl_boxV (r := r_aEn) fit_aEn (OkO.ext hB.ok hE) (kn (hK 1 rfl) rfl q1) (by first | exact (rC_v (x := x_1)).2 rfl | exact ⟨_, rfl, rfl⟩)
 case zok1 | zgd1 => kernel_rfl
 intro a1 w1 hA hE HF
 have f2 := ksp (HF 2) rfl rfl rfl
 obtain ⟨u1, q2'⟩ : ∃ u, a1.get 2 = u := ⟨_, rfl⟩
 rw [q2'] at f2
 have q2 := q2'; clear q2'
 have f4 := ksp (HF 3) rfl rfl rfl
 obtain ⟨u3, q3'⟩ : ∃ u, a1.get 3 = u := ⟨_, rfl⟩
 rw [q3'] at f4
 have q3 := q3'; clear q3'
 clear q0
 clear q1
 clear HF
 replace hB := Base.step hB hE hO; clear hE
 refine li_nil (nx_then (wp_seq (wp_seq ?_)))
 refine' region [SP.ptr (rInt .i64) O x_1.Day, SP.isv (.int .i64 x_1.Day), SP.ptr (rInt .i64) O x_0.Day, SP.isv (.int .i64 x_0.Day), _] mixed hA (.cons (fun _ _ hE hK hg => okl_fldB (S := r_aEn) fit_aEn rfl (fun _ => rfl) sb_aEn_3 fl26_3 (kn (hK 3 rfl) rfl q3) (GR.v_ext _ f4 hE)) (.cons (fun _ _ hE hK hg => okl_ldr (rInt .i64) (fun _ => rfl) ty3 rfl rfl rfl (kspS (φ := SP.ptr (rInt .i64) O x_1.Day) (j := 0) (hK 5 rfl) rfl rfl rfl) (fun _ _ _ h => rInt_v.1 h)) (.cons (fun _ _ hE hK hg => okl_fldB (S := r_aEn) fit_aEn rfl (fun _ => rfl) sb_aEn_3 fl26_3 (kn (hK 2 rfl) rfl q2) (GR.v_ext _ f2 hE)) (.cons (fun _ _ hE hK hg => okl_ldr (rInt .i64) (fun _ => rfl) ty3 rfl rfl rfl (kspS (φ := SP.ptr (rInt .i64) O x_0.Day) (j := 2) (hK 7 rfl) rfl rfl rfl) (fun _ _ _ h => rInt_v.1 h)) (.cons (fun _ _ hE hK hg => ok_lss (ksv (j := 1) (hK 6 rfl) rfl rfl rfl) (ksv (j := 3) (hK 8 rfl) rfl rfl rfl)) .nil))))) ?zok2 ?zgd2 ?zk2
 case zok2 | zgd2 => kernel_rfl
 intro a2 w2 hA hE HF
 replace q2 := kn (HF 2) rfl q2
 replace q3 := kn (HF 3) rfl q3
 have q9 := ksv (HF 9) rfl rfl rfl
 clear HF
 replace f2 := GR.v_ext _ f2 hE
 replace f4 := GR.v_ext _ f4 hE
 replace hB := Base.step hB hE hO; clear hE
 refine li_nil (nx_then ?_)
 refine wp_cond_b q9 (fun hc => ?_) (fun hc => ?_)
 ·
  replace h := Comp.run_b_t hc h; clear hc
  refine wp_seq ?_
  refine' region [_] mixed hA (.cons (fun _ _ hE hK hg => ok_assign rfl) .nil) ?zok3 ?zgd3 ?zk3
  case zok3 | zgd3 => kernel_rfl
  intro a3 w3 hA hE HF
  have q4 := ksv (HF 4) rfl rfl rfl
  clear q2
  clear q3
  clear q9
  clear HF
  replace f2 := GR.v_ext _ f2 hE
  replace f4 := GR.v_ext _ f4 hE
  replace hB := Base.step hB hE hO; clear hE
  refine li_nil (nx_then (wp_ret (rt_then ?_)))
  have h := Comp.run_pure h; subst h
  exact retPure Try.results116 hA q4 hB.ext rfl
 ·
  replace h := Comp.run_b_f hc h; clear hc
  refine wp_skip (nx_then (wp_seq (wp_seq ?_)))
  obtain ⟨x5, hx5, h⟩ := Comp.run_bind h
  refine' region [SP.ptr rStr O x_1.Prev, SP.isv (.string (str x_1.Prev)), SP.isv (.agg #[.int .i64 x_0.Seq, .int .i64 x_0.Shop, .int .i64 x_0.Kind, .int .i64 x_0.Day, .int .i64 x_0.N, .string (str x_0.Before), .string (str x_0.After), .string (str x_0.Prev), .string (str x_0.Mark)]), SP.isv (.string (str x5)), _] mixed hA (.cons (fun _ _ hE hK hg => okl_fldB (S := r_aEn) fit_aEn rfl (fun _ => rfl) sb_aEn_7 fl26_7 (kn (hK 3 rfl) rfl q3) (GR.v_ext _ f4 hE)) (.cons (fun _ _ hE hK hg => okl_ldr rStr (fun _ => rfl) ty9 rfl rfl rfl (kspS (φ := SP.ptr rStr O x_1.Prev) (j := 0) (hK 10 rfl) rfl rfl rfl) (fun _ _ _ h => rStr_v.1 h)) (.cons (fun _ _ hE hK hg => okl_ldr r_aEn fit_aEn ty26 rfl rfl (kn (hK 2 rfl) rfl q2) (ptr_of_box fit_aEn (GR.v_ext _ f2 hE)) (fun _ _ _ h => rC_v.1 h)) (.cons ?z4_3 (.cons (fun _ _ hE hK hg => okl_neqS (ksv (j := 1) (hK 11 rfl) rfl rfl rfl) (ksv (j := 3) (hK 13 rfl) rfl rfl rfl)) .nil))))) ?zok4 ?zgd4 ?zk4
  case z4_3 => intro a' w' hE hK hg; have c_ := ok_r7_link (OkO.ext hB.ok hE)  hx5; exact ok_call1 fn63 (ksv (j := 2) (hK 12 rfl) rfl rfl rfl) c_
  case zok4 | zgd4 => kernel_rfl
  intro a4 w4 hA hE HF
  replace q2 := kn (HF 2) rfl q2
  replace q3 := kn (HF 3) rfl q3
  have q14 := ksv (HF 14) rfl rfl rfl
  clear q9
  clear HF
  replace f2 := GR.v_ext _ f2 hE
  replace f4 := GR.v_ext _ f4 hE
  replace hB := Base.step hB hE hO; clear hE
  refine li_nil (nx_then ?_)
  refine wp_cond_b q14 (fun hc => ?_) (fun hc => ?_)
  ·
   replace h := Comp.run_b_t hc h; clear hc
   refine wp_seq ?_
   refine' region [_] mixed hA (.cons (fun _ _ hE hK hg => ok_assign rfl) .nil) ?zok5 ?zgd5 ?zk5
   case zok5 | zgd5 => kernel_rfl
   intro a5 w5 hA hE HF
   have q4 := ksv (HF 4) rfl rfl rfl
   clear q2
   clear q3
   clear q14
   clear HF
   replace f2 := GR.v_ext _ f2 hE
   replace f4 := GR.v_ext _ f4 hE
   replace hB := Base.step hB hE hO; clear hE
   refine li_nil (nx_then (wp_ret (rt_then ?_)))
   have h := Comp.run_pure h; subst h
   exact retPure Try.results116 hA q4 hB.ext rfl
  ·
   replace h := Comp.run_b_f hc h; clear hc
   refine wp_skip (nx_then (wp_seq (wp_seq ?_)))
   refine' region [SP.ptr rStr O x_1.Before, SP.isv (.string (str x_1.Before)), SP.ptr rStr O x_0.After, SP.isv (.string (str x_0.After)), _] mixed hA (.cons (fun _ _ hE hK hg => okl_fldB (S := r_aEn) fit_aEn rfl (fun _ => rfl) sb_aEn_5 fl26_5 (kn (hK 3 rfl) rfl q3) (GR.v_ext _ f4 hE)) (.cons (fun _ _ hE hK hg => okl_ldr rStr (fun _ => rfl) ty9 rfl rfl rfl (kspS (φ := SP.ptr rStr O x_1.Before) (j := 0) (hK 15 rfl) rfl rfl rfl) (fun _ _ _ h => rStr_v.1 h)) (.cons (fun _ _ hE hK hg => okl_fldB (S := r_aEn) fit_aEn rfl (fun _ => rfl) sb_aEn_6 fl26_6 (kn (hK 2 rfl) rfl q2) (GR.v_ext _ f2 hE)) (.cons (fun _ _ hE hK hg => okl_ldr rStr (fun _ => rfl) ty9 rfl rfl rfl (kspS (φ := SP.ptr rStr O x_0.After) (j := 2) (hK 17 rfl) rfl rfl rfl) (fun _ _ _ h => rStr_v.1 h)) (.cons (fun _ _ hE hK hg => okl_neqS (ksv (j := 1) (hK 16 rfl) rfl rfl rfl) (ksv (j := 3) (hK 18 rfl) rfl rfl rfl)) .nil))))) ?zok6 ?zgd6 ?zk6
   case zok6 | zgd6 => kernel_rfl
   intro a6 w6 hA hE HF
   have q19 := ksv (HF 19) rfl rfl rfl
   clear q2
   clear q3
   clear q14
   clear HF
   replace f2 := GR.v_ext _ f2 hE
   replace f4 := GR.v_ext _ f4 hE
   replace hB := Base.step hB hE hO; clear hE
   refine li_nil (nx_then ?_)
   refine wp_cond_b q19 (fun hc => ?_) (fun hc => ?_)
   ·
    replace h := Comp.run_b_t hc h; clear hc
    refine wp_seq ?_
    refine' region [_] mixed hA (.cons (fun _ _ hE hK hg => ok_assign rfl) .nil) ?zok7 ?zgd7 ?zk7
    case zok7 | zgd7 => kernel_rfl
    intro a7 w7 hA hE HF
    have q4 := ksv (HF 4) rfl rfl rfl
    clear q19
    clear HF
    replace hB := Base.step hB hE hO; clear hE
    refine li_nil (nx_then (wp_ret (rt_then ?_)))
    have h := Comp.run_pure h; subst h
    exact retPure Try.results116 hA q4 hB.ext rfl
   ·
    replace h := Comp.run_b_f hc h; clear hc
    refine wp_skip (nx_then (wp_seq ?_))
    refine' region [_] mixed hA (.cons (fun _ _ hE hK hg => ok_assign rfl) .nil) ?zok8 ?zgd8 ?zk8
    case zok8 | zgd8 => kernel_rfl
    intro a8 w8 hA hE HF
    have q4 := ksv (HF 4) rfl rfl rfl
    clear q19
    clear HF
    replace hB := Base.step hB hE hO; clear hE
    refine li_nil (nx_then (wp_ret ?_))
    have h := Comp.run_pure h; subst h
    exact retPure Try.results116 hA q4 hB.ext rfl
theorem ok_colletref02_Check {O : Tags} {w0 : World} (hO : OkO O w0) {x_0 : Bytes} {x_1 : Bytes} {x_2 : Bytes} {n : Nat} {y : Bool} (h : (colletref02_Check x_0 x_1 x_2).run n = some y) : Pure Try.prog 33 #[.string (str x_0), .string (str x_1), .string (str x_2)] w0 (SP.isv (.bool y)).holds := by
 unfold colletref02_Check at h
 refine pure_of_wp Try.func33 rfl 16 Try.ntmps33 (by simp) fun a0 hA hs0 => ?_
 have q0 : a0.get 0 = .string (str x_0) := hs0 0 _ rfl
 have q1 : a0.get 1 = .string (str x_1) := hs0 1 _ rfl
 have q2 : a0.get 2 = .string (str x_2) := hs0 2 _ rfl
 clear hs0
 have hB : Base (Fr w0) O w0 O w0 := Base.start hO
 refine wp_seq ?_
 refine' region [_] mixed hA (.cons (fun _ _ hE hK hg => ok_assign rfl) .nil) ?zok1 ?zgd1 ?zk1
 case zok1 | zgd1 => kernel_rfl
 intro a1 w1 hA hE HF
 replace q0 := kn (HF 0) rfl q0
 replace q1 := kn (HF 1) rfl q1
 replace q2 := kn (HF 2) rfl q2
 clear HF
 replace hB := Base.step hB hE hO; clear hE
 refine li_nil (nx_then (wp_seq ?_))
 obtain ⟨x1, hx1, h⟩ := Comp.run_bind h
 refine' region [_, _, _, _, _, _, SP.isv (.string (str x1)), _, _, _] mixed hA (.cons (fun _ _ hE hK hg => ok_move (kn (hK 0 rfl) rfl q0)) (.cons (fun _ _ hE hK hg => okl_neqS (ksv (j := 0) (hK 7 rfl) rfl rfl rfl) rfl) (.cons (fun _ _ hE hK hg => ok_move (ksv (j := 1) (hK 8 rfl) rfl rfl rfl)) (.cons (fun _ _ hE hK hg => ok_move (kn (hK 2 rfl) rfl q2)) (.cons (fun _ _ hE hK hg => ok_move (kn (hK 0 rfl) rfl q0)) (.cons (fun _ _ hE hK hg => ok_move (kn (hK 1 rfl) rfl q1)) (.cons ?z2_6 (.cons ?z2_7 (.cons ?z2_8 (.cons (fun _ _ hE hK hg => ok_assign (ksv (j := 8) (hK 15 rfl) rfl rfl rfl)) .nil)))))))))) ?zok2 ?zgd2 ?zk2
 case z2_6 => intro a' w' hE hK hg; have c_ := ok_colletref02_Mark (OkO.ext hB.ok hE)  (run_gdb hx1 hg); exact ok_call2 fn61 (ksv (j := 4) (hK 11 rfl) rfl rfl hg) (ksv (j := 5) (hK 12 rfl) rfl rfl hg) c_
 case z2_7 => intro a' w' hE hK hg; exact okl_eqlS (ksv (j := 3) (hK 10 rfl) rfl rfl hg) (ksv (j := 6) (hK 13 rfl) rfl rfl hg)
 case z2_8 => intro a' w' hE hK hg; exact ok_pick (ksv (j := 2) (hK 9 rfl) rfl rfl rfl) (fun hb => ksv (j := 7) (hK 14 rfl) rfl rfl (act_g1 rfl rfl hb)) (fun _ => rfl)
 case zok2 | zgd2 => kernel_rfl
 intro a2 w2 hA hE HF
 have q6 := ksv (HF 6) rfl rfl rfl
 clear q0
 clear q1
 clear q2
 clear HF
 replace hB := Base.step hB hE hO; clear hE
 obtain ⟨x2, hx_, h⟩ := Comp.run_bind h; replace hx_ := Comp.run_pure hx_; rw [hx_] at q6; clear hx_
 refine li_nil (nx_then (wp_ret ?_))
 have h := Comp.run_pure h; subst h
 exact retPure Try.results33 hA q6 hB.ext rfl
theorem ok_r7_entry {O : Tags} {w0 : World} (hO : OkO O w0) {v_0 : Value} {x_0 : List Bytes} (h_0 : (rSl rStr).v O w0 v_0 x_0) {v_1 : Value} {x_1 : List aEn} (h_1 : (rSl r_aEn).v O w0 v_1 x_1) {x_2 : Int} {n : Nat} {y : Int} (h : (r7_entry x_0 x_1 x_2).run n = some y) : Pure Try.prog 68 #[v_0, v_1, .int .i64 x_2] w0 (SP.isv (.int .i64 y)).holds := by
 unfold r7_entry at h
 refine pure_of_wp Try.func68 rfl 123 Try.ntmps68 (by simp) fun a0 hA hs0 => ?_
 have q0 : a0.get 0 = v_0 := hs0 0 _ rfl
 have q1 : a0.get 1 = v_1 := hs0 1 _ rfl
 have q2 : a0.get 2 = .int .i64 x_2 := hs0 2 _ rfl
 clear hs0
 have hB : Base (Fr w0) O w0 O w0 := Base.start hO
 refine wp_seq ?_
 refine' region [_] mixed hA (.cons (fun _ _ hE hK hg => ok_assign rfl) .nil) ?zok1 ?zgd1 ?zk1
 case zok1 | zgd1 => kernel_rfl
 intro a1 w1 hA hE HF
 replace q0 := kn (HF 0) rfl q0
 replace q1 := kn (HF 1) rfl q1
 replace q2 := kn (HF 2) rfl q2
 clear HF
 replace h_0 := GR.v_ext _ h_0 hE
 replace h_1 := GR.v_ext _ h_1 hE
 replace hB := Base.step hB hE hO; clear hE
 refine li_nil (nx_then (wp_seq ?_))
 obtain ⟨x1, hx1, h⟩ := Comp.run_bind h
 refine' regionT [_, _, SP.ptr r_aEn O x1, SP.isv (.agg #[.int .i64 x1.Seq, .int .i64 x1.Shop, .int .i64 x1.Kind, .int .i64 x1.Day, .int .i64 x1.N, .string (str x1.Before), .string (str x1.After), .string (str x1.Prev), .string (str x1.Mark)])] hA (.cons (fun _ _ hE hK hg => ok_move (kn (hK 1 rfl) rfl q1)) (.cons (fun _ _ hE hK hg => ok_move (kn (hK 2 rfl) rfl q2)) (.cons (fun _ _ hE hK hg => okl_idx (r := r_aEn) (O := O) ty29 ty26 rfl (ksv (j := 0) (hK 9 rfl) rfl rfl rfl) (rd_of (GR.v_ext _ h_1 hE)) (ksv (j := 1) (hK 10 rfl) rfl rfl rfl) hx1) (.cons (fun _ _ hE hK hg => okl_ldr r_aEn fit_aEn ty26 rfl rfl rfl (kspS (φ := SP.ptr r_aEn O x1) (j := 2) (hK 11 rfl) rfl rfl rfl) (fun _ _ _ h => rC_v.1 h)) .nil)))) ?zok2 ?zgd2 ?zk2
 case zok2 | zgd2 => kernel_rfl
 intro a2 w2 hA hE HF
 replace q0 := kn (HF 0) rfl q0
 replace q1 := kn (HF 1) rfl q1
 replace q2 := kn (HF 2) rfl q2
 have q12 := ksv (HF 12) rfl rfl rfl
 clear HF
 replace h_0 := GR.v_ext _ h_0 hE
 replace h_1 := GR.v_ext _ h_1 hE
 replace hB := Base.step hB hE hO; clear hE
 refine l_ok (φ := SP.box w2.heap.size #[.int .i64 0, .int .i64 0, .int .i64 0, .int .i64 0, .int .i64 0, .string (str []), .string (str []), .string (str []), .string (str [])] 26) hO hB (by exact ok_alloc (Nat.le_refl _) ty26) rfl fun u2 w3 hE hB' f3 => ?_
 clear hB'; obtain ⟨O4, b6, hB', hX, e_, f5⟩ := boxNew hO hB hE f3 1 (by decide)
 subst e_; clear hB f3; have hB := hB'; clear hB'
 replace h_0 := GR.kx _ h_0 hX (by decide)
 replace h_1 := GR.kx _ h_1 hX (by decide)
 clear hX hE
 refine put_cont hA (by decide) fun a4 hA q_ hfr => ?_
 replace q0 := (hfr 0 rfl).trans q0
 replace q1 := (hfr 1 rfl).trans q1
 replace q2 := (hfr 2 rfl).trans q2
 replace q12 := (hfr 12 rfl).trans q12
 have q7 := q_; clear q_ hfr
 refine l_storeSub (vs := [.int .i64 x1.Seq, .int .i64 x1.Shop, .int .i64 x1.Kind, .int .i64 x1.Day, .int .i64 x1.N, .string (str x1.Before), .string (str x1.After), .string (str x1.Prev), .string (str x1.Mark)]) (cs' := #[.int .i64 x1.Seq, .int .i64 x1.Shop, .int .i64 x1.Kind, .int .i64 x1.Day, .int .i64 x1.N, .string (str x1.Before), .string (str x1.After), .string (str x1.Prev), .string (str x1.Mark)]) hO hB (okB_fr hB) ty26 q7 q12 rfl (by simp [Value.oneCell']) f5 (by simp) rfl fun w5 f7 hB' hX => ?_
 clear hB f5; have hB := hB'; clear hB'
 replace h_0 := GR.kx _ h_0 hX (by decide)
 replace h_1 := GR.kx _ h_1 hX (by decide)
 clear hX
 refine li_nil (nx_then (wp_seq (wp_seq ?_)))
 refine' region [SP.isv (.pointer (some ⟨b6, 0, none⟩)), SP.isv (.int .i64 x1.Seq), _, _] mixed hA (.cons (fun _ _ hE hK hg => ok_fieldAddr fl26_0 (kn (hK 7 rfl) rfl q7)) (.cons (fun _ _ hE hK hg => ok_loadOwn ty3 rfl (ksv (j := 0) (hK 13 rfl) rfl rfl rfl) (OwnB.ext f7 hE).own rfl) (.cons (fun _ _ hE hK hg => ok_move (kn (hK 2 rfl) rfl q2)) (.cons (fun _ _ hE hK hg => ok_neqI (ksv (j := 1) (hK 14 rfl) rfl rfl rfl) (ksv (j := 2) (hK 15 rfl) rfl rfl rfl)) .nil)))) ?zok3 ?zgd3 ?zk3
 case zok3 | zgd3 => kernel_rfl
 intro a6 w6 hA hE HF
 replace q0 := kn (HF 0) rfl q0
 replace q1 := kn (HF 1) rfl q1
 replace q2 := kn (HF 2) rfl q2
 replace q7 := kn (HF 7) rfl q7
 have q16 := ksv (HF 16) rfl rfl rfl
 clear HF
 replace h_0 := GR.v_ext _ h_0 hE
 replace h_1 := GR.v_ext _ h_1 hE
 replace f7 := f7.ext hE
 replace hB := Base.step hB hE hO; clear hE
 refine li_nil (nx_then ?_)
 refine wp_cond_b q16 (fun hc => ?_) (fun hc => ?_)
 ·
  replace h := Comp.run_b_t hc h; clear hc
  refine wp_seq ?_
  refine' region [_] mixed hA (.cons (fun _ _ hE hK hg => ok_assign rfl) .nil) ?zok4 ?zgd4 ?zk4
  case zok4 | zgd4 => kernel_rfl
  intro a7 w7 hA hE HF
  have q6 := ksv (HF 6) rfl rfl rfl
  clear q0
  clear q1
  clear q2
  clear q7
  clear q16
  clear HF
  replace h_0 := GR.v_ext _ h_0 hE
  replace h_1 := GR.v_ext _ h_1 hE
  replace f7 := f7.ext hE
  replace hB := Base.step hB hE hO; clear hE
  refine li_nil (nx_then (wp_ret (rt_then ?_)))
  have h := Comp.run_pure h; subst h
  exact retPure Try.results68 hA q6 hB.ext rfl
 ·
  replace h := Comp.run_b_f hc h; clear hc
  refine wp_skip (nx_then (wp_seq (wp_seq ?_)))
  obtain ⟨x8, hx8, h⟩ := Comp.run_bind h
  obtain ⟨x9, hx9, h⟩ := Comp.run_bind h
  obtain ⟨x10, hx10, h⟩ := Comp.run_bind h
  refine' region [_, SP.isv (.pointer (some ⟨b6, 1, none⟩)), SP.isv (.int .i64 x1.Shop), SP.isv (.bool x8), _, _, _, _, _, SP.isv (.pointer (some ⟨b6, 1, none⟩)), SP.isv (.int .i64 x1.Shop), _, _, _, SP.ptr r_aEn O4 x9, SP.isv (.agg #[.int .i64 x9.Seq, .int .i64 x9.Shop, .int .i64 x9.Kind, .int .i64 x9.Day, .int .i64 x9.N, .string (str x9.Before), .string (str x9.After), .string (str x9.Prev), .string (str x9.Mark)]), SP.isv (.int .i64 x10), _, _, _] mixed hA (.cons (fun _ _ hE hK hg => ok_move (kn (hK 0 rfl) rfl q0)) (.cons (fun _ _ hE hK hg => ok_fieldAddr fl26_1 (kn (hK 7 rfl) rfl q7)) (.cons (fun _ _ hE hK hg => ok_loadOwn ty3 rfl (ksv (j := 1) (hK 18 rfl) rfl rfl rfl) (OwnB.ext f7 hE).own rfl) (.cons ?z5_3 (.cons (fun _ _ hE hK hg => ok_not (ksv (j := 3) (hK 20 rfl) rfl rfl rfl)) (.cons (fun _ _ hE hK hg => ok_move (ksv (j := 4) (hK 21 rfl) rfl rfl rfl)) (.cons (fun _ _ hE hK hg => ok_move (kn (hK 2 rfl) rfl q2)) (.cons ?z5_7 (.cons ?z5_8 (.cons (fun _ _ hE hK hg => ok_fieldAddr fl26_1 (kn (hK 7 rfl) rfl q7)) (.cons ?z5_10 (.cons (fun _ _ hE hK hg => ok_move (kn (hK 1 rfl) rfl q1)) (.cons (fun _ _ hE hK hg => ok_move (kn (hK 2 rfl) rfl q2)) (.cons ?z5_13 (.cons ?z5_14 (.cons ?z5_15 (.cons ?z5_16 (.cons ?z5_17 (.cons ?z5_18 (.cons ?z5_19 .nil)))))))))))))))))))) ?zok5 ?zgd5 ?zk5
  case z5_3 => intro a' w' hE hK hg; have c_ := ok_r7_shop (OkO.ext hB.ok hE) (GR.v_ext _ h_0 hE) hx8; exact ok_call2 fn113 (ksv (j := 0) (hK 17 rfl) rfl rfl rfl) (ksv (j := 2) (hK 19 rfl) rfl rfl rfl) c_
  case z5_7 => intro a' w' hE hK hg; exact ok_gtr (ksv (j := 6) (hK 23 rfl) rfl rfl hg) rfl
  case z5_8 => intro a' w' hE hK hg; exact ok_move (ksv (j := 7) (hK 24 rfl) rfl rfl hg)
  case z5_10 => intro a' w' hE hK hg; exact ok_loadOwn ty3 rfl (ksv (j := 9) (hK 26 rfl) rfl rfl hg) (OwnB.ext f7 hE).own rfl
  case z5_13 => intro a' w' hE hK hg; exact ok_sub (ksv (j := 12) (hK 29 rfl) rfl rfl hg) rfl
  case z5_14 => intro a' w' hE hK hg; exact okl_idx (r := r_aEn) (O := O4) ty29 ty26 rfl (ksv (j := 11) (hK 28 rfl) rfl rfl hg) (rd_of (GR.v_ext _ h_1 hE)) (ksv (j := 13) (hK 30 rfl) rfl rfl hg) (run_gdb hx9 hg)
  case z5_15 => intro a' w' hE hK hg; exact okl_ldr r_aEn fit_aEn ty26 rfl rfl rfl (kspS (φ := SP.ptr r_aEn O4 x9) (j := 14) (hK 31 rfl) rfl rfl hg) (fun _ _ _ h => rC_v.1 h)
  case z5_16 => intro a' w' hE hK hg; have c_ := ok_r7_writer (OkO.ext hB.ok hE)  (run_gdb hx10 hg); exact ok_call1 fn75 (ksv (j := 15) (hK 32 rfl) rfl rfl hg) c_
  case z5_17 => intro a' w' hE hK hg; exact ok_neqI (ksv (j := 10) (hK 27 rfl) rfl rfl hg) (ksv (j := 16) (hK 33 rfl) rfl rfl hg)
  case z5_18 => intro a' w' hE hK hg; exact ok_pick (ksv (j := 8) (hK 25 rfl) rfl rfl hg) (fun hb => ksv (j := 17) (hK 34 rfl) rfl rfl (act_g1 rfl hg hb)) (fun _ => rfl)
  case z5_19 => intro a' w' hE hK hg; exact ok_pick (ksv (j := 5) (hK 22 rfl) rfl rfl rfl) (fun _ => rfl) (fun hb => ksv (j := 18) (hK 35 rfl) rfl rfl (act_g1 rfl rfl hb))
  case zok5 | zgd5 => kernel_rfl
  intro a8 w8 hA hE HF
  replace q0 := kn (HF 0) rfl q0
  replace q1 := kn (HF 1) rfl q1
  replace q2 := kn (HF 2) rfl q2
  replace q7 := kn (HF 7) rfl q7
  have q36 := ksv (HF 36) rfl rfl rfl
  clear q16
  clear HF
  replace h_0 := GR.v_ext _ h_0 hE
  replace h_1 := GR.v_ext _ h_1 hE
  replace f7 := f7.ext hE
  replace hB := Base.step hB hE hO; clear hE
  obtain ⟨x11, hx_, h⟩ := Comp.run_bind h; replace hx_ := Comp.run_pure hx_; rw [hx_] at q36; clear hx_
  refine li_nil (nx_then ?_)
  refine wp_cond_b q36 (fun hc => ?_) (fun hc => ?_)
  ·
   replace h := Comp.run_b_t hc h; clear hc
   refine wp_seq ?_
   refine' region [_] mixed hA (.cons (fun _ _ hE hK hg => ok_assign rfl) .nil) ?zok6 ?zgd6 ?zk6
   case zok6 | zgd6 => kernel_rfl
   intro a9 w9 hA hE HF
   have q6 := ksv (HF 6) rfl rfl rfl
   clear q0
   clear q1
   clear q2
   clear q7
   clear q36
   clear HF
   replace h_0 := GR.v_ext _ h_0 hE
   replace h_1 := GR.v_ext _ h_1 hE
   replace f7 := f7.ext hE
   replace hB := Base.step hB hE hO; clear hE
   refine li_nil (nx_then (wp_ret (rt_then ?_)))
   have h := Comp.run_pure h; subst h
   exact retPure Try.results68 hA q6 hB.ext rfl
  ·
   replace h := Comp.run_b_f hc h; clear hc
   refine wp_skip (nx_then (wp_seq (wp_seq ?_)))
   refine' region [_, _, _, SP.isv (.pointer (some ⟨b6, 2, none⟩)), SP.isv (.int .i64 x1.Kind), _, _, _, _, _, _, SP.isv (.pointer (some ⟨b6, 2, none⟩)), SP.isv (.int .i64 x1.Kind), _, _, _, SP.isv (.pointer (some ⟨b6, 2, none⟩)), SP.isv (.int .i64 x1.Kind), _, _, _, SP.isv (.pointer (some ⟨b6, 2, none⟩)), SP.isv (.int .i64 x1.Kind), _, _, _] mixed hA (.cons (fun _ _ hE hK hg => ok_move (kn (hK 2 rfl) rfl q2)) (.cons (fun _ _ hE hK hg => ok_eqlI (ksv (j := 0) (hK 37 rfl) rfl rfl rfl) rfl) (.cons (fun _ _ hE hK hg => ok_move (ksv (j := 1) (hK 38 rfl) rfl rfl rfl)) (.cons (fun _ _ hE hK hg => ok_fieldAddr fl26_2 (kn (hK 7 rfl) rfl q7)) (.cons ?z7_4 (.cons ?z7_5 (.cons ?z7_6 (.cons (fun _ _ hE hK hg => ok_move (ksv (j := 6) (hK 43 rfl) rfl rfl rfl)) (.cons (fun _ _ hE hK hg => ok_move (kn (hK 2 rfl) rfl q2)) (.cons ?z7_9 (.cons ?z7_10 (.cons (fun _ _ hE hK hg => ok_fieldAddr fl26_2 (kn (hK 7 rfl) rfl q7)) (.cons ?z7_12 (.cons ?z7_13 (.cons ?z7_14 (.cons ?z7_15 (.cons (fun _ _ hE hK hg => ok_fieldAddr fl26_2 (kn (hK 7 rfl) rfl q7)) (.cons ?z7_17 (.cons ?z7_18 (.cons ?z7_19 (.cons ?z7_20 (.cons (fun _ _ hE hK hg => ok_fieldAddr fl26_2 (kn (hK 7 rfl) rfl q7)) (.cons ?z7_22 (.cons ?z7_23 (.cons ?z7_24 (.cons ?z7_25 .nil)))))))))))))))))))))))))) ?zok7 ?zgd7 ?zk7
   case z7_4 => intro a' w' hE hK hg; exact ok_loadOwn ty3 rfl (ksv (j := 3) (hK 40 rfl) rfl rfl hg) (OwnB.ext f7 hE).own rfl
   case z7_5 => intro a' w' hE hK hg; exact ok_neqI (ksv (j := 4) (hK 41 rfl) rfl rfl hg) rfl
   case z7_6 => intro a' w' hE hK hg; exact ok_pick (ksv (j := 2) (hK 39 rfl) rfl rfl rfl) (fun hb => ksv (j := 5) (hK 42 rfl) rfl rfl (act_g1 rfl rfl hb)) (fun _ => rfl)
   case z7_9 => intro a' w' hE hK hg; exact ok_gtr (ksv (j := 8) (hK 45 rfl) rfl rfl hg) rfl
   case z7_10 => intro a' w' hE hK hg; exact ok_move (ksv (j := 9) (hK 46 rfl) rfl rfl hg)
   case z7_12 => intro a' w' hE hK hg; exact ok_loadOwn ty3 rfl (ksv (j := 11) (hK 48 rfl) rfl rfl hg) (OwnB.ext f7 hE).own rfl
   case z7_13 => intro a' w' hE hK hg; exact ok_neqI (ksv (j := 12) (hK 49 rfl) rfl rfl hg) rfl
   case z7_14 => intro a' w' hE hK hg; exact ok_pick (ksv (j := 10) (hK 47 rfl) rfl rfl hg) (fun hb => ksv (j := 13) (hK 50 rfl) rfl rfl (act_g1 rfl hg hb)) (fun _ => rfl)
   case z7_15 => intro a' w' hE hK hg; exact ok_move (ksv (j := 14) (hK 51 rfl) rfl rfl hg)
   case z7_17 => intro a' w' hE hK hg; exact ok_loadOwn ty3 rfl (ksv (j := 16) (hK 53 rfl) rfl rfl hg) (OwnB.ext f7 hE).own rfl
   case z7_18 => intro a' w' hE hK hg; exact ok_neqI (ksv (j := 17) (hK 54 rfl) rfl rfl hg) rfl
   case z7_19 => intro a' w' hE hK hg; exact ok_pick (ksv (j := 15) (hK 52 rfl) rfl rfl hg) (fun hb => ksv (j := 18) (hK 55 rfl) rfl rfl (act_g1 rfl hg hb)) (fun _ => rfl)
   case z7_20 => intro a' w' hE hK hg; exact ok_move (ksv (j := 19) (hK 56 rfl) rfl rfl hg)
   case z7_22 => intro a' w' hE hK hg; exact ok_loadOwn ty3 rfl (ksv (j := 21) (hK 58 rfl) rfl rfl hg) (OwnB.ext f7 hE).own rfl
   case z7_23 => intro a' w' hE hK hg; exact ok_neqI (ksv (j := 22) (hK 59 rfl) rfl rfl hg) rfl
   case z7_24 => intro a' w' hE hK hg; exact ok_pick (ksv (j := 20) (hK 57 rfl) rfl rfl hg) (fun hb => ksv (j := 23) (hK 60 rfl) rfl rfl (act_g1 rfl hg hb)) (fun _ => rfl)
   case z7_25 => intro a' w' hE hK hg; exact ok_pick (ksv (j := 7) (hK 44 rfl) rfl rfl rfl) (fun _ => rfl) (fun hb => ksv (j := 24) (hK 61 rfl) rfl rfl (act_g1 rfl rfl hb))
   case zok7 | zgd7 => kernel_rfl
   intro a10 w10 hA hE HF
   replace q0 := kn (HF 0) rfl q0
   replace q1 := kn (HF 1) rfl q1
   replace q2 := kn (HF 2) rfl q2
   replace q7 := kn (HF 7) rfl q7
   have q62 := ksv (HF 62) rfl rfl rfl
   clear q36
   clear HF
   replace h_0 := GR.v_ext _ h_0 hE
   replace h_1 := GR.v_ext _ h_1 hE
   replace f7 := f7.ext hE
   replace hB := Base.step hB hE hO; clear hE
   obtain ⟨x12, hx_, h⟩ := Comp.run_bind h; replace hx_ := Comp.run_pure hx_; rw [hx_] at q62; clear hx_
   refine li_nil (nx_then ?_)
   refine wp_cond_b q62 (fun hc => ?_) (fun hc => ?_)
   ·
    replace h := Comp.run_b_t hc h; clear hc
    refine wp_seq ?_
    refine' region [_] mixed hA (.cons (fun _ _ hE hK hg => ok_assign rfl) .nil) ?zok8 ?zgd8 ?zk8
    case zok8 | zgd8 => kernel_rfl
    intro a11 w11 hA hE HF
    have q6 := ksv (HF 6) rfl rfl rfl
    clear q0
    clear q1
    clear q2
    clear q7
    clear q62
    clear HF
    replace h_0 := GR.v_ext _ h_0 hE
    replace h_1 := GR.v_ext _ h_1 hE
    replace f7 := f7.ext hE
    replace hB := Base.step hB hE hO; clear hE
    refine li_nil (nx_then (wp_ret (rt_then ?_)))
    have h := Comp.run_pure h; subst h
    exact retPure Try.results68 hA q6 hB.ext rfl
   ·
    replace h := Comp.run_b_f hc h; clear hc
    refine wp_skip (nx_then (wp_seq ?_))
    obtain ⟨x13, hx13, h⟩ := Comp.run_bind h
    refine' region [_, SP.isv (.agg #[.int .i64 x1.Seq, .int .i64 x1.Shop, .int .i64 x1.Kind, .int .i64 x1.Day, .int .i64 x1.N, .string (str x1.Before), .string (str x1.After), .string (str x1.Prev), .string (str x1.Mark)]), SP.isv (.int .i64 x13), _] mixed hA (.cons (fun _ _ hE hK hg => ok_move (kn (hK 0 rfl) rfl q0)) (.cons (fun _ _ hE hK hg => ok_loadOwnAgg ty26 rfl (kn (hK 7 rfl) rfl q7) (OwnB.ext f7 hE).own rfl) (.cons ?z9_2 (.cons (fun _ _ hE hK hg => ok_assign (ksv (j := 2) (hK 65 rfl) rfl rfl rfl)) .nil)))) ?zok9 ?zgd9 ?zk9
    case z9_2 => intro a' w' hE hK hg; have c_ := ok_r7_number (OkO.ext hB.ok hE) (GR.v_ext _ h_0 hE) hx13; exact ok_call2 fn114 (ksv (j := 0) (hK 63 rfl) rfl rfl rfl) (ksv (j := 1) (hK 64 rfl) rfl rfl rfl) c_
    case zok9 | zgd9 => kernel_rfl
    intro a12 w12 hA hE HF
    replace q0 := kn (HF 0) rfl q0
    replace q1 := kn (HF 1) rfl q1
    replace q2 := kn (HF 2) rfl q2
    replace q7 := kn (HF 7) rfl q7
    have q8 := ksv (HF 8) rfl rfl rfl
    clear q62
    clear HF
    replace h_0 := GR.v_ext _ h_0 hE
    replace h_1 := GR.v_ext _ h_1 hE
    replace f7 := f7.ext hE
    replace hB := Base.step hB hE hO; clear hE
    refine li_nil (nx_then (wp_seq (wp_seq ?_)))
    refine' region [_, _] mixed hA (.cons (fun _ _ hE hK hg => ok_move (kn (hK 8 rfl) rfl q8)) (.cons (fun _ _ hE hK hg => ok_neqI (ksv (j := 0) (hK 66 rfl) rfl rfl rfl) rfl) .nil)) ?zok10 ?zgd10 ?zk10
    case zok10 | zgd10 => kernel_rfl
    intro a13 w13 hA hE HF
    replace q0 := kn (HF 0) rfl q0
    replace q1 := kn (HF 1) rfl q1
    replace q2 := kn (HF 2) rfl q2
    replace q7 := kn (HF 7) rfl q7
    replace q8 := kn (HF 8) rfl q8
    have q67 := ksv (HF 67) rfl rfl rfl
    clear HF
    replace h_0 := GR.v_ext _ h_0 hE
    replace h_1 := GR.v_ext _ h_1 hE
    replace f7 := f7.ext hE
    replace hB := Base.step hB hE hO; clear hE
    refine li_nil (nx_then ?_)
    refine wp_cond_b q67 (fun hc => ?_) (fun hc => ?_)
    ·
     replace h := Comp.run_b_t hc h; clear hc
     refine wp_seq ?_
     refine' region [_, _] mixed hA (.cons (fun _ _ hE hK hg => ok_move (kn (hK 8 rfl) rfl q8)) (.cons (fun _ _ hE hK hg => ok_assign (ksv (j := 0) (hK 68 rfl) rfl rfl rfl)) .nil)) ?zok11 ?zgd11 ?zk11
     case zok11 | zgd11 => kernel_rfl
     intro a14 w14 hA hE HF
     have q6 := ksv (HF 6) rfl rfl rfl
     clear q0
     clear q1
     clear q2
     clear q7
     clear q8
     clear q67
     clear HF
     replace h_0 := GR.v_ext _ h_0 hE
     replace h_1 := GR.v_ext _ h_1 hE
     replace f7 := f7.ext hE
     replace hB := Base.step hB hE hO; clear hE
     refine li_nil (nx_then (wp_ret (rt_then ?_)))
     have h := Comp.run_pure h; subst h
     exact retPure Try.results68 hA q6 hB.ext rfl
    ·
     replace h := Comp.run_b_f hc h; clear hc
     refine wp_skip (nx_then (wp_seq (wp_seq ?_)))
     refine' region [SP.isv (.pointer (some ⟨b6, 3, none⟩)), SP.isv (.int .i64 x1.Day), _, _, SP.isv (.pointer (some ⟨b6, 3, none⟩)), SP.isv (.int .i64 x1.Day), _, _] mixed hA (.cons (fun _ _ hE hK hg => ok_fieldAddr fl26_3 (kn (hK 7 rfl) rfl q7)) (.cons (fun _ _ hE hK hg => ok_loadOwn ty3 rfl (ksv (j := 0) (hK 69 rfl) rfl rfl rfl) (OwnB.ext f7 hE).own rfl) (.cons (fun _ _ hE hK hg => ok_lss (ksv (j := 1) (hK 70 rfl) rfl rfl rfl) rfl) (.cons (fun _ _ hE hK hg => ok_move (ksv (j := 2) (hK 71 rfl) rfl rfl rfl)) (.cons (fun _ _ hE hK hg => ok_fieldAddr fl26_3 (kn (hK 7 rfl) rfl q7)) (.cons ?z12_5 (.cons ?z12_6 (.cons ?z12_7 .nil)))))))) ?zok12 ?zgd12 ?zk12
     case z12_5 => intro a' w' hE hK hg; exact ok_loadOwn ty3 rfl (ksv (j := 4) (hK 73 rfl) rfl rfl hg) (OwnB.ext f7 hE).own rfl
     case z12_6 => intro a' w' hE hK hg; exact ok_gtr (ksv (j := 5) (hK 74 rfl) rfl rfl hg) rfl
     case z12_7 => intro a' w' hE hK hg; exact ok_pick (ksv (j := 3) (hK 72 rfl) rfl rfl rfl) (fun _ => rfl) (fun hb => ksv (j := 6) (hK 75 rfl) rfl rfl (act_g1 rfl rfl hb))
     case zok12 | zgd12 => kernel_rfl
     intro a15 w15 hA hE HF
     replace q0 := kn (HF 0) rfl q0
     replace q1 := kn (HF 1) rfl q1
     replace q2 := kn (HF 2) rfl q2
     replace q7 := kn (HF 7) rfl q7
     have q76 := ksv (HF 76) rfl rfl rfl
     clear q8
     clear q67
     clear HF
     replace h_0 := GR.v_ext _ h_0 hE
     replace h_1 := GR.v_ext _ h_1 hE
     replace f7 := f7.ext hE
     replace hB := Base.step hB hE hO; clear hE
     obtain ⟨x14, hx_, h⟩ := Comp.run_bind h; replace hx_ := Comp.run_pure hx_; rw [hx_] at q76; clear hx_
     refine li_nil (nx_then ?_)
     refine wp_cond_b q76 (fun hc => ?_) (fun hc => ?_)
     ·
      replace h := Comp.run_b_t hc h; clear hc
      refine wp_seq ?_
      refine' region [_] mixed hA (.cons (fun _ _ hE hK hg => ok_assign rfl) .nil) ?zok13 ?zgd13 ?zk13
      case zok13 | zgd13 => kernel_rfl
      intro a16 w16 hA hE HF
      have q6 := ksv (HF 6) rfl rfl rfl
      clear q0
      clear q1
      clear q2
      clear q7
      clear q76
      clear HF
      replace h_0 := GR.v_ext _ h_0 hE
      replace h_1 := GR.v_ext _ h_1 hE
      replace f7 := f7.ext hE
      replace hB := Base.step hB hE hO; clear hE
      refine li_nil (nx_then (wp_ret (rt_then ?_)))
      have h := Comp.run_pure h; subst h
      exact retPure Try.results68 hA q6 hB.ext rfl
     ·
      replace h := Comp.run_b_f hc h; clear hc
      refine wp_skip (nx_then ?_)
      refine seq_join (fun a w => ∃ (O19 : Tags) (x16 : Int), a.fit 123 ∧ Base (Fr w0) O w0 O19 w ∧ a.get 0 = v_0 ∧ (rSl rStr).v O19 w v_0 x_0 ∧ a.get 7 = .pointer (some ⟨b6, 0, none⟩) ∧ a.get 8 = .int .i64 x16 ∧ OwnB 1 (Fr w0) O19 w b6 #[.int .i64 x1.Seq, .int .i64 x1.Shop, .int .i64 x1.Kind, .int .i64 x1.Day, .int .i64 x1.N, .string (str x1.Before), .string (str x1.After), .string (str x1.Prev), .string (str x1.Mark)] 26 ∧ (r7_entry_j1 x1 x_0 x16).run n = some y) ?_ ?_
      ·
       refine wp_seq ?_
       refine' region [_, _] mixed hA (.cons (fun _ _ hE hK hg => ok_move (kn (hK 2 rfl) rfl q2)) (.cons (fun _ _ hE hK hg => ok_eqlI (ksv (j := 0) (hK 77 rfl) rfl rfl rfl) rfl) .nil)) ?zok14 ?zgd14 ?zk14
       case zok14 | zgd14 => kernel_rfl
       intro a17 w17 hA hE HF
       replace q0 := kn (HF 0) rfl q0
       replace q1 := kn (HF 1) rfl q1
       replace q2 := kn (HF 2) rfl q2
       replace q7 := kn (HF 7) rfl q7
       have q78 := ksv (HF 78) rfl rfl rfl
       clear q76
       clear HF
       replace h_0 := GR.v_ext _ h_0 hE
       replace h_1 := GR.v_ext _ h_1 hE
       replace f7 := f7.ext hE
       replace hB := Base.step hB hE hO; clear hE
       refine li_nil (nx_then ?_)
       refine wp_cond_b q78 (fun hc => ?_) (fun hc => ?_)
       ·
        replace h := Comp.run_b_t hc h; clear hc
        obtain ⟨x15, hx15, h⟩ := Comp.run_bind h
        refine' region [SP.isv (.agg #[.int .i64 x1.Seq, .int .i64 x1.Shop, .int .i64 x1.Kind, .int .i64 x1.Day, .int .i64 x1.N, .string (str x1.Before), .string (str x1.After), .string (str x1.Prev), .string (str x1.Mark)]), SP.isv (.int .i64 x15), _] mixed hA (.cons (fun _ _ hE hK hg => ok_loadOwnAgg ty26 rfl (kn (hK 7 rfl) rfl q7) (OwnB.ext f7 hE).own rfl) (.cons ?z15_1 (.cons (fun _ _ hE hK hg => ok_assign (ksv (j := 1) (hK 80 rfl) rfl rfl rfl)) .nil))) ?zok15 ?zgd15 ?zk15
        case z15_1 => intro a' w' hE hK hg; have c_ := ok_r7_first (OkO.ext hB.ok hE)  hx15; exact ok_call1 fn115 (ksv (j := 0) (hK 79 rfl) rfl rfl rfl) c_
        case zok15 | zgd15 => kernel_rfl
        intro a18 w18 hA hE HF
        replace q0 := kn (HF 0) rfl q0
        replace q7 := kn (HF 7) rfl q7
        have q8 := ksv (HF 8) rfl rfl rfl
        clear q1
        clear q2
        clear q78
        clear HF
        replace h_0 := GR.v_ext _ h_0 hE
        replace h_1 := GR.v_ext _ h_1 hE
        replace f7 := f7.ext hE
        replace hB := Base.step hB hE hO; clear hE
        refine li_nil (nx_then ?_)
        exact ⟨_, _, hA, hB, q0, h_0, q7, q8, f7, h⟩
       ·
        replace h := Comp.run_b_f hc h; clear hc
        obtain ⟨x17, hx17, h⟩ := Comp.run_bind h
        obtain ⟨x18, hx18, h⟩ := Comp.run_bind h
        refine' region [_, _, _, SP.ptr r_aEn O4 x17, SP.isv (.agg #[.int .i64 x17.Seq, .int .i64 x17.Shop, .int .i64 x17.Kind, .int .i64 x17.Day, .int .i64 x17.N, .string (str x17.Before), .string (str x17.After), .string (str x17.Prev), .string (str x17.Mark)]), SP.isv (.agg #[.int .i64 x1.Seq, .int .i64 x1.Shop, .int .i64 x1.Kind, .int .i64 x1.Day, .int .i64 x1.N, .string (str x1.Before), .string (str x1.After), .string (str x1.Prev), .string (str x1.Mark)]), SP.isv (.int .i64 x18), _] mixed hA (.cons (fun _ _ hE hK hg => ok_move (kn (hK 1 rfl) rfl q1)) (.cons (fun _ _ hE hK hg => ok_move (kn (hK 2 rfl) rfl q2)) (.cons (fun _ _ hE hK hg => ok_sub (ksv (j := 1) (hK 82 rfl) rfl rfl rfl) rfl) (.cons (fun _ _ hE hK hg => okl_idx (r := r_aEn) (O := O4) ty29 ty26 rfl (ksv (j := 0) (hK 81 rfl) rfl rfl rfl) (rd_of (GR.v_ext _ h_1 hE)) (ksv (j := 2) (hK 83 rfl) rfl rfl rfl) hx17) (.cons (fun _ _ hE hK hg => okl_ldr r_aEn fit_aEn ty26 rfl rfl rfl (kspS (φ := SP.ptr r_aEn O4 x17) (j := 3) (hK 84 rfl) rfl rfl rfl) (fun _ _ _ h => rC_v.1 h)) (.cons (fun _ _ hE hK hg => ok_loadOwnAgg ty26 rfl (kn (hK 7 rfl) rfl q7) (OwnB.ext f7 hE).own rfl) (.cons ?z16_6 (.cons (fun _ _ hE hK hg => ok_assign (ksv (j := 6) (hK 87 rfl) rfl rfl rfl)) .nil)))))))) ?zok16 ?zgd16 ?zk16
        case z16_6 => intro a' w' hE hK hg; have c_ := ok_r7_follows (OkO.ext hB.ok hE)  hx18; exact ok_call2 fn116 (ksv (j := 4) (hK 85 rfl) rfl rfl rfl) (ksv (j := 5) (hK 86 rfl) rfl rfl rfl) c_
        case zok16 | zgd16 => kernel_rfl
        intro a19 w19 hA hE HF
        replace q0 := kn (HF 0) rfl q0
        replace q7 := kn (HF 7) rfl q7
        have q8 := ksv (HF 8) rfl rfl rfl
        clear q1
        clear q2
        clear q78
        clear HF
        replace h_0 := GR.v_ext _ h_0 hE
        replace h_1 := GR.v_ext _ h_1 hE
        replace f7 := f7.ext hE
        replace hB := Base.step hB hE hO; clear hE
        refine li_nil (nx_then ?_)
        exact ⟨_, _, hA, hB, q0, h_0, q7, q8, f7, h⟩
      intro a20 w20 hI
      clear hA hB h q0 q1 q2 q7 q76 f7 h_0 h_1
      obtain ⟨O19, x16, hA, hB, q0, h_0, q7, q8, f7, h⟩ := hI
      unfold r7_entry_j1 at h
      refine wp_seq (wp_seq ?_)
      refine' region [_, _] mixed hA (.cons (fun _ _ hE hK hg => ok_move (kn (hK 8 rfl) rfl q8)) (.cons (fun _ _ hE hK hg => ok_neqI (ksv (j := 0) (hK 88 rfl) rfl rfl rfl) rfl) .nil)) ?zok17 ?zgd17 ?zk17
      case zok17 | zgd17 => kernel_rfl
      intro a21 w21 hA hE HF
      replace q0 := kn (HF 0) rfl q0
      replace q7 := kn (HF 7) rfl q7
      replace q8 := kn (HF 8) rfl q8
      have q89 := ksv (HF 89) rfl rfl rfl
      clear HF
      replace h_0 := GR.v_ext _ h_0 hE
      replace f7 := f7.ext hE
      replace hB := Base.step hB hE hO; clear hE
      refine li_nil (nx_then ?_)
      refine wp_cond_b q89 (fun hc => ?_) (fun hc => ?_)
      ·
       replace h := Comp.run_b_t hc h; clear hc
       refine wp_seq ?_
       refine' region [_, _] mixed hA (.cons (fun _ _ hE hK hg => ok_move (kn (hK 8 rfl) rfl q8)) (.cons (fun _ _ hE hK hg => ok_assign (ksv (j := 0) (hK 90 rfl) rfl rfl rfl)) .nil)) ?zok18 ?zgd18 ?zk18
       case zok18 | zgd18 => kernel_rfl
       intro a22 w22 hA hE HF
       have q6 := ksv (HF 6) rfl rfl rfl
       clear q0
       clear q7
       clear q8
       clear q89
       clear HF
       replace h_0 := GR.v_ext _ h_0 hE
       replace f7 := f7.ext hE
       replace hB := Base.step hB hE hO; clear hE
       refine li_nil (nx_then (wp_ret (rt_then ?_)))
       have h := Comp.run_pure h; subst h
       exact retPure Try.results68 hA q6 hB.ext rfl
      ·
       replace h := Comp.run_b_f hc h; clear hc
       refine wp_skip (nx_then (wp_seq (wp_seq ?_)))
       refine' region [SP.isv (.pointer (some ⟨b6, 6, none⟩)), SP.isv (.string (str x1.After)), _, _, _, SP.isv (.pointer (some ⟨b6, 2, none⟩)), SP.isv (.int .i64 x1.Kind), _, _, SP.isv (.pointer (some ⟨b6, 2, none⟩)), SP.isv (.int .i64 x1.Kind), _, _, _, SP.isv (.pointer (some ⟨b6, 6, none⟩)), SP.isv (.string (str x1.After)), SP.isv (.pointer (some ⟨b6, 5, none⟩)), SP.isv (.string (str x1.Before)), _, _, _] mixed hA (.cons (fun _ _ hE hK hg => ok_fieldAddr fl26_6 (kn (hK 7 rfl) rfl q7)) (.cons (fun _ _ hE hK hg => ok_loadOwn ty9 rfl (ksv (j := 0) (hK 91 rfl) rfl rfl rfl) (OwnB.ext f7 hE).own rfl) (.cons (fun _ _ hE hK hg => okl_lenS ty9 (ksv (j := 1) (hK 92 rfl) rfl rfl rfl)) (.cons (fun _ _ hE hK hg => ok_neqI (ksv (j := 2) (hK 93 rfl) rfl rfl rfl) rfl) (.cons (fun _ _ hE hK hg => ok_move (ksv (j := 3) (hK 94 rfl) rfl rfl rfl)) (.cons (fun _ _ hE hK hg => ok_fieldAddr fl26_2 (kn (hK 7 rfl) rfl q7)) (.cons ?z19_6 (.cons ?z19_7 (.cons ?z19_8 (.cons (fun _ _ hE hK hg => ok_fieldAddr fl26_2 (kn (hK 7 rfl) rfl q7)) (.cons ?z19_10 (.cons ?z19_11 (.cons ?z19_12 (.cons ?z19_13 (.cons (fun _ _ hE hK hg => ok_fieldAddr fl26_6 (kn (hK 7 rfl) rfl q7)) (.cons ?z19_15 (.cons (fun _ _ hE hK hg => ok_fieldAddr fl26_5 (kn (hK 7 rfl) rfl q7)) (.cons ?z19_17 (.cons ?z19_18 (.cons ?z19_19 (.cons ?z19_20 .nil))))))))))))))))))))) ?zok19 ?zgd19 ?zk19
       case z19_6 => intro a' w' hE hK hg; exact ok_loadOwn ty3 rfl (ksv (j := 5) (hK 96 rfl) rfl rfl hg) (OwnB.ext f7 hE).own rfl
       case z19_7 => intro a' w' hE hK hg; exact ok_eqlI (ksv (j := 6) (hK 97 rfl) rfl rfl hg) rfl
       case z19_8 => intro a' w' hE hK hg; exact ok_move (ksv (j := 7) (hK 98 rfl) rfl rfl hg)
       case z19_10 => intro a' w' hE hK hg; exact ok_loadOwn ty3 rfl (ksv (j := 9) (hK 100 rfl) rfl rfl hg) (OwnB.ext f7 hE).own rfl
       case z19_11 => intro a' w' hE hK hg; exact ok_eqlI (ksv (j := 10) (hK 101 rfl) rfl rfl hg) rfl
       case z19_12 => intro a' w' hE hK hg; exact ok_pick (ksv (j := 8) (hK 99 rfl) rfl rfl hg) (fun _ => rfl) (fun hb => ksv (j := 11) (hK 102 rfl) rfl rfl (act_g1 rfl hg hb))
       case z19_13 => intro a' w' hE hK hg; exact ok_move (ksv (j := 12) (hK 103 rfl) rfl rfl hg)
       case z19_15 => intro a' w' hE hK hg; exact ok_loadOwn ty9 rfl (ksv (j := 14) (hK 105 rfl) rfl rfl hg) (OwnB.ext f7 hE).own rfl
       case z19_17 => intro a' w' hE hK hg; exact ok_loadOwn ty9 rfl (ksv (j := 16) (hK 107 rfl) rfl rfl hg) (OwnB.ext f7 hE).own rfl
       case z19_18 => intro a' w' hE hK hg; exact okl_neqS (ksv (j := 15) (hK 106 rfl) rfl rfl hg) (ksv (j := 17) (hK 108 rfl) rfl rfl hg)
       case z19_19 => intro a' w' hE hK hg; exact ok_pick (ksv (j := 13) (hK 104 rfl) rfl rfl hg) (fun hb => ksv (j := 18) (hK 109 rfl) rfl rfl (act_g1 rfl hg hb)) (fun _ => rfl)
       case z19_20 => intro a' w' hE hK hg; exact ok_pick (ksv (j := 4) (hK 95 rfl) rfl rfl rfl) (fun _ => rfl) (fun hb => ksv (j := 19) (hK 110 rfl) rfl rfl (act_g1 rfl rfl hb))
       case zok19 | zgd19 => kernel_rfl
       intro a23 w23 hA hE HF
       replace q0 := kn (HF 0) rfl q0
       replace q7 := kn (HF 7) rfl q7
       have q111 := ksv (HF 111) rfl rfl rfl
       clear q8
       clear q89
       clear HF
       replace h_0 := GR.v_ext _ h_0 hE
       replace f7 := f7.ext hE
       replace hB := Base.step hB hE hO; clear hE
       obtain ⟨x20, hx_, h⟩ := Comp.run_bind h; replace hx_ := Comp.run_pure hx_; rw [hx_] at q111; clear hx_
       refine li_nil (nx_then ?_)
       refine wp_cond_b q111 (fun hc => ?_) (fun hc => ?_)
       ·
        replace h := Comp.run_b_t hc h; clear hc
        refine wp_seq ?_
        refine' region [_] mixed hA (.cons (fun _ _ hE hK hg => ok_assign rfl) .nil) ?zok20 ?zgd20 ?zk20
        case zok20 | zgd20 => kernel_rfl
        intro a24 w24 hA hE HF
        have q6 := ksv (HF 6) rfl rfl rfl
        clear q0
        clear q7
        clear q111
        clear HF
        replace h_0 := GR.v_ext _ h_0 hE
        replace f7 := f7.ext hE
        replace hB := Base.step hB hE hO; clear hE
        refine li_nil (nx_then (wp_ret (rt_then ?_)))
        have h := Comp.run_pure h; subst h
        exact retPure Try.results68 hA q6 hB.ext rfl
       ·
        replace h := Comp.run_b_f hc h; clear hc
        refine wp_skip (nx_then (wp_seq (wp_seq ?_)))
        obtain ⟨x21, hx21, h⟩ := Comp.run_bind h
        obtain ⟨x22, hx22, h⟩ := Comp.run_bind h
        obtain ⟨x23, hx23, h⟩ := Comp.run_bind h
        refine' region [_, SP.isv (.pointer (some ⟨b6, 1, none⟩)), SP.isv (.int .i64 x1.Shop), SP.ptr rStr O19 x21, SP.isv (.string (str x21)), SP.isv (.agg #[.int .i64 x1.Seq, .int .i64 x1.Shop, .int .i64 x1.Kind, .int .i64 x1.Day, .int .i64 x1.N, .string (str x1.Before), .string (str x1.After), .string (str x1.Prev), .string (str x1.Mark)]), SP.isv (.string (str x22)), SP.isv (.pointer (some ⟨b6, 8, none⟩)), SP.isv (.string (str x1.Mark)), SP.isv (.bool x23), _] mixed hA (.cons (fun _ _ hE hK hg => ok_move (kn (hK 0 rfl) rfl q0)) (.cons (fun _ _ hE hK hg => ok_fieldAddr fl26_1 (kn (hK 7 rfl) rfl q7)) (.cons (fun _ _ hE hK hg => ok_loadOwn ty3 rfl (ksv (j := 1) (hK 113 rfl) rfl rfl rfl) (OwnB.ext f7 hE).own rfl) (.cons (fun _ _ hE hK hg => okl_idx (r := rStr) (O := O19) ty28 ty9 rfl (ksv (j := 0) (hK 112 rfl) rfl rfl rfl) (rd_of (GR.v_ext _ h_0 hE)) (ksv (j := 2) (hK 114 rfl) rfl rfl rfl) hx21) (.cons (fun _ _ hE hK hg => okl_ldr rStr (fun _ => rfl) ty9 rfl rfl rfl (kspS (φ := SP.ptr rStr O19 x21) (j := 3) (hK 115 rfl) rfl rfl rfl) (fun _ _ _ h => rStr_v.1 h)) (.cons (fun _ _ hE hK hg => ok_loadOwnAgg ty26 rfl (kn (hK 7 rfl) rfl q7) (OwnB.ext f7 hE).own rfl) (.cons ?z21_6 (.cons (fun _ _ hE hK hg => ok_fieldAddr fl26_8 (kn (hK 7 rfl) rfl q7)) (.cons (fun _ _ hE hK hg => ok_loadOwn ty9 rfl (ksv (j := 7) (hK 119 rfl) rfl rfl rfl) (OwnB.ext f7 hE).own rfl) (.cons ?z21_9 (.cons (fun _ _ hE hK hg => ok_not (ksv (j := 9) (hK 121 rfl) rfl rfl rfl)) .nil))))))))))) ?zok21 ?zgd21 ?zk21
        case z21_6 => intro a' w' hE hK hg; have c_ := ok_r7_Bytes (OkO.ext hB.ok hE)  hx22; exact ok_call1 fn18 (ksv (j := 5) (hK 117 rfl) rfl rfl rfl) c_
        case z21_9 => intro a' w' hE hK hg; have c_ := ok_colletref02_Check (OkO.ext hB.ok hE)  hx23; exact ok_call3 fn33 (ksv (j := 4) (hK 116 rfl) rfl rfl rfl) (ksv (j := 6) (hK 118 rfl) rfl rfl rfl) (ksv (j := 8) (hK 120 rfl) rfl rfl rfl) c_
        case zok21 | zgd21 => kernel_rfl
        intro a25 w25 hA hE HF
        have q122 := ksv (HF 122) rfl rfl rfl
        clear q0
        clear q7
        clear q111
        clear HF
        replace h_0 := GR.v_ext _ h_0 hE
        replace f7 := f7.ext hE
        replace hB := Base.step hB hE hO; clear hE
        refine li_nil (nx_then ?_)
        refine wp_cond_b q122 (fun hc => ?_) (fun hc => ?_)
        ·
         replace h := Comp.run_b_t hc h; clear hc
         refine wp_seq ?_
         refine' region [_] mixed hA (.cons (fun _ _ hE hK hg => ok_assign rfl) .nil) ?zok22 ?zgd22 ?zk22
         case zok22 | zgd22 => kernel_rfl
         intro a26 w26 hA hE HF
         have q6 := ksv (HF 6) rfl rfl rfl
         clear q122
         clear HF
         replace hB := Base.step hB hE hO; clear hE
         refine li_nil (nx_then (wp_ret (rt_then ?_)))
         have h := Comp.run_pure h; subst h
         exact retPure Try.results68 hA q6 hB.ext rfl
        ·
         replace h := Comp.run_b_f hc h; clear hc
         refine wp_skip (nx_then (wp_seq ?_))
         refine' region [_] mixed hA (.cons (fun _ _ hE hK hg => ok_assign rfl) .nil) ?zok23 ?zgd23 ?zk23
         case zok23 | zgd23 => kernel_rfl
         intro a27 w27 hA hE HF
         have q6 := ksv (HF 6) rfl rfl rfl
         clear q122
         clear HF
         replace hB := Base.step hB hE hO; clear hE
         refine li_nil (nx_then (wp_ret ?_))
         have h := Comp.run_pure h; subst h
         exact retPure Try.results68 hA q6 hB.ext rfl
theorem ok_r7_Check {O : Tags} {w0 : World} (hO : OkO O w0) {v_0 : Value} {x_0 : List Bytes} (h_0 : (rSl rStr).v O w0 v_0 x_0) {v_1 : Value} {x_1 : List aEn} (h_1 : (rSl r_aEn).v O w0 v_1 x_1) {n : Nat} {y : api_Finding} (h : (r7_Check x_0 x_1).run n = some y) : Pure Try.prog 26 #[v_0, v_1] w0 (SP.isv (.agg #[.int .i64 y.Entry, .int .i64 y.Why])).holds := by
 unfold r7_Check at h
 refine pure_of_wp Try.func26 rfl 37 Try.ntmps26 (by simp) fun a0 hA hs0 => ?_
 have q0 : a0.get 0 = v_0 := hs0 0 _ rfl
 have q1 : a0.get 1 = v_1 := hs0 1 _ rfl
 clear hs0
 have hB : Base (Fr w0) O w0 O w0 := Base.start hO
 refine wp_seq ?_
 refine' region [SP.box w0.heap.size #[.int .i64 0, .int .i64 0] 44] mixed hA (.cons (fun _ _ hE hK hg => ok_alloc hE.size ty44) .nil) ?zok1 ?zgd1 ?zk1
 case zok1 | zgd1 => kernel_rfl
 intro a1 w1 hA hE HF
 replace q0 := kn (HF 0) rfl q0
 replace q1 := kn (HF 1) rfl q1
 have f2 := ksp (HF 4) rfl rfl rfl
 obtain ⟨u1, q4'⟩ : ∃ u, a1.get 4 = u := ⟨_, rfl⟩
 rw [q4'] at f2
 have q4 := q4'; clear q4'
 clear HF
 obtain ⟨O3, b4, hB', hX, e_, f5⟩ := boxNew hO hB hE f2 1 (by decide)
 subst e_
 clear hB f2; have hB := hB'; clear hB'
 replace h_0 := GR.kx _ h_0 hX (by decide)
 replace h_1 := GR.kx _ h_1 hX (by decide)
 clear hX hE
 refine li_nil (nx_then (wp_seq (wp_seq ?_)))
 refine' region [_, _, _, _, _, _, _, _, _, _, _, _, _] mixed hA (.cons (fun _ _ hE hK hg => ok_move (kn (hK 1 rfl) rfl q1)) (.cons (fun _ _ hE hK hg => okl_len (r := r_aEn) ty29 (ksv (j := 0) (hK 7 rfl) rfl rfl rfl) (rd_of (GR.v_ext _ h_1 hE))) (.cons (fun _ _ hE hK hg => ok_gtr (ksv (j := 1) (hK 8 rfl) rfl rfl rfl) rfl) (.cons (fun _ _ hE hK hg => ok_move (ksv (j := 2) (hK 9 rfl) rfl rfl rfl)) (.cons (fun _ _ hE hK hg => ok_move (kn (hK 0 rfl) rfl q0)) (.cons ?z2_5 (.cons ?z2_6 (.cons ?z2_7 (.cons (fun _ _ hE hK hg => ok_move (ksv (j := 7) (hK 14 rfl) rfl rfl rfl)) (.cons (fun _ _ hE hK hg => ok_move (kn (hK 0 rfl) rfl q0)) (.cons ?z2_10 (.cons ?z2_11 (.cons ?z2_12 .nil))))))))))))) ?zok2 ?zgd2 ?zk2
 case z2_5 => intro a' w' hE hK hg; exact okl_len (r := rStr) ty28 (ksv (j := 4) (hK 11 rfl) rfl rfl hg) (rd_of (GR.v_ext _ h_0 hE))
 case z2_6 => intro a' w' hE hK hg; exact ok_lss (ksv (j := 5) (hK 12 rfl) rfl rfl hg) rfl
 case z2_7 => intro a' w' hE hK hg; exact ok_pick (ksv (j := 3) (hK 10 rfl) rfl rfl rfl) (fun _ => rfl) (fun hb => ksv (j := 6) (hK 13 rfl) rfl rfl (act_g1 rfl rfl hb))
 case z2_10 => intro a' w' hE hK hg; exact okl_len (r := rStr) ty28 (ksv (j := 9) (hK 16 rfl) rfl rfl hg) (rd_of (GR.v_ext _ h_0 hE))
 case z2_11 => intro a' w' hE hK hg; exact ok_gtr (ksv (j := 10) (hK 17 rfl) rfl rfl hg) rfl
 case z2_12 => intro a' w' hE hK hg; exact ok_pick (ksv (j := 8) (hK 15 rfl) rfl rfl rfl) (fun _ => rfl) (fun hb => ksv (j := 11) (hK 18 rfl) rfl rfl (act_g1 rfl rfl hb))
 case zok2 | zgd2 => kernel_rfl
 intro a2 w2 hA hE HF
 replace q0 := kn (HF 0) rfl q0
 replace q1 := kn (HF 1) rfl q1
 replace q4 := kn (HF 4) rfl q4
 have q19 := ksv (HF 19) rfl rfl rfl
 clear HF
 replace h_0 := GR.v_ext _ h_0 hE
 replace h_1 := GR.v_ext _ h_1 hE
 replace f5 := f5.ext hE
 replace hB := Base.step hB hE hO; clear hE
 obtain ⟨x6, hx_, h⟩ := Comp.run_bind h; replace hx_ := Comp.run_pure hx_; rw [hx_] at q19; clear hx_
 refine li_nil (nx_then ?_)
 refine wp_cond_b q19 (fun hc => ?_) (fun hc => ?_)
 ·
  replace h := Comp.run_b_t hc h; clear hc
  refine wp_seq ?_
  refine' regionT [SP.isv (.agg #[.int .i64 (-1), .int .i64 2])] hA (.cons (fun _ _ hE hK hg => okl_build plc44 ty44 (pk_cons (v := .int .i64 (-1)) rfl (pk_cons (v := .int .i64 2) rfl pk_nil)) rfl (.cons rfl rfl rfl (leb rfl) (.cons rfl rfl rfl (leb rfl) .nil)) rfl) .nil) ?zok3 ?zgd3 ?zk3
  case zok3 | zgd3 => kernel_rfl
  intro a3 w3 hA hE HF
  replace q4 := kn (HF 4) rfl q4
  have q20 := ksv (HF 20) rfl rfl rfl
  clear q0
  clear q1
  clear q19
  clear HF
  replace h_0 := GR.v_ext _ h_0 hE
  replace h_1 := GR.v_ext _ h_1 hE
  replace f5 := f5.ext hE
  replace hB := Base.step hB hE hO; clear hE
  refine l_storeSub (vs := [.int .i64 (-1), .int .i64 2]) (cs' := #[.int .i64 (-1), .int .i64 2]) hO hB (okB_fr hB) ty44 q4 q20 rfl (by simp [Value.oneCell']) f5 (by simp) rfl fun w4 f7 hB' hX => ?_
  clear hB f5; have hB := hB'; clear hB'
  clear hX
  refine li_nil (nx_then (wp_ret (rt_then ?_)))
  have h := Comp.run_pure h; subst h
  exact retG1 Try.results26 hA (.agg q4 ty44 rfl rfl f7.own) ⟨_, rfl, hB.ext, rfl⟩
 ·
  replace h := Comp.run_b_f hc h; clear hc
  refine wp_skip (nx_then ?_)
  refine seq_join (fun a w => ∃ (O16 : Tags) (x15 : api_Finding), a.fit 37 ∧ Base (Fr w0) O w0 O16 w ∧ a.get 4 = .pointer (some ⟨b4, 0, none⟩) ∧ OwnB 1 (Fr w0) O16 w b4 #[.int .i64 x15.Entry, .int .i64 x15.Why] 44 ∧ (r7_Check_j1 x15).run n = some y) ?_ ?_
  ·
   refine wp_seq ?_
   refine' region [_] mixed hA (.cons (fun _ _ hE hK hg => ok_assign rfl) .nil) ?zok4 ?zgd4 ?zk4
   case zok4 | zgd4 => kernel_rfl
   intro a5 w5 hA hE HF
   replace q0 := kn (HF 0) rfl q0
   replace q1 := kn (HF 1) rfl q1
   replace q4 := kn (HF 4) rfl q4
   have q5 := ksv (HF 5) rfl rfl rfl
   clear q19
   clear HF
   replace h_0 := GR.v_ext _ h_0 hE
   replace h_1 := GR.v_ext _ h_1 hE
   replace f5 := f5.ext hE
   replace hB := Base.step hB hE hO; clear hE
   refine li_nil (nx_then (wp_block ?_))
   obtain ⟨e2, he2, hk2⟩ := Comp.run_bind h; clear h
   refine loop_m (fun m a w => ∃ (O10 : Tags) (x8 : Int) (x9 : api_Finding), a.fit 37 ∧ Base (Fr w0) O w0 O10 w ∧ a.get 0 = v_0 ∧ (rSl rStr).v O10 w v_0 x_0 ∧ a.get 1 = v_1 ∧ (rSl r_aEn).v O10 w v_1 x_1 ∧ a.get 4 = .pointer (some ⟨b4, 0, none⟩) ∧ a.get 5 = .int .i64 x8 ∧ OwnB 1 (Fr w0) O10 w b4 #[.int .i64 x9.Entry, .int .i64 x9.Why] 44 ∧ Comp.loopN (fun s => r7_Check_l2 x_1 x_0 s.1 s.2) n m (x8, x9) = some e2) (m := n) ?st2 ?_
   case st2 =>
    exact ⟨_, _, _, hA, hB, q0, h_0, q1, h_1, q4, q5, f5, Comp.run_loop he2⟩
   intro m_ a6 w6 hI
   clear hA hB he2 q0 q1 q4 q5 f5 h_0 h_1
   obtain ⟨O10, x8, x9, hA, hB, q0, h_0, q1, h_1, q4, q5, f5, hl⟩ := hI
   obtain ⟨m2, hlt2, st2, h, hnext2, hdone2⟩ := Comp.loopN_succ hl; clear hl
   replace h : (r7_Check_l2 x_1 x_0 x8 x9).run n = some st2 := h
   unfold r7_Check_l2 at h
   refine wp_seq (wp_seq ?_)
   refine' region [_, _, _, _] mixed hA (.cons (fun _ _ hE hK hg => ok_move (kn (hK 5 rfl) rfl q5)) (.cons (fun _ _ hE hK hg => ok_move (kn (hK 1 rfl) rfl q1)) (.cons (fun _ _ hE hK hg => okl_len (r := r_aEn) ty29 (ksv (j := 1) (hK 22 rfl) rfl rfl rfl) (rd_of (GR.v_ext _ h_1 hE))) (.cons (fun _ _ hE hK hg => ok_lss (ksv (j := 0) (hK 21 rfl) rfl rfl rfl) (ksv (j := 2) (hK 23 rfl) rfl rfl rfl)) .nil)))) ?zok5 ?zgd5 ?zk5
   case zok5 | zgd5 => kernel_rfl
   intro a7 w7 hA hE HF
   replace q0 := kn (HF 0) rfl q0
   replace q1 := kn (HF 1) rfl q1
   replace q4 := kn (HF 4) rfl q4
   replace q5 := kn (HF 5) rfl q5
   have q24 := ksv (HF 24) rfl rfl rfl
   clear HF
   replace h_0 := GR.v_ext _ h_0 hE
   replace h_1 := GR.v_ext _ h_1 hE
   replace f5 := f5.ext hE
   replace hB := Base.step hB hE hO; clear hE
   refine li_nil (nx_then ?_)
   refine wp_cond_b q24 (fun hc => ?_) (fun hc => ?_)
   ·
    replace h := Comp.run_b_t hc h; clear hc
    refine wp_skip (nx_then (wp_seq (wp_block (wp_seq ?_))))
    obtain ⟨x11, hx11, h⟩ := Comp.run_bind h
    refine' region [_, _, _, SP.isv (.int .i64 x11), _] mixed hA (.cons (fun _ _ hE hK hg => ok_move (kn (hK 0 rfl) rfl q0)) (.cons (fun _ _ hE hK hg => ok_move (kn (hK 1 rfl) rfl q1)) (.cons (fun _ _ hE hK hg => ok_move (kn (hK 5 rfl) rfl q5)) (.cons ?z6_3 (.cons (fun _ _ hE hK hg => ok_assign (ksv (j := 3) (hK 30 rfl) rfl rfl rfl)) .nil))))) ?zok6 ?zgd6 ?zk6
    case z6_3 => intro a' w' hE hK hg; have c_ := ok_r7_entry (OkO.ext hB.ok hE) (GR.v_ext _ h_0 hE) (GR.v_ext _ h_1 hE) hx11; exact ok_call3 fn68 (ksv (j := 0) (hK 27 rfl) rfl rfl rfl) (ksv (j := 1) (hK 28 rfl) rfl rfl rfl) (ksv (j := 2) (hK 29 rfl) rfl rfl rfl) c_
    case zok6 | zgd6 => kernel_rfl
    intro a8 w8 hA hE HF
    replace q0 := kn (HF 0) rfl q0
    replace q1 := kn (HF 1) rfl q1
    replace q4 := kn (HF 4) rfl q4
    replace q5 := kn (HF 5) rfl q5
    have q6 := ksv (HF 6) rfl rfl rfl
    clear q24
    clear HF
    replace h_0 := GR.v_ext _ h_0 hE
    replace h_1 := GR.v_ext _ h_1 hE
    replace f5 := f5.ext hE
    replace hB := Base.step hB hE hO; clear hE
    refine li_nil (nx_then (wp_seq ?_))
    refine' region [_, _] mixed hA (.cons (fun _ _ hE hK hg => ok_move (kn (hK 6 rfl) rfl q6)) (.cons (fun _ _ hE hK hg => ok_neqI (ksv (j := 0) (hK 31 rfl) rfl rfl rfl) rfl) .nil)) ?zok7 ?zgd7 ?zk7
    case zok7 | zgd7 => kernel_rfl
    intro a9 w9 hA hE HF
    replace q0 := kn (HF 0) rfl q0
    replace q1 := kn (HF 1) rfl q1
    replace q4 := kn (HF 4) rfl q4
    replace q5 := kn (HF 5) rfl q5
    replace q6 := kn (HF 6) rfl q6
    have q32 := ksv (HF 32) rfl rfl rfl
    clear HF
    replace h_0 := GR.v_ext _ h_0 hE
    replace h_1 := GR.v_ext _ h_1 hE
    replace f5 := f5.ext hE
    replace hB := Base.step hB hE hO; clear hE
    refine li_nil (nx_then ?_)
    refine wp_cond_b q32 (fun hc => ?_) (fun hc => ?_)
    ·
     replace h := Comp.run_b_t hc h; clear hc
     refine wp_seq ?_
     refine' regionT [_, _, SP.isv (.agg #[.int .i64 x8, .int .i64 x11])] hA (.cons (fun _ _ hE hK hg => ok_move (kn (hK 5 rfl) rfl q5)) (.cons (fun _ _ hE hK hg => ok_move (kn (hK 6 rfl) rfl q6)) (.cons (fun _ _ hE hK hg => okl_build plc44 ty44 (pk_cons (v := .int .i64 x8) (ksv (j := 0) (hK 33 rfl) rfl rfl rfl) (pk_cons (v := .int .i64 x11) (ksv (j := 1) (hK 34 rfl) rfl rfl rfl) pk_nil)) rfl (.cons rfl rfl rfl (leb rfl) (.cons rfl rfl rfl (leb rfl) .nil)) rfl) .nil))) ?zok8 ?zgd8 ?zk8
     case zok8 | zgd8 => kernel_rfl
     intro a10 w10 hA hE HF
     replace q4 := kn (HF 4) rfl q4
     have q35 := ksv (HF 35) rfl rfl rfl
     clear q0
     clear q1
     clear q5
     clear q6
     clear q32
     clear HF
     replace h_0 := GR.v_ext _ h_0 hE
     replace h_1 := GR.v_ext _ h_1 hE
     replace f5 := f5.ext hE
     replace hB := Base.step hB hE hO; clear hE
     refine l_storeSub (vs := [.int .i64 x8, .int .i64 x11]) (cs' := #[.int .i64 x8, .int .i64 x11]) hO hB (okB_fr hB) ty44 q4 q35 rfl (by simp [Value.oneCell']) f5 (by simp) rfl fun w11 f12 hB' hX => ?_
     clear hB f5; have hB := hB'; clear hB'
     clear hX
     refine li_nil (nx_then (wp_ret (rt_blk (rt_then (rt_then (rt_blk (rt_then ?_)))))))
     have hd_ := hdone2 _ (Comp.run_pure h).symm; clear h
     subst hd_; have h := hk2; clear hk2; try dsimp only at h
     have h := Comp.run_pure h; subst h
     exact retG1 Try.results26 hA (.agg q4 ty44 rfl rfl f12.own) ⟨_, rfl, hB.ext, rfl⟩
    ·
     replace h := Comp.run_b_f hc h; clear hc
     refine wp_skip (nx_blk (nx_then ?_))
     refine' region [_, _, _] mixed hA (.cons (fun _ _ hE hK hg => ok_move (kn (hK 5 rfl) rfl q5)) (.cons (fun _ _ hE hK hg => ok_add (ksv (j := 0) (hK 25 rfl) rfl rfl rfl) rfl) (.cons (fun _ _ hE hK hg => ok_assign (ksv (j := 1) (hK 26 rfl) rfl rfl rfl)) .nil))) ?zok9 ?zgd9 ?zk9
     case zok9 | zgd9 => kernel_rfl
     intro a12 w12 hA hE HF
     replace q0 := kn (HF 0) rfl q0
     replace q1 := kn (HF 1) rfl q1
     replace q4 := kn (HF 4) rfl q4
     have q5' := ksv (HF 5) rfl rfl rfl
     replace q5 := q5'; clear q5'
     clear q6
     clear q32
     clear HF
     replace h_0 := GR.v_ext _ h_0 hE
     replace h_1 := GR.v_ext _ h_1 hE
     replace f5 := f5.ext hE
     replace hB := Base.step hB hE hO; clear hE
     refine li_nil (nx_then ?_)
     have h := hnext2 _ (Comp.run_pure h).symm
     refine ⟨m2, hlt2, ?_⟩
     exact ⟨_, _, _, hA, hB, q0, h_0, q1, h_1, q4, q5, f5, h⟩
   ·
    replace h := Comp.run_b_f hc h; clear hc
    refine wp_exit (ex_then (ex_then (ex_same ?_)))
    have hd_ := hdone2 _ (Comp.run_pure h).symm; clear h
    subst hd_; have h := hk2; clear hk2; try dsimp only at h
    refine nx_then ?_
    exact ⟨_, _, hA, hB, q4, f5, h⟩
  intro a13 w13 hI
  clear hA hB h q0 q1 q4 q19 f5 h_0 h_1
  obtain ⟨O16, x15, hA, hB, q4, f5, h⟩ := hI
  unfold r7_Check_j1 at h
  refine wp_seq ?_
  refine' regionT [SP.isv (.agg #[.int .i64 (-1), .int .i64 0])] hA (.cons (fun _ _ hE hK hg => okl_build plc44 ty44 (pk_cons (v := .int .i64 (-1)) rfl pk_nil) rfl (.cons rfl rfl rfl (leb rfl) .nil) rfl) .nil) ?zok10 ?zgd10 ?zk10
  case zok10 | zgd10 => kernel_rfl
  intro a14 w14 hA hE HF
  replace q4 := kn (HF 4) rfl q4
  have q36 := ksv (HF 36) rfl rfl rfl
  clear HF
  replace f5 := f5.ext hE
  replace hB := Base.step hB hE hO; clear hE
  refine l_storeSub (vs := [.int .i64 (-1), .int .i64 0]) (cs' := #[.int .i64 (-1), .int .i64 0]) hO hB (okB_fr hB) ty44 q4 q36 rfl (by simp [Value.oneCell']) f5 (by simp) rfl fun w15 f17 hB' hX => ?_
  clear hB f5; have hB := hB'; clear hB'
  clear hX
  refine li_nil (nx_then (wp_ret ?_))
  have h := Comp.run_pure h; subst h
  exact retG1 Try.results26 hA (.agg q4 ty44 rfl rfl f17.own) ⟨_, rfl, hB.ext, rfl⟩
theorem ok_r7_signed {O : Tags} {w0 : World} (hO : OkO O w0) {v_0 : Value} {x_0 : List Bytes} (h_0 : (rSl rStr).v O w0 v_0 x_0) {x_1 : aEn} {x_2 : Int} {n : Nat} {y : Bool} (h : (r7_signed x_0 x_1 x_2).run n = some y) : Pure Try.prog 70 #[v_0, .agg #[.int .i64 x_1.Seq, .int .i64 x_1.Shop, .int .i64 x_1.Kind, .int .i64 x_1.Day, .int .i64 x_1.N, .string (str x_1.Before), .string (str x_1.After), .string (str x_1.Prev), .string (str x_1.Mark)], .int .i64 x_2] w0 (SP.isv (.bool y)).holds := by
 unfold r7_signed at h
 refine pure_of_wp Try.func70 rfl 29 Try.ntmps70 (by simp) fun a0 hA hs0 => ?_
 have q0 : a0.get 0 = v_0 := hs0 0 _ rfl
 have q1 : a0.get 1 = .agg #[.int .i64 x_1.Seq, .int .i64 x_1.Shop, .int .i64 x_1.Kind, .int .i64 x_1.Day, .int .i64 x_1.N, .string (str x_1.Before), .string (str x_1.After), .string (str x_1.Prev), .string (str x_1.Mark)] := hs0 1 _ rfl
 have q2 : a0.get 2 = .int .i64 x_2 := hs0 2 _ rfl
 clear hs0
 have hB : Base (Fr w0) O w0 O w0 := Base.start hO
 refine wp_seq ?_
 refine' region [SP.vl (rBox r_aEn) O x_1, _] mixed hA (.cons ?z1_0 (.cons (fun _ _ hE hK hg => ok_assign rfl) .nil)) ?zok1 ?zgd1 ?zk1
 case z1_0 => intro a' w' hE hK hg; exact okl_boxV (r := r_aEn) fit_aEn (OkO.ext hB.ok hE) (kn (hK 1 rfl) rfl q1) (by first | exact (rC_v (x := x_1)).2 rfl | exact ⟨_, rfl, rfl⟩)
 case zok1 | zgd1 => kernel_rfl
 intro a1 w1 hA hE HF
 replace q0 := kn (HF 0) rfl q0
 replace q2 := kn (HF 2) rfl q2
 have f2 := ksp (HF 4) rfl rfl rfl
 obtain ⟨u1, q4'⟩ : ∃ u, a1.get 4 = u := ⟨_, rfl⟩
 rw [q4'] at f2
 have q4 := q4'; clear q4'
 clear q1
 clear HF
 replace h_0 := GR.v_ext _ h_0 hE
 replace hB := Base.step hB hE hO; clear hE
 refine li_nil (nx_then (wp_seq ?_))
 obtain ⟨x3, hx3, h⟩ := Comp.run_bind h
 obtain ⟨x4, hx4, h⟩ := Comp.run_bind h
 obtain ⟨x5, hx5, h⟩ := Comp.run_bind h
 obtain ⟨x6, hx6, h⟩ := Comp.run_bind h
 refine' region [SP.ptr (rInt .i64) O x_1.Seq, SP.isv (.int .i64 x_1.Seq), _, _, _, _, SP.ptr (rInt .i64) O x_1.Shop, SP.isv (.int .i64 x_1.Shop), SP.isv (.bool x3), _, _, _, SP.ptr (rInt .i64) O x_1.Shop, SP.isv (.int .i64 x_1.Shop), SP.ptr rStr O x4, SP.isv (.string (str x4)), SP.isv (.agg #[.int .i64 x_1.Seq, .int .i64 x_1.Shop, .int .i64 x_1.Kind, .int .i64 x_1.Day, .int .i64 x_1.N, .string (str x_1.Before), .string (str x_1.After), .string (str x_1.Prev), .string (str x_1.Mark)]), SP.isv (.string (str x5)), SP.ptr rStr O x_1.Mark, SP.isv (.string (str x_1.Mark)), SP.isv (.bool x6), _, _] mixed hA (.cons (fun _ _ hE hK hg => okl_fldB (S := r_aEn) fit_aEn rfl (fun _ => rfl) sb_aEn_0 fl26_0 (kn (hK 4 rfl) rfl q4) (GR.v_ext _ f2 hE)) (.cons (fun _ _ hE hK hg => okl_ldr (rInt .i64) (fun _ => rfl) ty3 rfl rfl rfl (kspS (φ := SP.ptr (rInt .i64) O x_1.Seq) (j := 0) (hK 7 rfl) rfl rfl rfl) (fun _ _ _ h => rInt_v.1 h)) (.cons (fun _ _ hE hK hg => ok_move (kn (hK 2 rfl) rfl q2)) (.cons (fun _ _ hE hK hg => ok_eqlI (ksv (j := 1) (hK 8 rfl) rfl rfl rfl) (ksv (j := 2) (hK 9 rfl) rfl rfl rfl)) (.cons (fun _ _ hE hK hg => ok_move (ksv (j := 3) (hK 10 rfl) rfl rfl rfl)) (.cons (fun _ _ hE hK hg => ok_move (kn (hK 0 rfl) rfl q0)) (.cons (fun _ _ hE hK hg => okl_fldB (S := r_aEn) fit_aEn rfl (fun _ => rfl) sb_aEn_1 fl26_1 (kn (hK 4 rfl) rfl q4) (GR.v_ext _ f2 hE)) (.cons ?z2_7 (.cons ?z2_8 (.cons ?z2_9 (.cons (fun _ _ hE hK hg => ok_move (ksv (j := 9) (hK 16 rfl) rfl rfl rfl)) (.cons (fun _ _ hE hK hg => ok_move (kn (hK 0 rfl) rfl q0)) (.cons (fun _ _ hE hK hg => okl_fldB (S := r_aEn) fit_aEn rfl (fun _ => rfl) sb_aEn_1 fl26_1 (kn (hK 4 rfl) rfl q4) (GR.v_ext _ f2 hE)) (.cons ?z2_13 (.cons ?z2_14 (.cons ?z2_15 (.cons (fun _ _ hE hK hg => okl_ldr r_aEn fit_aEn ty26 rfl rfl (kn (hK 4 rfl) rfl q4) (ptr_of_box fit_aEn (GR.v_ext _ f2 hE)) (fun _ _ _ h => rC_v.1 h)) (.cons ?z2_17 (.cons (fun _ _ hE hK hg => okl_fldB (S := r_aEn) fit_aEn rfl (fun _ => rfl) sb_aEn_8 fl26_8 (kn (hK 4 rfl) rfl q4) (GR.v_ext _ f2 hE)) (.cons ?z2_19 (.cons ?z2_20 (.cons ?z2_21 (.cons (fun _ _ hE hK hg => ok_assign (ksv (j := 21) (hK 28 rfl) rfl rfl rfl)) .nil))))))))))))))))))))))) ?zok2 ?zgd2 ?zk2
 case z2_7 => intro a' w' hE hK hg; exact okl_ldr (rInt .i64) (fun _ => rfl) ty3 rfl rfl rfl (kspS (φ := SP.ptr (rInt .i64) O x_1.Shop) (j := 6) (hK 13 rfl) rfl rfl hg) (fun _ _ _ h => rInt_v.1 h)
 case z2_8 => intro a' w' hE hK hg; have c_ := ok_r7_shop (OkO.ext hB.ok hE) (GR.v_ext _ h_0 hE) (run_gdb hx3 hg); exact ok_call2 fn113 (ksv (j := 5) (hK 12 rfl) rfl rfl hg) (ksv (j := 7) (hK 14 rfl) rfl rfl hg) c_
 case z2_9 => intro a' w' hE hK hg; exact ok_pick (ksv (j := 4) (hK 11 rfl) rfl rfl rfl) (fun hb => ksv (j := 8) (hK 15 rfl) rfl rfl (act_g1 rfl rfl hb)) (fun _ => rfl)
 case z2_13 => intro a' w' hE hK hg; exact okl_ldr (rInt .i64) (fun _ => rfl) ty3 rfl rfl rfl (kspS (φ := SP.ptr (rInt .i64) O x_1.Shop) (j := 12) (hK 19 rfl) rfl rfl hg) (fun _ _ _ h => rInt_v.1 h)
 case z2_14 => intro a' w' hE hK hg; exact okl_idx (r := rStr) (O := O) ty28 ty9 rfl (ksv (j := 11) (hK 18 rfl) rfl rfl hg) (rd_of (GR.v_ext _ h_0 hE)) (ksv (j := 13) (hK 20 rfl) rfl rfl hg) (run_gdb hx4 hg)
 case z2_15 => intro a' w' hE hK hg; exact okl_ldr rStr (fun _ => rfl) ty9 rfl rfl rfl (kspS (φ := SP.ptr rStr O x4) (j := 14) (hK 21 rfl) rfl rfl hg) (fun _ _ _ h => rStr_v.1 h)
 case z2_17 => intro a' w' hE hK hg; have c_ := ok_r7_Bytes (OkO.ext hB.ok hE)  (run_gdb hx5 hg); exact ok_call1 fn18 (ksv (j := 16) (hK 23 rfl) rfl rfl hg) c_
 case z2_19 => intro a' w' hE hK hg; exact okl_ldr rStr (fun _ => rfl) ty9 rfl rfl rfl (kspS (φ := SP.ptr rStr O x_1.Mark) (j := 18) (hK 25 rfl) rfl rfl hg) (fun _ _ _ h => rStr_v.1 h)
 case z2_20 => intro a' w' hE hK hg; have c_ := ok_colletref02_Check (OkO.ext hB.ok hE)  (run_gdb hx6 hg); exact ok_call3 fn33 (ksv (j := 15) (hK 22 rfl) rfl rfl hg) (ksv (j := 17) (hK 24 rfl) rfl rfl hg) (ksv (j := 19) (hK 26 rfl) rfl rfl hg) c_
 case z2_21 => intro a' w' hE hK hg; exact ok_pick (ksv (j := 10) (hK 17 rfl) rfl rfl rfl) (fun hb => ksv (j := 20) (hK 27 rfl) rfl rfl (act_g1 rfl rfl hb)) (fun _ => rfl)
 case zok2 | zgd2 => kernel_rfl
 intro a2 w2 hA hE HF
 have q6 := ksv (HF 6) rfl rfl rfl
 clear q0
 clear q2
 clear q4
 clear HF
 replace h_0 := GR.v_ext _ h_0 hE
 replace f2 := GR.v_ext _ f2 hE
 replace hB := Base.step hB hE hO; clear hE
 obtain ⟨x7, hx_, h⟩ := Comp.run_bind h; replace hx_ := Comp.run_pure hx_; rw [hx_] at q6; clear hx_
 refine li_nil (nx_then (wp_ret ?_))
 have h := Comp.run_pure h; subst h
 exact retPure Try.results70 hA q6 hB.ext rfl
theorem ok_r7_Fork {O : Tags} {w0 : World} (hO : OkO O w0) {v_0 : Value} {x_0 : List Bytes} (h_0 : (rSl rStr).v O w0 v_0 x_0) {v_1 : Value} {x_1 : List aEn} (h_1 : (rSl r_aEn).v O w0 v_1 x_1) {v_2 : Value} {x_2 : List aEn} (h_2 : (rSl r_aEn).v O w0 v_2 x_2) {n : Nat} {y : (Int × Bool)} (h : (r7_Fork x_0 x_1 x_2).run n = some y) : Pure Try.prog 28 #[v_0, v_1, v_2] w0 (SP.tup2 (SP.isv (.int .i64 y.1)) (SP.isv (.bool y.2))).holds := by
 unfold r7_Fork at h
 refine pure_of_wp Try.func28 rfl 64 Try.ntmps28 (by simp) fun a0 hA hs0 => ?_
 have q0 : a0.get 0 = v_0 := hs0 0 _ rfl
 have q1 : a0.get 1 = v_1 := hs0 1 _ rfl
 have q2 : a0.get 2 = v_2 := hs0 2 _ rfl
 clear hs0
 have hB : Base (Fr w0) O w0 O w0 := Base.start hO
 refine wp_seq ?_
 refine' region [_, _] mixed hA (.cons (fun _ _ hE hK hg => ok_assign rfl) (.cons (fun _ _ hE hK hg => ok_assign rfl) .nil)) ?zok1 ?zgd1 ?zk1
 case zok1 | zgd1 => kernel_rfl
 intro a1 w1 hA hE HF
 replace q0 := kn (HF 0) rfl q0
 replace q1 := kn (HF 1) rfl q1
 replace q2 := kn (HF 2) rfl q2
 clear HF
 replace h_0 := GR.v_ext _ h_0 hE
 replace h_1 := GR.v_ext _ h_1 hE
 replace h_2 := GR.v_ext _ h_2 hE
 replace hB := Base.step hB hE hO; clear hE
 refine li_nil (nx_then ?_)
 refine seq_join (fun a w => ∃ (O18 : Tags), a.fit 64 ∧ Base (Fr w0) O w0 O18 w ∧ (r7_Fork_j1 ).run n = some y) ?_ ?_
 ·
  refine wp_seq ?_
  refine' region [_] mixed hA (.cons (fun _ _ hE hK hg => ok_assign rfl) .nil) ?zok2 ?zgd2 ?zk2
  case zok2 | zgd2 => kernel_rfl
  intro a2 w2 hA hE HF
  replace q0 := kn (HF 0) rfl q0
  replace q1 := kn (HF 1) rfl q1
  replace q2 := kn (HF 2) rfl q2
  have q8 := ksv (HF 8) rfl rfl rfl
  clear HF
  replace h_0 := GR.v_ext _ h_0 hE
  replace h_1 := GR.v_ext _ h_1 hE
  replace h_2 := GR.v_ext _ h_2 hE
  replace hB := Base.step hB hE hO; clear hE
  refine li_nil (nx_then (wp_block ?_))
  obtain ⟨e2, he2, hk2⟩ := Comp.run_bind h; clear h
  refine loop_m (fun m a w => ∃ (O2 : Tags) (x1 : Int), a.fit 64 ∧ Base (Fr w0) O w0 O2 w ∧ a.get 0 = v_0 ∧ (rSl rStr).v O2 w v_0 x_0 ∧ a.get 1 = v_1 ∧ (rSl r_aEn).v O2 w v_1 x_1 ∧ a.get 2 = v_2 ∧ (rSl r_aEn).v O2 w v_2 x_2 ∧ a.get 8 = .int .i64 x1 ∧ Comp.loopN (fun s => r7_Fork_l2 x_1 x_2 x_0 s) n m x1 = some e2) (m := n) ?st2 ?_
  case st2 =>
   exact ⟨_, _, hA, hB, q0, h_0, q1, h_1, q2, h_2, q8, Comp.run_loop he2⟩
  intro m_ a3 w3 hI
  clear hA hB he2 q0 q1 q2 q8 h_0 h_1 h_2
  obtain ⟨O2, x1, hA, hB, q0, h_0, q1, h_1, q2, h_2, q8, hl⟩ := hI
  obtain ⟨m2, hlt2, st2, h, hnext2, hdone2⟩ := Comp.loopN_succ hl; clear hl
  replace h : (r7_Fork_l2 x_1 x_2 x_0 x1).run n = some st2 := h
  unfold r7_Fork_l2 at h
  refine wp_seq (wp_seq ?_)
  refine' region [_, _, _, _, _, _, _, _, _, _] mixed hA (.cons (fun _ _ hE hK hg => ok_move (kn (hK 8 rfl) rfl q8)) (.cons (fun _ _ hE hK hg => ok_move (kn (hK 1 rfl) rfl q1)) (.cons (fun _ _ hE hK hg => okl_len (r := r_aEn) ty29 (ksv (j := 1) (hK 10 rfl) rfl rfl rfl) (rd_of (GR.v_ext _ h_1 hE))) (.cons (fun _ _ hE hK hg => ok_lss (ksv (j := 0) (hK 9 rfl) rfl rfl rfl) (ksv (j := 2) (hK 11 rfl) rfl rfl rfl)) (.cons (fun _ _ hE hK hg => ok_move (ksv (j := 3) (hK 12 rfl) rfl rfl rfl)) (.cons (fun _ _ hE hK hg => ok_move (kn (hK 8 rfl) rfl q8)) (.cons (fun _ _ hE hK hg => ok_move (kn (hK 2 rfl) rfl q2)) (.cons ?z3_7 (.cons ?z3_8 (.cons ?z3_9 .nil)))))))))) ?zok3 ?zgd3 ?zk3
  case z3_7 => intro a' w' hE hK hg; exact okl_len (r := r_aEn) ty29 (ksv (j := 6) (hK 15 rfl) rfl rfl hg) (rd_of (GR.v_ext _ h_2 hE))
  case z3_8 => intro a' w' hE hK hg; exact ok_lss (ksv (j := 5) (hK 14 rfl) rfl rfl hg) (ksv (j := 7) (hK 16 rfl) rfl rfl hg)
  case z3_9 => intro a' w' hE hK hg; exact ok_pick (ksv (j := 4) (hK 13 rfl) rfl rfl rfl) (fun hb => ksv (j := 8) (hK 17 rfl) rfl rfl (act_g1 rfl rfl hb)) (fun _ => rfl)
  case zok3 | zgd3 => kernel_rfl
  intro a4 w4 hA hE HF
  replace q0 := kn (HF 0) rfl q0
  replace q1 := kn (HF 1) rfl q1
  replace q2 := kn (HF 2) rfl q2
  replace q8 := kn (HF 8) rfl q8
  have q18 := ksv (HF 18) rfl rfl rfl
  clear HF
  replace h_0 := GR.v_ext _ h_0 hE
  replace h_1 := GR.v_ext _ h_1 hE
  replace h_2 := GR.v_ext _ h_2 hE
  replace hB := Base.step hB hE hO; clear hE
  obtain ⟨x3, hx_, h⟩ := Comp.run_bind h; replace hx_ := Comp.run_pure hx_; rw [hx_] at q18; clear hx_
  refine li_nil (nx_then ?_)
  refine wp_cond_b q18 (fun hc => ?_) (fun hc => ?_)
  ·
   replace h := Comp.run_b_t hc h; clear hc
   refine wp_skip (nx_then (wp_seq (wp_block (wp_seq (wp_seq ?_)))))
   obtain ⟨x4, hx4, h⟩ := Comp.run_bind h
   obtain ⟨x5, hx5, h⟩ := Comp.run_bind h
   refine' region [_, _, SP.ptr r_aEn O2 x4, SP.isv (.agg #[.int .i64 x4.Seq, .int .i64 x4.Shop, .int .i64 x4.Kind, .int .i64 x4.Day, .int .i64 x4.N, .string (str x4.Before), .string (str x4.After), .string (str x4.Prev), .string (str x4.Mark)]), _, _, SP.ptr r_aEn O2 x5, SP.isv (.agg #[.int .i64 x5.Seq, .int .i64 x5.Shop, .int .i64 x5.Kind, .int .i64 x5.Day, .int .i64 x5.N, .string (str x5.Before), .string (str x5.After), .string (str x5.Prev), .string (str x5.Mark)]), _] mixed hA (.cons (fun _ _ hE hK hg => ok_move (kn (hK 1 rfl) rfl q1)) (.cons (fun _ _ hE hK hg => ok_move (kn (hK 8 rfl) rfl q8)) (.cons (fun _ _ hE hK hg => okl_idx (r := r_aEn) (O := O2) ty29 ty26 rfl (ksv (j := 0) (hK 21 rfl) rfl rfl rfl) (rd_of (GR.v_ext _ h_1 hE)) (ksv (j := 1) (hK 22 rfl) rfl rfl rfl) hx4) (.cons (fun _ _ hE hK hg => okl_ldr r_aEn fit_aEn ty26 rfl rfl rfl (kspS (φ := SP.ptr r_aEn O2 x4) (j := 2) (hK 23 rfl) rfl rfl rfl) (fun _ _ _ h => rC_v.1 h)) (.cons (fun _ _ hE hK hg => ok_move (kn (hK 2 rfl) rfl q2)) (.cons (fun _ _ hE hK hg => ok_move (kn (hK 8 rfl) rfl q8)) (.cons (fun _ _ hE hK hg => okl_idx (r := r_aEn) (O := O2) ty29 ty26 rfl (ksv (j := 4) (hK 25 rfl) rfl rfl rfl) (rd_of (GR.v_ext _ h_2 hE)) (ksv (j := 5) (hK 26 rfl) rfl rfl rfl) hx5) (.cons (fun _ _ hE hK hg => okl_ldr r_aEn fit_aEn ty26 rfl rfl rfl (kspS (φ := SP.ptr r_aEn O2 x5) (j := 6) (hK 27 rfl) rfl rfl rfl) (fun _ _ _ h => rC_v.1 h)) (.cons (fun _ _ hE hK hg => okl_eqlR (O1 := O2) (O2 := O2) (w1 := w4) (w2 := w4) eq_aEn rfl (by decide) (by kernel_rfl) (ksv (j := 3) (hK 24 rfl) rfl rfl rfl) (ksv (j := 7) (hK 28 rfl) rfl rfl rfl) ((rC_v (x := x4)).2 rfl) ((rC_v (x := x5)).2 rfl)) .nil))))))))) ?zok4 ?zgd4 ?zk4
   case zok4 | zgd4 => kernel_rfl
   intro a5 w5 hA hE HF
   replace q0 := kn (HF 0) rfl q0
   replace q1 := kn (HF 1) rfl q1
   replace q2 := kn (HF 2) rfl q2
   replace q8 := kn (HF 8) rfl q8
   have q29 := ksv (HF 29) rfl rfl rfl
   clear q18
   clear HF
   replace h_0 := GR.v_ext _ h_0 hE
   replace h_1 := GR.v_ext _ h_1 hE
   replace h_2 := GR.v_ext _ h_2 hE
   replace hB := Base.step hB hE hO; clear hE
   refine li_nil (nx_then ?_)
   refine wp_cond_b q29 (fun hc => ?_) (fun hc => ?_)
   ·
    replace h := Comp.run_b_t hc h; clear hc
    refine wp_exit (ex_then (ex_same (nx_then ?_)))
    refine' region [_, _, _] mixed hA (.cons (fun _ _ hE hK hg => ok_move (kn (hK 8 rfl) rfl q8)) (.cons (fun _ _ hE hK hg => ok_add (ksv (j := 0) (hK 19 rfl) rfl rfl rfl) rfl) (.cons (fun _ _ hE hK hg => ok_assign (ksv (j := 1) (hK 20 rfl) rfl rfl rfl)) .nil))) ?zok5 ?zgd5 ?zk5
    case zok5 | zgd5 => kernel_rfl
    intro a6 w6 hA hE HF
    replace q0 := kn (HF 0) rfl q0
    replace q1 := kn (HF 1) rfl q1
    replace q2 := kn (HF 2) rfl q2
    have q8' := ksv (HF 8) rfl rfl rfl
    replace q8 := q8'; clear q8'
    clear q29
    clear HF
    replace h_0 := GR.v_ext _ h_0 hE
    replace h_1 := GR.v_ext _ h_1 hE
    replace h_2 := GR.v_ext _ h_2 hE
    replace hB := Base.step hB hE hO; clear hE
    refine li_nil (nx_then ?_)
    have h := hnext2 _ (Comp.run_pure h).symm
    refine ⟨m2, hlt2, ?_⟩
    exact ⟨_, _, hA, hB, q0, h_0, q1, h_1, q2, h_2, q8, h⟩
   ·
    replace h := Comp.run_b_f hc h; clear hc
    refine wp_skip (nx_then (wp_seq (wp_seq ?_)))
    obtain ⟨x6, hx6, h⟩ := Comp.run_bind h
    obtain ⟨x7, hx7, h⟩ := Comp.run_bind h
    obtain ⟨x8, hx8, h⟩ := Comp.run_bind h
    obtain ⟨x9, hx9, h⟩ := Comp.run_bind h
    obtain ⟨x10, hx10, h⟩ := Comp.run_bind h
    obtain ⟨x11, hx11, h⟩ := Comp.run_bind h
    refine' region [_, _, SP.ptr r_aEn O2 x6, SP.ptr (rInt .i64) O2 x6.Shop, SP.isv (.int .i64 x6.Shop), _, _, SP.ptr r_aEn O2 x7, SP.ptr (rInt .i64) O2 x7.Shop, SP.isv (.int .i64 x7.Shop), _, _, _, _, _, SP.ptr r_aEn O2 x8, SP.isv (.agg #[.int .i64 x8.Seq, .int .i64 x8.Shop, .int .i64 x8.Kind, .int .i64 x8.Day, .int .i64 x8.N, .string (str x8.Before), .string (str x8.After), .string (str x8.Prev), .string (str x8.Mark)]), _, SP.isv (.bool x9), _, _, _, _, _, SP.ptr r_aEn O2 x10, SP.isv (.agg #[.int .i64 x10.Seq, .int .i64 x10.Shop, .int .i64 x10.Kind, .int .i64 x10.Day, .int .i64 x10.N, .string (str x10.Before), .string (str x10.After), .string (str x10.Prev), .string (str x10.Mark)]), _, SP.isv (.bool x11), _] mixed hA (.cons (fun _ _ hE hK hg => ok_move (kn (hK 1 rfl) rfl q1)) (.cons (fun _ _ hE hK hg => ok_move (kn (hK 8 rfl) rfl q8)) (.cons (fun _ _ hE hK hg => okl_idx (r := r_aEn) (O := O2) ty29 ty26 rfl (ksv (j := 0) (hK 30 rfl) rfl rfl rfl) (rd_of (GR.v_ext _ h_1 hE)) (ksv (j := 1) (hK 31 rfl) rfl rfl rfl) hx6) (.cons (fun _ _ hE hK hg => okl_fld (S := r_aEn) rfl (fun _ => rfl) sb_aEn_1 fl26_1 rfl (kspS (φ := SP.ptr r_aEn O2 x6) (j := 2) (hK 32 rfl) rfl rfl rfl)) (.cons (fun _ _ hE hK hg => okl_ldr (rInt .i64) (fun _ => rfl) ty3 rfl rfl rfl (kspS (φ := SP.ptr (rInt .i64) O2 x6.Shop) (j := 3) (hK 33 rfl) rfl rfl rfl) (fun _ _ _ h => rInt_v.1 h)) (.cons (fun _ _ hE hK hg => ok_move (kn (hK 2 rfl) rfl q2)) (.cons (fun _ _ hE hK hg => ok_move (kn (hK 8 rfl) rfl q8)) (.cons (fun _ _ hE hK hg => okl_idx (r := r_aEn) (O := O2) ty29 ty26 rfl (ksv (j := 5) (hK 35 rfl) rfl rfl rfl) (rd_of (GR.v_ext _ h_2 hE)) (ksv (j := 6) (hK 36 rfl) rfl rfl rfl) hx7) (.cons (fun _ _ hE hK hg => okl_fld (S := r_aEn) rfl (fun _ => rfl) sb_aEn_1 fl26_1 rfl (kspS (φ := SP.ptr r_aEn O2 x7) (j := 7) (hK 37 rfl) rfl rfl rfl)) (.cons (fun _ _ hE hK hg => okl_ldr (rInt .i64) (fun _ => rfl) ty3 rfl rfl rfl (kspS (φ := SP.ptr (rInt .i64) O2 x7.Shop) (j := 8) (hK 38 rfl) rfl rfl rfl) (fun _ _ _ h => rInt_v.1 h)) (.cons (fun _ _ hE hK hg => ok_eqlI (ksv (j := 4) (hK 34 rfl) rfl rfl rfl) (ksv (j := 9) (hK 39 rfl) rfl rfl rfl)) (.cons (fun _ _ hE hK hg => ok_move (ksv (j := 10) (hK 40 rfl) rfl rfl rfl)) (.cons (fun _ _ hE hK hg => ok_move (kn (hK 0 rfl) rfl q0)) (.cons (fun _ _ hE hK hg => ok_move (kn (hK 1 rfl) rfl q1)) (.cons (fun _ _ hE hK hg => ok_move (kn (hK 8 rfl) rfl q8)) (.cons ?z6_15 (.cons ?z6_16 (.cons (fun _ _ hE hK hg => ok_move (kn (hK 8 rfl) rfl q8)) (.cons ?z6_18 (.cons ?z6_19 (.cons (fun _ _ hE hK hg => ok_move (ksv (j := 19) (hK 49 rfl) rfl rfl rfl)) (.cons (fun _ _ hE hK hg => ok_move (kn (hK 0 rfl) rfl q0)) (.cons (fun _ _ hE hK hg => ok_move (kn (hK 2 rfl) rfl q2)) (.cons (fun _ _ hE hK hg => ok_move (kn (hK 8 rfl) rfl q8)) (.cons ?z6_24 (.cons ?z6_25 (.cons (fun _ _ hE hK hg => ok_move (kn (hK 8 rfl) rfl q8)) (.cons ?z6_27 (.cons ?z6_28 .nil))))))))))))))))))))))))))))) ?zok6 ?zgd6 ?zk6
    case z6_15 => intro a' w' hE hK hg; exact okl_idx (r := r_aEn) (O := O2) ty29 ty26 rfl (ksv (j := 13) (hK 43 rfl) rfl rfl hg) (rd_of (GR.v_ext _ h_1 hE)) (ksv (j := 14) (hK 44 rfl) rfl rfl hg) (run_gdb hx8 hg)
    case z6_16 => intro a' w' hE hK hg; exact okl_ldr r_aEn fit_aEn ty26 rfl rfl rfl (kspS (φ := SP.ptr r_aEn O2 x8) (j := 15) (hK 45 rfl) rfl rfl hg) (fun _ _ _ h => rC_v.1 h)
    case z6_18 => intro a' w' hE hK hg; have c_ := ok_r7_signed (OkO.ext hB.ok hE) (GR.v_ext _ h_0 hE) (run_gdb hx9 hg); exact ok_call3 fn70 (ksv (j := 12) (hK 42 rfl) rfl rfl hg) (ksv (j := 16) (hK 46 rfl) rfl rfl hg) (ksv (j := 17) (hK 47 rfl) rfl rfl hg) c_
    case z6_19 => intro a' w' hE hK hg; exact ok_pick (ksv (j := 11) (hK 41 rfl) rfl rfl rfl) (fun hb => ksv (j := 18) (hK 48 rfl) rfl rfl (act_g1 rfl rfl hb)) (fun _ => rfl)
    case z6_24 => intro a' w' hE hK hg; exact okl_idx (r := r_aEn) (O := O2) ty29 ty26 rfl (ksv (j := 22) (hK 52 rfl) rfl rfl hg) (rd_of (GR.v_ext _ h_2 hE)) (ksv (j := 23) (hK 53 rfl) rfl rfl hg) (run_gdb hx10 hg)
    case z6_25 => intro a' w' hE hK hg; exact okl_ldr r_aEn fit_aEn ty26 rfl rfl rfl (kspS (φ := SP.ptr r_aEn O2 x10) (j := 24) (hK 54 rfl) rfl rfl hg) (fun _ _ _ h => rC_v.1 h)
    case z6_27 => intro a' w' hE hK hg; have c_ := ok_r7_signed (OkO.ext hB.ok hE) (GR.v_ext _ h_0 hE) (run_gdb hx11 hg); exact ok_call3 fn70 (ksv (j := 21) (hK 51 rfl) rfl rfl hg) (ksv (j := 25) (hK 55 rfl) rfl rfl hg) (ksv (j := 26) (hK 56 rfl) rfl rfl hg) c_
    case z6_28 => intro a' w' hE hK hg; exact ok_pick (ksv (j := 20) (hK 50 rfl) rfl rfl rfl) (fun hb => ksv (j := 27) (hK 57 rfl) rfl rfl (act_g1 rfl rfl hb)) (fun _ => rfl)
    case zok6 | zgd6 => kernel_rfl
    intro a7 w7 hA hE HF
    replace q1 := kn (HF 1) rfl q1
    replace q8 := kn (HF 8) rfl q8
    have q58 := ksv (HF 58) rfl rfl rfl
    clear q0
    clear q2
    clear q29
    clear HF
    replace h_0 := GR.v_ext _ h_0 hE
    replace h_1 := GR.v_ext _ h_1 hE
    replace h_2 := GR.v_ext _ h_2 hE
    replace hB := Base.step hB hE hO; clear hE
    obtain ⟨x12, hx_, h⟩ := Comp.run_bind h; replace hx_ := Comp.run_pure hx_; rw [hx_] at q58; clear hx_
    refine li_nil (nx_then ?_)
    refine wp_cond_b q58 (fun hc => ?_) (fun hc => ?_)
    ·
     replace h := Comp.run_b_t hc h; clear hc
     refine wp_seq ?_
     obtain ⟨x13, hx13, h⟩ := Comp.run_bind h
     refine' region [_, _, SP.ptr r_aEn O2 x13, SP.ptr (rInt .i64) O2 x13.Shop, SP.isv (.int .i64 x13.Shop), _, _] mixed hA (.cons (fun _ _ hE hK hg => ok_move (kn (hK 1 rfl) rfl q1)) (.cons (fun _ _ hE hK hg => ok_move (kn (hK 8 rfl) rfl q8)) (.cons (fun _ _ hE hK hg => okl_idx (r := r_aEn) (O := O2) ty29 ty26 rfl (ksv (j := 0) (hK 59 rfl) rfl rfl rfl) (rd_of (GR.v_ext _ h_1 hE)) (ksv (j := 1) (hK 60 rfl) rfl rfl rfl) hx13) (.cons (fun _ _ hE hK hg => okl_fld (S := r_aEn) rfl (fun _ => rfl) sb_aEn_1 fl26_1 rfl (kspS (φ := SP.ptr r_aEn O2 x13) (j := 2) (hK 61 rfl) rfl rfl rfl)) (.cons (fun _ _ hE hK hg => okl_ldr (rInt .i64) (fun _ => rfl) ty3 rfl rfl rfl (kspS (φ := SP.ptr (rInt .i64) O2 x13.Shop) (j := 3) (hK 62 rfl) rfl rfl rfl) (fun _ _ _ h => rInt_v.1 h)) (.cons (fun _ _ hE hK hg => ok_assign (ksv (j := 4) (hK 63 rfl) rfl rfl rfl)) (.cons (fun _ _ hE hK hg => ok_assign rfl) .nil))))))) ?zok7 ?zgd7 ?zk7
     case zok7 | zgd7 => kernel_rfl
     intro a8 w8 hA hE HF
     have q6 := ksv (HF 6) rfl rfl rfl
     have q7 := ksv (HF 7) rfl rfl rfl
     clear q1
     clear q8
     clear q58
     clear HF
     replace h_1 := GR.v_ext _ h_1 hE
     replace hB := Base.step hB hE hO; clear hE
     refine li_nil (nx_then (wp_ret (rt_then (rt_blk (rt_then (rt_then (rt_blk (rt_then ?_))))))))
     have hd_ := hdone2 _ (Comp.run_pure h).symm; clear h
     subst hd_; have h := hk2; clear hk2; try dsimp only at h
     have h := Comp.run_pure h; subst h
     exact retPure2 Try.results28 hA q6 q7 hB.ext ⟨_, _, rfl, rfl, rfl⟩
    ·
     replace h := Comp.run_b_f hc h; clear hc
     refine wp_skip (nx_then (wp_seq ?_))
     refine' region [_, _] mixed hA (.cons (fun _ _ hE hK hg => ok_assign rfl) (.cons (fun _ _ hE hK hg => ok_assign rfl) .nil)) ?zok8 ?zgd8 ?zk8
     case zok8 | zgd8 => kernel_rfl
     intro a9 w9 hA hE HF
     have q6 := ksv (HF 6) rfl rfl rfl
     have q7 := ksv (HF 7) rfl rfl rfl
     clear q1
     clear q8
     clear q58
     clear HF
     replace h_1 := GR.v_ext _ h_1 hE
     replace hB := Base.step hB hE hO; clear hE
     refine li_nil (nx_then (wp_ret (rt_blk (rt_then (rt_then (rt_blk (rt_then ?_)))))))
     have hd_ := hdone2 _ (Comp.run_pure h).symm; clear h
     subst hd_; have h := hk2; clear hk2; try dsimp only at h
     have h := Comp.run_pure h; subst h
     exact retPure2 Try.results28 hA q6 q7 hB.ext ⟨_, _, rfl, rfl, rfl⟩
  ·
   replace h := Comp.run_b_f hc h; clear hc
   refine wp_exit (ex_then (ex_then (ex_same ?_)))
   have hd_ := hdone2 _ (Comp.run_pure h).symm; clear h
   subst hd_; have h := hk2; clear hk2; try dsimp only at h
   refine nx_then ?_
   exact ⟨_, hA, hB, h⟩
 intro a10 w10 hI
 clear hA hB h q0 q1 q2 h_0 h_1 h_2
 obtain ⟨O18, hA, hB, h⟩ := hI
 unfold r7_Fork_j1 at h
 refine wp_seq ?_
 refine' region [_, _] mixed hA (.cons (fun _ _ hE hK hg => ok_assign rfl) (.cons (fun _ _ hE hK hg => ok_assign rfl) .nil)) ?zok9 ?zgd9 ?zk9
 case zok9 | zgd9 => kernel_rfl
 intro a11 w11 hA hE HF
 have q6 := ksv (HF 6) rfl rfl rfl
 have q7 := ksv (HF 7) rfl rfl rfl
 clear HF
 replace hB := Base.step hB hE hO; clear hE
 refine li_nil (nx_then (wp_ret ?_))
 have h := Comp.run_pure h; subst h
 exact retPure2 Try.results28 hA q6 q7 hB.ext ⟨_, _, rfl, rfl, rfl⟩
set_option maxHeartbeats 4000000 in
theorem ok_c7_PassportChecks {O : Tags} {w0 : World} (hO : OkO O w0) {v_0 : Value} {x_0 : c7_Case} (h_0 : r_c7_Case.v O w0 v_0 x_0) {x_1 : Vector Int 2} {x_2 : Vector Int 2} {x_3 : Bytes} {x_4 : Bool} {x_5 : aEn} {n : Nat} {y : Bool} (h : (c7_PassportChecks x_0 x_1 x_2 x_3 x_4 x_5).run n = some y) : Pure Try.prog 4 #[v_0, .agg (cellsA (fun x => [.int .u8 x]) x_1).toArray, .agg (cellsA (fun x => [.int .i64 x]) x_2).toArray, .string (str x_3), .bool x_4, .agg #[.int .i64 x_5.Seq, .int .i64 x_5.Shop, .int .i64 x_5.Kind, .int .i64 x_5.Day, .int .i64 x_5.N, .string (str x_5.Before), .string (str x_5.After), .string (str x_5.Prev), .string (str x_5.Mark)]] w0 (SP.isv (.bool y)).holds := by
 unfold c7_PassportChecks at h
 refine pure_of_wp Try.func4 rfl 165 Try.ntmps4 (by simp) fun a0 hA hs0 => ?_
 have q0 : a0.get 0 = v_0 := hs0 0 _ rfl
 have q1 : a0.get 1 = .agg (cellsA (fun x => [.int .u8 x]) x_1).toArray := hs0 1 _ rfl
 have q2 : a0.get 2 = .agg (cellsA (fun x => [.int .i64 x]) x_2).toArray := hs0 2 _ rfl
 have q3 : a0.get 3 = .string (str x_3) := hs0 3 _ rfl
 have q4 : a0.get 4 = .bool x_4 := hs0 4 _ rfl
 have q5 : a0.get 5 = .agg #[.int .i64 x_5.Seq, .int .i64 x_5.Shop, .int .i64 x_5.Kind, .int .i64 x_5.Day, .int .i64 x_5.N, .string (str x_5.Before), .string (str x_5.After), .string (str x_5.Prev), .string (str x_5.Mark)] := hs0 5 _ rfl
 clear hs0
 have hB : Base (Fr w0) O w0 O w0 := Base.start hO
 refine wp_seq ?_
 refine' region [SP.vl (rBox r_c7_Case) O x_0, SP.vl (rBox (rVec 2 1 (fun x => [.int .u8 x]) (fun _ => rfl) (fun _ => by simp [Value.oneCell']))) O x_1, SP.vl (rBox (rVec 2 1 (fun x => [.int .i64 x]) (fun _ => rfl) (fun _ => by simp [Value.oneCell']))) O x_2, SP.vl (rBox r_aEn) O x_5, _] mixed hA (.cons (fun _ _ hE hK hg => okl_boxV (r := r_c7_Case) fit_c7_Case (OkO.ext hB.ok hE) (kn (hK 0 rfl) rfl q0) (GR.v_ext _ h_0 hE)) (.cons ?z1_1 (.cons ?z1_2 (.cons ?z1_3 (.cons (fun _ _ hE hK hg => ok_assign rfl) .nil))))) ?zok1 ?zgd1 ?zk1
 case z1_1 => intro a' w' hE hK hg; exact okl_boxV (r := (rVec 2 1 (fun x => [.int .u8 x]) (fun _ => rfl) (fun _ => by simp [Value.oneCell']))) (by intro h; cases h) (OkO.ext hB.ok hE) (kn (hK 1 rfl) rfl q1) (by first | exact (rC_v (x := x_1)).2 rfl | exact ⟨_, rfl, rfl⟩)
 case z1_2 => intro a' w' hE hK hg; exact okl_boxV (r := (rVec 2 1 (fun x => [.int .i64 x]) (fun _ => rfl) (fun _ => by simp [Value.oneCell']))) (by intro h; cases h) (OkO.ext hB.ok hE) (kn (hK 2 rfl) rfl q2) (by first | exact (rC_v (x := x_2)).2 rfl | exact ⟨_, rfl, rfl⟩)
 case z1_3 => intro a' w' hE hK hg; exact okl_boxV (r := r_aEn) fit_aEn (OkO.ext hB.ok hE) (kn (hK 5 rfl) rfl q5) (by first | exact (rC_v (x := x_5)).2 rfl | exact ⟨_, rfl, rfl⟩)
 case zok1 | zgd1 => kernel_rfl
 intro a1 w1 hA hE HF
 replace q3 := kn (HF 3) rfl q3
 replace q4 := kn (HF 4) rfl q4
 have f2 := ksp (HF 6) rfl rfl rfl
 obtain ⟨u1, q6'⟩ : ∃ u, a1.get 6 = u := ⟨_, rfl⟩
 rw [q6'] at f2
 have q6 := q6'; clear q6'
 have f4 := ksp (HF 7) rfl rfl rfl
 obtain ⟨u3, q7'⟩ : ∃ u, a1.get 7 = u := ⟨_, rfl⟩
 rw [q7'] at f4
 have q7 := q7'; clear q7'
 have f6 := ksp (HF 8) rfl rfl rfl
 obtain ⟨u5, q8'⟩ : ∃ u, a1.get 8 = u := ⟨_, rfl⟩
 rw [q8'] at f6
 have q8 := q8'; clear q8'
 have f8 := ksp (HF 11) rfl rfl rfl
 obtain ⟨u7, q11'⟩ : ∃ u, a1.get 11 = u := ⟨_, rfl⟩
 rw [q11'] at f8
 have q11 := q11'; clear q11'
 clear q0
 clear q1
 clear q2
 clear q5
 clear HF
 replace h_0 := GR.v_ext _ h_0 hE
 replace hB := Base.step hB hE hO; clear hE
 refine li_nil (nx_then (wp_seq ?_))
 obtain ⟨x9, hx9, h⟩ := Comp.run_bind h
 refine' region [SP.isv (.bool x9), _] mixed hA (.cons ?z2_0 (.cons (fun _ _ hE hK hg => ok_assign (ksv (j := 0) (hK 26 rfl) rfl rfl rfl)) .nil)) ?zok2 ?zgd2 ?zk2
 case z2_0 => intro a' w' hE hK hg; have c_ := ok_c7_sanity (OkO.ext hB.ok hE)  hx9; exact ok_call0 fn14  c_
 case zok2 | zgd2 => kernel_rfl
 intro a2 w2 hA hE HF
 replace q3 := kn (HF 3) rfl q3
 replace q4 := kn (HF 4) rfl q4
 replace q6 := kn (HF 6) rfl q6
 replace q7 := kn (HF 7) rfl q7
 replace q8 := kn (HF 8) rfl q8
 replace q11 := kn (HF 11) rfl q11
 have q13 := ksv (HF 13) rfl rfl rfl
 clear HF
 replace f2 := GR.v_ext _ f2 hE
 replace f4 := GR.v_ext _ f4 hE
 replace f6 := GR.v_ext _ f6 hE
 replace f8 := GR.v_ext _ f8 hE
 replace hB := Base.step hB hE hO; clear hE
 refine li_nil (nx_then (wp_seq ?_))
 obtain ⟨x10, hx10, h⟩ := Comp.run_bind h
 refine' region [SP.vl r_c7_Case O x_0, SP.tup2 (SP.vl (rSl rStr) O x10.1) (SP.vl (rSl r_aEn) O x10.2), SP.tup2 (SP.vl (rSl rStr) O x10.1) (SP.vl (rSl r_aEn) O x10.2), SP.vl (rSl rStr) O x10.1, SP.vl (rSl r_aEn) O x10.2, SP.vl (rSl rStr) O x10.1, SP.vl (rSl r_aEn) O x10.2] mixed hA (.cons (fun _ _ hE hK hg => okl_ld (r := r_c7_Case) fit_c7_Case ty24 rfl rfl (kn (hK 6 rfl) rfl q6) (ptr_of_box fit_c7_Case (GR.v_ext _ f2 hE))) (.cons ?z3_1 (.cons (fun _ _ hE hK hg => ok_move_pr (φ := SP.tup2 (SP.vl (rSl rStr) O x10.1) (SP.vl (rSl r_aEn) O x10.2)) (kspS (j := 1) (hK 29 rfl) rfl rfl rfl)) (.cons (fun _ _ hE hK hg => okl_ext0 (kspS (φ := SP.tup2 (SP.vl (rSl rStr) O x10.1) (SP.vl (rSl r_aEn) O x10.2)) (j := 2) (hK 27 rfl) rfl rfl rfl)) (.cons (fun _ _ hE hK hg => okl_ext1 (kspS (φ := SP.tup2 (SP.vl (rSl rStr) O x10.1) (SP.vl (rSl r_aEn) O x10.2)) (j := 2) (hK 27 rfl) rfl rfl rfl)) (.cons (fun _ _ hE hK hg => ok_assign_pr (φ := SP.vl (rSl rStr) O x10.1) (kspS (j := 3) (hK 30 rfl) rfl rfl rfl)) (.cons (fun _ _ hE hK hg => ok_assign_pr (φ := SP.vl (rSl r_aEn) O x10.2) (kspS (j := 4) (hK 31 rfl) rfl rfl rfl)) .nil))))))) ?zok3 ?zgd3 ?zk3
 case z3_1 => intro a' w' hE hK hg; have c_ := ok_c7_Case_made (OkO.ext hB.ok hE) (kspS (φ := SP.vl r_c7_Case O x_0) (j := 0) (hK 28 rfl) rfl rfl rfl) hx10; exact ok_weak (ok_call1 fn15 rfl c_) (fun _ _ _ ⟨a_, b_, e0_, h0_, h1_⟩ => ⟨a_, b_, e0_, (fun h => (OwnR.val h (fun g hg => (OkO.ext hB.ok hE) g (OwnR.ge h g hg).1))) h0_, h1_⟩)
 case zok3 | zgd3 => kernel_rfl
 intro a3 w3 hA hE HF
 replace q3 := kn (HF 3) rfl q3
 replace q4 := kn (HF 4) rfl q4
 replace q7 := kn (HF 7) rfl q7
 replace q8 := kn (HF 8) rfl q8
 replace q11 := kn (HF 11) rfl q11
 replace q13 := kn (HF 13) rfl q13
 have f12 := ksp (HF 14) rfl rfl rfl
 obtain ⟨u11, q14'⟩ : ∃ u, a3.get 14 = u := ⟨_, rfl⟩
 rw [q14'] at f12
 have q14 := q14'; clear q14'
 have f14 := ksp (HF 15) rfl rfl rfl
 obtain ⟨u13, q15'⟩ : ∃ u, a3.get 15 = u := ⟨_, rfl⟩
 rw [q15'] at f14
 have q15 := q15'; clear q15'
 clear q6
 clear HF
 replace f2 := GR.v_ext _ f2 hE
 replace f4 := GR.v_ext _ f4 hE
 replace f6 := GR.v_ext _ f6 hE
 replace f8 := GR.v_ext _ f8 hE
 replace hB := Base.step hB hE hO; clear hE
 refine li_nil (nx_then ?_)
 refine seq_join (fun a w => ∃ (O23 : Tags) (x20 : List Bytes) (u21 : Value), a.fit 165 ∧ Base (Fr w0) O w0 O23 w ∧ a.get 3 = .string (str x_3) ∧ a.get 4 = .bool x_4 ∧ a.get 7 = u3 ∧ (rBox (rVec 2 1 (fun x => [.int .u8 x]) (fun _ => rfl) (fun _ => by simp [Value.oneCell']))).v O23 w u3 x_1 ∧ a.get 8 = u5 ∧ (rBox (rVec 2 1 (fun x => [.int .i64 x]) (fun _ => rfl) (fun _ => by simp [Value.oneCell']))).v O23 w u5 x_2 ∧ a.get 11 = u7 ∧ (rBox r_aEn).v O23 w u7 x_5 ∧ a.get 13 = .bool x9 ∧ a.get 14 = u21 ∧ (rSl rStr).v O23 w u21 x20 ∧ a.get 15 = u13 ∧ (rSl r_aEn).v O23 w u13 x10.2 ∧ (c7_PassportChecks_j1 x10 x_1 x_3 x_2 x_4 x_5 x9 x20).run n = some y) ?_ ?_
 ·
  refine wp_seq ?_
  obtain ⟨x15, hx15, h⟩ := Comp.run_bind h
  refine' region [SP.ptrz (rInt .u8) O x15 (of_decide_eq_true rfl) (fun _ => rfl), SP.isv (.int .u8 x15), _, _] mixed hA (.cons ?z4_0 (.cons (fun _ _ hE hK hg => okl_ldr (rInt .u8) (fun _ => rfl) ty5 rfl rfl rfl (PtrZ.ptr (kspS (φ := SP.ptrz (rInt .u8) O x15 (of_decide_eq_true rfl) (fun _ => rfl)) (j := 0) (hK 32 rfl) rfl rfl rfl)) (fun _ _ _ h => rInt_v.1 h)) (.cons (fun _ _ hE hK hg => ok_rem (ksv (j := 1) (hK 33 rfl) rfl rfl rfl) rfl (by decide)) (.cons (fun _ _ hE hK hg => ok_eqlI (ksv (j := 2) (hK 34 rfl) rfl rfl rfl) rfl) .nil)))) ?zok4 ?zgd4 ?zk4
  case z4_0 => intro a' w' hE hK hg; exact okl_idxArrZ (r := (rInt .u8)) (f := (fun x => [.int .u8 x])) (hl := (fun _ => rfl)) (ho := (fun _ => by simp [Value.oneCell'])) (by decide) (fun _ => rfl) (fun _ _ _ => rfl) ty37 ty5 (kn (hK 7 rfl) rfl q7) (ptrz_of_box (by intro h; cases h) (GR.v_ext _ f4 hE)) rfl hx15
  case zok4 | zgd4 => kernel_rfl
  intro a4 w4 hA hE HF
  replace q3 := kn (HF 3) rfl q3
  replace q4 := kn (HF 4) rfl q4
  replace q7 := kn (HF 7) rfl q7
  replace q8 := kn (HF 8) rfl q8
  replace q11 := kn (HF 11) rfl q11
  replace q13 := kn (HF 13) rfl q13
  replace q14 := kn (HF 14) rfl q14
  replace q15 := kn (HF 15) rfl q15
  have q35 := ksv (HF 35) rfl rfl rfl
  clear HF
  replace f4 := GR.v_ext _ f4 hE
  replace f6 := GR.v_ext _ f6 hE
  replace f8 := GR.v_ext _ f8 hE
  replace f12 := GR.v_ext _ f12 hE
  replace f14 := GR.v_ext _ f14 hE
  replace hB := Base.step hB hE hO; clear hE
  refine li_nil (nx_then ?_)
  refine wp_cond_b q35 (fun hc => ?_) (fun hc => ?_)
  ·
   replace h := Comp.run_b_t hc h; clear hc
   obtain ⟨x16, hx16, h⟩ := Comp.run_bind h
   obtain ⟨x17, hx17, h⟩ := Comp.run_bind h
   refine' region [SP.ptrz (rInt .u8) O x16 (of_decide_eq_true rfl) (fun _ => rfl), SP.isv (.int .u8 x16), _, _, _, SP.vl (rSl rStr) O x17, SP.vl (rSl rStr) O x17] mixed hA (.cons ?z5_0 (.cons (fun _ _ hE hK hg => okl_ldr (rInt .u8) (fun _ => rfl) ty5 rfl rfl rfl (PtrZ.ptr (kspS (φ := SP.ptrz (rInt .u8) O x16 (of_decide_eq_true rfl) (fun _ => rfl)) (j := 0) (hK 36 rfl) rfl rfl rfl)) (fun _ _ _ h => rInt_v.1 h)) (.cons (fun _ _ hE hK hg => ok_quo (ksv (j := 1) (hK 37 rfl) rfl rfl rfl) rfl (by decide)) (.cons (fun _ _ hE hK hg => ok_convI ty5 ty3 (ksv (j := 2) (hK 38 rfl) rfl rfl rfl)) (.cons (fun _ _ hE hK hg => ok_rem (ksv (j := 3) (hK 39 rfl) rfl rfl rfl) rfl (by decide)) (.cons ?z5_5 (.cons (fun _ _ hE hK hg => ok_assign_pr (φ := SP.vl (rSl rStr) O x17) (kspS (j := 5) (hK 41 rfl) rfl rfl rfl)) .nil))))))) ?zok5 ?zgd5 ?zk5
   case z5_0 => intro a' w' hE hK hg; exact okl_idxArrZ (r := (rInt .u8)) (f := (fun x => [.int .u8 x])) (hl := (fun _ => rfl)) (ho := (fun _ => by simp [Value.oneCell'])) (by decide) (fun _ => rfl) (fun _ _ _ => rfl) ty37 ty5 (kn (hK 7 rfl) rfl q7) (ptrz_of_box (by intro h; cases h) (GR.v_ext _ f4 hE)) rfl hx16
   case z5_5 => intro a' w' hE hK hg; have c_ := ok_r7_Keys (OkO.ext hB.ok hE)  hx17; exact ok_weak (ok_call1 fn23 (ksv (j := 4) (hK 40 rfl) rfl rfl rfl) c_) (fun _ _ _ h => (OwnR.val h (fun g hg => (OkO.ext hB.ok hE) g (OwnR.ge h g hg).1)))
   case zok5 | zgd5 => kernel_rfl
   intro a5 w5 hA hE HF
   replace q3 := kn (HF 3) rfl q3
   replace q4 := kn (HF 4) rfl q4
   replace q7 := kn (HF 7) rfl q7
   replace q8 := kn (HF 8) rfl q8
   replace q11 := kn (HF 11) rfl q11
   replace q13 := kn (HF 13) rfl q13
   have f19 := ksp (HF 14) rfl rfl rfl
   obtain ⟨u18, q14'⟩ : ∃ u, a5.get 14 = u := ⟨_, rfl⟩
   rw [q14'] at f19
   replace q14 := q14'; clear q14'
   replace q15 := kn (HF 15) rfl q15
   clear q35
   clear HF
   replace f4 := GR.v_ext _ f4 hE
   replace f6 := GR.v_ext _ f6 hE
   replace f8 := GR.v_ext _ f8 hE
   replace f12 := GR.v_ext _ f12 hE
   replace f14 := GR.v_ext _ f14 hE
   replace hB := Base.step hB hE hO; clear hE
   refine li_nil (nx_then ?_)
   exact ⟨_, _, _, hA, hB, q3, q4, q7, f4, q8, f6, q11, f8, q13, q14, f19, q15, f14, h⟩
  ·
   replace h := Comp.run_b_f hc h; clear hc
   refine wp_skip (nx_then ?_)
   exact ⟨_, _, _, hA, hB, q3, q4, q7, f4, q8, f6, q11, f8, q13, q14, f12, q15, f14, h⟩
 intro a6 w6 hI
 clear hA hB h q3 q4 q7 q8 q11 q13 q14 q15 f12 f14 f4 f6 f8
 obtain ⟨O23, x20, u21, hA, hB, q3, q4, q7, f4, q8, f6, q11, f8, q13, q14, f22, q15, f14, h⟩ := hI
 unfold c7_PassportChecks_j1 at h
 refine wp_seq ?_
 refine' regionT [] hA .nil ?zok6 ?zgd6 ?zk6
 case zok6 | zgd6 => kernel_rfl
 intro a7 w7 hA hE HF
 replace q3 := kn (HF 3) rfl q3
 replace q4 := kn (HF 4) rfl q4
 replace q7 := kn (HF 7) rfl q7
 replace q8 := kn (HF 8) rfl q8
 replace q11 := kn (HF 11) rfl q11
 replace q13 := kn (HF 13) rfl q13
 replace q14 := kn (HF 14) rfl q14
 replace q15 := kn (HF 15) rfl q15
 clear HF
 replace f4 := GR.v_ext _ f4 hE
 replace f6 := GR.v_ext _ f6 hE
 replace f8 := GR.v_ext _ f8 hE
 replace f22 := GR.v_ext _ f22 hE
 replace f14 := GR.v_ext _ f14 hE
 replace hB := Base.step hB hE hO; clear hE
 refine l_ok (φ := SP.ownr r_aEn 26 w7.heap.size O23 []) hO hB (by exact okl_buildSlice (r := r_aEn) fit_aEn rfl hB.ok ty29 ty26 (Nat.le_refl _) parts_nil trivial rfl (by decide)) rfl fun u24 w8 hE hB' f25 => ?_
 clear hB'; obtain ⟨O26, hB', hX, f27⟩ := ownNew hO hB hE f25 rfl 1 (by decide)
 clear hB f25; have hB := hB'; clear hB'
 replace f4 := GR.kx _ f4 hX (by decide)
 replace f6 := GR.kx _ f6 hX (by decide)
 replace f8 := GR.kx _ f8 hX (by decide)
 replace f22 := GR.kx _ f22 hX (by decide)
 replace f14 := GR.kx _ f14 hX (by decide)
 clear hX hE
 refine put_cont hA (by decide) fun a9 hA q_ hfr => ?_
 replace q3 := (hfr 3 rfl).trans q3
 replace q4 := (hfr 4 rfl).trans q4
 replace q7 := (hfr 7 rfl).trans q7
 replace q8 := (hfr 8 rfl).trans q8
 replace q11 := (hfr 11 rfl).trans q11
 replace q13 := (hfr 13 rfl).trans q13
 replace q14 := (hfr 14 rfl).trans q14
 replace q15 := (hfr 15 rfl).trans q15
 have q42 := q_; clear q_ hfr
 refine l_ok (φ := SP.isv (u13)) hO hB (by exact ok_move q15) rfl fun u_ w10 hE hB' hv_ => ?_
 replace hv_ := Eq.symm hv_; subst hv_; clear hB; have hB := hB'; clear hB'
 replace f4 := GR.v_ext _ f4 hE
 replace f6 := GR.v_ext _ f6 hE
 replace f8 := GR.v_ext _ f8 hE
 replace f22 := GR.v_ext _ f22 hE
 replace f14 := GR.v_ext _ f14 hE
 replace f27 := f27.ext hE
 clear hE
 refine put_cont hA (by decide) fun a11 hA q_ hfr => ?_
 replace q3 := (hfr 3 rfl).trans q3
 replace q4 := (hfr 4 rfl).trans q4
 replace q7 := (hfr 7 rfl).trans q7
 replace q8 := (hfr 8 rfl).trans q8
 replace q11 := (hfr 11 rfl).trans q11
 replace q13 := (hfr 13 rfl).trans q13
 replace q14 := (hfr 14 rfl).trans q14
 replace q15 := (hfr 15 rfl).trans q15
 replace q42 := (hfr 42 rfl).trans q42
 have q43 := q_; clear q_ hfr
 obtain ⟨x28, hx28, h⟩ := Comp.run_bind h
 refine l_append (r := r_aEn) fit_aEn rfl ty29 ty26 rfl (by decide) hO hB (okB_fr hB) q42 f27 q43 (rd_of f14) hx28 (by decide) fun u29 w12 O30 f31 hB' hX => ?_
 clear hB; have hB := hB'; clear hB'
 clear f27
 replace f4 := GR.kx _ f4 hX (by decide)
 replace f6 := GR.kx _ f6 hX (by decide)
 replace f8 := GR.kx _ f8 hX (by decide)
 replace f22 := GR.kx _ f22 hX (by decide)
 replace f14 := GR.kx _ f14 hX (by decide)
 clear hX
 refine put_cont hA (by decide) fun a13 hA q_ hfr => ?_
 replace q3 := (hfr 3 rfl).trans q3
 replace q4 := (hfr 4 rfl).trans q4
 replace q7 := (hfr 7 rfl).trans q7
 replace q8 := (hfr 8 rfl).trans q8
 replace q11 := (hfr 11 rfl).trans q11
 replace q13 := (hfr 13 rfl).trans q13
 replace q14 := (hfr 14 rfl).trans q14
 replace q15 := (hfr 15 rfl).trans q15
 replace q42 := (hfr 42 rfl).trans q42
 replace q43 := (hfr 43 rfl).trans q43
 have q44 := q_; clear q_ hfr
 refine l_ok (φ := SP.isv (u29)) hO hB (by exact ok_assign q44) rfl fun u_ w14 hE hB' hv_ => ?_
 replace hv_ := Eq.symm hv_; subst hv_; clear hB; have hB := hB'; clear hB'
 replace f4 := GR.v_ext _ f4 hE
 replace f6 := GR.v_ext _ f6 hE
 replace f8 := GR.v_ext _ f8 hE
 replace f22 := GR.v_ext _ f22 hE
 replace f14 := GR.v_ext _ f14 hE
 replace f31 := f31.ext hE
 clear hE
 refine put_cont hA (by decide) fun a15 hA q_ hfr => ?_
 replace q3 := (hfr 3 rfl).trans q3
 replace q4 := (hfr 4 rfl).trans q4
 replace q7 := (hfr 7 rfl).trans q7
 replace q8 := (hfr 8 rfl).trans q8
 replace q11 := (hfr 11 rfl).trans q11
 replace q13 := (hfr 13 rfl).trans q13
 replace q14 := (hfr 14 rfl).trans q14
 replace q15 := (hfr 15 rfl).trans q15
 replace q44 := (hfr 44 rfl).trans q44
 have q16 := q_; clear q_ hfr
 refine li_nil (nx_then ?_)
 refine seq_join (fun a w => ∃ (O63 : Tags) (x54 : List aEn) (u55 : Value), a.fit 165 ∧ Base (Fr w0) O w0 O63 w ∧ a.get 11 = u7 ∧ (rBox r_aEn).v O63 w u7 x_5 ∧ a.get 13 = .bool x9 ∧ a.get 14 = u21 ∧ (rSl rStr).v O63 w u21 x20 ∧ a.get 15 = u13 ∧ (rSl r_aEn).v O63 w u13 x10.2 ∧ a.get 16 = u55 ∧ (rSl r_aEn).v O63 w u55 x54 ∧ (c7_PassportChecks_j2 x10 x_5 x20 x9 x54).run n = some y) ?_ ?_
 ·
  refine wp_seq ?_
  refine' region [_, _, _] mixed hA (.cons (fun _ _ hE hK hg => ok_move (kn (hK 15 rfl) rfl q15)) (.cons (fun _ _ hE hK hg => okl_len (r := r_aEn) ty29 (ksv (j := 0) (hK 45 rfl) rfl rfl rfl) (rd_of (GR.v_ext _ f14 hE))) (.cons (fun _ _ hE hK hg => ok_gtr (ksv (j := 1) (hK 46 rfl) rfl rfl rfl) rfl) .nil))) ?zok7 ?zgd7 ?zk7
  case zok7 | zgd7 => kernel_rfl
  intro a16 w16 hA hE HF
  replace q3 := kn (HF 3) rfl q3
  replace q4 := kn (HF 4) rfl q4
  replace q7 := kn (HF 7) rfl q7
  replace q8 := kn (HF 8) rfl q8
  replace q11 := kn (HF 11) rfl q11
  replace q13 := kn (HF 13) rfl q13
  replace q14 := kn (HF 14) rfl q14
  replace q15 := kn (HF 15) rfl q15
  replace q16 := kn (HF 16) rfl q16
  have q47 := ksv (HF 47) rfl rfl rfl
  clear HF
  replace f4 := GR.v_ext _ f4 hE
  replace f6 := GR.v_ext _ f6 hE
  replace f8 := GR.v_ext _ f8 hE
  replace f22 := GR.v_ext _ f22 hE
  replace f14 := GR.v_ext _ f14 hE
  replace f31 := f31.ext hE
  replace hB := Base.step hB hE hO; clear hE
  refine li_nil (nx_then ?_)
  refine wp_cond_b q47 (fun hc => ?_) (fun hc => ?_)
  ·
   replace h := Comp.run_b_t hc h; clear hc
   refine wp_seq ?_
   obtain ⟨x32, hx32, h⟩ := Comp.run_bind h
   obtain ⟨x33, hx33, h⟩ := Comp.run_bind h
   refine' region [SP.ptrz (rInt .u8) O30 x32 (of_decide_eq_true rfl) (fun _ => rfl), SP.isv (.int .u8 x32), _, _, _, SP.isv (.int .i64 x33), _] mixed hA (.cons ?z8_0 (.cons (fun _ _ hE hK hg => okl_ldr (rInt .u8) (fun _ => rfl) ty5 rfl rfl rfl (PtrZ.ptr (kspS (φ := SP.ptrz (rInt .u8) O30 x32 (of_decide_eq_true rfl) (fun _ => rfl)) (j := 0) (hK 48 rfl) rfl rfl rfl)) (fun _ _ _ h => rInt_v.1 h)) (.cons (fun _ _ hE hK hg => ok_convI ty5 ty3 (ksv (j := 1) (hK 49 rfl) rfl rfl rfl)) (.cons (fun _ _ hE hK hg => ok_move (kn (hK 15 rfl) rfl q15)) (.cons (fun _ _ hE hK hg => okl_len (r := r_aEn) ty29 (ksv (j := 3) (hK 51 rfl) rfl rfl rfl) (rd_of (GR.v_ext _ f14 hE))) (.cons (fun _ _ hE hK hg => ok_isv (ok_rem (ksv (j := 2) (hK 50 rfl) rfl rfl rfl) (ksv (j := 4) (hK 52 rfl) rfl rfl rfl) (run_rem hx33).1) (congrArg _ (run_rem hx33).2)) (.cons (fun _ _ hE hK hg => ok_assign (ksv (j := 5) (hK 53 rfl) rfl rfl rfl)) .nil))))))) ?zok8 ?zgd8 ?zk8
   case z8_0 => intro a' w' hE hK hg; exact okl_idxArrZ (r := (rInt .u8)) (f := (fun x => [.int .u8 x])) (hl := (fun _ => rfl)) (ho := (fun _ => by simp [Value.oneCell'])) (by decide) (fun _ => rfl) (fun _ _ _ => rfl) ty37 ty5 (kn (hK 7 rfl) rfl q7) (ptrz_of_box (by intro h; cases h) (GR.v_ext _ f4 hE)) rfl hx32
   case zok8 | zgd8 => kernel_rfl
   intro a17 w17 hA hE HF
   replace q3 := kn (HF 3) rfl q3
   replace q4 := kn (HF 4) rfl q4
   replace q8 := kn (HF 8) rfl q8
   replace q11 := kn (HF 11) rfl q11
   replace q13 := kn (HF 13) rfl q13
   replace q14 := kn (HF 14) rfl q14
   replace q15 := kn (HF 15) rfl q15
   replace q16 := kn (HF 16) rfl q16
   have q17 := ksv (HF 17) rfl rfl rfl
   clear q7
   clear q47
   clear HF
   replace f4 := GR.v_ext _ f4 hE
   replace f6 := GR.v_ext _ f6 hE
   replace f8 := GR.v_ext _ f8 hE
   replace f22 := GR.v_ext _ f22 hE
   replace f14 := GR.v_ext _ f14 hE
   replace f31 := f31.ext hE
   replace hB := Base.step hB hE hO; clear hE
   refine li_nil (nx_then (wp_seq ?_))
   obtain ⟨x34, hx34, h⟩ := Comp.run_bind h
   obtain ⟨x35, hx35, h⟩ := Comp.run_bind h
   obtain ⟨x36, hx36, h⟩ := Comp.run_bind h
   obtain ⟨x37, hx37, h⟩ := Comp.run_bind h
   refine' region [_, _, _, _, SP.ptr r_aEn O30 x34, SP.isv (.agg #[.int .i64 x34.Seq, .int .i64 x34.Shop, .int .i64 x34.Kind, .int .i64 x34.Day, .int .i64 x34.N, .string (str x34.Before), .string (str x34.After), .string (str x34.Prev), .string (str x34.Mark)]), SP.isv (.agg (cellsA (fun x => [.int .i64 x]) x_2).toArray), _, _, _, _, SP.isv (.string (str x35)), SP.isv (.agg #[.int .i64 x36.Seq, .int .i64 x36.Shop, .int .i64 x36.Kind, .int .i64 x36.Day, .int .i64 x36.N, .string (str x36.Before), .string (str x36.After), .string (str x36.Prev), .string (str x36.Mark)]), SP.elt (u29) (Int.toNat x33 * 9)] mixed hA (.cons (fun _ _ hE hK hg => ok_move (kn (hK 16 rfl) rfl q16)) (.cons (fun _ _ hE hK hg => ok_move (kn (hK 17 rfl) rfl q17)) (.cons (fun _ _ hE hK hg => ok_move (kn (hK 16 rfl) rfl q16)) (.cons (fun _ _ hE hK hg => ok_move (kn (hK 17 rfl) rfl q17)) (.cons (fun _ _ hE hK hg => okl_idx (r := r_aEn) (O := O30) ty29 ty26 rfl (ksv (j := 2) (hK 56 rfl) rfl rfl rfl) (OwnL.rd (OwnL.ext f31 hE)) (ksv (j := 3) (hK 57 rfl) rfl rfl rfl) hx34) (.cons (fun _ _ hE hK hg => okl_ldr r_aEn fit_aEn ty26 rfl rfl rfl (kspS (φ := SP.ptr r_aEn O30 x34) (j := 4) (hK 58 rfl) rfl rfl rfl) (fun _ _ _ h => rC_v.1 h)) (.cons ?z9_6 (.cons (fun _ _ hE hK hg => ok_move (kn (hK 3 rfl) rfl q3)) (.cons (fun _ _ hE hK hg => ok_move (kn (hK 3 rfl) rfl q3)) (.cons (fun _ _ hE hK hg => okl_lenS ty9 (ksv (j := 8) (hK 62 rfl) rfl rfl rfl)) (.cons (fun _ _ hE hK hg => ok_min (ksv (j := 9) (hK 63 rfl) rfl rfl rfl) rfl) (.cons (fun _ _ hE hK hg => okl_sliceS_h ty9 (ksv (j := 7) (hK 61 rfl) rfl rfl rfl) (ksv (j := 10) (hK 64 rfl) rfl rfl rfl) hx35) (.cons ?z9_12 (.cons (fun _ _ hE hK hg => okl_idxOwn rfl ty29 ty26 (ksv (j := 0) (hK 54 rfl) rfl rfl rfl) (OwnL.ext f31 hE) (ksv (j := 1) (hK 55 rfl) rfl rfl rfl) (idx_lt hx37)) .nil)))))))))))))) ?zok9 ?zgd9 ?zk9
   case z9_6 => intro a' w' hE hK hg; exact okl_ldr (rVec 2 1 (fun x => [.int .i64 x]) (fun _ => rfl) (fun _ => by simp [Value.oneCell'])) (by intro h; cases h) ty38 rfl rfl (kn (hK 8 rfl) rfl q8) (ptr_of_box (by intro h; cases h) (GR.v_ext _ f6 hE)) (fun _ _ _ h => rC_v.1 h)
   case z9_12 => intro a' w' hE hK hg; have c_ := ok_r7_Odd (OkO.ext hB.ok hE)  hx36; exact ok_call3 fn24 (ksv (j := 5) (hK 59 rfl) rfl rfl rfl) (ksv (j := 6) (hK 60 rfl) rfl rfl rfl) (ksv (j := 11) (hK 65 rfl) rfl rfl rfl) c_
   case zok9 | zgd9 => kernel_rfl
   intro a18 w18 hA hE HF
   replace q4 := kn (HF 4) rfl q4
   replace q11 := kn (HF 11) rfl q11
   replace q13 := kn (HF 13) rfl q13
   replace q14 := kn (HF 14) rfl q14
   replace q15 := kn (HF 15) rfl q15
   replace q16 := kn (HF 16) rfl q16
   replace q17 := kn (HF 17) rfl q17
   have q66 := ksv (HF 66) rfl rfl rfl
   have f39 := ksp (HF 67) rfl rfl rfl
   obtain ⟨u38, q67'⟩ : ∃ u, a18.get 67 = u := ⟨_, rfl⟩
   rw [q67'] at f39
   have q67 := q67'; clear q67'
   clear q3
   clear q8
   clear HF
   replace f6 := GR.v_ext _ f6 hE
   replace f8 := GR.v_ext _ f8 hE
   replace f22 := GR.v_ext _ f22 hE
   replace f14 := GR.v_ext _ f14 hE
   replace f31 := f31.ext hE
   replace hB := Base.step hB hE hO; clear hE
   obtain ⟨x41, hx41, h⟩ := Comp.run_bind h
   refine l_storeElt (r := r_aEn) fit_aEn rfl hO hB (okB_fr hB) ty26 q67 f39 f31 q66 (by first | exact (rC_v (x := x36)).2 rfl | exact ⟨_, rfl, rfl⟩) hx41 (by decide) fun w19 f40 hB' hX => ?_
   clear hB; have hB := hB'; clear hB'
   replace f8 := GR.kx _ f8 hX (by decide)
   replace f22 := GR.kx _ f22 hX (by decide)
   replace f14 := GR.kx _ f14 hX (by decide)
   clear hX f31
   refine li_nil (nx_then (wp_seq ?_))
   obtain ⟨x42, hx42, h⟩ := Comp.run_bind h
   obtain ⟨x43, hx43, h⟩ := Comp.run_bind h
   refine' region [_, _, _, _, SP.ptr r_aEn O30 x42, SP.ptr (rInt .i64) O30 x42.Shop, SP.isv (.int .i64 x42.Shop), _, _, _, _, _, SP.ptr r_aEn O30 x43, SP.ptr (rInt .i64) O30 x43.Shop, SP.isv (.int .i64 x43.Shop), _, _, _, _] mixed hA (.cons (fun _ _ hE hK hg => ok_move (kn (hK 4 rfl) rfl q4)) (.cons (fun _ _ hE hK hg => ok_move (ksv (j := 0) (hK 68 rfl) rfl rfl rfl)) (.cons (fun _ _ hE hK hg => ok_move (kn (hK 16 rfl) rfl q16)) (.cons (fun _ _ hE hK hg => ok_move (kn (hK 17 rfl) rfl q17)) (.cons ?z10_4 (.cons ?z10_5 (.cons ?z10_6 (.cons ?z10_7 (.cons ?z10_8 (.cons (fun _ _ hE hK hg => ok_move (ksv (j := 8) (hK 76 rfl) rfl rfl rfl)) (.cons (fun _ _ hE hK hg => ok_move (kn (hK 16 rfl) rfl q16)) (.cons (fun _ _ hE hK hg => ok_move (kn (hK 17 rfl) rfl q17)) (.cons ?z10_12 (.cons ?z10_13 (.cons ?z10_14 (.cons (fun _ _ hE hK hg => ok_move (kn (hK 14 rfl) rfl q14)) (.cons ?z10_16 (.cons ?z10_17 (.cons ?z10_18 .nil))))))))))))))))))) ?zok10 ?zgd10 ?zk10
   case z10_4 => intro a' w' hE hK hg; exact okl_idx (r := r_aEn) (O := O30) ty29 ty26 rfl (ksv (j := 2) (hK 70 rfl) rfl rfl hg) (OwnL.rd (OwnL.ext f40 hE)) (ksv (j := 3) (hK 71 rfl) rfl rfl hg) (run_gdb hx42 hg)
   case z10_5 => intro a' w' hE hK hg; exact okl_fld (S := r_aEn) rfl (fun _ => rfl) sb_aEn_1 fl26_1 rfl (kspS (φ := SP.ptr r_aEn O30 x42) (j := 4) (hK 72 rfl) rfl rfl hg)
   case z10_6 => intro a' w' hE hK hg; exact okl_ldr (rInt .i64) (fun _ => rfl) ty3 rfl rfl rfl (kspS (φ := SP.ptr (rInt .i64) O30 x42.Shop) (j := 5) (hK 73 rfl) rfl rfl hg) (fun _ _ _ h => rInt_v.1 h)
   case z10_7 => intro a' w' hE hK hg; exact ok_geq (ksv (j := 6) (hK 74 rfl) rfl rfl hg) rfl
   case z10_8 => intro a' w' hE hK hg; exact ok_pick (ksv (j := 1) (hK 69 rfl) rfl rfl rfl) (fun hb => ksv (j := 7) (hK 75 rfl) rfl rfl (act_g1 rfl rfl hb)) (fun _ => rfl)
   case z10_12 => intro a' w' hE hK hg; exact okl_idx (r := r_aEn) (O := O30) ty29 ty26 rfl (ksv (j := 10) (hK 78 rfl) rfl rfl hg) (OwnL.rd (OwnL.ext f40 hE)) (ksv (j := 11) (hK 79 rfl) rfl rfl hg) (run_gdb hx43 hg)
   case z10_13 => intro a' w' hE hK hg; exact okl_fld (S := r_aEn) rfl (fun _ => rfl) sb_aEn_1 fl26_1 rfl (kspS (φ := SP.ptr r_aEn O30 x43) (j := 12) (hK 80 rfl) rfl rfl hg)
   case z10_14 => intro a' w' hE hK hg; exact okl_ldr (rInt .i64) (fun _ => rfl) ty3 rfl rfl rfl (kspS (φ := SP.ptr (rInt .i64) O30 x43.Shop) (j := 13) (hK 81 rfl) rfl rfl hg) (fun _ _ _ h => rInt_v.1 h)
   case z10_16 => intro a' w' hE hK hg; exact okl_len (r := rStr) ty28 (ksv (j := 15) (hK 83 rfl) rfl rfl hg) (rd_of (GR.v_ext _ f22 hE))
   case z10_17 => intro a' w' hE hK hg; exact ok_lss (ksv (j := 14) (hK 82 rfl) rfl rfl hg) (ksv (j := 16) (hK 84 rfl) rfl rfl hg)
   case z10_18 => intro a' w' hE hK hg; exact ok_pick (ksv (j := 9) (hK 77 rfl) rfl rfl rfl) (fun hb => ksv (j := 17) (hK 85 rfl) rfl rfl (act_g1 rfl rfl hb)) (fun _ => rfl)
   case zok10 | zgd10 => kernel_rfl
   intro a20 w20 hA hE HF
   replace q11 := kn (HF 11) rfl q11
   replace q13 := kn (HF 13) rfl q13
   replace q14 := kn (HF 14) rfl q14
   replace q15 := kn (HF 15) rfl q15
   replace q16 := kn (HF 16) rfl q16
   replace q17 := kn (HF 17) rfl q17
   have q86 := ksv (HF 86) rfl rfl rfl
   clear q4
   clear HF
   replace f8 := GR.v_ext _ f8 hE
   replace f22 := GR.v_ext _ f22 hE
   replace f14 := GR.v_ext _ f14 hE
   replace f40 := f40.ext hE
   replace hB := Base.step hB hE hO; clear hE
   obtain ⟨x44, hx_, h⟩ := Comp.run_bind h; replace hx_ := Comp.run_pure hx_; rw [hx_] at q86; clear hx_
   refine li_nil (nx_then ?_)
   refine wp_cond_b q86 (fun hc => ?_) (fun hc => ?_)
   ·
    replace h := Comp.run_b_t hc h; clear hc
    obtain ⟨x45, hx45, h⟩ := Comp.run_bind h
    obtain ⟨x46, hx46, h⟩ := Comp.run_bind h
    obtain ⟨x47, hx47, h⟩ := Comp.run_bind h
    obtain ⟨x48, hx48, h⟩ := Comp.run_bind h
    obtain ⟨x49, hx49, h⟩ := Comp.run_bind h
    refine' region [_, _, _, _, _, SP.ptr r_aEn O30 x45, SP.ptr (rInt .i64) O30 x45.Shop, SP.isv (.int .i64 x45.Shop), SP.ptr rStr O30 x46, SP.isv (.string (str x46)), _, _, SP.ptr r_aEn O30 x47, SP.isv (.agg #[.int .i64 x47.Seq, .int .i64 x47.Shop, .int .i64 x47.Kind, .int .i64 x47.Day, .int .i64 x47.N, .string (str x47.Before), .string (str x47.After), .string (str x47.Prev), .string (str x47.Mark)]), SP.isv (.agg #[.int .i64 x48.Seq, .int .i64 x48.Shop, .int .i64 x48.Kind, .int .i64 x48.Day, .int .i64 x48.N, .string (str x48.Before), .string (str x48.After), .string (str x48.Prev), .string (str x48.Mark)]), SP.elt (u29) (Int.toNat x33 * 9)] mixed hA (.cons (fun _ _ hE hK hg => ok_move (kn (hK 16 rfl) rfl q16)) (.cons (fun _ _ hE hK hg => ok_move (kn (hK 17 rfl) rfl q17)) (.cons (fun _ _ hE hK hg => ok_move (kn (hK 14 rfl) rfl q14)) (.cons (fun _ _ hE hK hg => ok_move (kn (hK 16 rfl) rfl q16)) (.cons (fun _ _ hE hK hg => ok_move (kn (hK 17 rfl) rfl q17)) (.cons (fun _ _ hE hK hg => okl_idx (r := r_aEn) (O := O30) ty29 ty26 rfl (ksv (j := 3) (hK 90 rfl) rfl rfl rfl) (OwnL.rd (OwnL.ext f40 hE)) (ksv (j := 4) (hK 91 rfl) rfl rfl rfl) hx45) (.cons (fun _ _ hE hK hg => okl_fld (S := r_aEn) rfl (fun _ => rfl) sb_aEn_1 fl26_1 rfl (kspS (φ := SP.ptr r_aEn O30 x45) (j := 5) (hK 92 rfl) rfl rfl rfl)) (.cons (fun _ _ hE hK hg => okl_ldr (rInt .i64) (fun _ => rfl) ty3 rfl rfl rfl (kspS (φ := SP.ptr (rInt .i64) O30 x45.Shop) (j := 6) (hK 93 rfl) rfl rfl rfl) (fun _ _ _ h => rInt_v.1 h)) (.cons (fun _ _ hE hK hg => okl_idx (r := rStr) (O := O30) ty28 ty9 rfl (ksv (j := 2) (hK 89 rfl) rfl rfl rfl) (rd_of (GR.v_ext _ f22 hE)) (ksv (j := 7) (hK 94 rfl) rfl rfl rfl) hx46) (.cons (fun _ _ hE hK hg => okl_ldr rStr (fun _ => rfl) ty9 rfl rfl rfl (kspS (φ := SP.ptr rStr O30 x46) (j := 8) (hK 95 rfl) rfl rfl rfl) (fun _ _ _ h => rStr_v.1 h)) (.cons (fun _ _ hE hK hg => ok_move (kn (hK 16 rfl) rfl q16)) (.cons (fun _ _ hE hK hg => ok_move (kn (hK 17 rfl) rfl q17)) (.cons (fun _ _ hE hK hg => okl_idx (r := r_aEn) (O := O30) ty29 ty26 rfl (ksv (j := 10) (hK 97 rfl) rfl rfl rfl) (OwnL.rd (OwnL.ext f40 hE)) (ksv (j := 11) (hK 98 rfl) rfl rfl rfl) hx47) (.cons (fun _ _ hE hK hg => okl_ldr r_aEn fit_aEn ty26 rfl rfl rfl (kspS (φ := SP.ptr r_aEn O30 x47) (j := 12) (hK 99 rfl) rfl rfl rfl) (fun _ _ _ h => rC_v.1 h)) (.cons ?z11_14 (.cons (fun _ _ hE hK hg => okl_idxOwn rfl ty29 ty26 (ksv (j := 0) (hK 87 rfl) rfl rfl rfl) (OwnL.ext f40 hE) (ksv (j := 1) (hK 88 rfl) rfl rfl rfl) (idx_lt hx49)) .nil)))))))))))))))) ?zok11 ?zgd11 ?zk11
    case z11_14 => intro a' w' hE hK hg; have c_ := ok_r7_Sign (OkO.ext hB.ok hE)  hx48; exact ok_call2 fn20 (ksv (j := 9) (hK 96 rfl) rfl rfl rfl) (ksv (j := 13) (hK 100 rfl) rfl rfl rfl) c_
    case zok11 | zgd11 => kernel_rfl
    intro a21 w21 hA hE HF
    replace q11 := kn (HF 11) rfl q11
    replace q13 := kn (HF 13) rfl q13
    replace q14 := kn (HF 14) rfl q14
    replace q15 := kn (HF 15) rfl q15
    replace q16 := kn (HF 16) rfl q16
    have q101 := ksv (HF 101) rfl rfl rfl
    have f51 := ksp (HF 102) rfl rfl rfl
    obtain ⟨u50, q102'⟩ : ∃ u, a21.get 102 = u := ⟨_, rfl⟩
    rw [q102'] at f51
    have q102 := q102'; clear q102'
    clear q17
    clear q86
    clear HF
    replace f8 := GR.v_ext _ f8 hE
    replace f22 := GR.v_ext _ f22 hE
    replace f14 := GR.v_ext _ f14 hE
    replace f40 := f40.ext hE
    replace hB := Base.step hB hE hO; clear hE
    obtain ⟨x53, hx53, h⟩ := Comp.run_bind h
    refine l_storeElt (r := r_aEn) fit_aEn rfl hO hB (okB_fr hB) ty26 q102 f51 f40 q101 (by first | exact (rC_v (x := x48)).2 rfl | exact ⟨_, rfl, rfl⟩) hx53 (by decide) fun w22 f52 hB' hX => ?_
    clear hB; have hB := hB'; clear hB'
    replace f8 := GR.kx _ f8 hX (by decide)
    replace f22 := GR.kx _ f22 hX (by decide)
    replace f14 := GR.kx _ f14 hX (by decide)
    clear hX f40
    refine li_nil (nx_then ?_)
    obtain ⟨O57, hB', hX, f58⟩ := freezeL hO hB f52 (by decide)
    clear f52 hB; have hB := hB'; clear hB'
    replace f8 := GR.kx _ f8 hX (by decide)
    replace f22 := GR.kx _ f22 hX (by decide)
    replace f14 := GR.kx _ f14 hX (by decide)
    clear hX
    exact ⟨_, _, _, hA, hB, q11, f8, q13, q14, f22, q15, f14, q16, f58, h⟩
   ·
    replace h := Comp.run_b_f hc h; clear hc
    refine wp_skip (nx_then ?_)
    obtain ⟨O59, hB', hX, f60⟩ := freezeL hO hB f40 (by decide)
    clear f40 hB; have hB := hB'; clear hB'
    replace f8 := GR.kx _ f8 hX (by decide)
    replace f22 := GR.kx _ f22 hX (by decide)
    replace f14 := GR.kx _ f14 hX (by decide)
    clear hX
    exact ⟨_, _, _, hA, hB, q11, f8, q13, q14, f22, q15, f14, q16, f60, h⟩
  ·
   replace h := Comp.run_b_f hc h; clear hc
   refine wp_skip (nx_then ?_)
   obtain ⟨O61, hB', hX, f62⟩ := freezeL hO hB f31 (by decide)
   clear f31 hB; have hB := hB'; clear hB'
   replace f4 := GR.kx _ f4 hX (by decide)
   replace f6 := GR.kx _ f6 hX (by decide)
   replace f8 := GR.kx _ f8 hX (by decide)
   replace f22 := GR.kx _ f22 hX (by decide)
   replace f14 := GR.kx _ f14 hX (by decide)
   clear hX
   exact ⟨_, _, _, hA, hB, q11, f8, q13, q14, f22, q15, f14, q16, f62, h⟩
 intro a23 w23 hI
 clear hA hB h q3 q4 q7 q8 q11 q13 q14 q15 q16 f14 f22 f31 f4 f6 f8
 obtain ⟨O63, x54, u55, hA, hB, q11, f8, q13, q14, f22, q15, f14, q16, f56, h⟩ := hI
 unfold c7_PassportChecks_j2 at h
 refine seq_join (fun a w => ∃ (O93 : Tags), a.fit 165 ∧ Base (Fr w0) O w0 O93 w ∧ a.get 13 = .bool x9 ∧ (c7_PassportChecks_j3 x9 ).run n = some y) ?_ ?_
 ·
  refine wp_seq ?_
  obtain ⟨x64, hx64, h⟩ := Comp.run_bind h
  obtain ⟨x65, hx65, h⟩ := Comp.run_bind h
  obtain ⟨x66, hx66, h⟩ := Comp.run_bind h
  obtain ⟨x67, hx67, h⟩ := Comp.run_bind h
  obtain ⟨x68, hx68, h⟩ := Comp.run_bind h
  obtain ⟨J_, eJ_⟩ : ∃ J_ : (Nat → Bool) → Act → World → Prop, J_ = (fun S_ a_ w_ => ∃ O_ : Tags, Base (Fr w0) O w0 O_ w_ ∧ Keep 0 O63 w23 O_ w_ ∧ (S_ 7 = true → (rSl r_aEn).v O_ w_ (a_.get 110) [x65]) ∧ (S_ 8 = true → (rSl r_aEn).v O_ w_ (a_.get 111) x66) ∧ (S_ 11 = true → (rSl r_aEn).v O_ w_ (a_.get 114) [x67]) ∧ (S_ 15 = true → (rSl r_aEn).v O_ w_ (a_.get 118) x68) ∧ (S_ 16 = true → (rSl (rSl r_aEn)).v O_ w_ (a_.get 119) [x10.2, x54, x66, [x67], x68]) ∧ (S_ 2 = true → S_ 4 = false → OwnL 2 r_aEn 26 (Fr w0) O_ w_ (a_.get 105) []) ∧ (S_ 4 = true → S_ 8 = false → OwnL 2 r_aEn 26 (Fr w0) O_ w_ (a_.get 107) x64) ∧ (S_ 8 = true → OwnL 2 r_aEn 26 (Fr w0) O_ w_ (.slice none 0 0) [])) := ⟨_, rfl⟩
  have T_ : ∀ {i_ : Nat} {d_ : Option Tmp} {v_ : Value} {S_ a' w' w2}, Nat.beq 2 i_ = false → Nat.beq 4 i_ = false → Nat.beq 7 i_ = false → Nat.beq 8 i_ = false → Nat.beq 11 i_ = false → Nat.beq 15 i_ = false → Nat.beq 16 i_ = false → d_ ≠ some 105 → d_ ≠ some 107 → d_ ≠ some 110 → d_ ≠ some 111 → d_ ≠ some 114 → d_ ≠ some 118 → d_ ≠ some 119 → Ext w' w2 → J_ S_ a' w' → J_ (addS S_ i_) (a'.put d_ v_) w2 := by
   subst eJ_; intro i_ d_ v_ S_ a' w' w2 n2_ n4_ n7_ n8_ n11_ n15_ n16_ s105_ s107_ s110_ s111_ s114_ s118_ s119_ hE hJ_
   obtain ⟨O_, hB_, k0_, m7_, m8_, m11_, m15_, m16_, v0_0_, v0_1_, v0_2_⟩ := hJ_
   exact ⟨O_, (Base.step hB_ hE hO), (k0_.trans (KX.keep (KX.ext hE) (by decide))), fun h_ => po_ (d := d_) (t := 110) (φ := fun u_ => (rSl r_aEn).v O_ w2 u_ [x65]) ((GR.v_mono _ (m7_ (addS_off n7_ h_)) (KX.keep (KX.ext hE) (by decide)))) s110_, fun h_ => po_ (d := d_) (t := 111) (φ := fun u_ => (rSl r_aEn).v O_ w2 u_ x66) ((GR.v_mono _ (m8_ (addS_off n8_ h_)) (KX.keep (KX.ext hE) (by decide)))) s111_, fun h_ => po_ (d := d_) (t := 114) (φ := fun u_ => (rSl r_aEn).v O_ w2 u_ [x67]) ((GR.v_mono _ (m11_ (addS_off n11_ h_)) (KX.keep (KX.ext hE) (by decide)))) s114_, fun h_ => po_ (d := d_) (t := 118) (φ := fun u_ => (rSl r_aEn).v O_ w2 u_ x68) ((GR.v_mono _ (m15_ (addS_off n15_ h_)) (KX.keep (KX.ext hE) (by decide)))) s118_, fun h_ => po_ (d := d_) (t := 119) (φ := fun u_ => (rSl (rSl r_aEn)).v O_ w2 u_ [x10.2, x54, x66, [x67], x68]) ((GR.v_mono _ (m16_ (addS_off n16_ h_)) (KX.keep (KX.ext hE) (by decide)))) s119_, fun hp_ hq_ => po_ (d := d_) (t := 105) (φ := fun u_ => OwnL 2 r_aEn 26 (Fr w0) O_ w2 (u_) []) (OwnL.kx (v0_0_ (addS_off n2_ hp_) (addS_no hq_)) (KX.ext hE) (by decide) (by decide)) s105_, fun hp_ hq_ => po_ (d := d_) (t := 107) (φ := fun u_ => OwnL 2 r_aEn 26 (Fr w0) O_ w2 (u_) x64) (OwnL.kx (v0_1_ (addS_off n4_ hp_) (addS_no hq_)) (KX.ext hE) (by decide) (by decide)) s107_, fun hp_ => OwnL.kx (v0_2_ (addS_off n8_ hp_)) (KX.ext hE) (by decide) (by decide)⟩
  refine' regionX (draw := true) J_ [SP.isv (u13), SP.isv (u55), SP.tt, SP.isv (u13), SP.tt, SP.isv (.agg #[.int .i64 x_5.Seq, .int .i64 x_5.Shop, .int .i64 x_5.Kind, .int .i64 x_5.Day, .int .i64 x_5.N, .string (str x_5.Before), .string (str x_5.After), .string (str x_5.Prev), .string (str x_5.Mark)]), SP.isv (.agg #[.int .i64 x65.Seq, .int .i64 x65.Shop, .int .i64 x65.Kind, .int .i64 x65.Day, .int .i64 x65.N, .string (str x65.Before), .string (str x65.After), .string (str x65.Prev), .string (str x65.Mark)]), SP.tt, SP.tt, SP.isv (.agg #[.int .i64 x_5.Seq, .int .i64 x_5.Shop, .int .i64 x_5.Kind, .int .i64 x_5.Day, .int .i64 x_5.N, .string (str x_5.Before), .string (str x_5.After), .string (str x_5.Prev), .string (str x_5.Mark)]), SP.isv (.agg #[.int .i64 x67.Seq, .int .i64 x67.Shop, .int .i64 x67.Kind, .int .i64 x67.Day, .int .i64 x67.N, .string (str x67.Before), .string (str x67.After), .string (str x67.Prev), .string (str x67.Mark)]), SP.tt, SP.isv (u13), SP.isv (.int .i64 (x10.2.length : Int)), SP.isv (.int .i64 (IntKind.wrap .i64 (60 + (x10.2.length : Int)))), SP.tt, SP.tt, SP.isv (.int .i64 ([x10.2, x54, x66, [x67], x68].length : Int)), SP.isv (.int .i64 0)] mixed hA (.cons (stE_isv _) (.cons (stE_isv _) (.cons (stE_tt _) (.cons (stE_isv _) (.cons (stE_tt _) (.cons (stE_isv _) (.cons (stE_isv _) (.cons (stE_tt _) (.cons (stE_tt _) (.cons (stE_isv _) (.cons (stE_isv _) (.cons (stE_tt _) (.cons (stE_isv _) (.cons (stE_isv _) (.cons (stE_isv _) (.cons (stE_tt _) (.cons (stE_tt _) (.cons (stE_isv _) (.cons (stE_isv _) .nil))))))))))))))))))) (.cons ?z12_0 (.cons ?z12_1 (.cons ?z12_2 (.cons ?z12_3 (.cons ?z12_4 (.cons ?z12_5 (.cons ?z12_6 (.cons ?z12_7 (.cons ?z12_8 (.cons ?z12_9 (.cons ?z12_10 (.cons ?z12_11 (.cons ?z12_12 (.cons ?z12_13 (.cons ?z12_14 (.cons ?z12_15 (.cons ?z12_16 (.cons ?z12_17 (.cons ?z12_18 .nil))))))))))))))))))) ?zsk12 ?zst12 ?zok12 ?zgd12 ?zk12
  case z12_0 =>
   intro S_ a' w' hA_ hJ_ hS_ hafter_ hbef_ hK hg K_ Q_ hK_
   refine x_ok (φ := SP.isv (u13)) (by exact ok_move (kn (hK 15 rfl) rfl q15)) fun v_ w2 hE hv_ => hK_ v_ w2 (T_ rfl rfl rfl rfl rfl rfl rfl (by decide) (by decide) (by decide) (by decide) (by decide) (by decide) (by decide) hE hJ_) hv_
  case z12_1 =>
   intro S_ a' w' hA_ hJ_ hS_ hafter_ hbef_ hK hg K_ Q_ hK_
   refine x_ok (φ := SP.isv (u55)) (by exact ok_move (kn (hK 16 rfl) rfl q16)) fun v_ w2 hE hv_ => hK_ v_ w2 (T_ rfl rfl rfl rfl rfl rfl rfl (by decide) (by decide) (by decide) (by decide) (by decide) (by decide) (by decide) hE hJ_) hv_
  case z12_2 =>
   intro S_ a' w' hA_ hJ_ hS_ hafter_ hbef_ hK hg K_ Q_ hK_
   subst eJ_
   obtain ⟨O_, hB_, k0_, m7_, m8_, m11_, m15_, m16_, v0_0_, v0_1_, v0_2_⟩ := hJ_
   refine x_ok (φ := SP.ownr r_aEn 26 w'.heap.size O_ []) (by exact okl_buildSlice (r := r_aEn) fit_aEn rfl hB_.ok ty29 ty26 (Nat.le_refl _) parts_nil trivial rfl (by decide)) fun v_ w2 hE hv_ => ?_
   obtain ⟨O2_, hB2_, hX_, f_⟩ := ownNew hO hB_ hE hv_ rfl 2 (by decide)
   exact hK_ v_ w2 ⟨O2_, hB2_, (k0_.trans (KX.keep hX_ (by decide))), fun h_ => po_ (d := some 105) (t := 110) (φ := fun u_ => (rSl r_aEn).v O2_ w2 u_ [x65]) ((GR.v_mono _ (m7_ (addS_off rfl h_)) (KX.keep hX_ (by decide)))) (by decide), fun h_ => po_ (d := some 105) (t := 111) (φ := fun u_ => (rSl r_aEn).v O2_ w2 u_ x66) ((GR.v_mono _ (m8_ (addS_off rfl h_)) (KX.keep hX_ (by decide)))) (by decide), fun h_ => po_ (d := some 105) (t := 114) (φ := fun u_ => (rSl r_aEn).v O2_ w2 u_ [x67]) ((GR.v_mono _ (m11_ (addS_off rfl h_)) (KX.keep hX_ (by decide)))) (by decide), fun h_ => po_ (d := some 105) (t := 118) (φ := fun u_ => (rSl r_aEn).v O2_ w2 u_ x68) ((GR.v_mono _ (m15_ (addS_off rfl h_)) (KX.keep hX_ (by decide)))) (by decide), fun h_ => po_ (d := some 105) (t := 119) (φ := fun u_ => (rSl (rSl r_aEn)).v O2_ w2 u_ [x10.2, x54, x66, [x67], x68]) ((GR.v_mono _ (m16_ (addS_off rfl h_)) (KX.keep hX_ (by decide)))) (by decide), fun hp_ hq_ => put_me (φ := fun u_ => OwnL 2 r_aEn 26 (Fr w0) O2_ w2 (u_) []) hA_ (by decide) f_, fun hp_ hq_ => no_tf (addS_off rfl hp_) (hafter_ 4 (by kernel_rfl)), fun hp_ => no_tf (addS_off rfl hp_) (hafter_ 8 (by kernel_rfl))⟩ trivial
  case z12_3 =>
   intro S_ a' w' hA_ hJ_ hS_ hafter_ hbef_ hK hg K_ Q_ hK_
   refine x_ok (φ := SP.isv (u13)) (by exact ok_move (kn (hK 15 rfl) rfl q15)) fun v_ w2 hE hv_ => hK_ v_ w2 (T_ rfl rfl rfl rfl rfl rfl rfl (by decide) (by decide) (by decide) (by decide) (by decide) (by decide) (by decide) hE hJ_) hv_
  case z12_4 =>
   intro S_ a' w' hA_ hJ_ hS_ hafter_ hbef_ hK hg K_ Q_ hK_
   subst eJ_
   obtain ⟨O_, hB_, k0_, m7_, m8_, m11_, m15_, m16_, v0_0_, v0_1_, v0_2_⟩ := hJ_
   refine x_append (r := r_aEn) fit_aEn rfl ty29 ty26 rfl (by decide) hO hB_ (okB_fr hB_) rfl (v0_0_ (addS_off rfl (hbef_ 2 (by kernel_rfl))) hS_) (ksv (j := 3) (hK 106 rfl) rfl rfl rfl) (rd_of (GR.v_mono _ f14 k0_)) hx64 (by decide) fun u_ w2 O2_ f_ hB2_ hX_ => ?_
   exact hK_ u_ w2 ⟨O2_, hB2_, (k0_.trans (KX.keep hX_ (by decide))), fun h_ => po_ (d := some 107) (t := 110) (φ := fun u_ => (rSl r_aEn).v O2_ w2 u_ [x65]) ((GR.v_mono _ (m7_ (addS_off rfl h_)) (KX.keep hX_ (by decide)))) (by decide), fun h_ => po_ (d := some 107) (t := 111) (φ := fun u_ => (rSl r_aEn).v O2_ w2 u_ x66) ((GR.v_mono _ (m8_ (addS_off rfl h_)) (KX.keep hX_ (by decide)))) (by decide), fun h_ => po_ (d := some 107) (t := 114) (φ := fun u_ => (rSl r_aEn).v O2_ w2 u_ [x67]) ((GR.v_mono _ (m11_ (addS_off rfl h_)) (KX.keep hX_ (by decide)))) (by decide), fun h_ => po_ (d := some 107) (t := 118) (φ := fun u_ => (rSl r_aEn).v O2_ w2 u_ x68) ((GR.v_mono _ (m15_ (addS_off rfl h_)) (KX.keep hX_ (by decide)))) (by decide), fun h_ => po_ (d := some 107) (t := 119) (φ := fun u_ => (rSl (rSl r_aEn)).v O2_ w2 u_ [x10.2, x54, x66, [x67], x68]) ((GR.v_mono _ (m16_ (addS_off rfl h_)) (KX.keep hX_ (by decide)))) (by decide), fun hp_ hq_ => addS_me hq_, fun hp_ hq_ => put_me (φ := fun u_ => OwnL 2 r_aEn 26 (Fr w0) O2_ w2 (u_) x64) hA_ (by decide) f_, fun hp_ => no_tf (addS_off rfl hp_) (hafter_ 8 (by kernel_rfl))⟩ trivial
  case z12_5 =>
   intro S_ a' w' hA_ hJ_ hS_ hafter_ hbef_ hK hg K_ Q_ hK_
   have hJ2_ := hJ_; rw [eJ_] at hJ2_; obtain ⟨O_, hB_, k0_, m7_, m8_, m11_, m15_, m16_, v0_0_, v0_1_, v0_2_⟩ := hJ2_
   refine x_ok (φ := SP.isv (.agg #[.int .i64 x_5.Seq, .int .i64 x_5.Shop, .int .i64 x_5.Kind, .int .i64 x_5.Day, .int .i64 x_5.N, .string (str x_5.Before), .string (str x_5.After), .string (str x_5.Prev), .string (str x_5.Mark)])) (by exact okl_ldr r_aEn fit_aEn ty26 rfl rfl (kn (hK 11 rfl) rfl q11) (ptr_of_box fit_aEn (GR.v_mono _ f8 k0_)) (fun _ _ _ h => rC_v.1 h)) fun v_ w2 hE hv_ => hK_ v_ w2 (T_ rfl rfl rfl rfl rfl rfl rfl (by decide) (by decide) (by decide) (by decide) (by decide) (by decide) (by decide) hE hJ_) hv_
  case z12_6 =>
   intro S_ a' w' hA_ hJ_ hS_ hafter_ hbef_ hK hg K_ Q_ hK_
   have hJ2_ := hJ_; rw [eJ_] at hJ2_; obtain ⟨O_, hB_, k0_, m7_, m8_, m11_, m15_, m16_, v0_0_, v0_1_, v0_2_⟩ := hJ2_
   refine x_ok (φ := SP.isv (.agg #[.int .i64 x65.Seq, .int .i64 x65.Shop, .int .i64 x65.Kind, .int .i64 x65.Day, .int .i64 x65.N, .string (str x65.Before), .string (str x65.After), .string (str x65.Prev), .string (str x65.Mark)])) (by have c_ := ok_c7_short hB_.ok  hx65; exact ok_call1 fn16 (ksv (j := 5) (hK 108 rfl) rfl rfl rfl) c_) fun v_ w2 hE hv_ => hK_ v_ w2 (T_ rfl rfl rfl rfl rfl rfl rfl (by decide) (by decide) (by decide) (by decide) (by decide) (by decide) (by decide) hE hJ_) hv_
  case z12_7 =>
   intro S_ a' w' hA_ hJ_ hS_ hafter_ hbef_ hK hg K_ Q_ hK_
   subst eJ_
   obtain ⟨O_, hB_, k0_, m7_, m8_, m11_, m15_, m16_, v0_0_, v0_1_, v0_2_⟩ := hJ_
   refine x_ok (φ := SP.vl (rSl r_aEn) O_ [x65]) (by exact okl_buildSliceV (r := r_aEn) fit_aEn rfl hB_.ok ty29 ty26 (parts_cons (ksv (j := 6) (hK 109 rfl) rfl rfl rfl) parts_nil) ⟨(by first | exact (rC_v (x := x65)).2 rfl | exact ⟨_, rfl, rfl⟩), trivial⟩ rfl (by decide)) fun v_ w2 hE hv_ => ?_
   have hB2_ := Base.step hB_ hE hO
   exact hK_ v_ w2 ⟨O_, hB2_, (k0_.trans (KX.keep (KX.ext hE) (by decide))), fun _ => put_me (φ := fun u_ => (rSl r_aEn).v O_ w2 u_ [x65]) hA_ (by decide) hv_, fun h_ => po_ (d := some 110) (t := 111) (φ := fun u_ => (rSl r_aEn).v O_ w2 u_ x66) ((GR.v_mono _ (m8_ (addS_off rfl h_)) (KX.keep (KX.ext hE) (by decide)))) (by decide), fun h_ => po_ (d := some 110) (t := 114) (φ := fun u_ => (rSl r_aEn).v O_ w2 u_ [x67]) ((GR.v_mono _ (m11_ (addS_off rfl h_)) (KX.keep (KX.ext hE) (by decide)))) (by decide), fun h_ => po_ (d := some 110) (t := 118) (φ := fun u_ => (rSl r_aEn).v O_ w2 u_ x68) ((GR.v_mono _ (m15_ (addS_off rfl h_)) (KX.keep (KX.ext hE) (by decide)))) (by decide), fun h_ => po_ (d := some 110) (t := 119) (φ := fun u_ => (rSl (rSl r_aEn)).v O_ w2 u_ [x10.2, x54, x66, [x67], x68]) ((GR.v_mono _ (m16_ (addS_off rfl h_)) (KX.keep (KX.ext hE) (by decide)))) (by decide), fun hp_ hq_ => po_ (d := some 110) (t := 105) (φ := fun u_ => OwnL 2 r_aEn 26 (Fr w0) O_ w2 (u_) []) (OwnL.kx (v0_0_ (addS_off rfl hp_) (addS_no hq_)) (KX.ext hE) (by decide) (by decide)) (by decide), fun hp_ hq_ => po_ (d := some 110) (t := 107) (φ := fun u_ => OwnL 2 r_aEn 26 (Fr w0) O_ w2 (u_) x64) (OwnL.kx (v0_1_ (addS_off rfl hp_) (addS_no hq_)) (KX.ext hE) (by decide) (by decide)) (by decide), fun hp_ => OwnL.kx (v0_2_ (addS_off rfl hp_)) (KX.ext hE) (by decide) (by decide)⟩ trivial
  case z12_8 =>
   intro S_ a' w' hA_ hJ_ hS_ hafter_ hbef_ hK hg K_ Q_ hK_
   subst eJ_
   obtain ⟨O_, hB_, k0_, m7_, m8_, m11_, m15_, m16_, v0_0_, v0_1_, v0_2_⟩ := hJ_
   refine x_append (r := r_aEn) fit_aEn rfl ty29 ty26 rfl (by decide) hO hB_ (okB_fr hB_) rfl (v0_1_ (addS_off rfl (hbef_ 4 (by kernel_rfl))) hS_) rfl (rd_of (m7_ (addS_off rfl (hbef_ 7 (by kernel_rfl))))) hx66 (by decide) fun u_ w2 O2_ f_ hB2_ hX_ => ?_
   obtain ⟨O3_, hB3_, hX3_, f3_⟩ := freezeL hO hB2_ f_ (by decide)
   have hX4_ := KX.trans_same hX_ hX3_
   exact hK_ u_ w2 ⟨O3_, hB3_, (k0_.trans (KX.keep hX4_ (by decide))), fun h_ => po_ (d := some 111) (t := 110) (φ := fun u_ => (rSl r_aEn).v O3_ w2 u_ [x65]) ((GR.v_mono _ (m7_ (addS_off rfl h_)) (KX.keep hX4_ (by decide)))) (by decide), fun _ => put_me (φ := fun u_ => (rSl r_aEn).v O3_ w2 u_ x66) hA_ (by decide) f3_, fun h_ => po_ (d := some 111) (t := 114) (φ := fun u_ => (rSl r_aEn).v O3_ w2 u_ [x67]) ((GR.v_mono _ (m11_ (addS_off rfl h_)) (KX.keep hX4_ (by decide)))) (by decide), fun h_ => po_ (d := some 111) (t := 118) (φ := fun u_ => (rSl r_aEn).v O3_ w2 u_ x68) ((GR.v_mono _ (m15_ (addS_off rfl h_)) (KX.keep hX4_ (by decide)))) (by decide), fun h_ => po_ (d := some 111) (t := 119) (φ := fun u_ => (rSl (rSl r_aEn)).v O3_ w2 u_ [x10.2, x54, x66, [x67], x68]) ((GR.v_mono _ (m16_ (addS_off rfl h_)) (KX.keep hX4_ (by decide)))) (by decide), fun hp_ hq_ => no_tf (hbef_ 4 (by kernel_rfl)) hq_, fun hp_ hq_ => addS_me hq_, fun hp_ => (OwnL.nil _ _ _ _ _ _)⟩ trivial
  case z12_9 =>
   intro S_ a' w' hA_ hJ_ hS_ hafter_ hbef_ hK hg K_ Q_ hK_
   have hJ2_ := hJ_; rw [eJ_] at hJ2_; obtain ⟨O_, hB_, k0_, m7_, m8_, m11_, m15_, m16_, v0_0_, v0_1_, v0_2_⟩ := hJ2_
   refine x_ok (φ := SP.isv (.agg #[.int .i64 x_5.Seq, .int .i64 x_5.Shop, .int .i64 x_5.Kind, .int .i64 x_5.Day, .int .i64 x_5.N, .string (str x_5.Before), .string (str x_5.After), .string (str x_5.Prev), .string (str x_5.Mark)])) (by exact okl_ldr r_aEn fit_aEn ty26 rfl rfl (kn (hK 11 rfl) rfl q11) (ptr_of_box fit_aEn (GR.v_mono _ f8 k0_)) (fun _ _ _ h => rC_v.1 h)) fun v_ w2 hE hv_ => hK_ v_ w2 (T_ rfl rfl rfl rfl rfl rfl rfl (by decide) (by decide) (by decide) (by decide) (by decide) (by decide) (by decide) hE hJ_) hv_
  case z12_10 =>
   intro S_ a' w' hA_ hJ_ hS_ hafter_ hbef_ hK hg K_ Q_ hK_
   have hJ2_ := hJ_; rw [eJ_] at hJ2_; obtain ⟨O_, hB_, k0_, m7_, m8_, m11_, m15_, m16_, v0_0_, v0_1_, v0_2_⟩ := hJ2_
   refine x_ok (φ := SP.isv (.agg #[.int .i64 x67.Seq, .int .i64 x67.Shop, .int .i64 x67.Kind, .int .i64 x67.Day, .int .i64 x67.N, .string (str x67.Before), .string (str x67.After), .string (str x67.Prev), .string (str x67.Mark)])) (by have c_ := ok_c7_short hB_.ok  hx67; exact ok_call1 fn16 (ksv (j := 9) (hK 112 rfl) rfl rfl rfl) c_) fun v_ w2 hE hv_ => hK_ v_ w2 (T_ rfl rfl rfl rfl rfl rfl rfl (by decide) (by decide) (by decide) (by decide) (by decide) (by decide) (by decide) hE hJ_) hv_
  case z12_11 =>
   intro S_ a' w' hA_ hJ_ hS_ hafter_ hbef_ hK hg K_ Q_ hK_
   subst eJ_
   obtain ⟨O_, hB_, k0_, m7_, m8_, m11_, m15_, m16_, v0_0_, v0_1_, v0_2_⟩ := hJ_
   refine x_ok (φ := SP.vl (rSl r_aEn) O_ [x67]) (by exact okl_buildSliceV (r := r_aEn) fit_aEn rfl hB_.ok ty29 ty26 (parts_cons (ksv (j := 10) (hK 113 rfl) rfl rfl rfl) parts_nil) ⟨(by first | exact (rC_v (x := x67)).2 rfl | exact ⟨_, rfl, rfl⟩), trivial⟩ rfl (by decide)) fun v_ w2 hE hv_ => ?_
   have hB2_ := Base.step hB_ hE hO
   exact hK_ v_ w2 ⟨O_, hB2_, (k0_.trans (KX.keep (KX.ext hE) (by decide))), fun h_ => po_ (d := some 114) (t := 110) (φ := fun u_ => (rSl r_aEn).v O_ w2 u_ [x65]) ((GR.v_mono _ (m7_ (addS_off rfl h_)) (KX.keep (KX.ext hE) (by decide)))) (by decide), fun h_ => po_ (d := some 114) (t := 111) (φ := fun u_ => (rSl r_aEn).v O_ w2 u_ x66) ((GR.v_mono _ (m8_ (addS_off rfl h_)) (KX.keep (KX.ext hE) (by decide)))) (by decide), fun _ => put_me (φ := fun u_ => (rSl r_aEn).v O_ w2 u_ [x67]) hA_ (by decide) hv_, fun h_ => po_ (d := some 114) (t := 118) (φ := fun u_ => (rSl r_aEn).v O_ w2 u_ x68) ((GR.v_mono _ (m15_ (addS_off rfl h_)) (KX.keep (KX.ext hE) (by decide)))) (by decide), fun h_ => po_ (d := some 114) (t := 119) (φ := fun u_ => (rSl (rSl r_aEn)).v O_ w2 u_ [x10.2, x54, x66, [x67], x68]) ((GR.v_mono _ (m16_ (addS_off rfl h_)) (KX.keep (KX.ext hE) (by decide)))) (by decide), fun hp_ hq_ => po_ (d := some 114) (t := 105) (φ := fun u_ => OwnL 2 r_aEn 26 (Fr w0) O_ w2 (u_) []) (OwnL.kx (v0_0_ (addS_off rfl hp_) (addS_no hq_)) (KX.ext hE) (by decide) (by decide)) (by decide), fun hp_ hq_ => po_ (d := some 114) (t := 107) (φ := fun u_ => OwnL 2 r_aEn 26 (Fr w0) O_ w2 (u_) x64) (OwnL.kx (v0_1_ (addS_off rfl hp_) (addS_no hq_)) (KX.ext hE) (by decide) (by decide)) (by decide), fun hp_ => OwnL.kx (v0_2_ (addS_off rfl hp_)) (KX.ext hE) (by decide) (by decide)⟩ trivial
  case z12_12 =>
   intro S_ a' w' hA_ hJ_ hS_ hafter_ hbef_ hK hg K_ Q_ hK_
   refine x_ok (φ := SP.isv (u13)) (by exact ok_move (kn (hK 15 rfl) rfl q15)) fun v_ w2 hE hv_ => hK_ v_ w2 (T_ rfl rfl rfl rfl rfl rfl rfl (by decide) (by decide) (by decide) (by decide) (by decide) (by decide) (by decide) hE hJ_) hv_
  case z12_13 =>
   intro S_ a' w' hA_ hJ_ hS_ hafter_ hbef_ hK hg K_ Q_ hK_
   have hJ2_ := hJ_; rw [eJ_] at hJ2_; obtain ⟨O_, hB_, k0_, m7_, m8_, m11_, m15_, m16_, v0_0_, v0_1_, v0_2_⟩ := hJ2_
   refine x_ok (φ := SP.isv (.int .i64 (x10.2.length : Int))) (by exact okl_len (r := r_aEn) ty29 (ksv (j := 12) (hK 115 rfl) rfl rfl rfl) (rd_of (GR.v_mono _ f14 k0_))) fun v_ w2 hE hv_ => hK_ v_ w2 (T_ rfl rfl rfl rfl rfl rfl rfl (by decide) (by decide) (by decide) (by decide) (by decide) (by decide) (by decide) hE hJ_) hv_
  case z12_14 =>
   intro S_ a' w' hA_ hJ_ hS_ hafter_ hbef_ hK hg K_ Q_ hK_
   refine x_ok (φ := SP.isv (.int .i64 (IntKind.wrap .i64 (60 + (x10.2.length : Int))))) (by exact ok_add rfl (ksv (j := 13) (hK 116 rfl) rfl rfl rfl)) fun v_ w2 hE hv_ => hK_ v_ w2 (T_ rfl rfl rfl rfl rfl rfl rfl (by decide) (by decide) (by decide) (by decide) (by decide) (by decide) (by decide) hE hJ_) hv_
  case z12_15 =>
   intro S_ a' w' hA_ hJ_ hS_ hafter_ hbef_ hK hg K_ Q_ hK_
   subst eJ_
   obtain ⟨O_, hB_, k0_, m7_, m8_, m11_, m15_, m16_, v0_0_, v0_1_, v0_2_⟩ := hJ_
   refine x_ok (φ := SP.vl (rSl r_aEn) O_ x68) (by exact ok_weak (okl_make (r := r_aEn) (B := w'.heap.size) rfl ty29 ty26 (by decide) rfl (Nat.le_refl _) (ksv (j := 14) (hK 117 rfl) rfl rfl rfl) (ksv (j := 14) (hK 117 rfl) rfl rfl rfl) (fun _ _ => ⟨_, rfl, rfl⟩) hx68) (fun _ _ _ h => OwnR.val h (fun g hg => hB_.ok g (Nat.le_trans (Nat.le_refl _) (OwnR.ge h g hg).1)))) fun v_ w2 hE hv_ => ?_
   have hB2_ := Base.step hB_ hE hO
   exact hK_ v_ w2 ⟨O_, hB2_, (k0_.trans (KX.keep (KX.ext hE) (by decide))), fun h_ => po_ (d := some 118) (t := 110) (φ := fun u_ => (rSl r_aEn).v O_ w2 u_ [x65]) ((GR.v_mono _ (m7_ (addS_off rfl h_)) (KX.keep (KX.ext hE) (by decide)))) (by decide), fun h_ => po_ (d := some 118) (t := 111) (φ := fun u_ => (rSl r_aEn).v O_ w2 u_ x66) ((GR.v_mono _ (m8_ (addS_off rfl h_)) (KX.keep (KX.ext hE) (by decide)))) (by decide), fun h_ => po_ (d := some 118) (t := 114) (φ := fun u_ => (rSl r_aEn).v O_ w2 u_ [x67]) ((GR.v_mono _ (m11_ (addS_off rfl h_)) (KX.keep (KX.ext hE) (by decide)))) (by decide), fun _ => put_me (φ := fun u_ => (rSl r_aEn).v O_ w2 u_ x68) hA_ (by decide) hv_, fun h_ => po_ (d := some 118) (t := 119) (φ := fun u_ => (rSl (rSl r_aEn)).v O_ w2 u_ [x10.2, x54, x66, [x67], x68]) ((GR.v_mono _ (m16_ (addS_off rfl h_)) (KX.keep (KX.ext hE) (by decide)))) (by decide), fun hp_ hq_ => po_ (d := some 118) (t := 105) (φ := fun u_ => OwnL 2 r_aEn 26 (Fr w0) O_ w2 (u_) []) (OwnL.kx (v0_0_ (addS_off rfl hp_) (addS_no hq_)) (KX.ext hE) (by decide) (by decide)) (by decide), fun hp_ hq_ => po_ (d := some 118) (t := 107) (φ := fun u_ => OwnL 2 r_aEn 26 (Fr w0) O_ w2 (u_) x64) (OwnL.kx (v0_1_ (addS_off rfl hp_) (addS_no hq_)) (KX.ext hE) (by decide) (by decide)) (by decide), fun hp_ => OwnL.kx (v0_2_ (addS_off rfl hp_)) (KX.ext hE) (by decide) (by decide)⟩ trivial
  case z12_16 =>
   intro S_ a' w' hA_ hJ_ hS_ hafter_ hbef_ hK hg K_ Q_ hK_
   subst eJ_
   obtain ⟨O_, hB_, k0_, m7_, m8_, m11_, m15_, m16_, v0_0_, v0_1_, v0_2_⟩ := hJ_
   refine x_ok (φ := SP.vl (rSl (rSl r_aEn)) O_ [x10.2, x54, x66, [x67], x68]) (by exact okl_buildSliceV (r := (rSl r_aEn)) (fun _ => rfl) rfl hB_.ok ty41 ty29 (parts_cons (ksv (j := 0) (hK 103 rfl) rfl rfl rfl) (parts_cons (ksv (j := 1) (hK 104 rfl) rfl rfl rfl) (parts_cons rfl (parts_cons rfl (parts_cons rfl parts_nil))))) ⟨(GR.v_mono _ f14 k0_), ⟨(GR.v_mono _ f56 k0_), ⟨(m8_ (addS_off rfl (hbef_ 8 (by kernel_rfl)))), ⟨(m11_ (addS_off rfl (hbef_ 11 (by kernel_rfl)))), ⟨(m15_ (addS_off rfl (hbef_ 15 (by kernel_rfl)))), trivial⟩⟩⟩⟩⟩ rfl (by decide)) fun v_ w2 hE hv_ => ?_
   have hB2_ := Base.step hB_ hE hO
   exact hK_ v_ w2 ⟨O_, hB2_, (k0_.trans (KX.keep (KX.ext hE) (by decide))), fun h_ => po_ (d := some 119) (t := 110) (φ := fun u_ => (rSl r_aEn).v O_ w2 u_ [x65]) ((GR.v_mono _ (m7_ (addS_off rfl h_)) (KX.keep (KX.ext hE) (by decide)))) (by decide), fun h_ => po_ (d := some 119) (t := 111) (φ := fun u_ => (rSl r_aEn).v O_ w2 u_ x66) ((GR.v_mono _ (m8_ (addS_off rfl h_)) (KX.keep (KX.ext hE) (by decide)))) (by decide), fun h_ => po_ (d := some 119) (t := 114) (φ := fun u_ => (rSl r_aEn).v O_ w2 u_ [x67]) ((GR.v_mono _ (m11_ (addS_off rfl h_)) (KX.keep (KX.ext hE) (by decide)))) (by decide), fun h_ => po_ (d := some 119) (t := 118) (φ := fun u_ => (rSl r_aEn).v O_ w2 u_ x68) ((GR.v_mono _ (m15_ (addS_off rfl h_)) (KX.keep (KX.ext hE) (by decide)))) (by decide), fun _ => put_me (φ := fun u_ => (rSl (rSl r_aEn)).v O_ w2 u_ [x10.2, x54, x66, [x67], x68]) hA_ (by decide) hv_, fun hp_ hq_ => po_ (d := some 119) (t := 105) (φ := fun u_ => OwnL 2 r_aEn 26 (Fr w0) O_ w2 (u_) []) (OwnL.kx (v0_0_ (addS_off rfl hp_) (addS_no hq_)) (KX.ext hE) (by decide) (by decide)) (by decide), fun hp_ hq_ => po_ (d := some 119) (t := 107) (φ := fun u_ => OwnL 2 r_aEn 26 (Fr w0) O_ w2 (u_) x64) (OwnL.kx (v0_1_ (addS_off rfl hp_) (addS_no hq_)) (KX.ext hE) (by decide) (by decide)) (by decide), fun hp_ => OwnL.kx (v0_2_ (addS_off rfl hp_)) (KX.ext hE) (by decide) (by decide)⟩ trivial
  case z12_17 =>
   intro S_ a' w' hA_ hJ_ hS_ hafter_ hbef_ hK hg K_ Q_ hK_
   have hJ2_ := hJ_; rw [eJ_] at hJ2_; obtain ⟨O_, hB_, k0_, m7_, m8_, m11_, m15_, m16_, v0_0_, v0_1_, v0_2_⟩ := hJ2_
   refine x_ok (φ := SP.isv (.int .i64 ([x10.2, x54, x66, [x67], x68].length : Int))) (by exact okl_len (r := (rSl r_aEn)) ty41 rfl (rd_of (m16_ (addS_off rfl (hbef_ 16 (by kernel_rfl)))))) fun v_ w2 hE hv_ => hK_ v_ w2 (T_ rfl rfl rfl rfl rfl rfl rfl (by decide) (by decide) (by decide) (by decide) (by decide) (by decide) (by decide) hE hJ_) hv_
  case z12_18 =>
   intro S_ a' w' hA_ hJ_ hS_ hafter_ hbef_ hK hg K_ Q_ hK_
   refine x_ok (φ := SP.isv (.int .i64 0)) (by exact ok_move rfl) fun v_ w2 hE hv_ => hK_ v_ w2 (T_ rfl rfl rfl rfl rfl rfl rfl (by decide) (by decide) (by decide) (by decide) (by decide) (by decide) (by decide) hE hJ_) hv_
  case zsk12 =>
   subst eJ_
   intro i_ o_ S_ a_ w_ ho_ hact_ hA_ hS_ hbef_ hJ_
   obtain ⟨O_, hB_, k0_, m7_, m8_, m11_, m15_, m16_, v0_0_, v0_1_, v0_2_⟩ := hJ_
   exact ⟨O_, hB_, k0_, fun h_ => by obtain ⟨h1_, h2_⟩ := skip_off (j := 7) hact_ rfl h_; exact po_ (t := 110) (φ := fun u_ => (rSl r_aEn).v O_ w_ u_ [x65]) (m7_ h1_) (uniqDst_ne (j := 7) (by kernel_rfl) ho_ h2_), fun h_ => by obtain ⟨h1_, h2_⟩ := skip_off (j := 8) hact_ rfl h_; exact po_ (t := 111) (φ := fun u_ => (rSl r_aEn).v O_ w_ u_ x66) (m8_ h1_) (uniqDst_ne (j := 8) (by kernel_rfl) ho_ h2_), fun h_ => by obtain ⟨h1_, h2_⟩ := skip_off (j := 11) hact_ rfl h_; exact po_ (t := 114) (φ := fun u_ => (rSl r_aEn).v O_ w_ u_ [x67]) (m11_ h1_) (uniqDst_ne (j := 11) (by kernel_rfl) ho_ h2_), fun h_ => by obtain ⟨h1_, h2_⟩ := skip_off (j := 15) hact_ rfl h_; exact po_ (t := 118) (φ := fun u_ => (rSl r_aEn).v O_ w_ u_ x68) (m15_ h1_) (uniqDst_ne (j := 15) (by kernel_rfl) ho_ h2_), fun h_ => by obtain ⟨h1_, h2_⟩ := skip_off (j := 16) hact_ rfl h_; exact po_ (t := 119) (φ := fun u_ => (rSl (rSl r_aEn)).v O_ w_ u_ [x10.2, x54, x66, [x67], x68]) (m16_ h1_) (uniqDst_ne (j := 16) (by kernel_rfl) ho_ h2_), fun hp_ hq_ => by obtain ⟨h1_, h2_⟩ := skip_off (j := 2) hact_ rfl hp_; exact po_ (t := 105) (φ := fun u_ => OwnL 2 r_aEn 26 (Fr w0) O_ w_ (u_) []) (v0_0_ h1_ (addS_no hq_)) (uniqDst_ne (j := 2) (by kernel_rfl) ho_ h2_), fun hp_ hq_ => by obtain ⟨h1_, h2_⟩ := skip_off (j := 4) hact_ rfl hp_; exact po_ (t := 107) (φ := fun u_ => OwnL 2 r_aEn 26 (Fr w0) O_ w_ (u_) x64) (v0_1_ h1_ (addS_no hq_)) (uniqDst_ne (j := 4) (by kernel_rfl) ho_ h2_), fun hp_ => by obtain ⟨h1_, h2_⟩ := skip_off (j := 8) hact_ rfl hp_; exact (v0_2_ h1_)⟩
  case zst12 => subst eJ_; exact fun w1_ hE_ => ⟨O63, (Base.step hB hE_ hO), (Keep.ext hE_), fun h_ => no_ft h_, fun h_ => no_ft h_, fun h_ => no_ft h_, fun h_ => no_ft h_, fun h_ => no_ft h_, fun hp_ => no_ft hp_, fun hp_ => no_ft hp_, fun hp_ => no_ft hp_⟩
  case zok12 | zgd12 => kernel_rfl
  subst eJ_; clear T_
  intro a24 w24 hA HF hJ_
  obtain ⟨O69, hB_, k0_, m7_, m8_, m11_, m15_, m16_, v0_0_, v0_1_, v0_2_⟩ := hJ_
  replace q13 := kn (HF 13) rfl q13
  replace q14 := kn (HF 14) rfl q14
  replace q15 := kn (HF 15) rfl q15
  replace q16 := kn (HF 16) rfl q16
  have f71 := m16_ rfl
  obtain ⟨u70, q119'⟩ : ∃ u, a24.get 119 = u := ⟨_, rfl⟩
  rw [q119'] at f71
  have q119 := q119'; clear q119'
  have q120' := ksv (j := 17) (HF 120) rfl rfl rfl
  have q120 := q120'; clear q120'
  have q121' := ksv (j := 18) (HF 121) rfl rfl rfl
  have q121 := q121'; clear q121'
  clear q11
  clear HF
  replace f8 := GR.v_mono _ f8 k0_
  replace f22 := GR.v_mono _ f22 k0_
  replace f14 := GR.v_mono _ f14 k0_
  replace f56 := GR.v_mono _ f56 k0_
  clear hB; have hB := hB_; clear hB_
  clear k0_ m7_ m8_ m11_ m15_ m16_ v0_0_ v0_1_ v0_2_
  obtain ⟨x72, hx_, h⟩ := Comp.run_bind h; replace hx_ := Comp.run_pure hx_; rw [hx_] at q120; clear hx_
  refine nx_then (wp_block ?_)
  obtain ⟨e4, he4, hk4⟩ := Comp.run_bind h; clear h
  refine loop_m (fun m a w => ∃ (O74 : Tags) (x73 : Int), a.fit 165 ∧ Base (Fr w0) O w0 O74 w ∧ a.get 13 = .bool x9 ∧ a.get 14 = u21 ∧ (rSl rStr).v O74 w u21 x20 ∧ a.get 15 = u13 ∧ (rSl r_aEn).v O74 w u13 x10.2 ∧ a.get 16 = u55 ∧ (rSl r_aEn).v O74 w u55 x54 ∧ a.get 119 = u70 ∧ (rSl (rSl r_aEn)).v O74 w u70 [x10.2, x54, x66, [x67], x68] ∧ a.get 120 = .int .i64 x72 ∧ a.get 121 = .int .i64 x73 ∧ Comp.loopN (fun s => c7_PassportChecks_l4 x72 x10 x54 x66 x67 x68 x20 s) n m x73 = some e4) (m := n) ?st4 ?_
  case st4 =>
   exact ⟨_, _, hA, hB, q13, q14, f22, q15, f14, q16, f56, q119, f71, q120, q121, Comp.run_loop he4⟩
  intro m_ a25 w25 hI
  clear hA hB he4 q13 q14 q15 q16 q119 q120 q121 f14 f22 f56 f71
  obtain ⟨O74, x73, hA, hB, q13, q14, f22, q15, f14, q16, f56, q119, f71, q120, q121, hl⟩ := hI
  obtain ⟨m4, hlt4, st4, h, hnext4, hdone4⟩ := Comp.loopN_succ hl; clear hl
  replace h : (c7_PassportChecks_l4 x72 x10 x54 x66 x67 x68 x20 x73).run n = some st4 := h
  unfold c7_PassportChecks_l4 at h
  refine wp_seq ?_
  refine' region [_] mixed hA (.cons (fun _ _ hE hK hg => ok_lss (kn (hK 121 rfl) rfl q121) (kn (hK 120 rfl) rfl q120)) .nil) ?zok13 ?zgd13 ?zk13
  case zok13 | zgd13 => kernel_rfl
  intro a26 w26 hA hE HF
  replace q13 := kn (HF 13) rfl q13
  replace q14 := kn (HF 14) rfl q14
  replace q15 := kn (HF 15) rfl q15
  replace q16 := kn (HF 16) rfl q16
  replace q119 := kn (HF 119) rfl q119
  replace q120 := kn (HF 120) rfl q120
  replace q121 := kn (HF 121) rfl q121
  have q122 := ksv (HF 122) rfl rfl rfl
  clear HF
  replace f22 := GR.v_ext _ f22 hE
  replace f14 := GR.v_ext _ f14 hE
  replace f56 := GR.v_ext _ f56 hE
  replace f71 := GR.v_ext _ f71 hE
  replace hB := Base.step hB hE hO; clear hE
  refine li_nil (nx_then (wp_seq ?_))
  refine wp_cond_b q122 (fun hc => ?_) (fun hc => ?_)
  ·
   replace h := Comp.run_b_t hc h; clear hc
   refine wp_skip (nx_then (wp_seq (wp_block (wp_seq ?_))))
   obtain ⟨x75, hx75, h⟩ := Comp.run_bind h
   refine' region [SP.ptr (rSl r_aEn) O74 x75, SP.vl (rSl r_aEn) O74 x75, SP.vl (rSl r_aEn) O74 x75] mixed hA (.cons (fun _ _ hE hK hg => okl_idx (r := (rSl r_aEn)) (O := O74) ty41 ty29 rfl (kn (hK 119 rfl) rfl q119) (rd_of (GR.v_ext _ f71 hE)) (kn (hK 121 rfl) rfl q121) hx75) (.cons (fun _ _ hE hK hg => okl_ld (r := (rSl r_aEn)) (fun _ => rfl) ty29 rfl rfl rfl (kspS (φ := SP.ptr (rSl r_aEn) O74 x75) (j := 0) (hK 123 rfl) rfl rfl rfl)) (.cons (fun _ _ hE hK hg => ok_assign_pr (φ := SP.vl (rSl r_aEn) O74 x75) (kspS (j := 1) (hK 124 rfl) rfl rfl rfl)) .nil))) ?zok14 ?zgd14 ?zk14
   case zok14 | zgd14 => kernel_rfl
   intro a27 w27 hA hE HF
   replace q13 := kn (HF 13) rfl q13
   replace q14 := kn (HF 14) rfl q14
   replace q15 := kn (HF 15) rfl q15
   replace q16 := kn (HF 16) rfl q16
   have f77 := ksp (HF 19) rfl rfl rfl
   obtain ⟨u76, q19'⟩ : ∃ u, a27.get 19 = u := ⟨_, rfl⟩
   rw [q19'] at f77
   have q19 := q19'; clear q19'
   replace q119 := kn (HF 119) rfl q119
   replace q120 := kn (HF 120) rfl q120
   replace q121 := kn (HF 121) rfl q121
   clear q122
   clear HF
   replace f22 := GR.v_ext _ f22 hE
   replace f14 := GR.v_ext _ f14 hE
   replace f56 := GR.v_ext _ f56 hE
   replace f71 := GR.v_ext _ f71 hE
   replace hB := Base.step hB hE hO; clear hE
   refine li_nil (nx_then (wp_seq (wp_seq ?_)))
   obtain ⟨x78, hx78, h⟩ := Comp.run_bind h
   obtain ⟨x79, hx79, h⟩ := Comp.run_bind h
   refine' region [_, _, SP.isv (.agg #[.int .i64 x78.Entry, .int .i64 x78.Why]), _, _, SP.isv (.agg #[.int .i64 x79.Entry, .int .i64 x79.Why]), _] mixed hA (.cons (fun _ _ hE hK hg => ok_move (kn (hK 14 rfl) rfl q14)) (.cons (fun _ _ hE hK hg => ok_move (kn (hK 19 rfl) rfl q19)) (.cons ?z15_2 (.cons (fun _ _ hE hK hg => ok_move (kn (hK 14 rfl) rfl q14)) (.cons (fun _ _ hE hK hg => ok_move (kn (hK 19 rfl) rfl q19)) (.cons ?z15_5 (.cons (fun _ _ hE hK hg => okl_neqR (O1 := O74) (O2 := O74) (w1 := w27) (w2 := w27) eq_api_Finding rfl (by decide) (by kernel_rfl) (ksv (j := 2) (hK 127 rfl) rfl rfl rfl) (ksv (j := 5) (hK 130 rfl) rfl rfl rfl) ((rC_v (x := x78)).2 rfl) ((rC_v (x := x79)).2 rfl)) .nil))))))) ?zok15 ?zgd15 ?zk15
   case z15_2 => intro a' w' hE hK hg; have c_ := ok_passport_Check (OkO.ext hB.ok hE) (GR.v_ext _ f22 hE) (GR.v_ext _ f77 hE) hx78; exact ok_call2 fn25 (ksv (j := 0) (hK 125 rfl) rfl rfl rfl) (ksv (j := 1) (hK 126 rfl) rfl rfl rfl) c_
   case z15_5 => intro a' w' hE hK hg; have c_ := ok_r7_Check (OkO.ext hB.ok hE) (GR.v_ext _ f22 hE) (GR.v_ext _ f77 hE) hx79; exact ok_call2 fn26 (ksv (j := 3) (hK 128 rfl) rfl rfl rfl) (ksv (j := 4) (hK 129 rfl) rfl rfl rfl) c_
   case zok15 | zgd15 => kernel_rfl
   intro a28 w28 hA hE HF
   replace q13 := kn (HF 13) rfl q13
   replace q14 := kn (HF 14) rfl q14
   replace q15 := kn (HF 15) rfl q15
   replace q16 := kn (HF 16) rfl q16
   replace q19 := kn (HF 19) rfl q19
   replace q119 := kn (HF 119) rfl q119
   replace q120 := kn (HF 120) rfl q120
   replace q121 := kn (HF 121) rfl q121
   have q131 := ksv (HF 131) rfl rfl rfl
   clear HF
   replace f22 := GR.v_ext _ f22 hE
   replace f14 := GR.v_ext _ f14 hE
   replace f56 := GR.v_ext _ f56 hE
   replace f77 := GR.v_ext _ f77 hE
   replace f71 := GR.v_ext _ f71 hE
   replace hB := Base.step hB hE hO; clear hE
   refine li_nil (nx_then ?_)
   refine wp_cond_b q131 (fun hc => ?_) (fun hc => ?_)
   ·
    replace h := Comp.run_b_t hc h; clear hc
    refine wp_seq ?_
    refine' region [_] mixed hA (.cons (fun _ _ hE hK hg => ok_assign rfl) .nil) ?zok16 ?zgd16 ?zk16
    case zok16 | zgd16 => kernel_rfl
    intro a29 w29 hA hE HF
    have q12 := ksv (HF 12) rfl rfl rfl
    clear q13
    clear q14
    clear q15
    clear q16
    clear q19
    clear q119
    clear q120
    clear q121
    clear q131
    clear HF
    replace f22 := GR.v_ext _ f22 hE
    replace f14 := GR.v_ext _ f14 hE
    replace f56 := GR.v_ext _ f56 hE
    replace f77 := GR.v_ext _ f77 hE
    replace f71 := GR.v_ext _ f71 hE
    replace hB := Base.step hB hE hO; clear hE
    refine li_nil (nx_then (wp_ret (rt_then (rt_blk (rt_then (rt_then (rt_blk (rt_then ?_))))))))
    have hd_ := hdone4 _ (Comp.run_pure h).symm; clear h
    subst hd_; have h := hk4; clear hk4; try dsimp only at h
    have h := Comp.run_pure h; subst h
    exact retPure Try.results4 hA q12 hB.ext rfl
   ·
    replace h := Comp.run_b_f hc h; clear hc
    refine wp_skip (nx_then (wp_seq ?_))
    refine' region [_, _, SP.vl (rSl (rSl r_aEn)) O74 [x10.2, x54], _, _] mixed hA (.cons (fun _ _ hE hK hg => ok_move (kn (hK 15 rfl) rfl q15)) (.cons (fun _ _ hE hK hg => ok_move (kn (hK 16 rfl) rfl q16)) (.cons (fun _ _ hE hK hg => okl_buildSliceV (r := (rSl r_aEn)) (fun _ => rfl) rfl (OkO.ext hB.ok hE) ty41 ty29 (parts_cons (ksv (j := 0) (hK 132 rfl) rfl rfl rfl) (parts_cons (ksv (j := 1) (hK 133 rfl) rfl rfl rfl) parts_nil)) ⟨(GR.v_ext _ f14 hE), ⟨(GR.v_ext _ f56 hE), trivial⟩⟩ rfl (by decide)) (.cons (fun _ _ hE hK hg => okl_len (r := (rSl r_aEn)) ty41 rfl (rd_of (kspS (φ := SP.vl (rSl (rSl r_aEn)) O74 [x10.2, x54]) (j := 2) (hK 134 rfl) rfl rfl rfl))) (.cons (fun _ _ hE hK hg => ok_move rfl) .nil))))) ?zok17 ?zgd17 ?zk17
    case zok17 | zgd17 => kernel_rfl
    intro a30 w30 hA hE HF
    replace q13 := kn (HF 13) rfl q13
    replace q14 := kn (HF 14) rfl q14
    replace q15 := kn (HF 15) rfl q15
    replace q16 := kn (HF 16) rfl q16
    replace q19 := kn (HF 19) rfl q19
    replace q119 := kn (HF 119) rfl q119
    replace q120 := kn (HF 120) rfl q120
    replace q121 := kn (HF 121) rfl q121
    have f82 := ksp (HF 134) rfl rfl rfl
    obtain ⟨u81, q134'⟩ : ∃ u, a30.get 134 = u := ⟨_, rfl⟩
    rw [q134'] at f82
    have q134 := q134'; clear q134'
    have q135 := ksv (HF 135) rfl rfl rfl
    have q136 := ksv (HF 136) rfl rfl rfl
    clear q131
    clear HF
    replace f22 := GR.v_ext _ f22 hE
    replace f14 := GR.v_ext _ f14 hE
    replace f56 := GR.v_ext _ f56 hE
    replace f77 := GR.v_ext _ f77 hE
    replace f71 := GR.v_ext _ f71 hE
    replace hB := Base.step hB hE hO; clear hE
    refine li_nil (nx_then (wp_block ?_))
    obtain ⟨e5, he5, hk5⟩ := Comp.run_bind h; clear h
    refine loop_m (fun m a w => ∃ (O84 : Tags) (x83 : Int), a.fit 165 ∧ Base (Fr w0) O w0 O84 w ∧ a.get 13 = .bool x9 ∧ a.get 14 = u21 ∧ (rSl rStr).v O84 w u21 x20 ∧ a.get 15 = u13 ∧ (rSl r_aEn).v O84 w u13 x10.2 ∧ a.get 16 = u55 ∧ (rSl r_aEn).v O84 w u55 x54 ∧ a.get 19 = u76 ∧ (rSl r_aEn).v O84 w u76 x75 ∧ a.get 119 = u70 ∧ (rSl (rSl r_aEn)).v O84 w u70 [x10.2, x54, x66, [x67], x68] ∧ a.get 120 = .int .i64 x72 ∧ a.get 121 = .int .i64 x73 ∧ a.get 134 = u81 ∧ (rSl (rSl r_aEn)).v O84 w u81 [x10.2, x54] ∧ a.get 135 = .int .i64 ([x10.2, x54].length : Int) ∧ a.get 136 = .int .i64 x83 ∧ Comp.loopN (fun s => c7_PassportChecks_l5 x10 x54 x20 x75 s) n m x83 = some e5) (m := n) ?st5 ?_
    case st5 =>
     exact ⟨_, _, hA, hB, q13, q14, f22, q15, f14, q16, f56, q19, f77, q119, f71, q120, q121, q134, f82, q135, q136, Comp.run_loop he5⟩
    intro m_ a31 w31 hI
    clear hA hB he5 q13 q14 q15 q16 q19 q119 q120 q121 q134 q135 q136 f14 f22 f56 f71 f77 f82
    obtain ⟨O84, x83, hA, hB, q13, q14, f22, q15, f14, q16, f56, q19, f77, q119, f71, q120, q121, q134, f82, q135, q136, hl⟩ := hI
    obtain ⟨m5, hlt5, st5, h, hnext5, hdone5⟩ := Comp.loopN_succ hl; clear hl
    replace h : (c7_PassportChecks_l5 x10 x54 x20 x75 x83).run n = some st5 := h
    unfold c7_PassportChecks_l5 at h
    refine wp_seq ?_
    refine' region [_] mixed hA (.cons (fun _ _ hE hK hg => ok_lss (kn (hK 136 rfl) rfl q136) (kn (hK 135 rfl) rfl q135)) .nil) ?zok18 ?zgd18 ?zk18
    case zok18 | zgd18 => kernel_rfl
    intro a32 w32 hA hE HF
    replace q13 := kn (HF 13) rfl q13
    replace q14 := kn (HF 14) rfl q14
    replace q15 := kn (HF 15) rfl q15
    replace q16 := kn (HF 16) rfl q16
    replace q19 := kn (HF 19) rfl q19
    replace q119 := kn (HF 119) rfl q119
    replace q120 := kn (HF 120) rfl q120
    replace q121 := kn (HF 121) rfl q121
    replace q134 := kn (HF 134) rfl q134
    replace q135 := kn (HF 135) rfl q135
    replace q136 := kn (HF 136) rfl q136
    have q137 := ksv (HF 137) rfl rfl rfl
    clear HF
    replace f22 := GR.v_ext _ f22 hE
    replace f14 := GR.v_ext _ f14 hE
    replace f56 := GR.v_ext _ f56 hE
    replace f77 := GR.v_ext _ f77 hE
    replace f71 := GR.v_ext _ f71 hE
    replace f82 := GR.v_ext _ f82 hE
    replace hB := Base.step hB hE hO; clear hE
    obtain ⟨x85, hx_, h⟩ := Comp.run_bind h; replace hx_ := Comp.run_pure hx_; rw [hx_] at q137; clear hx_
    refine li_nil (nx_then (wp_seq ?_))
    refine wp_cond_b q137 (fun hc => ?_) (fun hc => ?_)
    ·
     replace h := Comp.run_b_t hc h; clear hc
     refine wp_skip (nx_then (wp_seq (wp_block (wp_seq ?_))))
     obtain ⟨x86, hx86, h⟩ := Comp.run_bind h
     refine' region [SP.ptr (rSl r_aEn) O84 x86, SP.vl (rSl r_aEn) O84 x86, SP.vl (rSl r_aEn) O84 x86] mixed hA (.cons (fun _ _ hE hK hg => okl_idx (r := (rSl r_aEn)) (O := O84) ty41 ty29 rfl (kn (hK 134 rfl) rfl q134) (rd_of (GR.v_ext _ f82 hE)) (kn (hK 136 rfl) rfl q136) hx86) (.cons (fun _ _ hE hK hg => okl_ld (r := (rSl r_aEn)) (fun _ => rfl) ty29 rfl rfl rfl (kspS (φ := SP.ptr (rSl r_aEn) O84 x86) (j := 0) (hK 138 rfl) rfl rfl rfl)) (.cons (fun _ _ hE hK hg => ok_assign_pr (φ := SP.vl (rSl r_aEn) O84 x86) (kspS (j := 1) (hK 139 rfl) rfl rfl rfl)) .nil))) ?zok19 ?zgd19 ?zk19
     case zok19 | zgd19 => kernel_rfl
     intro a33 w33 hA hE HF
     replace q13 := kn (HF 13) rfl q13
     replace q14 := kn (HF 14) rfl q14
     replace q15 := kn (HF 15) rfl q15
     replace q16 := kn (HF 16) rfl q16
     replace q19 := kn (HF 19) rfl q19
     have f88 := ksp (HF 21) rfl rfl rfl
     obtain ⟨u87, q21'⟩ : ∃ u, a33.get 21 = u := ⟨_, rfl⟩
     rw [q21'] at f88
     have q21 := q21'; clear q21'
     replace q119 := kn (HF 119) rfl q119
     replace q120 := kn (HF 120) rfl q120
     replace q121 := kn (HF 121) rfl q121
     replace q134 := kn (HF 134) rfl q134
     replace q135 := kn (HF 135) rfl q135
     replace q136 := kn (HF 136) rfl q136
     clear q137
     clear HF
     replace f22 := GR.v_ext _ f22 hE
     replace f14 := GR.v_ext _ f14 hE
     replace f56 := GR.v_ext _ f56 hE
     replace f77 := GR.v_ext _ f77 hE
     replace f71 := GR.v_ext _ f71 hE
     replace f82 := GR.v_ext _ f82 hE
     replace hB := Base.step hB hE hO; clear hE
     refine li_nil (nx_then (wp_seq ?_))
     obtain ⟨x89, hx89, h⟩ := Comp.run_bind h
     refine' region [_, _, _, SP.tup2 (SP.isv (.int .i64 x89.1)) (SP.isv (.bool x89.2)), SP.tup2 (SP.isv (.int .i64 x89.1)) (SP.isv (.bool x89.2)), SP.isv (.int .i64 x89.1), SP.isv (.bool x89.2), _, _] mixed hA (.cons (fun _ _ hE hK hg => ok_move (kn (hK 14 rfl) rfl q14)) (.cons (fun _ _ hE hK hg => ok_move (kn (hK 19 rfl) rfl q19)) (.cons (fun _ _ hE hK hg => ok_move (kn (hK 21 rfl) rfl q21)) (.cons ?z20_3 (.cons (fun _ _ hE hK hg => ok_move_pr (φ := SP.tup2 (SP.isv (.int .i64 x89.1)) (SP.isv (.bool x89.2))) (kspS (j := 3) (hK 144 rfl) rfl rfl rfl)) (.cons (fun _ _ hE hK hg => okl_ext0 (kspS (φ := SP.tup2 (SP.isv (.int .i64 x89.1)) (SP.isv (.bool x89.2))) (j := 4) (hK 140 rfl) rfl rfl rfl)) (.cons (fun _ _ hE hK hg => okl_ext1 (kspS (φ := SP.tup2 (SP.isv (.int .i64 x89.1)) (SP.isv (.bool x89.2))) (j := 4) (hK 140 rfl) rfl rfl rfl)) (.cons (fun _ _ hE hK hg => ok_assign (ksv (j := 5) (hK 145 rfl) rfl rfl rfl)) (.cons (fun _ _ hE hK hg => ok_assign (ksv (j := 6) (hK 146 rfl) rfl rfl rfl)) .nil))))))))) ?zok20 ?zgd20 ?zk20
     case z20_3 => intro a' w' hE hK hg; have c_ := ok_passport_Fork (OkO.ext hB.ok hE) (GR.v_ext _ f22 hE) (GR.v_ext _ f77 hE) (GR.v_ext _ f88 hE) hx89; exact ok_call3 fn27 (ksv (j := 0) (hK 141 rfl) rfl rfl rfl) (ksv (j := 1) (hK 142 rfl) rfl rfl rfl) (ksv (j := 2) (hK 143 rfl) rfl rfl rfl) c_
     case zok20 | zgd20 => kernel_rfl
     intro a34 w34 hA hE HF
     replace q13 := kn (HF 13) rfl q13
     replace q14 := kn (HF 14) rfl q14
     replace q15 := kn (HF 15) rfl q15
     replace q16 := kn (HF 16) rfl q16
     replace q19 := kn (HF 19) rfl q19
     replace q21 := kn (HF 21) rfl q21
     have q22 := ksv (HF 22) rfl rfl rfl
     have q23 := ksv (HF 23) rfl rfl rfl
     replace q119 := kn (HF 119) rfl q119
     replace q120 := kn (HF 120) rfl q120
     replace q121 := kn (HF 121) rfl q121
     replace q134 := kn (HF 134) rfl q134
     replace q135 := kn (HF 135) rfl q135
     replace q136 := kn (HF 136) rfl q136
     clear HF
     replace f22 := GR.v_ext _ f22 hE
     replace f14 := GR.v_ext _ f14 hE
     replace f56 := GR.v_ext _ f56 hE
     replace f77 := GR.v_ext _ f77 hE
     replace f88 := GR.v_ext _ f88 hE
     replace f71 := GR.v_ext _ f71 hE
     replace f82 := GR.v_ext _ f82 hE
     replace hB := Base.step hB hE hO; clear hE
     refine li_nil (nx_then (wp_seq ?_))
     obtain ⟨x90, hx90, h⟩ := Comp.run_bind h
     refine' region [_, _, _, SP.tup2 (SP.isv (.int .i64 x90.1)) (SP.isv (.bool x90.2)), SP.tup2 (SP.isv (.int .i64 x90.1)) (SP.isv (.bool x90.2)), SP.isv (.int .i64 x90.1), SP.isv (.bool x90.2), _, _] mixed hA (.cons (fun _ _ hE hK hg => ok_move (kn (hK 14 rfl) rfl q14)) (.cons (fun _ _ hE hK hg => ok_move (kn (hK 19 rfl) rfl q19)) (.cons (fun _ _ hE hK hg => ok_move (kn (hK 21 rfl) rfl q21)) (.cons ?z21_3 (.cons (fun _ _ hE hK hg => ok_move_pr (φ := SP.tup2 (SP.isv (.int .i64 x90.1)) (SP.isv (.bool x90.2))) (kspS (j := 3) (hK 151 rfl) rfl rfl rfl)) (.cons (fun _ _ hE hK hg => okl_ext0 (kspS (φ := SP.tup2 (SP.isv (.int .i64 x90.1)) (SP.isv (.bool x90.2))) (j := 4) (hK 147 rfl) rfl rfl rfl)) (.cons (fun _ _ hE hK hg => okl_ext1 (kspS (φ := SP.tup2 (SP.isv (.int .i64 x90.1)) (SP.isv (.bool x90.2))) (j := 4) (hK 147 rfl) rfl rfl rfl)) (.cons (fun _ _ hE hK hg => ok_assign (ksv (j := 5) (hK 152 rfl) rfl rfl rfl)) (.cons (fun _ _ hE hK hg => ok_assign (ksv (j := 6) (hK 153 rfl) rfl rfl rfl)) .nil))))))))) ?zok21 ?zgd21 ?zk21
     case z21_3 => intro a' w' hE hK hg; have c_ := ok_r7_Fork (OkO.ext hB.ok hE) (GR.v_ext _ f22 hE) (GR.v_ext _ f77 hE) (GR.v_ext _ f88 hE) hx90; exact ok_call3 fn28 (ksv (j := 0) (hK 148 rfl) rfl rfl rfl) (ksv (j := 1) (hK 149 rfl) rfl rfl rfl) (ksv (j := 2) (hK 150 rfl) rfl rfl rfl) c_
     case zok21 | zgd21 => kernel_rfl
     intro a35 w35 hA hE HF
     replace q13 := kn (HF 13) rfl q13
     replace q14 := kn (HF 14) rfl q14
     replace q15 := kn (HF 15) rfl q15
     replace q16 := kn (HF 16) rfl q16
     replace q19 := kn (HF 19) rfl q19
     replace q22 := kn (HF 22) rfl q22
     replace q23 := kn (HF 23) rfl q23
     have q24 := ksv (HF 24) rfl rfl rfl
     have q25 := ksv (HF 25) rfl rfl rfl
     replace q119 := kn (HF 119) rfl q119
     replace q120 := kn (HF 120) rfl q120
     replace q121 := kn (HF 121) rfl q121
     replace q134 := kn (HF 134) rfl q134
     replace q135 := kn (HF 135) rfl q135
     replace q136 := kn (HF 136) rfl q136
     clear q21
     clear HF
     replace f22 := GR.v_ext _ f22 hE
     replace f14 := GR.v_ext _ f14 hE
     replace f56 := GR.v_ext _ f56 hE
     replace f77 := GR.v_ext _ f77 hE
     replace f88 := GR.v_ext _ f88 hE
     replace f71 := GR.v_ext _ f71 hE
     replace f82 := GR.v_ext _ f82 hE
     replace hB := Base.step hB hE hO; clear hE
     refine li_nil (nx_then (wp_seq ?_))
     refine' region [_, _, _, _, _, _, _, _] mixed hA (.cons (fun _ _ hE hK hg => ok_move (kn (hK 22 rfl) rfl q22)) (.cons (fun _ _ hE hK hg => ok_move (kn (hK 24 rfl) rfl q24)) (.cons (fun _ _ hE hK hg => ok_neqI (ksv (j := 0) (hK 154 rfl) rfl rfl rfl) (ksv (j := 1) (hK 155 rfl) rfl rfl rfl)) (.cons (fun _ _ hE hK hg => ok_move (ksv (j := 2) (hK 156 rfl) rfl rfl rfl)) (.cons (fun _ _ hE hK hg => ok_move (kn (hK 23 rfl) rfl q23)) (.cons (fun _ _ hE hK hg => ok_move (kn (hK 25 rfl) rfl q25)) (.cons ?z22_6 (.cons ?z22_7 .nil)))))))) ?zok22 ?zgd22 ?zk22
     case z22_6 => intro a' w' hE hK hg; exact ok_neqB ty4 (ksv (j := 4) (hK 158 rfl) rfl rfl hg) (ksv (j := 5) (hK 159 rfl) rfl rfl hg)
     case z22_7 => intro a' w' hE hK hg; exact ok_pick (ksv (j := 3) (hK 157 rfl) rfl rfl rfl) (fun _ => rfl) (fun hb => ksv (j := 6) (hK 160 rfl) rfl rfl (act_g1 rfl rfl hb))
     case zok22 | zgd22 => kernel_rfl
     intro a36 w36 hA hE HF
     replace q13 := kn (HF 13) rfl q13
     replace q14 := kn (HF 14) rfl q14
     replace q15 := kn (HF 15) rfl q15
     replace q16 := kn (HF 16) rfl q16
     replace q19 := kn (HF 19) rfl q19
     replace q119 := kn (HF 119) rfl q119
     replace q120 := kn (HF 120) rfl q120
     replace q121 := kn (HF 121) rfl q121
     replace q134 := kn (HF 134) rfl q134
     replace q135 := kn (HF 135) rfl q135
     replace q136 := kn (HF 136) rfl q136
     have q161 := ksv (HF 161) rfl rfl rfl
     clear q22
     clear q23
     clear q24
     clear q25
     clear HF
     replace f22 := GR.v_ext _ f22 hE
     replace f14 := GR.v_ext _ f14 hE
     replace f56 := GR.v_ext _ f56 hE
     replace f77 := GR.v_ext _ f77 hE
     replace f71 := GR.v_ext _ f71 hE
     replace f82 := GR.v_ext _ f82 hE
     replace hB := Base.step hB hE hO; clear hE
     obtain ⟨x91, hx_, h⟩ := Comp.run_bind h; replace hx_ := Comp.run_pure hx_; rw [hx_] at q161; clear hx_
     refine li_nil (nx_then ?_)
     refine wp_cond_b q161 (fun hc => ?_) (fun hc => ?_)
     ·
      replace h := Comp.run_b_t hc h; clear hc
      refine wp_seq ?_
      refine' region [_] mixed hA (.cons (fun _ _ hE hK hg => ok_assign rfl) .nil) ?zok23 ?zgd23 ?zk23
      case zok23 | zgd23 => kernel_rfl
      intro a37 w37 hA hE HF
      have q12 := ksv (HF 12) rfl rfl rfl
      clear q13
      clear q14
      clear q15
      clear q16
      clear q19
      clear q119
      clear q120
      clear q121
      clear q134
      clear q135
      clear q136
      clear q161
      clear HF
      replace f22 := GR.v_ext _ f22 hE
      replace f14 := GR.v_ext _ f14 hE
      replace f56 := GR.v_ext _ f56 hE
      replace f77 := GR.v_ext _ f77 hE
      replace f71 := GR.v_ext _ f71 hE
      replace f82 := GR.v_ext _ f82 hE
      replace hB := Base.step hB hE hO; clear hE
      refine li_nil (nx_then (wp_ret (rt_blk (rt_then (rt_then (rt_blk (rt_blk (rt_then (rt_then (rt_blk (rt_then ?_)))))))))))
      have hd_ := hdone5 _ (Comp.run_pure h).symm; clear h
      subst hd_; have h := hk5; clear hk5; try dsimp only at h
      have hd_ := hdone4 _ (Comp.run_pure h).symm; clear h
      subst hd_; have h := hk4; clear hk4; try dsimp only at h
      have h := Comp.run_pure h; subst h
      exact retPure Try.results4 hA q12 hB.ext rfl
     ·
      replace h := Comp.run_b_f hc h; clear hc
      refine wp_skip (nx_blk (nx_then ?_))
      refine' region [_, _] mixed hA (.cons (fun _ _ hE hK hg => ok_add (kn (hK 136 rfl) rfl q136) rfl) (.cons (fun _ _ hE hK hg => ok_move (ksv (j := 0) (hK 162 rfl) rfl rfl rfl)) .nil)) ?zok24 ?zgd24 ?zk24
      case zok24 | zgd24 => kernel_rfl
      intro a38 w38 hA hE HF
      replace q13 := kn (HF 13) rfl q13
      replace q14 := kn (HF 14) rfl q14
      replace q15 := kn (HF 15) rfl q15
      replace q16 := kn (HF 16) rfl q16
      replace q19 := kn (HF 19) rfl q19
      replace q119 := kn (HF 119) rfl q119
      replace q120 := kn (HF 120) rfl q120
      replace q121 := kn (HF 121) rfl q121
      replace q134 := kn (HF 134) rfl q134
      replace q135 := kn (HF 135) rfl q135
      have q136' := ksv (HF 136) rfl rfl rfl
      replace q136 := q136'; clear q136'
      clear q161
      clear HF
      replace f22 := GR.v_ext _ f22 hE
      replace f14 := GR.v_ext _ f14 hE
      replace f56 := GR.v_ext _ f56 hE
      replace f77 := GR.v_ext _ f77 hE
      replace f71 := GR.v_ext _ f71 hE
      replace f82 := GR.v_ext _ f82 hE
      replace hB := Base.step hB hE hO; clear hE
      refine li_nil (nx_then ?_)
      have h := hnext5 _ (Comp.run_pure h).symm
      refine ⟨m5, hlt5, ?_⟩
      exact ⟨_, _, hA, hB, q13, q14, f22, q15, f14, q16, f56, q19, f77, q119, f71, q120, q121, q134, f82, q135, q136, h⟩
    ·
     replace h := Comp.run_b_f hc h; clear hc
     refine wp_exit (ex_then (ex_then (ex_same ?_)))
     have hd_ := hdone5 _ (Comp.run_pure h).symm; clear h
     subst hd_; have h := hk5; clear hk5; try dsimp only at h
     refine nx_blk (nx_then ?_)
     refine' region [_, _] mixed hA (.cons (fun _ _ hE hK hg => ok_add (kn (hK 121 rfl) rfl q121) rfl) (.cons (fun _ _ hE hK hg => ok_move (ksv (j := 0) (hK 163 rfl) rfl rfl rfl)) .nil)) ?zok25 ?zgd25 ?zk25
     case zok25 | zgd25 => kernel_rfl
     intro a39 w39 hA hE HF
     replace q13 := kn (HF 13) rfl q13
     replace q14 := kn (HF 14) rfl q14
     replace q15 := kn (HF 15) rfl q15
     replace q16 := kn (HF 16) rfl q16
     replace q119 := kn (HF 119) rfl q119
     replace q120 := kn (HF 120) rfl q120
     have q121' := ksv (HF 121) rfl rfl rfl
     replace q121 := q121'; clear q121'
     clear q19
     clear q134
     clear q135
     clear q136
     clear q137
     clear HF
     replace f22 := GR.v_ext _ f22 hE
     replace f14 := GR.v_ext _ f14 hE
     replace f56 := GR.v_ext _ f56 hE
     replace f77 := GR.v_ext _ f77 hE
     replace f71 := GR.v_ext _ f71 hE
     replace f82 := GR.v_ext _ f82 hE
     replace hB := Base.step hB hE hO; clear hE
     refine li_nil (nx_then ?_)
     have h := hnext4 _ (Comp.run_pure h).symm
     refine ⟨m4, hlt4, ?_⟩
     exact ⟨_, _, hA, hB, q13, q14, f22, q15, f14, q16, f56, q119, f71, q120, q121, h⟩
  ·
   replace h := Comp.run_b_f hc h; clear hc
   refine wp_exit (ex_then (ex_then (ex_same ?_)))
   have hd_ := hdone4 _ (Comp.run_pure h).symm; clear h
   subst hd_; have h := hk4; clear hk4; try dsimp only at h
   refine nx_then ?_
   exact ⟨_, hA, hB, q13, h⟩
 intro a40 w40 hI
 clear hA hB h q11 q13 q14 q15 q16 f14 f22 f56 f8
 obtain ⟨O93, hA, hB, q13, h⟩ := hI
 unfold c7_PassportChecks_j3 at h
 refine wp_seq ?_
 refine' region [_, _] mixed hA (.cons (fun _ _ hE hK hg => ok_move (kn (hK 13 rfl) rfl q13)) (.cons (fun _ _ hE hK hg => ok_assign (ksv (j := 0) (hK 164 rfl) rfl rfl rfl)) .nil)) ?zok26 ?zgd26 ?zk26
 case zok26 | zgd26 => kernel_rfl
 intro a41 w41 hA hE HF
 have q12 := ksv (HF 12) rfl rfl rfl
 clear q13
 clear HF
 replace hB := Base.step hB hE hO; clear hE
 refine li_nil (nx_then (wp_ret ?_))
 have h := Comp.run_pure h; subst h
 exact retPure Try.results4 hA q12 hB.ext rfl
end Go.Proofs.Ytkbipbfncbopnaa
end
section
namespace Go.Dig
open Go Go.RowKit Go.Eng
def stepX (x : Nat) (c : UInt8) : Nat := (48271 * x + c.toNat + 1) % 2147483629
def stepY (y : Nat) (c : UInt8) : Nat := (69621 * y + c.toNat + 1) % 2147483587
def dx (l : List UInt8) : Nat := l.foldl stepX 17
def dy (l : List UInt8) : Nat := l.foldl stepY 29
def be4 (n : Nat) : List UInt8 := [UInt8.ofNat (n / 16777216), UInt8.ofNat (n / 65536), UInt8.ofNat (n / 256), UInt8.ofNat n]
def le4 (n : Nat) : List UInt8 := [UInt8.ofNat n, UInt8.ofNat (n / 256), UInt8.ofNat (n / 65536), UInt8.ofNat (n / 16777216)]
def D (l : List UInt8) : List UInt8 := be4 (dx l) ++ be4 (dy l)
def str (l : List UInt8) : ByteArray := ⟨l.toArray⟩
abbrev bs (s : ByteArray) : List UInt8 := s.data.toList
theorem str_bs (s : ByteArray) : str (bs s) = s := by cases s; rfl
theorem bs_str (l : List UInt8) : bs (str l) = l := rfl
theorem bs_length (s : ByteArray) : (bs s).length = s.size := Array.length_toList
theorem bs_append (s t : ByteArray) : bs (s ++ t) = bs s ++ bs t := by
  show (s ++ t).data.toList = s.data.toList ++ t.data.toList
  rw [ByteArray.data_append, Array.toList_append]
theorem bs_inj {s t : ByteArray} (h : bs s = bs t) : s = t := by rw [← str_bs s, h, str_bs]
theorem str_append (l m : List UInt8) : str l ++ str m = str (l ++ m) := by apply bs_inj; rw [bs_append, bs_str, bs_str, bs_str]
theorem str_size (l : List UInt8) : (str l).size = l.length := by rw [← bs_length, bs_str]
theorem D_length (l : List UInt8) : (D l).length = 8 := rfl
theorem stepX_lt (x : Nat) (c : UInt8) : stepX x c < 2147483629 := Nat.mod_lt _ (by decide)
theorem stepY_lt (x : Nat) (c : UInt8) : stepY x c < 2147483587 := Nat.mod_lt _ (by decide)
theorem foldX_lt : ∀ (l : List UInt8) (x : Nat), x < 2147483629 → l.foldl stepX x < 2147483629
  | [], _, h => h
  | c :: l, x, _ => foldX_lt l _ (stepX_lt x c)
theorem foldY_lt : ∀ (l : List UInt8) (x : Nat), x < 2147483587 → l.foldl stepY x < 2147483587
  | [], _, h => h
  | c :: l, x, _ => foldY_lt l _ (stepY_lt x c)
theorem dx_lt (l : List UInt8) : dx l < 2147483629 := foldX_lt l 17 (by decide)
theorem dy_lt (l : List UInt8) : dy l < 2147483587 := foldY_lt l 29 (by decide)
theorem dx_snoc (l : List UInt8) (c : UInt8) : dx (l ++ [c]) = (48271 * dx l + c.toNat + 1) % 2147483629 := by
  simp [dx, stepX]
theorem dy_snoc (l : List UInt8) (c : UInt8) : dy (l ++ [c]) = (69621 * dy l + c.toNat + 1) % 2147483587 := by
  simp [dy, stepY]
theorem dxi (l : List UInt8) (c : UInt8) : (48271 * (dx l : Int) + (c.toNat : Int) + 1) % 2147483629 = ((dx (l ++ [c]) : Nat) : Int) := by
  rw [dx_snoc]; omega
theorem dyi (l : List UInt8) (c : UInt8) : (69621 * (dy l : Int) + (c.toNat : Int) + 1) % 2147483587 = ((dy (l ++ [c]) : Nat) : Int) := by
  rw [dy_snoc]; omega
theorem ofNat_i (m : Nat) : ((UInt8.ofNat m).toNat : Int) = (m : Int) % 256 := by
  rw [UInt8.toNat_ofNat']; simp
theorem shr_i (n : Nat) (j : Nat) : (n : Int).fdiv (2 ^ j) = ((n / 2 ^ j : Nat) : Int) := by
  rw [Int.fdiv_eq_ediv_of_nonneg _ (by exact_mod_cast Nat.zero_le _)]; norm_cast
inductive Strs : List Value → List ByteArray → Prop
  | nil : Strs [] []
  | cons (s : ByteArray) {xs ss} (h : Strs xs ss) : Strs (.string s :: xs) (s :: ss)
theorem Strs.map {xs : List Value} {ss : List ByteArray} (h : Strs xs ss) : xs = ss.map .string := by
  induction h with
  | nil => rfl
  | cons s _ ih => simp [ih]
def cat (ss : List ByteArray) : List UInt8 := ss.flatMap bs
def lenL (l : List UInt8) : List UInt8 := le4 l.length
def leafL (s : List UInt8) : List UInt8 := [1] ++ s
def missL : List UInt8 := [3]
def chainL (b s : List UInt8) : List UInt8 := [4] ++ lenL b ++ b ++ s
def markL (k m : List UInt8) : List UInt8 := [5] ++ lenL k ++ k ++ lenL m ++ m ++ k
end Go.Dig
end
section
namespace Go.Dig
open Go Go.RowKit Go.Eng
abbrev Bytes := List UInt8
def leafD (s : Bytes) : Bytes := D (leafL s)
def missD : Bytes := D missL
def lg (n : Nat) : Nat := if n ≤ 1 then 0 else if n ≤ 2 then 1 else if n ≤ 4 then 2 else if n ≤ 8 then 3 else if n ≤ 16 then 4 else 5
def base (ss : List Bytes) : List Bytes := ss.map leafD ++ List.replicate (2 ^ lg ss.length - ss.length) missD
end Go.Dig
end
section
set_option linter.unusedVariables false
set_option linter.unusedSimpArgs false
namespace Go.Dgp
open Go Go.Lift Go.F
open Go.Dig hiding Bytes cat
theorem wrapu {n : Int} (h : 0 ≤ n ∧ n < 18446744073709551616) : IntKind.wrap .u64 n = n := by
  have : IntKind.wrap .u64 n = n % 18446744073709551616 := by simp [IntKind.wrap, IntKind.bits, IntKind.signed]
  rw [this]; omega
theorem wrapi {n : Int} (h : -9223372036854775808 ≤ n ∧ n < 9223372036854775808) : IntKind.wrap .i64 n = n := IntWalk.i64_in _ ⟨by omega, by omega⟩
theorem stepx (l : List UInt8) (c : UInt8) : Int.tmod (IntKind.wrap .u64 (IntKind.wrap .u64 (IntKind.wrap .u64 (48271 * (dx l : Int)) + IntKind.wrap .u64 (c.toNat : Int)) + 1)) 2147483629 = ((dx (l ++ [c]) : Nat) : Int) := by
  have h1 := dx_lt l; have h2 : c.toNat < 256 := c.toNat_lt
  rw [wrapu (n := 48271 * (dx l : Int)) (by omega), wrapu (n := (c.toNat : Int)) (by omega), wrapu (n := 48271 * (dx l : Int) + (c.toNat : Int)) (by omega), wrapu (by omega), Int.tmod_eq_emod_of_nonneg (by omega), dxi]
theorem stepy (l : List UInt8) (c : UInt8) : Int.tmod (IntKind.wrap .u64 (IntKind.wrap .u64 (IntKind.wrap .u64 (69621 * (dy l : Int)) + IntKind.wrap .u64 (c.toNat : Int)) + 1)) 2147483587 = ((dy (l ++ [c]) : Nat) : Int) := by
  have h1 := dy_lt l; have h2 : c.toNat < 256 := c.toNat_lt
  rw [wrapu (n := 69621 * (dy l : Int)) (by omega), wrapu (n := (c.toNat : Int)) (by omega), wrapu (n := 69621 * (dy l : Int) + (c.toNat : Int)) (by omega), wrapu (by omega), Int.tmod_eq_emod_of_nonneg (by omega), dyi]
theorem idxn {α : Type} (xs : List α) (i : Nat) : (idx xs (i : Int)).val = xs[i]? := by
  cases h : xs[i]? with
  | some x => exact idx_val h
  | none => unfold idx; rw [if_pos (by omega)]; simp [h]
theorem take1 {s : List UInt8} {i : Nat} (h : i < s.length) : s.take (i + 1) = s.take i ++ [s[i]] := List.take_succ_eq_append_getElem h
theorem inner_loop (pre s : List UInt8) (hs : s.length ≤ 1099511627776) : (Comp.loop (fun t : Int × Int × Int => digest_of_l3 s t.1 t.2.1 t.2.2) ((dx pre : Int), (dy pre : Int), 0)).val = some (((dx (pre ++ s) : Nat) : Int), ((dy (pre ++ s) : Nat) : Int)) := by
  have := Comp.loop_seq (body := fun t : Int × Int × Int => digest_of_l3 s t.1 t.2.1 t.2.2) (fun i => (((dx (pre ++ s.take i) : Nat) : Int), ((dy (pre ++ s.take i) : Nat) : Int), (i : Int))) s.length (((dx (pre ++ s) : Nat) : Int), ((dy (pre ++ s) : Nat) : Int))
    (by
      intro i hi
      show (digest_of_l3 s _ _ (i : Int)).val = _
      unfold digest_of_l3
      have hg : (ofStr s)[i]? = some ((s[i].toNat : Nat) : Int) := by simp [ofStr, hi]
      simp only [Comp.val_bind, Comp.val_pure, Option.bind_some]
      rw [Comp.val_ite, if_pos (by rw [decide_eq_true_iff]; simp [ofStr]; omega)]
      simp only [Comp.val_bind, Comp.val_pure, Option.bind_some, idxn, hg, stepx, stepy]
      rw [Comp.wrap_succ (by omega), take1 hi, List.append_assoc])
    (by
      show (digest_of_l3 s _ _ (s.length : Int)).val = _
      unfold digest_of_l3
      simp only [Comp.val_bind, Comp.val_pure, Option.bind_some]
      rw [Comp.val_ite, if_neg (by simp [ofStr]), Comp.val_pure]
      simp)
  simpa using this
def flat (l : List Bytes) : List UInt8 := l.flatten
def vecD (l : List UInt8) : Vector Int 8 := ⟨((D l).map fun b => (b.toNat : Int)).toArray, rfl⟩
theorem vecD_list (l : List UInt8) : (vecD l).toList = (D l).map fun b => (b.toNat : Int) := rfl
theorem outer_loop (l : List Bytes) (hl : l.length ≤ 1099511627776) (hs : ∀ s ∈ l, s.length ≤ 1099511627776) : (Comp.loop (fun t : Int × Int × Int => digest_of_l2 l t.1 t.2.1 t.2.2) (17, 29, 0)).val = some (((dx (flat l) : Nat) : Int), ((dy (flat l) : Nat) : Int)) := by
  have := Comp.loop_seq (body := fun t : Int × Int × Int => digest_of_l2 l t.1 t.2.1 t.2.2) (fun i => (((dx (flat (l.take i)) : Nat) : Int), ((dy (flat (l.take i)) : Nat) : Int), (i : Int))) l.length (((dx (flat l) : Nat) : Int), ((dy (flat l) : Nat) : Int))
    (by
      intro i hi
      show (digest_of_l2 l _ _ (i : Int)).val = _
      unfold digest_of_l2
      rw [Comp.val_ite, if_pos (by rw [decide_eq_true_iff]; omega)]
      simp only [Comp.val_bind, idxn, List.getElem?_eq_getElem hi, Option.bind_some, inner_loop _ _ (hs _ (List.getElem_mem hi)), Comp.val_pure]
      rw [Comp.wrap_succ (by omega)]
      have e : flat (l.take (i + 1)) = flat (l.take i) ++ l[i] := by
        unfold flat; rw [List.take_succ_eq_append_getElem hi, List.flatten_append]; simp only [List.flatten_cons, List.flatten_nil, List.append_nil]
      rw [e])
    (by
      show (digest_of_l2 l _ _ (l.length : Int)).val = _
      unfold digest_of_l2
      rw [Comp.val_ite, if_neg (by simp), Comp.val_pure]
      simp)
  exact this
theorem vupd_val {n : Nat} {x : Vector Int n} {i : Nat} {y : Int} (h : i < n) : (vupd x (i : Int) y).val = some (x.setIfInBounds i y) := by
  unfold vupd; rw [if_pos ⟨by omega, by omega⟩]; simp
theorem u8b (X : Nat) (k : Nat) : IntKind.wrap .u8 (shrF .u64 (X : Int) (k : Int)) = ((UInt8.ofNat (X / 2 ^ min k 64)).toNat : Int) := by
  unfold shrF
  rw [IntKind.wrap_u8, ofNat_i, show IntKind.bits .u64 = 64 from rfl, Int.toNat_natCast, shr_i]
theorem four (X Y : Nat) : (Comp.loop (fun s : Int × Vector Int 8 => digest_of_l5 (X : Int) (Y : Int) s.1 s.2) (0, (Vector.replicate 8 0))).val = some ⟨((be4 X ++ be4 Y).map fun b => (b.toNat : Int)).toArray, rfl⟩ := by
  have hx : ∀ k : Nat, k ≤ 3 → IntKind.wrap .i64 (24 - IntKind.wrap .i64 (8 * (k : Int))) = ((24 - 8 * k : Nat) : Int) := by
    intro k hk; rw [wrapi (n := 8 * (k : Int)) (by omega), wrapi (by omega)]; omega
  let v : Nat → Vector Int 8 := fun i => ⟨#[if 0 < i then ((UInt8.ofNat (X / 16777216)).toNat : Int) else 0, if 1 < i then ((UInt8.ofNat (X / 65536)).toNat : Int) else 0, if 2 < i then ((UInt8.ofNat (X / 256)).toNat : Int) else 0, if 3 < i then ((UInt8.ofNat (X / 1)).toNat : Int) else 0,
    if 0 < i then ((UInt8.ofNat (Y / 16777216)).toNat : Int) else 0, if 1 < i then ((UInt8.ofNat (Y / 65536)).toNat : Int) else 0, if 2 < i then ((UInt8.ofNat (Y / 256)).toNat : Int) else 0, if 3 < i then ((UInt8.ofNat (Y / 1)).toNat : Int) else 0], rfl⟩
  have hset : ∀ i : Nat, i < 4 → ((v i).setIfInBounds i ((UInt8.ofNat (X / 2 ^ min (24 - 8 * i) 64)).toNat : Int)).setIfInBounds (4 + i) ((UInt8.ofNat (Y / 2 ^ min (24 - 8 * i) 64)).toNat : Int) = v (i + 1) := by
    intro i hi
    obtain rfl | rfl | rfl | rfl : i = 0 ∨ i = 1 ∨ i = 2 ∨ i = 3 := by omega
    all_goals simp [v, Vector.setIfInBounds]
  have := Comp.loop_seq (body := fun s : Int × Vector Int 8 => digest_of_l5 (X : Int) (Y : Int) s.1 s.2) (fun i => ((i : Int), v i)) 4 (v 4)
    (by
      intro i hi
      show (digest_of_l5 (X : Int) (Y : Int) (i : Int) (v i)).val = _
      unfold digest_of_l5
      rw [Comp.val_ite, if_pos (by rw [decide_eq_true_iff]; omega)]
      have e4 : IntKind.wrap .i64 (4 + (i : Int)) = ((4 + i : Nat) : Int) := by rw [wrapi (by omega)]; omega
      have g1 : ∀ z : Vector Int 8, ∀ j, j < 8 → (z.toList)[j]? = some ((z.toList)[j]?.getD 0) := by
        intro z j hj
        rw [List.getElem?_eq_getElem (by rw [Vector.length_toList]; exact hj)]; rfl
      simp only [Comp.val_bind, hx i (by omega), e4, nonneg_val (n := ((24 - 8 * i : Nat) : Int)) (by omega), Option.bind_some, idxn, vupd_val (show i < 8 by omega), vupd_val (show 4 + i < 8 by omega), Comp.val_pure, u8b]
      rw [g1 _ i (by omega), Option.bind_some, g1 _ (4 + i) (by omega), Option.bind_some, hset i hi, Comp.wrap_succ (by omega)])
    (by
      show (digest_of_l5 (X : Int) (Y : Int) (4 : Int) (v 4)).val = _
      unfold digest_of_l5
      rw [Comp.val_ite, if_neg (by simp), Comp.val_pure])
  have e0 : v 0 = Vector.replicate 8 0 := rfl
  have e4 : v 4 = ⟨((be4 X ++ be4 Y).map fun b => (b.toNat : Int)).toArray, rfl⟩ := by
    simp [v, be4, Nat.div_one]
  rw [← e0, ← e4]; exact this
theorem of_val (l : List Bytes) (hl : l.length ≤ 1099511627776) (hs : ∀ s ∈ l, s.length ≤ 1099511627776) : (digest_of l).val = some (vecD (flat l)) := by
  unfold digest_of
  rw [Comp.val_bind, outer_loop l hl hs, Option.bind_some]
  show (digest_of_j1 _ _).val = _
  unfold digest_of_j1
  rw [Comp.val_bind, four, Option.bind_some]
  unfold digest_of_j4
  rw [Comp.val_pure]; rfl
theorem toStr_b (l : List UInt8) : toStr (l.map fun b => (b.toNat : Int)) = Comp.pure l := by
  unfold toStr
  rw [if_pos]
  · congr 1
    rw [List.map_map]
    conv => rhs; rw [← List.map_id l]
    apply List.map_congr_left
    intro x _; simp
  · rw [List.all_eq_true]
    intro x hx
    obtain ⟨b, _, rfl⟩ := List.mem_map.1 hx
    have : b.toNat < 256 := b.toNat_lt
    simp; omega
theorem text_val (l : List UInt8) : (digest_digest_text (vecD l)).val = some (D l) := by
  unfold digest_digest_text strings_Clone cloneS
  rw [vecD_list, toStr_b]
  simp only [Comp.val_bind, Comp.val_pure, Option.bind_some]
  rw [if_pos (by rw [D_length]; decide)]
  simp
theorem le_list (n : Nat) : [IntKind.wrap .u8 (n : Int), IntKind.wrap .u8 (shrF .i64 (n : Int) 8), IntKind.wrap .u8 (shrF .i64 (n : Int) 16), IntKind.wrap .u8 (shrF .i64 (n : Int) 24)] = (le4 n).map fun b => (b.toNat : Int) := by
  have h : ∀ k : Nat, k ≤ 60 → IntKind.wrap .u8 (shrF .i64 (n : Int) (k : Int)) = ((UInt8.ofNat (n / 2 ^ k)).toNat : Int) := by
    intro k hk
    unfold shrF
    rw [IntKind.wrap_u8, ofNat_i, show IntKind.bits .i64 = 64 from rfl, Int.toNat_natCast, Nat.min_eq_left (by omega), shr_i]
  have h8 : IntKind.wrap .u8 (shrF .i64 (n : Int) 8) = ((UInt8.ofNat (n / 256)).toNat : Int) := h 8 (by omega)
  have h16 : IntKind.wrap .u8 (shrF .i64 (n : Int) 16) = ((UInt8.ofNat (n / 65536)).toNat : Int) := h 16 (by omega)
  have h24 : IntKind.wrap .u8 (shrF .i64 (n : Int) 24) = ((UInt8.ofNat (n / 16777216)).toNat : Int) := h 24 (by omega)
  have h0 : IntKind.wrap .u8 (n : Int) = ((UInt8.ofNat n).toNat : Int) := by rw [IntKind.wrap_u8, ofNat_i]
  simp only [le4, List.map, h8, h16, h24, h0]
theorem length_val (s : Bytes) : (digest_length s).val = some (lenL s) := by
  unfold digest_length
  rw [le_list, toStr_b]
  simp [Comp.val_bind, lenL]
theorem least4_val (n : Nat) : (colletref02_least4 (n : Int)).val = some (le4 n) := by
  unfold colletref02_least4
  rw [le_list, toStr_b]
  simp [Comp.val_bind]
theorem most4_val (n : Nat) : (colletref02_most4 (n : Int)).val = some (be4 n) := by
  unfold colletref02_most4
  have e : [IntKind.wrap .u8 (shrF .i64 (n : Int) 24), IntKind.wrap .u8 (shrF .i64 (n : Int) 16), IntKind.wrap .u8 (shrF .i64 (n : Int) 8), IntKind.wrap .u8 (n : Int)] = (be4 n).map fun b => (b.toNat : Int) := by
    have := le_list n
    simp only [le4, be4, List.map, List.cons.injEq] at this ⊢
    obtain ⟨h1, h2, h3, h4, _⟩ := this
    exact ⟨h4, h3, h2, h1, trivial⟩
  rw [e, toStr_b]
  simp [Comp.val_bind]
theorem cat_val {s t : Bytes} (h : s.length + t.length ≤ 1099511627776) : (Lift.cat s t).val = some (s ++ t) := by
  unfold Lift.cat; rw [if_pos h]; simp
theorem cat_bind {α : Type} {s t : Bytes} (h : s.length + t.length ≤ 1099511627776) (f : Bytes → Comp α) : ((Lift.cat s t).bind f).val = (f (s ++ t)).val := Comp.val_bind_of (cat_val h) f
theorem rOf_val (s : Bytes) (hs : s.length ≤ 1099511627776) : (colletref02_Of s).val = some (D s) := by
  have hx : ∀ (l : List UInt8) (c : UInt8), Int.tmod (IntKind.wrap .i64 (IntKind.wrap .i64 (IntKind.wrap .i64 (48271 * (dx l : Int)) + IntKind.wrap .i64 (c.toNat : Int)) + 1)) 2147483629 = ((dx (l ++ [c]) : Nat) : Int) := by
    intro l c
    have h1 := dx_lt l; have h2 : c.toNat < 256 := c.toNat_lt
    rw [wrapi (n := 48271 * (dx l : Int)) (by omega), wrapi (n := (c.toNat : Int)) (by omega), wrapi (n := 48271 * (dx l : Int) + (c.toNat : Int)) (by omega), wrapi (by omega), Int.tmod_eq_emod_of_nonneg (by omega), dxi]
  have hy : ∀ (l : List UInt8) (c : UInt8), Int.tmod (IntKind.wrap .i64 (IntKind.wrap .i64 (IntKind.wrap .i64 (69621 * (dy l : Int)) + IntKind.wrap .i64 (c.toNat : Int)) + 1)) 2147483587 = ((dy (l ++ [c]) : Nat) : Int) := by
    intro l c
    have h1 := dy_lt l; have h2 : c.toNat < 256 := c.toNat_lt
    rw [wrapi (n := 69621 * (dy l : Int)) (by omega), wrapi (n := (c.toNat : Int)) (by omega), wrapi (n := 69621 * (dy l : Int) + (c.toNat : Int)) (by omega), wrapi (by omega), Int.tmod_eq_emod_of_nonneg (by omega), dyi]
  have := Comp.loop_seq (body := fun t : Int × Int × Int => colletref02_Of_l2 s t.1 t.2.1 t.2.2) (fun i => (((dx (s.take i) : Nat) : Int), ((dy (s.take i) : Nat) : Int), (i : Int))) s.length (((dx s : Nat) : Int), ((dy s : Nat) : Int))
    (by
      intro i hi
      show (colletref02_Of_l2 s _ _ (i : Int)).val = _
      unfold colletref02_Of_l2 strIdx
      rw [Comp.val_ite, if_pos (by rw [decide_eq_true_iff]; omega)]
      simp only [Comp.val_bind, Comp.val_pure, Option.bind_some, idxn, List.getElem?_eq_getElem hi, hx, hy]
      rw [Comp.wrap_succ (by omega), take1 hi])
    (by
      show (colletref02_Of_l2 s _ _ (s.length : Int)).val = _
      unfold colletref02_Of_l2
      rw [Comp.val_ite, if_neg (by simp), Comp.val_pure]
      simp)
  have h0 : (Comp.loop (fun t : Int × Int × Int => colletref02_Of_l2 s t.1 t.2.1 t.2.2) (17, 29, 0)).val = some (((dx s : Nat) : Int), ((dy s : Nat) : Int)) := this
  unfold colletref02_Of
  rw [Comp.val_bind, h0, Option.bind_some]
  show (colletref02_Of_j1 _ _).val = _
  unfold colletref02_Of_j1
  rw [Comp.val_bind, most4_val, Option.bind_some, Comp.val_bind, most4_val, Option.bind_some, cat_bind (by simp [be4]), Comp.val_pure]
  rfl
theorem lenL_len (s : Bytes) : (lenL s).length = 4 := rfl
theorem le4_len (n : Nat) : (le4 n).length = 4 := rfl
theorem marked_val (k m : Bytes) (hk : k.length ≤ 1099511627776) (hm : m.length ≤ 1099511627776) : (digest_marked k m).val = some (vecD (markL k m)) := by
  unfold digest_marked
  simp only [Comp.val_bind, length_val, Option.bind_some, Comp.val_pure]
  rw [of_val _ (by simp) (by simp [lenL_len]; omega)]
  simp [flat, markL]
theorem Chain_val (b s : Bytes) (hk : b.length ≤ 1099511627776) (hm : s.length ≤ 1099511627776) : (digest_Chain b s).val = some (D (chainL b s)) := by
  unfold digest_Chain
  simp only [Comp.val_bind, length_val, Option.bind_some, Comp.val_pure]
  rw [of_val _ (by simp) (by simp [lenL_len]; omega)]
  simp [flat, chainL, text_val]
def chk (k m x : Bytes) : Bool := decide (k ≠ []) && decide (x = D (markL k m))
theorem vec_inj (x : Bytes) (h : 8 ≤ x.length) (l : List UInt8) : ((⟨((ofStr x).take 8).toArray, by simp [ofStr]; omega⟩ : Vector Int 8) = vecD l) ↔ x.take 8 = D l := by
  rw [← Vector.toList_inj, vecD_list]
  show ((ofStr x).take 8) = _ ↔ _
  unfold ofStr
  rw [← List.map_take, List.map_inj_right]
  intro a b hab
  exact UInt8.toNat_inj.1 (Int.ofNat.inj hab)
theorem Check_val (k m x : Bytes) (hk : k.length ≤ 1099511627776) (hm : m.length ≤ 1099511627776) : (digest_Check k m x).val = some (chk k m x) := by
  unfold digest_Check
  by_cases hk0 : k = []
  · subst hk0; simp [Comp.val_bind, Comp.val_gd, chk]
  · by_cases hx : x.length = 8
    · have hx' : (x.length : Int) = 8 := by omega
      have h8 : 8 ≤ (ofStr x).length := by simp [ofStr]; omega
      have e : (bif (decide (k ≠ ([] : Bytes))) then (decide ((x.length : Int) = 8)) else false) = true := by simp [hk0, hx']
      simp only [e, Comp.val_bind, Comp.val_gd, if_pos, beq_self_eq_true, marked_val k m hk hm, Option.bind_some, Comp.val_pure, toVec, dif_pos h8, cond_true]
      congr 1
      unfold chk
      rw [show decide (k ≠ []) = true from by simp [hk0], Bool.true_and]
      congr 1
      rw [vec_inj x (by omega), List.take_of_length_le (by omega)]
    · have hx' : ¬ (x.length : Int) = 8 := by omega
      have : ¬ x = D (markL k m) := by intro h; rw [h] at hx; exact hx rfl
      simp [Comp.val_bind, Comp.val_gd, chk, hx', this]
theorem rMark_val (k m : Bytes) (hk : k.length ≤ 274877906944) (hm : m.length ≤ 274877906944) : (colletref02_Mark k m).val = some (D (markL k m)) := by
  unfold colletref02_Mark
  rw [Comp.val_bind, least4_val, Option.bind_some, cat_bind (by simp [le4_len]), cat_bind (by simp [le4_len]; omega), Comp.val_bind, least4_val, Option.bind_some, cat_bind (by simp [le4_len]; omega), cat_bind (by simp [le4_len]; omega), cat_bind (by simp [le4_len]; omega), Comp.val_bind, rOf_val _ (by simp [le4_len]; omega)]
  simp [markL, lenL]
theorem rChain_val (b s : Bytes) (hk : b.length ≤ 274877906944) (hm : s.length ≤ 274877906944) : (colletref02_Chain b s).val = some (D (chainL b s)) := by
  unfold colletref02_Chain
  rw [Comp.val_bind, least4_val, Option.bind_some, cat_bind (by simp [le4_len]), cat_bind (by simp [le4_len]; omega), cat_bind (by simp [le4_len]; omega), Comp.val_bind, rOf_val _ (by simp [le4_len]; omega)]
  simp [chainL, lenL]
theorem rCheck_val (k m x : Bytes) (hk : k.length ≤ 274877906944) (hm : m.length ≤ 274877906944) : (colletref02_Check k m x).val = some (chk k m x) := by
  unfold colletref02_Check chk
  by_cases hk0 : k = []
  · subst hk0; simp [Comp.val_bind, Comp.val_gd]
  · simp [Comp.val_bind, Comp.val_gd, hk0, rMark_val k m hk hm]
end Go.Dgp
end
section
set_option linter.unusedVariables false
set_option linter.unusedSimpArgs false
namespace Go.Dgp
open Go Go.Lift Go.F
open Go.Dig hiding Bytes cat
def vb (c : Nat) : Bytes := if h : c < 128 then [UInt8.ofNat c] else UInt8.ofNat (c % 128 + 128) :: vb (c / 128)
termination_by c
decreasing_by omega
def zz (x : Int) : Nat := if 0 ≤ x then (2 * x).toNat else (2 * (-(x + 1)) + 1).toNat
def I64 (x : Int) : Prop := -9223372036854775808 ≤ x ∧ x < 9223372036854775808
theorem zz_lt {x : Int} (h : I64 x) : zz x < 18446744073709551616 := by
  unfold I64 at h; unfold zz; split <;> omega
theorem wrap_u64 (n : Int) : IntKind.wrap .u64 n = n % 18446744073709551616 := by simp [IntKind.wrap, IntKind.bits, IntKind.signed]
theorem ref_code {x : Int} (h : I64 x) : (colletref04_code x).val = some (zz x : Int) := by
  unfold I64 at h
  unfold colletref04_code zz
  rw [Comp.val_ite]
  by_cases hx : 0 ≤ x
  · rw [if_pos (by rw [decide_eq_true_iff]; omega), if_pos hx]
    simp only [Comp.val_bind, Comp.val_pure, Option.bind_some, wrap_u64]
    congr 1; omega
  · rw [if_neg (by rw [decide_eq_true_iff]; omega), if_neg hx]
    rw [wrapi (n := x + 1) (by omega), wrapi (by omega)]
    simp only [Comp.val_bind, Comp.val_pure, Option.bind_some, wrap_u64]
    congr 1; omega
theorem own_code {x : Int} (h : I64 x) : xorB .u64 (shlF .u64 (IntKind.wrap .u64 x) 1) (IntKind.wrap .u64 (shrF .i64 x 63)) = (zz x : Int) := by
  unfold I64 at h
  unfold shlF shrF xorB zz
  simp only [wrap_u64, show IntKind.bits .u64 = 64 from rfl, show IntKind.bits .i64 = 64 from rfl, show min (Int.toNat 1) 64 = 1 from rfl, show min (Int.toNat 63) 64 = 63 from rfl]
  rw [Int.fdiv_eq_ediv_of_nonneg _ (by decide)]
  by_cases hx : 0 ≤ x
  · rw [if_pos hx, show x / 2 ^ 63 = 0 by omega]
    have e : BitVec.ofInt 64 ((x % 18446744073709551616 * 2 ^ 1) % 18446744073709551616) ^^^ BitVec.ofInt 64 ((0 : Int) % 18446744073709551616) = BitVec.ofInt 64 (2 * x) := by
      rw [show (0 : Int) % 18446744073709551616 = 0 from rfl, show BitVec.ofInt 64 0 = 0#64 from rfl, BitVec.xor_zero]
      congr 1; omega
    show (((BitVec.ofInt 64 ((x % 18446744073709551616 * 2 ^ 1) % 18446744073709551616) ^^^ BitVec.ofInt 64 ((0 : Int) % 18446744073709551616)).toNat : Nat) : Int) % 18446744073709551616 = _
    rw [e, BitVec.toNat_ofInt]; omega
  · rw [if_neg hx, show x / 2 ^ 63 = -1 by omega]
    have e : BitVec.ofInt 64 ((x % 18446744073709551616 * 2 ^ 1) % 18446744073709551616) ^^^ BitVec.ofInt 64 ((-1 : Int) % 18446744073709551616) = ~~~ BitVec.ofInt 64 (2 * x) := by
      rw [show BitVec.ofInt 64 ((-1 : Int) % 18446744073709551616) = BitVec.allOnes 64 from by decide, BitVec.xor_allOnes]
      congr 1
      apply BitVec.eq_of_toNat_eq
      rw [BitVec.toNat_ofInt, BitVec.toNat_ofInt]; omega
    show (((BitVec.ofInt 64 ((x % 18446744073709551616 * 2 ^ 1) % 18446744073709551616) ^^^ BitVec.ofInt 64 ((-1 : Int) % 18446744073709551616)).toNat : Nat) : Int) % 18446744073709551616 = _
    rw [e, BitVec.toNat_not, BitVec.toNat_ofInt]; omega
set_option maxRecDepth 100000
theorem or128 : ∀ b : Fin 256, orB .u8 (b.val : Int) 128 = ((b.val % 128 + 128 : Nat) : Int) := by decide +kernel
theorem byte_list (c : Nat) : [IntKind.wrap .u8 (c : Int)] = [UInt8.ofNat c].map fun b => (b.toNat : Int) := by
  rw [IntKind.wrap_u8, List.map_singleton, ofNat_i]
theorem vb_small {c : Nat} (h : c < 128) : vb c = [UInt8.ofNat c] := by rw [vb, dif_pos h]
theorem vb_big {c : Nat} (h : ¬ c < 128) : vb c = UInt8.ofNat (c % 128 + 128) :: vb (c / 128) := by rw [vb, dif_neg h]
theorem pow128 (k : Nat) : 128 ^ (k + 1) = 128 ^ k * 128 := Nat.pow_succ ..
theorem ref_loop : ∀ (k c : Nat) (acc : Bytes), c < 128 ^ k → c < 18446744073709551616 → acc.length + k ≤ 1000 → 1 ≤ k →
    ((Comp.loop (fun s : Bytes × Int => colletref04_Int_l2 s.1 s.2) (acc, (c : Int))).bind fun p => colletref04_Int_j1 p.1 p.2).val = some (acc ++ vb c)
  | 0, c, acc, _, _, _, h => by omega
  | k + 1, c, acc, hc, hc2, ha, _ => by
      rw [Comp.val_bind, Comp.val_loop]
      by_cases h : c < 128
      · have hb : (colletref04_Int_l2 acc (c : Int)).val = some (.done (acc, (c : Int))) := by
          unfold colletref04_Int_l2
          rw [Comp.val_ite, if_neg (by rw [decide_eq_true_iff]; omega), Comp.val_pure]
        show ((colletref04_Int_l2 acc (c : Int)).val.bind _).bind _ = _
        rw [hb]
        show (colletref04_Int_j1 acc (c : Int)).val = _
        unfold colletref04_Int_j1
        rw [byte_list, toStr_b, vb_small h]
        simp only [Comp.val_bind, Comp.val_pure, Option.bind_some]
        rw [cat_val (by simp; omega), Option.bind_some]
      · have e1 : IntKind.wrap .u8 (IntKind.wrap .u64 (Int.tmod (c : Int) 128 + 128)) = IntKind.wrap .u8 ((c % 128 + 128 : Nat) : Int) := by
          rw [Int.tmod_eq_emod_of_nonneg (by omega), wrapu (by omega)]; congr 1
        have e2 : IntKind.wrap .u64 (Int.tdiv (c : Int) 128) = ((c / 128 : Nat) : Int) := by
          rw [Int.tdiv_eq_ediv_of_nonneg (by omega), wrapu (by omega)]; omega
        have hb : (colletref04_Int_l2 acc (c : Int)).val = some (.next (acc ++ [UInt8.ofNat (c % 128 + 128)], ((c / 128 : Nat) : Int))) := by
          unfold colletref04_Int_l2
          rw [Comp.val_ite, if_pos (by rw [decide_eq_true_iff]; omega), e1, byte_list, toStr_b, e2]
          simp only [Comp.val_bind, Comp.val_pure, Option.bind_some]
          rw [cat_val (by simp; omega), Option.bind_some]
        show ((colletref04_Int_l2 acc (c : Int)).val.bind _).bind _ = _
        rw [hb]
        have hp := pow128 k
        have hk : 1 ≤ k := by
          rcases Nat.eq_zero_or_pos k with h0 | h0
          · subst h0; omega
          · exact h0
        have := ref_loop k (c / 128) (acc ++ [UInt8.ofNat (c % 128 + 128)]) (by omega) (by omega) (by simp; omega) hk
        rw [Comp.val_bind] at this
        rw [vb_big h]
        show (Comp.loop (fun s : Bytes × Int => colletref04_Int_l2 s.1 s.2) (acc ++ [UInt8.ofNat (c % 128 + 128)], ((c / 128 : Nat) : Int))).val.bind _ = _
        rw [this, List.append_assoc]; rfl
theorem rInt_val {x : Int} (h : I64 x) : (colletref04_Int x).val = some (vb (zz x)) := by
  have hz := zz_lt h
  unfold colletref04_Int
  rw [Comp.val_bind, ref_code h, Option.bind_some]
  exact ref_loop 10 (zz x) [] (by omega) hz (by simp) (by omega)
theorem own_loop : ∀ (k c : Nat) (acc : Bytes), c < 128 ^ k → c < 18446744073709551616 → acc.length + k ≤ 1000 → 1 ≤ k →
    ((Comp.loop (fun s : Int × List Int => wire_Int_l2 s.1 s.2) ((c : Int), acc.map fun b => (b.toNat : Int))).bind fun p => wire_Int_j1 p.1 p.2).val = some (acc ++ vb c)
  | 0, c, acc, _, _, _, h => by omega
  | k + 1, c, acc, hc, hc2, ha, _ => by
      have hL : LIM = 1073741824 := rfl
      rw [Comp.val_bind, Comp.val_loop]
      by_cases h : c < 128
      · have hb : (wire_Int_l2 (c : Int) (acc.map fun b => (b.toNat : Int))).val = some (.done ((c : Int), acc.map fun b => (b.toNat : Int))) := by
          unfold wire_Int_l2
          rw [Comp.val_ite, if_neg (by rw [decide_eq_true_iff]; omega), Comp.val_pure]
        show ((wire_Int_l2 (c : Int) (acc.map fun b => (b.toNat : Int))).val.bind _).bind _ = _
        rw [hb]
        show (wire_Int_j1 (c : Int) (acc.map fun b => (b.toNat : Int))).val = _
        unfold wire_Int_j1
        rw [byte_list, Comp.val_bind, app_val (by simp; omega), Option.bind_some, ← List.map_append, toStr_b, vb_small h]
        simp only [Comp.val_bind, Comp.val_pure, Option.bind_some]
      · have e1 : orB .u8 (IntKind.wrap .u8 (c : Int)) 128 = ((UInt8.ofNat (c % 128 + 128)).toNat : Int) := by
          have := or128 ⟨c % 256, by omega⟩
          rw [IntKind.wrap_u8, show (c : Int) % 256 = ((c % 256 : Nat) : Int) by omega]
          rw [show ((⟨c % 256, by omega⟩ : Fin 256).val : Int) = ((c % 256 : Nat) : Int) from rfl] at this
          rw [this, ofNat_i]
          show ((c % 256 % 128 + 128 : Nat) : Int) = _
          omega
        have e2 : shrF .u64 (c : Int) 7 = ((c / 128 : Nat) : Int) := by
          unfold shrF
          rw [show min (Int.toNat 7) (IntKind.bits .u64) = 7 from rfl, shr_i]
        have hb : (wire_Int_l2 (c : Int) (acc.map fun b => (b.toNat : Int))).val = some (.next (((c / 128 : Nat) : Int), (acc ++ [UInt8.ofNat (c % 128 + 128)]).map fun b => (b.toNat : Int))) := by
          unfold wire_Int_l2
          rw [Comp.val_ite, if_pos (by rw [decide_eq_true_iff]; omega), e1, e2, Comp.val_bind, app_val (by simp; omega), Option.bind_some, Comp.val_pure, List.map_append]
          rfl
        show ((wire_Int_l2 (c : Int) (acc.map fun b => (b.toNat : Int))).val.bind _).bind _ = _
        rw [hb]
        have hp := pow128 k
        have hk : 1 ≤ k := by
          rcases Nat.eq_zero_or_pos k with h0 | h0
          · subst h0; omega
          · exact h0
        have := own_loop k (c / 128) (acc ++ [UInt8.ofNat (c % 128 + 128)]) (by omega) (by omega) (by simp; omega) hk
        rw [Comp.val_bind] at this
        rw [vb_big h]
        show (Comp.loop (fun s : Int × List Int => wire_Int_l2 s.1 s.2) (((c / 128 : Nat) : Int), (acc ++ [UInt8.ofNat (c % 128 + 128)]).map fun b => (b.toNat : Int))).val.bind _ = _
        rw [this, List.append_assoc]; rfl
theorem wInt_val {x : Int} (h : I64 x) : (wire_Int x).val = some (vb (zz x)) := by
  have hz := zz_lt h
  unfold wire_Int
  rw [Comp.val_bind, Comp.val_pure, Option.bind_some, own_code h]
  exact own_loop 10 (zz x) [] (by omega) hz (by simp) (by omega)
end Go.Dgp
end
section
set_option linter.unusedVariables false
set_option linter.unusedSimpArgs false
namespace Go.Dgp
open Go Go.Lift Go.F
open Go.Dig hiding Bytes cat
theorem vb_len : ∀ (k c : Nat), c < 128 ^ k → 1 ≤ k → (vb c).length ≤ k
  | 0, c, _, h => by omega
  | k + 1, c, hc, _ => by
      by_cases h : c < 128
      · rw [vb_small h]; simp
      · have hp := pow128 k
        have hk : 1 ≤ k := by
          rcases Nat.eq_zero_or_pos k with h0 | h0
          · subst h0; omega
          · exact h0
        have := vb_len k (c / 128) (by omega) hk
        rw [vb_big h, List.length_cons]; omega
theorem vbz_len {x : Int} (h : I64 x) : (vb (zz x)).length ≤ 10 := vb_len 10 _ (by have := zz_lt h; omega) (by omega)
theorem i64_nat {n : Nat} (h : n ≤ 1099511627776) : I64 (n : Int) := ⟨by omega, by omega⟩
def vtext (s : Bytes) : Bytes := vb (zz (s.length : Int)) ++ s
def vints (l : List Int) : Bytes := vb (zz (l.length : Int)) ++ l.flatMap fun x => vb (zz x)
theorem wText_val {s : Bytes} (h : s.length ≤ 274877906944) : (wire_Text s).val = some (vtext s) := by
  have hi := i64_nat (n := s.length) (by omega)
  have := vbz_len hi
  unfold wire_Text
  rw [Comp.val_bind, wInt_val hi, Option.bind_some, cat_bind (by omega), Comp.val_pure]; rfl
theorem rText_val {s : Bytes} (h : s.length ≤ 274877906944) : (colletref04_Text s).val = some (vtext s) := by
  have hi := i64_nat (n := s.length) (by omega)
  have := vbz_len hi
  unfold colletref04_Text
  rw [Comp.val_bind, rInt_val hi, Option.bind_some, cat_bind (by omega), Comp.val_pure]; rfl
theorem allF_val : ∀ (l : List Int) (acc : Bytes), (∀ x ∈ l, I64 x) → acc.length + 10 * l.length ≤ 1000000 → (Bld.allF wire_Int l acc).val = some (acc ++ l.flatMap fun x => vb (zz x))
  | [], acc, _, _ => by unfold Bld.allF; simp
  | x :: l, acc, hx, ha => by
      have h1 := vbz_len (hx x (by simp))
      simp only [List.length_cons] at ha
      unfold Bld.allF
      rw [Comp.val_bind, wInt_val (hx x (by simp)), Option.bind_some, cat_bind (by omega), allF_val l _ (fun y hy => hx y (by simp [hy])) (by rw [List.length_append]; omega)]
      simp
theorem wInts_val {l : List Int} (h : l.length ≤ 1000) (hx : ∀ x ∈ l, I64 x) : (wire_Ints l).val = some (vints l) := by
  have hi := i64_nat (n := l.length) (by omega)
  have h1 := vbz_len hi
  have hL : LIM = 1073741824 := rfl
  unfold wire_Ints Bld.allC
  rw [Comp.val_bind, Comp.val_ite, if_pos (by omega), Comp.val_bind, wInt_val hi, Option.bind_some, cat_bind (by simp; omega), List.nil_append, allF_val l _ hx (by omega), Option.bind_some, Comp.val_pure]; rfl
theorem rInts_val {l : List Int} (h : l.length ≤ 1000) (hx : ∀ x ∈ l, I64 x) : (colletref04_Ints l).val = some (vints l) := by
  have hi := i64_nat (n := l.length) (by omega)
  have h1 := vbz_len hi
  have hlen : ∀ i, ((l.take i).flatMap fun x => vb (zz x)).length ≤ 10 * l.length := by
    intro i
    have : ∀ (m : List Int), (∀ x ∈ m, I64 x) → (m.flatMap fun x => vb (zz x)).length ≤ 10 * m.length := by
      intro m hm
      induction m with
      | nil => simp
      | cons x m ih =>
        have := ih (fun y hy => hm y (by simp [hy]))
        have := vbz_len (hm x (by simp))
        simp only [List.flatMap_cons, List.length_append, List.length_cons]; omega
    have h2 := this (l.take i) (fun x hx' => hx x (List.mem_of_mem_take hx'))
    have : (l.take i).length ≤ l.length := by rw [List.length_take]; omega
    omega
  have key := Comp.loop_seq (body := fun s : Bytes × Int => colletref04_Ints_l2 l s.1 s.2) (fun i => (vb (zz (l.length : Int)) ++ (l.take i).flatMap fun x => vb (zz x), (i : Int))) l.length (vints l)
    (by
      intro i hi
      show (colletref04_Ints_l2 l (vb (zz (l.length : Int)) ++ (l.take i).flatMap fun x => vb (zz x)) (i : Int)).val = _
      have hxi := hx l[i] (List.getElem_mem hi)
      have h3 := vbz_len hxi
      have h4 := hlen i
      unfold colletref04_Ints_l2
      rw [Comp.val_ite, if_pos (by rw [decide_eq_true_iff]; omega), Comp.val_bind, idxn, List.getElem?_eq_getElem hi, Option.bind_some, Comp.val_bind, rInt_val hxi, Option.bind_some, cat_bind (by rw [List.length_append]; omega), Comp.val_pure, Comp.wrap_succ (by omega), List.take_succ_eq_append_getElem hi, List.flatMap_append, List.append_assoc]
      simp)
    (by
      show (colletref04_Ints_l2 l (vb (zz (l.length : Int)) ++ (l.take l.length).flatMap fun x => vb (zz x)) (l.length : Int)).val = _
      unfold colletref04_Ints_l2
      rw [Comp.val_ite, if_neg (by rw [decide_eq_true_iff]; omega), Comp.val_pure, List.take_of_length_le (Nat.le_refl _)]; rfl)
  have key' : (Comp.loop (fun s : Bytes × Int => colletref04_Ints_l2 l s.1 s.2) (vb (zz (l.length : Int)), 0)).val = some (vints l) := by simpa using key
  unfold colletref04_Ints
  rw [Comp.val_bind, rInt_val hi, Option.bind_some, Comp.val_bind, key', Option.bind_some]
  show (colletref04_Ints_j1 _).val = _
  unfold colletref04_Ints_j1
  rw [Comp.val_pure]
end Go.Dgp
end
section
set_option linter.unusedVariables false
set_option linter.unusedSimpArgs false
namespace Go.Dgp
open Go Go.Lift Go.F
open Go.Dig hiding Bytes cat
structure EW (e : aEn) : Prop where
  seq : I64 e.Seq
  shop : I64 e.Shop
  kind : I64 e.Kind
  day : I64 e.Day
  n : I64 e.N
  before : e.Before.length ≤ 68719476736
  after : e.After.length ≤ 68719476736
  prev : e.Prev.length ≤ 68719476736
  mark : e.Mark.length ≤ 68719476736
def nums (e : aEn) : List Int := [e.Seq, e.Shop, e.Kind, e.Day, e.N]
def vbytes (e : aEn) : Bytes := vints (nums e) ++ vtext e.Before ++ vtext e.After ++ vtext e.Prev
theorem vtext_len {s : Bytes} (h : s.length ≤ 274877906944) : (vtext s).length ≤ s.length + 10 := by
  have := vbz_len (i64_nat (n := s.length) (by omega))
  unfold vtext; rw [List.length_append]; omega
theorem nums_wf {e : aEn} (h : EW e) : ∀ x ∈ nums e, I64 x := by
  intro x hx
  simp only [nums, List.mem_cons, List.not_mem_nil, or_false] at hx
  rcases hx with rfl | rfl | rfl | rfl | rfl
  · exact h.seq
  · exact h.shop
  · exact h.kind
  · exact h.day
  · exact h.n
theorem vints_len {e : aEn} (h : EW e) : (vints (nums e)).length ≤ 60 := by
  have h1 := vbz_len h.seq; have h2 := vbz_len h.shop; have h3 := vbz_len h.kind; have h4 := vbz_len h.day; have h5 := vbz_len h.n
  have h0 := vbz_len (i64_nat (n := 5) (by omega))
  have e5 : ((5 : Nat) : Int) = 5 := rfl
  rw [e5] at h0
  simp only [vints, nums, List.length_append, List.flatMap_cons, List.flatMap_nil, List.length_cons, List.length_nil]
  have : ((0 + 1 + 1 + 1 + 1 + 1 : Nat) : Int) = 5 := rfl
  rw [this]; omega
theorem vbytes_len {e : aEn} (h : EW e) : (vbytes e).length ≤ 206158430308 := by
  have h0 := vints_len h
  have h1 := vtext_len (s := e.Before) (by have := h.before; omega)
  have h2 := vtext_len (s := e.After) (by have := h.after; omega)
  have h3 := vtext_len (s := e.Prev) (by have := h.prev; omega)
  have := h.before; have := h.after; have := h.prev
  unfold vbytes
  simp only [List.length_append]; omega
theorem pBytes_val {e : aEn} (h : EW e) : (passport_Bytes e).val = some (vbytes e) := by
  have h0 := vints_len h
  have b1 := h.before; have b2 := h.after; have b3 := h.prev
  have h1 := vtext_len (s := e.Before) (by omega)
  have h2 := vtext_len (s := e.After) (by omega)
  have h3 := vtext_len (s := e.Prev) (by omega)
  have hi : (wire_Ints [e.Seq, e.Shop, e.Kind, e.Day, e.N]).val = some (vints (nums e)) := wInts_val (l := nums e) (by simp [nums]) (nums_wf h)
  unfold passport_Bytes
  rw [Comp.val_bind, hi, Option.bind_some, Comp.val_bind, wText_val (by omega), Option.bind_some, cat_bind (by omega), Comp.val_bind, wText_val (by omega), Option.bind_some, cat_bind (by simp only [List.length_append]; omega),
    Comp.val_bind, wText_val (by omega), Option.bind_some, cat_bind (by simp only [List.length_append]; omega), Comp.val_pure]
  rfl
theorem rBytes_val {e : aEn} (h : EW e) : (r7_Bytes e).val = some (vbytes e) := by
  have h0 := vints_len h
  have b1 := h.before; have b2 := h.after; have b3 := h.prev
  have h1 := vtext_len (s := e.Before) (by omega)
  have h2 := vtext_len (s := e.After) (by omega)
  have h3 := vtext_len (s := e.Prev) (by omega)
  have hi : (colletref04_Ints [e.Seq, e.Shop, e.Kind, e.Day, e.N]).val = some (vints (nums e)) := rInts_val (l := nums e) (by simp [nums]) (nums_wf h)
  unfold r7_Bytes
  rw [Comp.val_bind, hi, Option.bind_some, Comp.val_bind, rText_val (by omega), Option.bind_some, cat_bind (by omega), Comp.val_bind, rText_val (by omega), Option.bind_some, cat_bind (by simp only [List.length_append]; omega),
    Comp.val_bind, rText_val (by omega), Option.bind_some, cat_bind (by simp only [List.length_append]; omega), Comp.val_pure]
  rfl
def signE (key : Bytes) (e : aEn) : aEn := ⟨e.Seq, e.Shop, e.Kind, e.Day, e.N, e.Before, e.After, e.Prev, D (markL key (vbytes e))⟩
theorem rSign_val {key : Bytes} {e : aEn} (hk : key.length ≤ 274877906944) (h : EW e) : (r7_Sign key e).val = some (signE key e) := by
  have := vbytes_len h
  unfold r7_Sign
  simp only [Comp.val_bind, rBytes_val h, Option.bind_some, rMark_val key (vbytes e) (by omega) (by omega), Comp.val_pure]
  rfl
def linkE (e : aEn) : Bytes := D (chainL (vbytes e) e.Mark)
theorem pLink_val {e : aEn} (h : EW e) : (passport_link e).val = some (linkE e) := by
  have := vbytes_len h; have := h.mark
  unfold passport_link
  simp only [Comp.val_bind, pBytes_val h, Option.bind_some, Chain_val (vbytes e) e.Mark (by omega) (by omega), Comp.val_pure]
  rfl
theorem rLink_val {e : aEn} (h : EW e) : (r7_link e).val = some (linkE e) := by
  have := vbytes_len h; have := h.mark
  unfold r7_link
  simp only [Comp.val_bind, rBytes_val h, Option.bind_some, rChain_val (vbytes e) e.Mark (by omega) (by omega), Comp.val_pure]
  rfl
end Go.Dgp
end
section
set_option linter.unusedVariables false
set_option linter.unusedSimpArgs false
namespace Go.Dgp
open Go Go.Lift Go.F
open Go.Dig hiding Bytes cat
def nextE (l : List aEn) (e : aEn) : aEn :=
  match l.getLast? with
  | some p => ⟨(l.length : Int), e.Shop, e.Kind, e.Day, e.N, p.After, e.After, linkE p, []⟩
  | none => ⟨(l.length : Int), e.Shop, e.Kind, e.Day, e.N, e.Before, e.After, [], []⟩
theorem last_idx {l : List aEn} (h : 0 < l.length) (hl : l.length ≤ 1073741824) : ∃ p, l.getLast? = some p ∧ p ∈ l ∧ (idx l (IntKind.wrap .i64 ((l.length : Int) - 1))).val = some p := by
  have h1 : l[l.length - 1]? = some l[l.length - 1] := List.getElem?_eq_getElem (by omega)
  refine ⟨l[l.length - 1], ?_, List.getElem_mem _, ?_⟩
  · rw [List.getLast?_eq_getElem?, h1]
  · rw [wrapi (by omega), show (l.length : Int) - 1 = ((l.length - 1 : Nat) : Int) by omega, idxn, h1]
theorem rNext_val {l : List aEn} {e : aEn} (hl : l.length ≤ 1073741824) (hw : ∀ x ∈ l, EW x) : (r7_Next l e).val = some (nextE l e) := by
  unfold r7_Next nextE
  rw [Comp.val_ite]
  by_cases h : 0 < l.length
  · obtain ⟨p, h1, h2, h3⟩ := last_idx h hl
    rw [if_pos (by rw [decide_eq_true_iff]; omega), h1]
    simp only [Comp.val_bind, h3, Option.bind_some, rLink_val (hw p h2)]
    unfold r7_Next_j1
    rw [Comp.val_pure]
  · have h0 : l = [] := List.eq_nil_of_length_eq_zero (by omega)
    rw [if_neg (by rw [decide_eq_true_iff]; omega), h0]
    unfold r7_Next_j1
    rw [Comp.val_pure]; rfl
theorem linkE_len (e : aEn) : (linkE e).length = 8 := D_length _
theorem nextE_wf {l : List aEn} {e : aEn} (hl : l.length ≤ 1073741824) (hw : ∀ x ∈ l, EW x) (he : EW e) : EW (nextE l e) := by
  unfold nextE
  split
  · rename_i p hp
    have hm : p ∈ l := List.mem_of_getLast? hp
    exact ⟨⟨by show -9223372036854775808 ≤ ((l.length : Nat) : Int); omega, by show ((l.length : Nat) : Int) < 9223372036854775808; omega⟩, he.shop, he.kind, he.day, he.n, (hw p hm).after, he.after, by show (linkE p).length ≤ _; rw [linkE_len]; decide, by simp⟩
  · exact ⟨⟨by show -9223372036854775808 ≤ ((l.length : Nat) : Int); omega, by show ((l.length : Nat) : Int) < 9223372036854775808; omega⟩, he.shop, he.kind, he.day, he.n, he.before, he.after, by simp, by simp⟩
theorem signE_wf {k : Bytes} {e : aEn} (he : EW e) : EW (signE k e) :=
  ⟨he.seq, he.shop, he.kind, he.day, he.n, he.before, he.after, he.prev, by show (D _).length ≤ _; rw [D_length]; decide⟩
end Go.Dgp
end
section
set_option linter.unusedVariables false
set_option linter.unusedSimpArgs false
namespace Go.Dgp
open Go Go.Lift Go.F
open Go.Dig hiding Bytes cat
def decT (n : Nat) : Bytes := (((r1_Of (n : Int)).bind r1_Text).run 20).getD []
set_option maxRecDepth 1000000 in
theorem dec_run : ∀ n : Fin 256, (((r1_Of (n.val : Int)).bind r1_Text).run 20).isSome = true ∧ (decT n.val).length ≤ 3 := by decide +kernel
theorem dec_val {n : Nat} (h : n < 256) : ((r1_Of (n : Int)).bind r1_Text).val = some (decT n) := by
  have h1 := (dec_run ⟨n, h⟩).1
  obtain ⟨y, hy⟩ := Option.isSome_iff_exists.1 h1
  have : decT n = y := by unfold decT; rw [hy]; rfl
  rw [this]; exact Comp.val_run hy
theorem dec_len {n : Nat} (h : n < 256) : (decT n).length ≤ 3 := (dec_run ⟨n, h⟩).2
def keyT (n : Nat) : Bytes := [107, 101, 121, 32] ++ decT n
def rootT (n : Nat) : Bytes := D ([114, 111, 111, 116, 32] ++ decT n)
theorem root37_val {n : Nat} (h : n < 256) : (r7_Root (n : Int)).val = some (rootT n) := by
  have h1 := dec_val h
  rw [Comp.val_bind] at h1
  have hl := dec_len h
  unfold r7_Root
  rw [Comp.val_bind]
  cases ha : (r1_Of (n : Int)).val with
  | none => rw [ha] at h1; cases h1
  | some a =>
    rw [ha, Option.bind_some] at h1
    rw [Option.bind_some, Comp.val_bind, h1, Option.bind_some, cat_bind (by simp; omega), Comp.val_bind, rOf_val _ (by simp; omega), Option.bind_some, Comp.val_pure]; rfl
theorem keys_val {m : Nat} (h : m ≤ 200) : (r7_Keys (m : Int)).val = some ((List.range m).map keyT) := by
  have hL : LIM = 1073741824 := rfl
  have key := Comp.loop_seq (body := fun s : List Bytes × Int => r7_Keys_l2 (m : Int) s.1 s.2) (fun i => ((List.range i).map keyT, (i : Int))) m ((List.range m).map keyT)
    (by
      intro i hi
      show (r7_Keys_l2 (m : Int) ((List.range i).map keyT) (i : Int)).val = _
      have h1 := dec_val (n := i) (by omega)
      have hl := dec_len (n := i) (by omega)
      rw [Comp.val_bind] at h1
      unfold r7_Keys_l2
      rw [Comp.val_ite, if_pos (by rw [decide_eq_true_iff]; omega), Comp.val_bind]
      cases ha : (r1_Of (i : Int)).val with
      | none => rw [ha] at h1; cases h1
      | some a =>
        rw [ha, Option.bind_some] at h1
        rw [Option.bind_some, Comp.val_bind, h1, Option.bind_some, cat_bind (by simp; omega), Comp.val_bind, app_val (by simp; omega), Option.bind_some, Comp.val_pure, Comp.wrap_succ (by omega), List.range_succ, List.map_append]
        rfl)
    (by
      show (r7_Keys_l2 (m : Int) ((List.range m).map keyT) (m : Int)).val = _
      unfold r7_Keys_l2
      rw [Comp.val_ite, if_neg (by rw [decide_eq_true_iff]; omega), Comp.val_pure])
  have key' : (Comp.loop (fun s : List Bytes × Int => r7_Keys_l2 (m : Int) s.1 s.2) ([], 0)).val = some ((List.range m).map keyT) := key
  unfold r7_Keys
  rw [Comp.val_bind, key', Option.bind_some]
  show (r7_Keys_j1 _).val = _
  unfold r7_Keys_j1
  rw [Comp.val_pure]
end Go.Dgp
end
section
set_option linter.unusedVariables false
set_option linter.unusedSimpArgs false
namespace Go.Dgp
open Go Go.Lift Go.F
open Go.Dig hiding Bytes cat
theorem mod_val {x m : Int} (hx : I64 x) (hm : 1 ≤ m ∧ m ≤ 1099511627776) : (r1_Mod x m).val = some (x % m) := by
  unfold I64 at hx
  have h1 : -m < x.tmod m := Int.lt_tmod_of_pos x (by omega)
  have h2 : x.tmod m < m := Int.tmod_lt_of_pos x (by omega)
  unfold r1_Mod
  rw [Comp.val_ite, if_neg (by rw [decide_eq_true_iff]; omega), Comp.val_bind, rem_val (by omega), Option.bind_some, wrapi (by omega), Comp.val_bind, rem_val (by omega), Option.bind_some, Comp.val_pure]
  congr 1
  rw [Int.tmod_eq_emod_of_nonneg (by omega), Int.add_emod_right, Int.tmod_eq_emod]
  split
  · simp
  · rw [show m.natAbs = m.toNat by omega, show ((m.toNat : Nat) : Int) = m by omega, Int.sub_emod_right, Int.emod_emod]
def drawN (L : List Int) (k m : Nat) : Nat × Nat := if L.length ≤ k then (k, 0) else (k + 1, (L.getD k 0 % (m : Int)).toNat)
theorem drawN_lt (L : List Int) (k m : Nat) (h : 1 ≤ m) : (drawN L k m).2 < m := by
  unfold drawN; split
  · exact h
  · have := Int.emod_lt_of_pos (L.getD k 0) (by omega : (0 : Int) < m)
    have := Int.emod_nonneg (L.getD k 0) (by omega : (m : Int) ≠ 0)
    show (L.getD k 0 % (m : Int)).toNat < m
    omega
theorem drawN_at (L : List Int) (k m : Nat) : (drawN L k m).1 ≤ k + 1 := by unfold drawN; split <;> simp
theorem draw_val {L : List Int} {k m : Nat} (hL : ∀ x ∈ L, I64 x) (hk : k ≤ 1000000) (hm : 1 ≤ m ∧ m ≤ 1000000) : (r1_Draw_Next ⟨L, (k : Int)⟩ (m : Int)).val = some (⟨L, ((drawN L k m).1 : Int)⟩, ((drawN L k m).2 : Int)) := by
  unfold r1_Draw_Next drawN
  rw [Comp.val_ite]
  by_cases h : L.length ≤ k
  · rw [if_pos (by rw [decide_eq_true_iff]; show (k : Int) ≥ (L.length : Int); omega), if_pos h, Comp.val_pure]; rfl
  · have hg : L[k]? = some (L.getD k 0) := by rw [List.getD_eq_getElem?_getD, List.getElem?_eq_getElem (by omega)]; rfl
    have hx := hL _ (List.mem_of_getElem? hg)
    rw [if_neg (by rw [decide_eq_true_iff]; show ¬ (k : Int) ≥ (L.length : Int); omega), if_neg h]
    show ((idx L (IntKind.wrap .i64 (IntKind.wrap .i64 ((k : Int) + 1) - 1))).bind fun x4 => (r1_Mod x4 (m : Int)).bind fun x5 => Comp.pure ((r1_Draw.mk L (IntKind.wrap .i64 ((k : Int) + 1))), x5)).val = _
    rw [Comp.wrap_succ (by omega), show IntKind.wrap .i64 (((k + 1 : Nat) : Int) - 1) = (k : Int) by rw [wrapi (by omega)]; omega, Comp.val_bind, idxn, hg, Option.bind_some, Comp.val_bind, mod_val hx (by omega), Option.bind_some, Comp.val_pure]
    have := Int.emod_nonneg (L.getD k 0) (by omega : (m : Int) ≠ 0)
    have e : (((L.getD k 0 % (m : Int)).toNat : Nat) : Int) = L.getD k 0 % (m : Int) := by omega
    show some (r1_Draw.mk L ((k + 1 : Nat) : Int), L.getD k 0 % (m : Int)) = some (⟨L, ((k + 1 : Nat) : Int)⟩, (((L.getD k 0 % (m : Int)).toNat : Nat) : Int))
    rw [e]
end Go.Dgp
end
section
set_option linter.unusedVariables false
set_option linter.unusedSimpArgs false
namespace Go.Dgp
open Go Go.Lift Go.F
open Go.Dig hiding Bytes cat
theorem sub0_val {α : Type} (l : List α) (k : Nat) : (sub l 0 (min (l.length : Int) (k : Int))).val = some (l.take k) := by
  rw [sub_val ⟨by omega, by omega, by omega⟩]
  simp only [Int.toNat_zero, List.drop_zero]
  congr 1
  by_cases h : l.length ≤ k
  · rw [List.take_of_length_le h, List.take_of_length_le (by omega)]
  · congr 1; omega
theorem take_len {α : Type} (l : List α) (k : Nat) : (l.take k).length ≤ k := by rw [List.length_take]; omega
def lsts (l : List (List Int)) : List (List Int) := (l.take 8).map (·.take 6)
theorem lsts_len (l : List (List Int)) : (lsts l).length ≤ 8 := by unfold lsts; rw [List.length_map]; exact take_len _ _
theorem lists_val (c : c7_Case) : (c7_Case_lists c).val = some (lsts c.L) := by
  have hN : min c.L.length 8 ≤ c.L.length := Nat.min_le_left _ _
  have h8 : min c.L.length 8 ≤ 8 := Nat.min_le_right _ _
  have hmin : min c.L.length 8 = c.L.length ∨ min c.L.length 8 = 8 := by omega
  have key := Comp.loop_seq (body := fun s : List (List Int) × Int => c7_Case_lists_l2 c s.1 s.2) (fun i => ((c.L.take i).map (·.take 6), (i : Int))) (min c.L.length 8) (lsts c.L)
    (by
      intro i hi
      show (c7_Case_lists_l2 c ((c.L.take i).map (·.take 6)) (i : Int)).val = _
      have hi' : i < c.L.length := by omega
      unfold c7_Case_lists_l2
      have hc : (bif (decide ((i : Int) < (c.L.length : Int))) then (decide ((i : Int) < 8)) else false) = true := by
        rw [decide_eq_true (by omega), decide_eq_true (by omega)]; rfl
      have h6 := sub0_val c.L[i] 6
      rw [show ((6 : Nat) : Int) = 6 from rfl] at h6
      simp only [Comp.val_bind, Comp.val_pure, Option.bind_some, hc]
      rw [Comp.val_ite, if_pos trivial]
      simp only [Comp.val_bind, idxn, List.getElem?_eq_getElem hi', Option.bind_some, h6]
      rw [app_val (by rw [List.length_map, List.length_take]; simp only [List.length_cons, List.length_nil]; unfold LIM; omega), Option.bind_some, Comp.val_pure, Comp.wrap_succ (by omega), List.take_succ_eq_append_getElem hi', List.map_append]
      rfl)
    (by
      show (c7_Case_lists_l2 c ((c.L.take (min c.L.length 8)).map (·.take 6)) ((min c.L.length 8 : Nat) : Int)).val = _
      unfold c7_Case_lists_l2
      have hc : (bif (decide (((min c.L.length 8 : Nat) : Int) < (c.L.length : Int))) then (decide (((min c.L.length 8 : Nat) : Int) < 8)) else false) = false := by
        rcases hmin with h | h
        · rw [decide_eq_false (by omega)]; rfl
        · rw [decide_eq_false (p := ((min c.L.length 8 : Nat) : Int) < 8) (by omega)]; cases decide (((min c.L.length 8 : Nat) : Int) < (c.L.length : Int)) <;> rfl
      simp only [Comp.val_bind, Comp.val_pure, Option.bind_some, hc]
      rw [Comp.val_ite, if_neg (by simp), Comp.val_pure]
      have : c.L.take (min c.L.length 8) = c.L.take 8 := by
        rcases hmin with h | h
        · rw [h, List.take_of_length_le (Nat.le_refl _), List.take_of_length_le (by omega)]
        · rw [h]
      rw [this]; rfl)
  have key' : (Comp.loop (fun s : List (List Int) × Int => c7_Case_lists_l2 c s.1 s.2) ([], 0)).val = some (lsts c.L) := key
  unfold c7_Case_lists
  rw [Comp.val_bind, key', Option.bind_some]
  show (c7_Case_lists_j1 _).val = _
  unfold c7_Case_lists_j1
  rw [Comp.val_pure]
end Go.Dgp
end
section
set_option linter.unusedVariables false
set_option linter.unusedSimpArgs false
namespace Go.Dgp
open Go Go.Lift Go.F
open Go.Dig hiding Bytes cat
def wrt (p : aEn) : Int := if p.Kind = 4 then p.N else p.Shop
theorem writer_val (p : aEn) : (r7_writer p).val = some (wrt p) := by
  unfold r7_writer wrt
  rw [Comp.val_ite]
  by_cases h : p.Kind = 4
  · rw [if_pos (by rw [decide_eq_true_iff]; exact h), if_pos h, Comp.val_pure]
  · rw [if_neg (by rw [decide_eq_true_iff]; exact h), if_neg h, Comp.val_pure]
def stepE (m : Nat) (l : List aEn) (n : List Int) : aEn :=
  let d1 := drawN n 0 m
  let d2 := drawN n d1.1 9
  let d3 := drawN n d2.1 20
  match l.getLast? with
  | none => ⟨0, (d1.2 : Int), 1, (d2.2 : Int), 0, [], rootT d3.2, [], []⟩
  | some p =>
    let d4 := drawN n d3.1 4
    if d4.2 ≤ 1 then ⟨0, wrt p, 2, p.Day + (d2.2 / 3 : Nat), ((drawN n d4.1 8).2 : Int), [], rootT d3.2, [], []⟩
    else if d4.2 = 2 then ⟨0, wrt p, 3, p.Day + (d2.2 / 3 : Nat), 0, [], p.After, [], []⟩
    else ⟨0, wrt p, 4, p.Day + (d2.2 / 3 : Nat), ((drawN n d4.1 m).2 : Int), [], p.After, [], []⟩
def keysT (m : Nat) : List Bytes := (List.range m).map keyT
theorem keysT_len (m : Nat) : (keysT m).length = m := by simp [keysT]
theorem keysT_get {m k : Nat} (h : k < m) : (keysT m)[k]? = some (keyT k) := by simp [keysT, h]
theorem keyT_len {k : Nat} (h : k < 256) : (keyT k).length ≤ 7 := by
  have := dec_len h
  unfold keyT; simp; omega
theorem j1_val {m : Nat} {l : List aEn} {e : aEn} {k : Nat} (hm : m ≤ 200) (hk : k < m) (he : e.Shop = (k : Int)) (hl : l.length ≤ 1000) (hw : ∀ x ∈ l, EW x) (hE : EW e) :
    (r7_Step_j1 (keysT m) l e.Seq e.Shop e.Kind e.Day e.N e.Before e.After e.Prev e.Mark).val = some (signE (keyT k) (nextE l e)) := by
  have hkl := keyT_len (k := k) (by omega)
  unfold r7_Step_j1
  rw [Comp.val_bind, he, idxn, keysT_get hk, Option.bind_some, Comp.val_bind, ← he]
  rw [show aEn.mk e.Seq e.Shop e.Kind e.Day e.N e.Before e.After e.Prev e.Mark = e from rfl, rNext_val (by omega) hw, Option.bind_some, Comp.val_bind, rSign_val (by omega) (nextE_wf (by omega) hw hE), Option.bind_some, Comp.val_pure]
theorem rootT_len (n : Nat) : (rootT n).length = 8 := D_length _
theorem step0_val {m : Nat} {n : List Int} (hm : 1 ≤ m ∧ m ≤ 200) (hn : ∀ x ∈ n, I64 x) :
    (r7_Step (keysT m) [] n).val = some (signE (keyT (drawN n 0 m).2) (nextE [] (stepE m [] n))) ∧ EW (stepE m [] n) := by
  have l1 := drawN_lt n 0 m hm.1
  have a1 := drawN_at n 0 m
  have l2 := drawN_lt n (drawN n 0 m).1 9 (by omega)
  have a2 := drawN_at n (drawN n 0 m).1 9
  have l3 := drawN_lt n (drawN n (drawN n 0 m).1 9).1 20 (by omega)
  have a3 := drawN_at n (drawN n (drawN n 0 m).1 9).1 20
  have d1 := draw_val (k := 0) (m := m) hn (by omega) (by omega)
  have d2 := draw_val (k := (drawN n 0 m).1) (m := 9) hn (by omega) (by omega)
  have d3 := draw_val (k := (drawN n (drawN n 0 m).1 9).1) (m := 20) hn (by omega) (by omega)
  have hE : EW (stepE m [] n) := ⟨by unfold I64; show -9223372036854775808 ≤ (0 : Int) ∧ (0 : Int) < 9223372036854775808; omega, by show I64 (((drawN n 0 m).2 : Nat) : Int); unfold I64; omega, by show I64 1; unfold I64; omega, by show I64 (((drawN n (drawN n 0 m).1 9).2 : Nat) : Int); unfold I64; omega, by show I64 0; unfold I64; omega, by show ([] : Bytes).length ≤ _; simp, by show (rootT _).length ≤ _; rw [rootT_len]; decide, by show ([] : Bytes).length ≤ _; simp, by show ([] : Bytes).length ≤ _; simp⟩
  refine ⟨?_, hE⟩
  unfold r7_Step
  rw [keysT_len, Comp.val_bind]
  rw [show ((0 : Nat) : Int) = 0 from rfl] at d1
  rw [d1, Option.bind_some, Comp.val_bind]
  rw [show ((9 : Nat) : Int) = 9 from rfl] at d2
  rw [d2, Option.bind_some, Comp.val_bind]
  rw [show ((20 : Nat) : Int) = 20 from rfl] at d3
  rw [d3, Option.bind_some, Comp.val_bind, root37_val (by omega), Option.bind_some, Comp.val_ite, if_neg (by simp)]
  exact j1_val (e := stepE m [] n) (k := (drawN n 0 m).2) hm.2 l1 rfl (by simp) (by simp) hE
theorem idx_kind : ∀ k : Nat, k < 4 → (idx ([2, 2, 3, 4] : List Int) (k : Int)).val = some (if k ≤ 1 then 2 else if k = 2 then 3 else 4) := by
  intro k hk
  obtain rfl | rfl | rfl | rfl : k = 0 ∨ k = 1 ∨ k = 2 ∨ k = 3 := by omega
  all_goals (rw [idxn]; rfl)
theorem j2_val {m : Nat} {l : List aEn} {n : List Int} {at_ : Nat} {shop kind day N : Int} {after : Bytes} {k : Nat} (hm : 1 ≤ m ∧ m ≤ 200) (hn : ∀ x ∈ n, I64 x) (ha : at_ ≤ 1000) (hk : k < m) (hs : shop = (k : Int)) (hl : l.length ≤ 1000) (hw : ∀ x ∈ l, EW x)
    (hE : EW ⟨0, shop, kind, day, if kind = 4 then ((drawN n at_ m).2 : Int) else N, [], after, [], []⟩) :
    (r7_Step_j2 (keysT m) l n (at_ : Int) 0 shop kind day N [] after [] []).val = some (signE (keyT k) (nextE l ⟨0, shop, kind, day, if kind = 4 then ((drawN n at_ m).2 : Int) else N, [], after, [], []⟩)) := by
  have d := draw_val (k := at_) (m := m) hn (by omega) (by omega)
  unfold r7_Step_j2
  rw [Comp.val_ite]
  by_cases h : kind = 4
  · rw [if_pos h] at hE ⊢
    rw [if_pos (by rw [decide_eq_true_iff]; exact h), keysT_len, Comp.val_bind, d, Option.bind_some]
    exact j1_val (e := ⟨0, shop, kind, day, ((drawN n at_ m).2 : Int), [], after, [], []⟩) hm.2 hk hs hl hw hE
  · rw [if_neg h] at hE ⊢
    rw [if_neg (by rw [decide_eq_true_iff]; exact h)]
    exact j1_val (e := ⟨0, shop, kind, day, N, [], after, [], []⟩) hm.2 hk hs hl hw hE
theorem drawN_at2 (L : List Int) (k m : Nat) (c : Nat) (h : k ≤ c) : (drawN L k m).1 ≤ c + 1 := Nat.le_trans (drawN_at L k m) (by omega)
theorem stepK_val {m : Nat} {l : List aEn} {p : aEn} {n : List Int} {k : Nat} (hm : 1 ≤ m ∧ m ≤ 200) (hn : ∀ x ∈ n, I64 x) (hl : 0 < l.length ∧ l.length ≤ 1000) (hw : ∀ x ∈ l, EW x) (hp : l.getLast? = some p) (hk : k < m) (hs : wrt p = (k : Int)) (hd : 0 ≤ p.Day ∧ p.Day ≤ 1000000) :
    (r7_Step (keysT m) l n).val = some (signE (keyT k) (nextE l (stepE m l n))) ∧ EW (stepE m l n) := by
  obtain ⟨p', hp', hmem, hidx⟩ := last_idx hl.1 (by omega)
  rw [hp] at hp'; cases hp'
  have hpw := hw p hmem
  have a1 := drawN_at n 0 m
  have a2 := drawN_at2 n (drawN n 0 m).1 9 1 a1
  have a3 := drawN_at2 n (drawN n (drawN n 0 m).1 9).1 20 2 a2
  have d1 := draw_val (k := 0) (m := m) hn (by omega) (by omega)
  have l2 := drawN_lt n (drawN n 0 m).1 9 (by omega)
  have d2 := draw_val (k := (drawN n 0 m).1) (m := 9) hn (by omega) (by omega)
  have l3 := drawN_lt n (drawN n (drawN n 0 m).1 9).1 20 (by omega)
  have d3 := draw_val (k := (drawN n (drawN n 0 m).1 9).1) (m := 20) hn (by omega) (by omega)
  rw [show ((0 : Nat) : Int) = 0 from rfl] at d1
  rw [show ((9 : Nat) : Int) = 9 from rfl] at d2
  rw [show ((20 : Nat) : Int) = 20 from rfl] at d3
  have hst : stepE m l n = (if (drawN n (drawN n (drawN n (drawN n 0 m).1 9).1 20).1 4).2 ≤ 1 then ⟨0, wrt p, 2, p.Day + ((drawN n (drawN n 0 m).1 9).2 / 3 : Nat), ((drawN n (drawN n (drawN n (drawN n (drawN n 0 m).1 9).1 20).1 4).1 8).2 : Int), [], rootT (drawN n (drawN n (drawN n 0 m).1 9).1 20).2, [], []⟩
    else if (drawN n (drawN n (drawN n (drawN n 0 m).1 9).1 20).1 4).2 = 2 then ⟨0, wrt p, 3, p.Day + ((drawN n (drawN n 0 m).1 9).2 / 3 : Nat), 0, [], p.After, [], []⟩
    else ⟨0, wrt p, 4, p.Day + ((drawN n (drawN n 0 m).1 9).2 / 3 : Nat), ((drawN n (drawN n (drawN n (drawN n (drawN n 0 m).1 9).1 20).1 4).1 m).2 : Int), [], p.After, [], []⟩) := by
    unfold stepE; rw [hp]
  have l4 := drawN_lt n (drawN n (drawN n (drawN n 0 m).1 9).1 20).1 4 (by omega)
  have d4 := draw_val (k := (drawN n (drawN n (drawN n 0 m).1 9).1 20).1) (m := 4) hn (by omega) (by omega)
  have a4 := drawN_at2 n (drawN n (drawN n (drawN n 0 m).1 9).1 20).1 4 3 a3
  rw [show ((4 : Nat) : Int) = 4 from rfl] at d4
  generalize (drawN n (drawN n (drawN n (drawN n 0 m).1 9).1 20).1 4).1 = q4 at *
  generalize (drawN n (drawN n (drawN n (drawN n 0 m).1 9).1 20).1 4).2 = r4 at *
  generalize (drawN n (drawN n (drawN n 0 m).1 9).1 20).1 = q3 at *
  generalize (drawN n (drawN n (drawN n 0 m).1 9).1 20).2 = r3 at *
  generalize (drawN n (drawN n 0 m).1 9).1 = q2 at *
  generalize (drawN n (drawN n 0 m).1 9).2 = r2 at *
  generalize (drawN n 0 m).1 = q1 at *
  generalize (drawN n 0 m).2 = r1 at *
  have l5 := drawN_lt n q4 8 (by omega)
  have d5 := draw_val (k := q4) (m := 8) hn (by omega) (by omega)
  have a5 := drawN_at2 n q4 8 4 a4
  have l6 := drawN_lt n q4 m (by omega)
  rw [show ((8 : Nat) : Int) = 8 from rfl] at d5
  have hday : IntKind.wrap .i64 (p.Day + IntKind.wrap .i64 (Int.tdiv (r2 : Int) 3)) = p.Day + ((r2 / 3 : Nat) : Int) := by
    rw [show Int.tdiv (r2 : Int) 3 = ((r2 / 3 : Nat) : Int) by rw [Int.tdiv_eq_ediv_of_nonneg (by omega)]; omega, wrapi (n := ((r2 / 3 : Nat) : Int)) (by omega), wrapi (by omega)]
  have iI : ∀ z : Int, 0 ≤ z → z < 10000000 → I64 z := by intro z h1 h2; unfold I64; omega
  have hw2 : ∀ z : Nat, z < 8 → EW ⟨0, wrt p, 2, p.Day + ((r2 / 3 : Nat) : Int), (z : Int), [], rootT r3, [], []⟩ := by
    intro z hz
    exact ⟨iI _ (by simp) (by simp), by show I64 (wrt p); rw [hs]; exact iI _ (by omega) (by omega), iI _ (by simp) (by simp), iI _ (by show 0 ≤ p.Day + _; omega) (by show p.Day + _ < _; omega), iI _ (by show (0 : Int) ≤ (z : Int); omega) (by show (z : Int) < _; omega), by simp, by show (rootT _).length ≤ _; rw [rootT_len]; decide, by simp, by simp⟩
  have hw3 : ∀ (kd : Int) (z : Nat), 0 ≤ kd → kd ≤ 4 → z ≤ 200 → EW ⟨0, wrt p, kd, p.Day + ((r2 / 3 : Nat) : Int), (z : Int), [], p.After, [], []⟩ := by
    intro kd z h1 h2 hz
    exact ⟨iI _ (by simp) (by simp), by show I64 (wrt p); rw [hs]; exact iI _ (by omega) (by omega), iI _ h1 (by show kd < _; omega), iI _ (by show 0 ≤ p.Day + _; omega) (by show p.Day + _ < _; omega), iI _ (by show (0 : Int) ≤ (z : Int); omega) (by show (z : Int) < _; omega), by simp, hpw.after, by simp, by simp⟩
  have hlen : decide ((l.length : Int) > 0) = true := by rw [decide_eq_true_iff]; omega
  have hpos : (r7_Step (keysT m) l n).val = some (signE (keyT k) (nextE l (if r4 ≤ 1 then ⟨0, wrt p, 2, p.Day + ((r2 / 3 : Nat) : Int), ((drawN n q4 8).2 : Int), [], rootT r3, [], []⟩
      else if r4 = 2 then ⟨0, wrt p, 3, p.Day + ((r2 / 3 : Nat) : Int), 0, [], p.After, [], []⟩
      else ⟨0, wrt p, 4, p.Day + ((r2 / 3 : Nat) : Int), ((drawN n q4 m).2 : Int), [], p.After, [], []⟩))) := by
    unfold r7_Step
    rw [keysT_len, Comp.val_bind, d1, Option.bind_some, Comp.val_bind, d2, Option.bind_some, Comp.val_bind, d3, Option.bind_some, Comp.val_bind, root37_val (by omega), Option.bind_some, Comp.val_ite, if_pos hlen, Comp.val_bind, hidx, Option.bind_some, Comp.val_bind, d4, Option.bind_some]
    dsimp only
    rw [Comp.val_bind, idx_kind _ l4, Option.bind_some, Comp.val_bind, writer_val, Option.bind_some, Comp.val_ite]
    by_cases c1 : r4 ≤ 1
    · simp only [if_pos c1]
      rw [if_pos (by simp), Comp.val_bind, d5, Option.bind_some]
      show (r7_Step_j2 (keysT m) l n ((drawN n q4 8).1 : Int) 0 (wrt p) 2 (IntKind.wrap .i64 (p.Day + IntKind.wrap .i64 (Int.tdiv (r2 : Int) 3))) ((drawN n q4 8).2 : Int) [] (rootT r3) [] []).val = _
      rw [hday]
      exact j2_val (kind := 2) (N := ((drawN n q4 8).2 : Int)) hm hn (by omega) hk hs (by omega) hw (hw2 _ l5)
    · simp only [if_neg c1]
      by_cases c2 : r4 = 2
      · simp only [if_pos c2]
        rw [if_neg (by simp)]
        show (r7_Step_j2 (keysT m) l n (q4 : Int) 0 (wrt p) 3 (IntKind.wrap .i64 (p.Day + IntKind.wrap .i64 (Int.tdiv (r2 : Int) 3))) 0 [] p.After [] []).val = _
        rw [hday]
        exact j2_val (kind := 3) (N := 0) hm hn (by omega) hk hs (by omega) hw (hw3 3 0 (by omega) (by omega) (by omega))
      · simp only [if_neg c2]
        rw [if_neg (by simp)]
        show (r7_Step_j2 (keysT m) l n (q4 : Int) 0 (wrt p) 4 (IntKind.wrap .i64 (p.Day + IntKind.wrap .i64 (Int.tdiv (r2 : Int) 3))) 0 [] p.After [] []).val = _
        rw [hday]
        exact j2_val (kind := 4) (N := 0) hm hn (by omega) hk hs (by omega) hw (hw3 4 _ (by omega) (by omega) (by omega))
  rw [hst]
  refine ⟨hpos, ?_⟩
  by_cases c1 : r4 ≤ 1
  · rw [if_pos c1]; exact hw2 _ l5
  · rw [if_neg c1]
    by_cases c2 : r4 = 2
    · rw [if_pos c2]; exact hw3 3 0 (by omega) (by omega) (by omega)
    · rw [if_neg c2]; exact hw3 4 _ (by omega) (by omega) (by omega)
end Go.Dgp
end
