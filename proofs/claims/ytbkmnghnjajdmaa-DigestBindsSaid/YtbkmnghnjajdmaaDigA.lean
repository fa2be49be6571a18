/- The digest package and its reference, walked by program (wip/gen). No statement stands here. -/
import Derived.Test.YtbkmnghnjajdmaaTree
import Derived.Test.YtbkmnghnjajdmaaShelf
namespace Go.Proofs.Ytbkmnghnjajdmaa
open Go Go.RowKit Go.Eng Go.Dig
set_option linter.unusedVariables false
set_option linter.unusedSimpArgs false
theorem mixed : Try.prog.follows .mixedOrders = true := by kernel_rfl
theorem ty3 : Ty Try.prog 3 (.int .i64) (.int .i64 0) 1 8 := ⟨by kernel_rfl, by kernel_rfl⟩
theorem ty5 : Ty Try.prog 5 (.int .u8) (.int .u8 0) 1 1 := ⟨by kernel_rfl, by kernel_rfl⟩
theorem ty9 : Ty Try.prog 9 .string (.string ⟨#[]⟩) 1 16 := ⟨by kernel_rfl, by kernel_rfl⟩
theorem ty29 : Ty Try.prog 29 (.slice 9) (.slice none 0 0) 1 24 := ⟨by kernel_rfl, by kernel_rfl⟩
theorem ty40 : Ty Try.prog 40 (.slice 5) (.slice none 0 0) 1 24 := ⟨by kernel_rfl, by kernel_rfl⟩
theorem ty43 : Ty Try.prog 43 (.array 8 5) (.agg #[.int .u8 0, .int .u8 0, .int .u8 0, .int .u8 0, .int .u8 0, .int .u8 0, .int .u8 0, .int .u8 0]) 8 8 := ⟨by kernel_rfl, by kernel_rfl⟩
theorem ty51 : Ty Try.prog 51 (.int .u64) (.int .u64 0) 1 8 := ⟨by kernel_rfl, by kernel_rfl⟩
theorem eg43 : Try.prog.eqGuardType Try.prog.depth 43 = false := by kernel_rfl
theorem fn12 : FnOk Try.prog 12 := ⟨_, Try.func12, rfl, by kernel_rfl⟩
theorem fn14 : FnOk Try.prog 14 := ⟨_, Try.func14, rfl, by kernel_rfl⟩
theorem fn29 : FnOk Try.prog 29 := ⟨_, Try.func29, rfl, by kernel_rfl⟩
theorem fn30 : FnOk Try.prog 30 := ⟨_, Try.func30, rfl, by kernel_rfl⟩
theorem fn31 : FnOk Try.prog 31 := ⟨_, Try.func31, rfl, by kernel_rfl⟩
theorem fn32 : FnOk Try.prog 32 := ⟨_, Try.func32, rfl, by kernel_rfl⟩
theorem fn33 : FnOk Try.prog 33 := ⟨_, Try.func33, rfl, by kernel_rfl⟩
theorem fn34 : FnOk Try.prog 34 := ⟨_, Try.func34, rfl, by kernel_rfl⟩
theorem fn38 : FnOk Try.prog 38 := ⟨_, Try.func38, rfl, by kernel_rfl⟩
theorem fn40 : FnOk Try.prog 40 := ⟨_, Try.func40, rfl, by kernel_rfl⟩
theorem clone_lib (s : ByteArray) (w : World) (hs : s.size ≤ 281474976710656) : Pure Try.prog 40 #[.string s] w (SP.isv (.string s)).holds := (Try.stringslite_Clone s w hs).mono fun _ _ ⟨h1, h2⟩ => ⟨_, h1, h2, rfl⟩
theorem rMost4 (n : Nat) (w0 : World) : Pure Try.prog 32 #[.int .i64 (n : Int)] w0 (SP.isv (.string (str (be4 n)))).holds := by
  refine pure_of_wp Try.func32 rfl 16 Try.ntmps32 (by simp) fun a0 hA hs0 => ?_
  have r0 : a0.get 0 = .int .i64 (n : Int) := hs0 0 _ rfl
  clear hs0
  have hB : Ext w0 w0 := Ext.refl _
  refine wp_seq ?_
  refine' region [_] mixed hA (.cons ?z1_0 .nil) ?zok1 ?zgd1 ?zk1
  case z1_0 =>
    intro a' w' hE hK hg
    exact ok_assign rfl
  case zok1 => kernel_rfl
  case zgd1 => kernel_rfl
  intro a1 w1 hA' hE HF
  replace r0 := kn (HF 0) rfl r0
  clear hA HF
  have hA := hA'
  clear hA'
  have hLt := hB.size
  replace hB := hB.trans hE
  clear hE hLt
  refine (li_nil (nx_then ?_))
  refine wp_seq ?_
  refine' region [_, _, _, _, _, _, _, _, _, _, _, _, _, _] mixed hA (.cons ?z2_0 (.cons ?z2_1 (.cons ?z2_2 (.cons ?z2_3 (.cons ?z2_4 (.cons ?z2_5 (.cons ?z2_6 (.cons ?z2_7 (.cons ?z2_8 (.cons ?z2_9 (.cons ?z2_10 (.cons ?z2_11 (.cons ?z2_12 (.cons ?z2_13 .nil)))))))))))))) ?zok2 ?zgd2 ?zk2
  case z2_0 =>
    intro a' w' hE hK hg
    have x0 := kn (hK 0 rfl) rfl r0
    exact ok_move x0
  case z2_1 =>
    intro a' w' hE hK hg
    have x0 := ksv (hK 3 rfl) rfl rfl rfl
    exact ok_shr x0 rfl (by omega)
  case z2_2 =>
    intro a' w' hE hK hg
    have x0 := ksv (hK 4 rfl) rfl rfl rfl
    first | exact ok_conv_id ty3 ty5 x0 (by first | rfl | (rw [IntKind.wrap_u8]; omega)) | exact ok_conv_u8 ty3 ty5 x0 | exact ok_convI ty3 ty5 x0
  case z2_3 =>
    intro a' w' hE hK hg
    have x0 := kn (hK 0 rfl) rfl r0
    exact ok_move x0
  case z2_4 =>
    intro a' w' hE hK hg
    have x0 := ksv (hK 6 rfl) rfl rfl rfl
    exact ok_shr x0 rfl (by omega)
  case z2_5 =>
    intro a' w' hE hK hg
    have x0 := ksv (hK 7 rfl) rfl rfl rfl
    first | exact ok_conv_id ty3 ty5 x0 (by first | rfl | (rw [IntKind.wrap_u8]; omega)) | exact ok_conv_u8 ty3 ty5 x0 | exact ok_convI ty3 ty5 x0
  case z2_6 =>
    intro a' w' hE hK hg
    have x0 := kn (hK 0 rfl) rfl r0
    exact ok_move x0
  case z2_7 =>
    intro a' w' hE hK hg
    have x0 := ksv (hK 9 rfl) rfl rfl rfl
    exact ok_shr x0 rfl (by omega)
  case z2_8 =>
    intro a' w' hE hK hg
    have x0 := ksv (hK 10 rfl) rfl rfl rfl
    first | exact ok_conv_id ty3 ty5 x0 (by first | rfl | (rw [IntKind.wrap_u8]; omega)) | exact ok_conv_u8 ty3 ty5 x0 | exact ok_convI ty3 ty5 x0
  case z2_9 =>
    intro a' w' hE hK hg
    have x0 := kn (hK 0 rfl) rfl r0
    exact ok_move x0
  case z2_10 =>
    intro a' w' hE hK hg
    have x0 := ksv (hK 12 rfl) rfl rfl rfl
    first | exact ok_conv_id ty3 ty5 x0 (by first | rfl | (rw [IntKind.wrap_u8]; omega)) | exact ok_conv_u8 ty3 ty5 x0 | exact ok_convI ty3 ty5 x0
  case z2_11 =>
    intro a' w' hE hK hg
    have x0 := ksv (hK 5 rfl) rfl rfl rfl
    have x1 := ksv (hK 8 rfl) rfl rfl rfl
    have x2 := ksv (hK 11 rfl) rfl rfl rfl
    have x3 := ksv (hK 13 rfl) rfl rfl rfl
    exact ok_buildSlice (E := 0) (B := w1.heap.size) ty40 ty5 hE.size (parts_of (parts_cons x0 (parts_cons x1 (parts_cons x2 (parts_cons x3 parts_nil))))) (by first | (simp [Value.cells]; done) | (simp [Value.cells, bv, Dig.D_length]; done)) rfl (by omega)
  case z2_12 =>
    intro a' w' hE hK hg
    have x0 := ksp (hK 14 rfl) rfl rfl rfl
    exact ok_bytesToStr ty40 ty5 ty9 rfl (slv_cast (be4_bv n) x0.slv)
  case z2_13 =>
    intro a' w' hE hK hg
    have x0 := ksv (hK 15 rfl) rfl rfl rfl
    exact ok_assign x0
  case zok2 => kernel_rfl
  case zgd2 => kernel_rfl
  intro a2 w2 hA' hE HF
  have r2 := ksv (HF 2) rfl rfl rfl
  clear hA HF
  have hA := hA'
  clear hA'
  have hLt := hB.size
  replace hB := hB.trans hE
  clear hE hLt
  refine (li_nil (nx_then ?_))
  refine (wp_ret ?_)
  refine retPure Try.results32 hA r2 hB ?_
  show _ = _; rfl

theorem rLeast4 (n : Nat) (w0 : World) : Pure Try.prog 29 #[.int .i64 (n : Int)] w0 (SP.isv (.string (str (le4 n)))).holds := by
  refine pure_of_wp Try.func29 rfl 16 Try.ntmps29 (by simp) fun a0 hA hs0 => ?_
  have r0 : a0.get 0 = .int .i64 (n : Int) := hs0 0 _ rfl
  clear hs0
  have hB : Ext w0 w0 := Ext.refl _
  refine wp_seq ?_
  refine' region [_] mixed hA (.cons ?z1_0 .nil) ?zok1 ?zgd1 ?zk1
  case z1_0 =>
    intro a' w' hE hK hg
    exact ok_assign rfl
  case zok1 => kernel_rfl
  case zgd1 => kernel_rfl
  intro a1 w1 hA' hE HF
  replace r0 := kn (HF 0) rfl r0
  clear hA HF
  have hA := hA'
  clear hA'
  have hLt := hB.size
  replace hB := hB.trans hE
  clear hE hLt
  refine (li_nil (nx_then ?_))
  refine wp_seq ?_
  refine' region [_, _, _, _, _, _, _, _, _, _, _, _, _, _] mixed hA (.cons ?z2_0 (.cons ?z2_1 (.cons ?z2_2 (.cons ?z2_3 (.cons ?z2_4 (.cons ?z2_5 (.cons ?z2_6 (.cons ?z2_7 (.cons ?z2_8 (.cons ?z2_9 (.cons ?z2_10 (.cons ?z2_11 (.cons ?z2_12 (.cons ?z2_13 .nil)))))))))))))) ?zok2 ?zgd2 ?zk2
  case z2_0 =>
    intro a' w' hE hK hg
    have x0 := kn (hK 0 rfl) rfl r0
    exact ok_move x0
  case z2_1 =>
    intro a' w' hE hK hg
    have x0 := ksv (hK 3 rfl) rfl rfl rfl
    first | exact ok_conv_id ty3 ty5 x0 (by first | rfl | (rw [IntKind.wrap_u8]; omega)) | exact ok_conv_u8 ty3 ty5 x0 | exact ok_convI ty3 ty5 x0
  case z2_2 =>
    intro a' w' hE hK hg
    have x0 := kn (hK 0 rfl) rfl r0
    exact ok_move x0
  case z2_3 =>
    intro a' w' hE hK hg
    have x0 := ksv (hK 5 rfl) rfl rfl rfl
    exact ok_shr x0 rfl (by omega)
  case z2_4 =>
    intro a' w' hE hK hg
    have x0 := ksv (hK 6 rfl) rfl rfl rfl
    first | exact ok_conv_id ty3 ty5 x0 (by first | rfl | (rw [IntKind.wrap_u8]; omega)) | exact ok_conv_u8 ty3 ty5 x0 | exact ok_convI ty3 ty5 x0
  case z2_5 =>
    intro a' w' hE hK hg
    have x0 := kn (hK 0 rfl) rfl r0
    exact ok_move x0
  case z2_6 =>
    intro a' w' hE hK hg
    have x0 := ksv (hK 8 rfl) rfl rfl rfl
    exact ok_shr x0 rfl (by omega)
  case z2_7 =>
    intro a' w' hE hK hg
    have x0 := ksv (hK 9 rfl) rfl rfl rfl
    first | exact ok_conv_id ty3 ty5 x0 (by first | rfl | (rw [IntKind.wrap_u8]; omega)) | exact ok_conv_u8 ty3 ty5 x0 | exact ok_convI ty3 ty5 x0
  case z2_8 =>
    intro a' w' hE hK hg
    have x0 := kn (hK 0 rfl) rfl r0
    exact ok_move x0
  case z2_9 =>
    intro a' w' hE hK hg
    have x0 := ksv (hK 11 rfl) rfl rfl rfl
    exact ok_shr x0 rfl (by omega)
  case z2_10 =>
    intro a' w' hE hK hg
    have x0 := ksv (hK 12 rfl) rfl rfl rfl
    first | exact ok_conv_id ty3 ty5 x0 (by first | rfl | (rw [IntKind.wrap_u8]; omega)) | exact ok_conv_u8 ty3 ty5 x0 | exact ok_convI ty3 ty5 x0
  case z2_11 =>
    intro a' w' hE hK hg
    have x0 := ksv (hK 4 rfl) rfl rfl rfl
    have x1 := ksv (hK 7 rfl) rfl rfl rfl
    have x2 := ksv (hK 10 rfl) rfl rfl rfl
    have x3 := ksv (hK 13 rfl) rfl rfl rfl
    exact ok_buildSlice (E := 0) (B := w1.heap.size) ty40 ty5 hE.size (parts_of (parts_cons x0 (parts_cons x1 (parts_cons x2 (parts_cons x3 parts_nil))))) (by first | (simp [Value.cells]; done) | (simp [Value.cells, bv, Dig.D_length]; done)) rfl (by omega)
  case z2_12 =>
    intro a' w' hE hK hg
    have x0 := ksp (hK 14 rfl) rfl rfl rfl
    exact ok_bytesToStr ty40 ty5 ty9 rfl (slv_cast (le4_bv n) x0.slv)
  case z2_13 =>
    intro a' w' hE hK hg
    have x0 := ksv (hK 15 rfl) rfl rfl rfl
    exact ok_assign x0
  case zok2 => kernel_rfl
  case zgd2 => kernel_rfl
  intro a2 w2 hA' hE HF
  have r2 := ksv (HF 2) rfl rfl rfl
  clear hA HF
  have hA := hA'
  clear hA'
  have hLt := hB.size
  replace hB := hB.trans hE
  clear hE hLt
  refine (li_nil (nx_then ?_))
  refine (wp_ret ?_)
  refine retPure Try.results29 hA r2 hB ?_
  show _ = _; rfl

theorem rOf (s : ByteArray) (w0 : World) (hs : s.size ≤ 8796093022208) : Pure Try.prog 14 #[.string s] w0 (SP.isv (.string (str (D (bs s))))).holds := by
  refine pure_of_wp Try.func14 rfl 35 Try.ntmps14 (by simp) fun a0 hA hs0 => ?_
  have r0 : a0.get 0 = .string s := hs0 0 _ rfl
  clear hs0
  have hB : Ext w0 w0 := Ext.refl _
  refine wp_seq ?_
  refine' region [_] mixed hA (.cons ?z1_0 .nil) ?zok1 ?zgd1 ?zk1
  case z1_0 =>
    intro a' w' hE hK hg
    exact ok_assign rfl
  case zok1 => kernel_rfl
  case zgd1 => kernel_rfl
  intro a1 w1 hA' hE HF
  replace r0 := kn (HF 0) rfl r0
  clear hA HF
  have hA := hA'
  clear hA'
  have hLt := hB.size
  replace hB := hB.trans hE
  clear hE hLt
  refine (li_nil (nx_then ?_))
  refine wp_seq ?_
  refine' region [_] mixed hA (.cons ?z2_0 .nil) ?zok2 ?zgd2 ?zk2
  case z2_0 =>
    intro a' w' hE hK hg
    exact ok_assign rfl
  case zok2 => kernel_rfl
  case zgd2 => kernel_rfl
  intro a2 w2 hA' hE HF
  replace r0 := kn (HF 0) rfl r0
  have r3 := ksv (HF 3) rfl rfl rfl
  clear hA HF
  have hA := hA'
  clear hA'
  have hLt := hB.size
  replace hB := hB.trans hE
  clear hE hLt
  refine (li_nil (nx_then ?_))
  refine wp_seq ?_
  refine' region [_] mixed hA (.cons ?z3_0 .nil) ?zok3 ?zgd3 ?zk3
  case z3_0 =>
    intro a' w' hE hK hg
    exact ok_assign rfl
  case zok3 => kernel_rfl
  case zgd3 => kernel_rfl
  intro a3 w3 hA' hE HF
  replace r0 := kn (HF 0) rfl r0
  replace r3 := kn (HF 3) rfl r3
  have r4 := ksv (HF 4) rfl rfl rfl
  clear hA HF
  have hA := hA'
  clear hA'
  have hLt := hB.size
  replace hB := hB.trans hE
  clear hE hLt
  refine (li_nil (nx_then ?_))
  refine wp_seq ?_
  refine wp_seq ?_
  refine' region [_] mixed hA (.cons ?z4_0 .nil) ?zok4 ?zgd4 ?zk4
  case z4_0 =>
    intro a' w' hE hK hg
    exact ok_assign rfl
  case zok4 => kernel_rfl
  case zgd4 => kernel_rfl
  intro a4 w4 hA' hE HF
  replace r0 := kn (HF 0) rfl r0
  replace r3 := kn (HF 3) rfl r3
  replace r4 := kn (HF 4) rfl r4
  have r5 := ksv (HF 5) rfl rfl rfl
  clear hA HF
  have hA := hA'
  clear hA'
  have hLt := hB.size
  replace hB := hB.trans hE
  clear hE hLt
  refine (li_nil (nx_then ?_))
  refine wp_block ?_
  have q5_0 := r0
  have hL5 : Ext w4 w4 := Ext.refl _
  refine loop_m (fun m a w => ∃ k : Nat, m = s.size - k ∧ a.fit 35 ∧ Ext w0 w ∧ Ext w4 w ∧ a.get 0 = a4.get 0 ∧ a.get 3 = .int .i64 (dx ((bs s).take k) : Int) ∧ a.get 4 = .int .i64 (dy ((bs s).take k) : Int) ∧ a.get 5 = .int .i64 (k : Int) ∧ (k ≤ s.size)) (m := s.size - (0)) (?st6) ?_
  case st6 =>
    refine ⟨(0), rfl, hA, hB, hL5, r0.trans q5_0.symm, r3.trans ?v6_3, r4.trans ?v6_4, r5.trans ?v6_5, ?p6_0⟩
    case v6_3 => first | rfl | (congr 1; omega)
    case v6_4 => first | rfl | (congr 1; omega)
    case v6_5 => first | rfl | (congr 1; omega)
    case p6_0 => first | omega | assumption
  intro m_ a5 w5 hI
  obtain ⟨k, rfl, hA, hB, hL5, z0, r3, r4, r5, hp5_0⟩ := hI
  have r0 := z0.trans q5_0
  clear z0
  have hu := u8_lt (byteAt s k); have h1 := dx_lt ((bs s).take k); have h2 := dy_lt ((bs s).take k)
  refine wp_seq ?_
  refine wp_seq ?_
  refine' region [_, _, _, _] mixed hA (.cons ?z7_0 (.cons ?z7_1 (.cons ?z7_2 (.cons ?z7_3 .nil)))) ?zok7 ?zgd7 ?zk7
  case z7_0 =>
    intro a' w' hE hK hg
    have x0 := kn (hK 5 rfl) rfl r5
    exact ok_move x0
  case z7_1 =>
    intro a' w' hE hK hg
    have x0 := kn (hK 0 rfl) rfl r0
    exact ok_move x0
  case z7_2 =>
    intro a' w' hE hK hg
    have x0 := ksv (hK 7 rfl) rfl rfl rfl
    exact ok_lenS ty9 x0
  case z7_3 =>
    intro a' w' hE hK hg
    have x0 := ksv (hK 6 rfl) rfl rfl rfl
    have x1 := ksv (hK 8 rfl) rfl rfl rfl
    exact ok_lss x0 x1
  case zok7 => kernel_rfl
  case zgd7 => kernel_rfl
  intro a6 w6 hA' hE HF
  replace r0 := kn (HF 0) rfl r0
  replace r3 := kn (HF 3) rfl r3
  replace r4 := kn (HF 4) rfl r4
  replace r5 := kn (HF 5) rfl r5
  have r9 := ksv (HF 9) rfl rfl rfl
  clear hA HF
  have hA := hA'
  clear hA'
  have hLt := hB.size
  replace hB := hB.trans hE
  replace hL5 := hL5.trans hE
  clear hE hLt
  refine (li_nil (nx_then ?_))
  refine wp_cond_b r9 (fun hc => ?_) (fun hc => ?_)
  ·
    try simp only [Bool.and_eq_true, Bool.or_eq_true, Bool.and_eq_false_iff, Bool.or_eq_false_iff, Bool.not_eq_true', Bool.not_eq_false', decide_eq_true_eq, decide_eq_false_iff_not, ne_eq, Decidable.not_not, gt_iff_lt, ge_iff_le, Int.not_lt, Int.not_le, Nat.not_lt, Nat.not_le, Int.ofNat_lt, Int.ofNat_le] at hc
    refine wp_skip ?_
    refine (nx_then ?_)
    refine wp_seq ?_
    refine wp_block ?_
    refine wp_seq ?_
    refine' region [_, _, _, _, _, _, _, _, _, _] mixed hA (.cons ?z9_0 (.cons ?z9_1 (.cons ?z9_2 (.cons ?z9_3 (.cons ?z9_4 (.cons ?z9_5 (.cons ?z9_6 (.cons ?z9_7 (.cons ?z9_8 (.cons ?z9_9 .nil)))))))))) ?zok9 ?zgd9 ?zk9
    case z9_0 =>
      intro a' w' hE hK hg
      have x0 := kn (hK 3 rfl) rfl r3
      exact ok_move x0
    case z9_1 =>
      intro a' w' hE hK hg
      have x1 := ksv (hK 12 rfl) rfl rfl rfl
      first | exact ok_mul_i rfl x1 (by first | omega | (constructor <;> omega)) | exact ok_mul rfl x1
    case z9_2 =>
      intro a' w' hE hK hg
      have x0 := kn (hK 0 rfl) rfl r0
      exact ok_move x0
    case z9_3 =>
      intro a' w' hE hK hg
      have x0 := kn (hK 5 rfl) rfl r5
      exact ok_move x0
    case z9_4 =>
      intro a' w' hE hK hg
      have x0 := ksv (hK 14 rfl) rfl rfl rfl
      have x1 := ksv (hK 15 rfl) rfl rfl rfl
      first | exact ok_indexS_n ty9 x0 x1 (by first | omega | (simp; done) | (simp; omega)) | exact ok_indexS ty9 x0 x1 (by first | omega | (simp; done) | (simp; omega)) (by first | omega | (simp; done) | (simp; omega))
    case z9_5 =>
      intro a' w' hE hK hg
      have x0 := ksv (hK 16 rfl) rfl rfl rfl
      first | exact ok_conv_b ty5 ty3 x0 (by simp) | exact ok_conv_id ty5 ty3 x0 (by first | rfl | (rw [IntKind.wrap_i64]; omega)) | exact ok_convI ty5 ty3 x0
    case z9_6 =>
      intro a' w' hE hK hg
      have x0 := ksv (hK 13 rfl) rfl rfl rfl
      have x1 := ksv (hK 17 rfl) rfl rfl rfl
      first | exact ok_add_i x0 x1 (by first | omega | (constructor <;> omega)) | exact ok_add x0 x1
    case z9_7 =>
      intro a' w' hE hK hg
      have x0 := ksv (hK 18 rfl) rfl rfl rfl
      first | exact ok_add_i x0 rfl (by first | omega | (constructor <;> omega)) | exact ok_add x0 rfl
    case z9_8 =>
      intro a' w' hE hK hg
      have x0 := ksv (hK 19 rfl) rfl rfl rfl
      first | exact ok_rem_n x0 rfl (by omega) (by omega) | exact ok_rem x0 rfl (by omega)
    case z9_9 =>
      intro a' w' hE hK hg
      have x0 := ksv (hK 20 rfl) rfl rfl rfl
      exact ok_assign x0
    case zok9 => kernel_rfl
    case zgd9 => kernel_rfl
    intro a7 w7 hA' hE HF
    replace r0 := kn (HF 0) rfl r0
    replace r3 := ksv (HF 3) rfl rfl rfl
    replace r4 := kn (HF 4) rfl r4
    replace r5 := kn (HF 5) rfl r5
    clear hA HF
    have hA := hA'
    clear hA'
    have hLt := hB.size
    replace hB := hB.trans hE
    replace hL5 := hL5.trans hE
    clear hE hLt
    refine (li_nil (nx_then ?_))
    refine' region [_, _, _, _, _, _, _, _, _, _] mixed hA (.cons ?z10_0 (.cons ?z10_1 (.cons ?z10_2 (.cons ?z10_3 (.cons ?z10_4 (.cons ?z10_5 (.cons ?z10_6 (.cons ?z10_7 (.cons ?z10_8 (.cons ?z10_9 .nil)))))))))) ?zok10 ?zgd10 ?zk10
    case z10_0 =>
      intro a' w' hE hK hg
      have x0 := kn (hK 4 rfl) rfl r4
      exact ok_move x0
    case z10_1 =>
      intro a' w' hE hK hg
      have x1 := ksv (hK 21 rfl) rfl rfl rfl
      first | exact ok_mul_i rfl x1 (by first | omega | (constructor <;> omega)) | exact ok_mul rfl x1
    case z10_2 =>
      intro a' w' hE hK hg
      have x0 := kn (hK 0 rfl) rfl r0
      exact ok_move x0
    case z10_3 =>
      intro a' w' hE hK hg
      have x0 := kn (hK 5 rfl) rfl r5
      exact ok_move x0
    case z10_4 =>
      intro a' w' hE hK hg
      have x0 := ksv (hK 23 rfl) rfl rfl rfl
      have x1 := ksv (hK 24 rfl) rfl rfl rfl
      first | exact ok_indexS_n ty9 x0 x1 (by first | omega | (simp; done) | (simp; omega)) | exact ok_indexS ty9 x0 x1 (by first | omega | (simp; done) | (simp; omega)) (by first | omega | (simp; done) | (simp; omega))
    case z10_5 =>
      intro a' w' hE hK hg
      have x0 := ksv (hK 25 rfl) rfl rfl rfl
      first | exact ok_conv_b ty5 ty3 x0 (by simp) | exact ok_conv_id ty5 ty3 x0 (by first | rfl | (rw [IntKind.wrap_i64]; omega)) | exact ok_convI ty5 ty3 x0
    case z10_6 =>
      intro a' w' hE hK hg
      have x0 := ksv (hK 22 rfl) rfl rfl rfl
      have x1 := ksv (hK 26 rfl) rfl rfl rfl
      first | exact ok_add_i x0 x1 (by first | omega | (constructor <;> omega)) | exact ok_add x0 x1
    case z10_7 =>
      intro a' w' hE hK hg
      have x0 := ksv (hK 27 rfl) rfl rfl rfl
      first | exact ok_add_i x0 rfl (by first | omega | (constructor <;> omega)) | exact ok_add x0 rfl
    case z10_8 =>
      intro a' w' hE hK hg
      have x0 := ksv (hK 28 rfl) rfl rfl rfl
      first | exact ok_rem_n x0 rfl (by omega) (by omega) | exact ok_rem x0 rfl (by omega)
    case z10_9 =>
      intro a' w' hE hK hg
      have x0 := ksv (hK 29 rfl) rfl rfl rfl
      exact ok_assign x0
    case zok10 => kernel_rfl
    case zgd10 => kernel_rfl
    intro a8 w8 hA' hE HF
    replace r0 := kn (HF 0) rfl r0
    replace r3 := kn (HF 3) rfl r3
    replace r4 := ksv (HF 4) rfl rfl rfl
    replace r5 := kn (HF 5) rfl r5
    clear hA HF
    have hA := hA'
    clear hA'
    have hLt := hB.size
    replace hB := hB.trans hE
    replace hL5 := hL5.trans hE
    clear hE hLt
    refine (li_nil (nx_blk (nx_then ?_)))
    refine' region [_, _, _] mixed hA (.cons ?z11_0 (.cons ?z11_1 (.cons ?z11_2 .nil))) ?zok11 ?zgd11 ?zk11
    case z11_0 =>
      intro a' w' hE hK hg
      have x0 := kn (hK 5 rfl) rfl r5
      exact ok_move x0
    case z11_1 =>
      intro a' w' hE hK hg
      have x0 := ksv (hK 10 rfl) rfl rfl rfl
      first | exact ok_add_i x0 rfl (by first | omega | (constructor <;> omega)) | exact ok_add x0 rfl
    case z11_2 =>
      intro a' w' hE hK hg
      have x0 := ksv (hK 11 rfl) rfl rfl rfl
      exact ok_assign x0
    case zok11 => kernel_rfl
    case zgd11 => kernel_rfl
    intro a9 w9 hA' hE HF
    replace r0 := kn (HF 0) rfl r0
    replace r3 := kn (HF 3) rfl r3
    replace r4 := kn (HF 4) rfl r4
    replace r5 := ksv (HF 5) rfl rfl rfl
    clear hA HF
    have hA := hA'
    clear hA'
    have hLt := hB.size
    replace hB := hB.trans hE
    replace hL5 := hL5.trans hE
    clear hE hLt
    refine (li_nil (nx_then ?_))
    refine ⟨_, ?lt12, (k + 1), rfl, hA, hB, hL5, r0.trans q5_0.symm, r3.trans ?v12_3, r4.trans ?v12_4, r5.trans ?v12_5, ?p12_0⟩
    case v12_3 => (rw [take_snoc s k (by omega), ← dxi])
    case v12_4 => (rw [take_snoc s k (by omega), ← dyi])
    case v12_5 => first | rfl | (congr 1; omega)
    case p12_0 => first | omega | assumption
    case lt12 => omega
  ·
    try simp only [Bool.and_eq_true, Bool.or_eq_true, Bool.and_eq_false_iff, Bool.or_eq_false_iff, Bool.not_eq_true', Bool.not_eq_false', decide_eq_true_eq, decide_eq_false_iff_not, ne_eq, Decidable.not_not, gt_iff_lt, ge_iff_le, Int.not_lt, Int.not_le, Nat.not_lt, Nat.not_le, Int.ofNat_lt, Int.ofNat_le] at hc
    refine wp_exit ?_
    refine (ex_then (ex_then (ex_same ?_)))
    refine (nx_then ?_)
    refine wp_seq ?_
    refine' region [_, _, _, _, _, _] mixed hA (.cons ?z13_0 (.cons ?z13_1 (.cons ?z13_2 (.cons ?z13_3 (.cons ?z13_4 (.cons ?z13_5 .nil)))))) ?zok13 ?zgd13 ?zk13
    case z13_0 =>
      intro a' w' hE hK hg
      have x0 := kn (hK 3 rfl) rfl r3
      exact ok_move x0
    case z13_1 =>
      intro a' w' hE hK hg
      have x0 := ksv (hK 30 rfl) rfl rfl rfl
      exact ok_call1 fn32 x0 (rMost4 _ _)
    case z13_2 =>
      intro a' w' hE hK hg
      have x0 := kn (hK 4 rfl) rfl r4
      exact ok_move x0
    case z13_3 =>
      intro a' w' hE hK hg
      have x0 := ksv (hK 32 rfl) rfl rfl rfl
      exact ok_call1 fn32 x0 (rMost4 _ _)
    case z13_4 =>
      intro a' w' hE hK hg
      have x0 := ksv (hK 31 rfl) rfl rfl rfl
      have x1 := ksv (hK 33 rfl) rfl rfl rfl
      exact ok_addS x0 x1 (by simp [str_size, be4])
    case z13_5 =>
      intro a' w' hE hK hg
      have x0 := ksv (hK 34 rfl) rfl rfl rfl
      exact ok_assign x0
    case zok13 => kernel_rfl
    case zgd13 => kernel_rfl
    intro a10 w10 hA' hE HF
    have r2 := ksv (HF 2) rfl rfl rfl
    clear hA HF
    have hA := hA'
    clear hA'
    have hLt := hB.size
    replace hB := hB.trans hE
    clear hE hLt
    refine (li_nil (nx_then ?_))
    refine (wp_ret ?_)
    refine retPure Try.results14 hA r2 hB ?_
    (show _ = _; obtain rfl : k = s.size := (by omega); rw [← bs_length, List.take_length, str_append]; rfl)

theorem rChain (s t : ByteArray) (w0 : World) (hs : s.size ≤ 1099511627776) (ht : t.size ≤ 1099511627776) : Pure Try.prog 16 #[.string s, .string t] w0 (SP.isv (.string (str (D (chainL (bs s) (bs t)))))).holds := by
  refine pure_of_wp Try.func16 rfl 14 Try.ntmps16 (by simp) fun a0 hA hs0 => ?_
  have r0 : a0.get 0 = .string s := hs0 0 _ rfl
  have r1 : a0.get 1 = .string t := hs0 1 _ rfl
  clear hs0
  have hB : Ext w0 w0 := Ext.refl _
  refine wp_seq ?_
  refine' region [_] mixed hA (.cons ?z1_0 .nil) ?zok1 ?zgd1 ?zk1
  case z1_0 =>
    intro a' w' hE hK hg
    exact ok_assign rfl
  case zok1 => kernel_rfl
  case zgd1 => kernel_rfl
  intro a1 w1 hA' hE HF
  replace r0 := kn (HF 0) rfl r0
  replace r1 := kn (HF 1) rfl r1
  clear hA HF
  have hA := hA'
  clear hA'
  have hLt := hB.size
  replace hB := hB.trans hE
  clear hE hLt
  refine (li_nil (nx_then ?_))
  refine wp_seq ?_
  refine' region [_, _, _, _, _, _, _, _, _, _] mixed hA (.cons ?z2_0 (.cons ?z2_1 (.cons ?z2_2 (.cons ?z2_3 (.cons ?z2_4 (.cons ?z2_5 (.cons ?z2_6 (.cons ?z2_7 (.cons ?z2_8 (.cons ?z2_9 .nil)))))))))) ?zok2 ?zgd2 ?zk2
  case z2_0 =>
    intro a' w' hE hK hg
    have x0 := kn (hK 0 rfl) rfl r0
    exact ok_move x0
  case z2_1 =>
    intro a' w' hE hK hg
    have x0 := ksv (hK 5 rfl) rfl rfl rfl
    exact ok_lenS ty9 x0
  case z2_2 =>
    intro a' w' hE hK hg
    have x0 := ksv (hK 6 rfl) rfl rfl rfl
    exact ok_call1 fn29 x0 (rLeast4 _ _)
  case z2_3 =>
    intro a' w' hE hK hg
    have x1 := ksv (hK 7 rfl) rfl rfl rfl
    exact ok_addS rfl x1 (by simp only [str_size, ByteArray.size_append, size1, size0, le4, D_length, List.length_cons, List.length_nil] at *; omega)
  case z2_4 =>
    intro a' w' hE hK hg
    have x0 := kn (hK 0 rfl) rfl r0
    exact ok_move x0
  case z2_5 =>
    intro a' w' hE hK hg
    have x0 := ksv (hK 8 rfl) rfl rfl rfl
    have x1 := ksv (hK 9 rfl) rfl rfl rfl
    exact ok_addS x0 x1 (by simp only [str_size, ByteArray.size_append, size1, size0, le4, D_length, List.length_cons, List.length_nil] at *; omega)
  case z2_6 =>
    intro a' w' hE hK hg
    have x0 := kn (hK 1 rfl) rfl r1
    exact ok_move x0
  case z2_7 =>
    intro a' w' hE hK hg
    have x0 := ksv (hK 10 rfl) rfl rfl rfl
    have x1 := ksv (hK 11 rfl) rfl rfl rfl
    exact ok_addS x0 x1 (by simp only [str_size, ByteArray.size_append, size1, size0, le4, D_length, List.length_cons, List.length_nil] at *; omega)
  case z2_8 =>
    intro a' w' hE hK hg
    have x0 := ksv (hK 12 rfl) rfl rfl rfl
    exact ok_call1 fn14 x0 (rOf _ _ (by simp only [str_size, ByteArray.size_append, size1, size0, le4, D_length, List.length_cons, List.length_nil] at *; omega))
  case z2_9 =>
    intro a' w' hE hK hg
    have x0 := ksv (hK 13 rfl) rfl rfl rfl
    exact ok_assign x0
  case zok2 => kernel_rfl
  case zgd2 => kernel_rfl
  intro a2 w2 hA' hE HF
  have r4 := ksv (HF 4) rfl rfl rfl
  clear hA HF
  have hA := hA'
  clear hA'
  have hLt := hB.size
  replace hB := hB.trans hE
  clear hE hLt
  refine (li_nil (nx_then ?_))
  refine (wp_ret ?_)
  refine retPure Try.results16 hA r4 hB ?_
  (show _ = _; simp only [chainL, lenL_bs, bs_append, bs_str, bs1, List.append_assoc])

theorem rMark (s t : ByteArray) (w0 : World) (hs : s.size ≤ 1099511627776) (ht : t.size ≤ 1099511627776) : Pure Try.prog 12 #[.string s, .string t] w0 (SP.isv (.string (str (D (markL (bs s) (bs t)))))).holds := by
  refine pure_of_wp Try.func12 rfl 20 Try.ntmps12 (by simp) fun a0 hA hs0 => ?_
  have r0 : a0.get 0 = .string s := hs0 0 _ rfl
  have r1 : a0.get 1 = .string t := hs0 1 _ rfl
  clear hs0
  have hB : Ext w0 w0 := Ext.refl _
  refine wp_seq ?_
  refine' region [_] mixed hA (.cons ?z1_0 .nil) ?zok1 ?zgd1 ?zk1
  case z1_0 =>
    intro a' w' hE hK hg
    exact ok_assign rfl
  case zok1 => kernel_rfl
  case zgd1 => kernel_rfl
  intro a1 w1 hA' hE HF
  replace r0 := kn (HF 0) rfl r0
  replace r1 := kn (HF 1) rfl r1
  clear hA HF
  have hA := hA'
  clear hA'
  have hLt := hB.size
  replace hB := hB.trans hE
  clear hE hLt
  refine (li_nil (nx_then ?_))
  refine wp_seq ?_
  refine' region [_, _, _, _, _, _, _, _, _, _, _, _, _, _, _, _] mixed hA (.cons ?z2_0 (.cons ?z2_1 (.cons ?z2_2 (.cons ?z2_3 (.cons ?z2_4 (.cons ?z2_5 (.cons ?z2_6 (.cons ?z2_7 (.cons ?z2_8 (.cons ?z2_9 (.cons ?z2_10 (.cons ?z2_11 (.cons ?z2_12 (.cons ?z2_13 (.cons ?z2_14 (.cons ?z2_15 .nil)))))))))))))))) ?zok2 ?zgd2 ?zk2
  case z2_0 =>
    intro a' w' hE hK hg
    have x0 := kn (hK 0 rfl) rfl r0
    exact ok_move x0
  case z2_1 =>
    intro a' w' hE hK hg
    have x0 := ksv (hK 5 rfl) rfl rfl rfl
    exact ok_lenS ty9 x0
  case z2_2 =>
    intro a' w' hE hK hg
    have x0 := ksv (hK 6 rfl) rfl rfl rfl
    exact ok_call1 fn29 x0 (rLeast4 _ _)
  case z2_3 =>
    intro a' w' hE hK hg
    have x1 := ksv (hK 7 rfl) rfl rfl rfl
    exact ok_addS rfl x1 (by simp only [str_size, ByteArray.size_append, size1, size0, le4, D_length, List.length_cons, List.length_nil] at *; omega)
  case z2_4 =>
    intro a' w' hE hK hg
    have x0 := kn (hK 0 rfl) rfl r0
    exact ok_move x0
  case z2_5 =>
    intro a' w' hE hK hg
    have x0 := ksv (hK 8 rfl) rfl rfl rfl
    have x1 := ksv (hK 9 rfl) rfl rfl rfl
    exact ok_addS x0 x1 (by simp only [str_size, ByteArray.size_append, size1, size0, le4, D_length, List.length_cons, List.length_nil] at *; omega)
  case z2_6 =>
    intro a' w' hE hK hg
    have x0 := kn (hK 1 rfl) rfl r1
    exact ok_move x0
  case z2_7 =>
    intro a' w' hE hK hg
    have x0 := ksv (hK 11 rfl) rfl rfl rfl
    exact ok_lenS ty9 x0
  case z2_8 =>
    intro a' w' hE hK hg
    have x0 := ksv (hK 12 rfl) rfl rfl rfl
    exact ok_call1 fn29 x0 (rLeast4 _ _)
  case z2_9 =>
    intro a' w' hE hK hg
    have x0 := ksv (hK 10 rfl) rfl rfl rfl
    have x1 := ksv (hK 13 rfl) rfl rfl rfl
    exact ok_addS x0 x1 (by simp only [str_size, ByteArray.size_append, size1, size0, le4, D_length, List.length_cons, List.length_nil] at *; omega)
  case z2_10 =>
    intro a' w' hE hK hg
    have x0 := kn (hK 1 rfl) rfl r1
    exact ok_move x0
  case z2_11 =>
    intro a' w' hE hK hg
    have x0 := ksv (hK 14 rfl) rfl rfl rfl
    have x1 := ksv (hK 15 rfl) rfl rfl rfl
    exact ok_addS x0 x1 (by simp only [str_size, ByteArray.size_append, size1, size0, le4, D_length, List.length_cons, List.length_nil] at *; omega)
  case z2_12 =>
    intro a' w' hE hK hg
    have x0 := kn (hK 0 rfl) rfl r0
    exact ok_move x0
  case z2_13 =>
    intro a' w' hE hK hg
    have x0 := ksv (hK 16 rfl) rfl rfl rfl
    have x1 := ksv (hK 17 rfl) rfl rfl rfl
    exact ok_addS x0 x1 (by simp only [str_size, ByteArray.size_append, size1, size0, le4, D_length, List.length_cons, List.length_nil] at *; omega)
  case z2_14 =>
    intro a' w' hE hK hg
    have x0 := ksv (hK 18 rfl) rfl rfl rfl
    exact ok_call1 fn14 x0 (rOf _ _ (by simp only [str_size, ByteArray.size_append, size1, size0, le4, D_length, List.length_cons, List.length_nil] at *; omega))
  case z2_15 =>
    intro a' w' hE hK hg
    have x0 := ksv (hK 19 rfl) rfl rfl rfl
    exact ok_assign x0
  case zok2 => kernel_rfl
  case zgd2 => kernel_rfl
  intro a2 w2 hA' hE HF
  have r4 := ksv (HF 4) rfl rfl rfl
  clear hA HF
  have hA := hA'
  clear hA'
  have hLt := hB.size
  replace hB := hB.trans hE
  clear hE hLt
  refine (li_nil (nx_then ?_))
  refine (wp_ret ?_)
  refine retPure Try.results12 hA r4 hB ?_
  (show _ = _; simp only [markL, lenL_bs, bs_append, bs_str, bs1, List.append_assoc])

theorem rCheck (s t m : ByteArray) (w0 : World) (hs : s.size ≤ 1099511627776) (ht : t.size ≤ 1099511627776) : Pure Try.prog 19 #[.string s, .string t, .string m] w0 (SP.isv (.bool (checkB s t m))).holds := by
  refine pure_of_wp Try.func19 rfl 16 Try.ntmps19 (by simp) fun a0 hA hs0 => ?_
  have r0 : a0.get 0 = .string s := hs0 0 _ rfl
  have r1 : a0.get 1 = .string t := hs0 1 _ rfl
  have r2 : a0.get 2 = .string m := hs0 2 _ rfl
  clear hs0
  have hB : Ext w0 w0 := Ext.refl _
  refine wp_seq ?_
  refine' region [_] mixed hA (.cons ?z1_0 .nil) ?zok1 ?zgd1 ?zk1
  case z1_0 =>
    intro a' w' hE hK hg
    exact ok_assign rfl
  case zok1 => kernel_rfl
  case zgd1 => kernel_rfl
  intro a1 w1 hA' hE HF
  replace r0 := kn (HF 0) rfl r0
  replace r1 := kn (HF 1) rfl r1
  replace r2 := kn (HF 2) rfl r2
  clear hA HF
  have hA := hA'
  clear hA'
  have hLt := hB.size
  replace hB := hB.trans hE
  clear hE hLt
  refine (li_nil (nx_then ?_))
  refine wp_seq ?_
  refine' region [_, _, _, _, _, _, _, _, _, _] mixed hA (.cons ?z2_0 (.cons ?z2_1 (.cons ?z2_2 (.cons ?z2_3 (.cons ?z2_4 (.cons ?z2_5 (.cons ?z2_6 (.cons ?z2_7 (.cons ?z2_8 (.cons ?z2_9 .nil)))))))))) ?zok2 ?zgd2 ?zk2
  case z2_0 =>
    intro a' w' hE hK hg
    have x0 := kn (hK 0 rfl) rfl r0
    exact ok_move x0
  case z2_1 =>
    intro a' w' hE hK hg
    have x0 := ksv (hK 7 rfl) rfl rfl rfl
    exact ok_neqS x0 rfl
  case z2_2 =>
    intro a' w' hE hK hg
    have x0 := ksv (hK 8 rfl) rfl rfl rfl
    exact ok_move x0
  case z2_3 =>
    intro a' w' hE hK hg
    have x0 := kn (hK 2 rfl) rfl r2
    exact ok_move x0
  case z2_4 =>
    intro a' w' hE hK hg
    have x0 := kn (hK 0 rfl) rfl r0
    exact ok_move x0
  case z2_5 =>
    intro a' w' hE hK hg
    have x0 := kn (hK 1 rfl) rfl r1
    exact ok_move x0
  case z2_6 =>
    intro a' w' hE hK hg
    have x0 := ksv (hK 11 rfl) rfl rfl hg
    have x1 := ksv (hK 12 rfl) rfl rfl hg
    have hgc := agv rfl hg rfl; revert hgc; intro hgc
    exact ok_call2 fn12 x0 x1 (rMark _ _ _ (by (try simp only [Bool.and_eq_true, Bool.or_eq_true, Bool.and_eq_false_iff, Bool.or_eq_false_iff, Bool.not_eq_true', Bool.not_eq_false', decide_eq_true_eq, decide_eq_false_iff_not, ne_eq, Decidable.not_not, gt_iff_lt, ge_iff_le, Int.not_lt, Int.not_le, Nat.not_lt, Nat.not_le, Int.ofNat_lt, Int.ofNat_le] at hgc); (first | obtain ⟨⟨⟨⟨_, _⟩, _⟩, _⟩, _⟩ := hgc | obtain ⟨⟨⟨_, _⟩, _⟩, _⟩ := hgc | obtain ⟨⟨_, _⟩, _⟩ := hgc | obtain ⟨_, _⟩ := hgc | skip); (first | assumption | omega)) (by (try simp only [Bool.and_eq_true, Bool.or_eq_true, Bool.and_eq_false_iff, Bool.or_eq_false_iff, Bool.not_eq_true', Bool.not_eq_false', decide_eq_true_eq, decide_eq_false_iff_not, ne_eq, Decidable.not_not, gt_iff_lt, ge_iff_le, Int.not_lt, Int.not_le, Nat.not_lt, Nat.not_le, Int.ofNat_lt, Int.ofNat_le] at hgc); (first | obtain ⟨⟨⟨⟨_, _⟩, _⟩, _⟩, _⟩ := hgc | obtain ⟨⟨⟨_, _⟩, _⟩, _⟩ := hgc | obtain ⟨⟨_, _⟩, _⟩ := hgc | obtain ⟨_, _⟩ := hgc | skip); (first | assumption | omega)))
  case z2_7 =>
    intro a' w' hE hK hg
    have x0 := ksv (hK 10 rfl) rfl rfl hg
    have x1 := ksv (hK 13 rfl) rfl rfl hg
    exact ok_eqlS x0 x1
  case z2_8 =>
    intro a' w' hE hK hg
    have x0 := ksv (hK 9 rfl) rfl rfl rfl
    exact ok_and x0 (fun hb => ksv (hK 14 rfl) rfl rfl (act_g1 rfl rfl hb))
  case z2_9 =>
    intro a' w' hE hK hg
    have x0 := ksv (hK 15 rfl) rfl rfl rfl
    exact ok_assign x0
  case zok2 => kernel_rfl
  case zgd2 => kernel_rfl
  intro a2 w2 hA' hE HF
  have r6 := ksv (HF 6) rfl rfl rfl
  clear hA HF
  have hA := hA'
  clear hA'
  have hLt := hB.size
  replace hB := hB.trans hE
  clear hE hLt
  refine (li_nil (nx_then ?_))
  refine (wp_ret ?_)
  refine retPure Try.results19 hA r6 hB ?_
  (show _ = _; rfl)

theorem rLeaf (s : ByteArray) (w0 : World) (hs : s.size ≤ 1099511627776) : Pure Try.prog 24 #[.string s] w0 (SP.isv (.string (str (D (leafL (bs s)))))).holds := by
  refine pure_of_wp Try.func24 rfl 6 Try.ntmps24 (by simp) fun a0 hA hs0 => ?_
  have r0 : a0.get 0 = .string s := hs0 0 _ rfl
  clear hs0
  have hB : Ext w0 w0 := Ext.refl _
  refine wp_seq ?_
  refine' region [_] mixed hA (.cons ?z1_0 .nil) ?zok1 ?zgd1 ?zk1
  case z1_0 =>
    intro a' w' hE hK hg
    exact ok_assign rfl
  case zok1 => kernel_rfl
  case zgd1 => kernel_rfl
  intro a1 w1 hA' hE HF
  replace r0 := kn (HF 0) rfl r0
  clear hA HF
  have hA := hA'
  clear hA'
  have hLt := hB.size
  replace hB := hB.trans hE
  clear hE hLt
  refine (li_nil (nx_then ?_))
  refine wp_seq ?_
  refine' region [_, _, _, _] mixed hA (.cons ?z2_0 (.cons ?z2_1 (.cons ?z2_2 (.cons ?z2_3 .nil)))) ?zok2 ?zgd2 ?zk2
  case z2_0 =>
    intro a' w' hE hK hg
    have x0 := kn (hK 0 rfl) rfl r0
    exact ok_move x0
  case z2_1 =>
    intro a' w' hE hK hg
    have x1 := ksv (hK 3 rfl) rfl rfl rfl
    exact ok_addS rfl x1 (by simp only [str_size, ByteArray.size_append, size1, size0, le4, D_length, List.length_cons, List.length_nil] at *; omega)
  case z2_2 =>
    intro a' w' hE hK hg
    have x0 := ksv (hK 4 rfl) rfl rfl rfl
    exact ok_call1 fn14 x0 (rOf _ _ (by simp only [str_size, ByteArray.size_append, size1, size0, le4, D_length, List.length_cons, List.length_nil] at *; omega))
  case z2_3 =>
    intro a' w' hE hK hg
    have x0 := ksv (hK 5 rfl) rfl rfl rfl
    exact ok_assign x0
  case zok2 => kernel_rfl
  case zgd2 => kernel_rfl
  intro a2 w2 hA' hE HF
  have r2 := ksv (HF 2) rfl rfl rfl
  clear hA HF
  have hA := hA'
  clear hA'
  have hLt := hB.size
  replace hB := hB.trans hE
  clear hE hLt
  refine (li_nil (nx_then ?_))
  refine (wp_ret ?_)
  refine retPure Try.results24 hA r2 hB ?_
  (show _ = _; simp only [leafL, bs_append, bs1])

theorem rInner (s t : ByteArray) (w0 : World) (hs : s.size ≤ 1099511627776) (ht : t.size ≤ 1099511627776) : Pure Try.prog 26 #[.string s, .string t] w0 (SP.isv (.string (str (D (innerL (bs s) (bs t)))))).holds := by
  refine pure_of_wp Try.func26 rfl 10 Try.ntmps26 (by simp) fun a0 hA hs0 => ?_
  have r0 : a0.get 0 = .string s := hs0 0 _ rfl
  have r1 : a0.get 1 = .string t := hs0 1 _ rfl
  clear hs0
  have hB : Ext w0 w0 := Ext.refl _
  refine wp_seq ?_
  refine' region [_] mixed hA (.cons ?z1_0 .nil) ?zok1 ?zgd1 ?zk1
  case z1_0 =>
    intro a' w' hE hK hg
    exact ok_assign rfl
  case zok1 => kernel_rfl
  case zgd1 => kernel_rfl
  intro a1 w1 hA' hE HF
  replace r0 := kn (HF 0) rfl r0
  replace r1 := kn (HF 1) rfl r1
  clear hA HF
  have hA := hA'
  clear hA'
  have hLt := hB.size
  replace hB := hB.trans hE
  clear hE hLt
  refine (li_nil (nx_then ?_))
  refine wp_seq ?_
  refine' region [_, _, _, _, _, _] mixed hA (.cons ?z2_0 (.cons ?z2_1 (.cons ?z2_2 (.cons ?z2_3 (.cons ?z2_4 (.cons ?z2_5 .nil)))))) ?zok2 ?zgd2 ?zk2
  case z2_0 =>
    intro a' w' hE hK hg
    have x0 := kn (hK 0 rfl) rfl r0
    exact ok_move x0
  case z2_1 =>
    intro a' w' hE hK hg
    have x1 := ksv (hK 5 rfl) rfl rfl rfl
    exact ok_addS rfl x1 (by simp only [str_size, ByteArray.size_append, size1, size0, le4, D_length, List.length_cons, List.length_nil] at *; omega)
  case z2_2 =>
    intro a' w' hE hK hg
    have x0 := kn (hK 1 rfl) rfl r1
    exact ok_move x0
  case z2_3 =>
    intro a' w' hE hK hg
    have x0 := ksv (hK 6 rfl) rfl rfl rfl
    have x1 := ksv (hK 7 rfl) rfl rfl rfl
    exact ok_addS x0 x1 (by simp only [str_size, ByteArray.size_append, size1, size0, le4, D_length, List.length_cons, List.length_nil] at *; omega)
  case z2_4 =>
    intro a' w' hE hK hg
    have x0 := ksv (hK 8 rfl) rfl rfl rfl
    exact ok_call1 fn14 x0 (rOf _ _ (by simp only [str_size, ByteArray.size_append, size1, size0, le4, D_length, List.length_cons, List.length_nil] at *; omega))
  case z2_5 =>
    intro a' w' hE hK hg
    have x0 := ksv (hK 9 rfl) rfl rfl rfl
    exact ok_assign x0
  case zok2 => kernel_rfl
  case zgd2 => kernel_rfl
  intro a2 w2 hA' hE HF
  have r4 := ksv (HF 4) rfl rfl rfl
  clear hA HF
  have hA := hA'
  clear hA'
  have hLt := hB.size
  replace hB := hB.trans hE
  clear hE hLt
  refine (li_nil (nx_then ?_))
  refine (wp_ret ?_)
  refine retPure Try.results26 hA r4 hB ?_
  (show _ = _; simp only [innerL, bs_append, bs1, List.append_assoc])

theorem rMissing  (w0 : World) : Pure Try.prog 28 #[] w0 (SP.isv (.string (str (D missL)))).holds := by
  refine pure_of_wp Try.func28 rfl 2 Try.ntmps28 (by simp) fun a0 hA hs0 => ?_
  clear hs0
  have hB : Ext w0 w0 := Ext.refl _
  refine wp_seq ?_
  refine' region [_] mixed hA (.cons ?z1_0 .nil) ?zok1 ?zgd1 ?zk1
  case z1_0 =>
    intro a' w' hE hK hg
    exact ok_assign rfl
  case zok1 => kernel_rfl
  case zgd1 => kernel_rfl
  intro a1 w1 hA' hE HF
  clear hA HF
  have hA := hA'
  clear hA'
  have hLt := hB.size
  replace hB := hB.trans hE
  clear hE hLt
  refine (li_nil (nx_then ?_))
  refine wp_seq ?_
  refine' region [_, _] mixed hA (.cons ?z2_0 (.cons ?z2_1 .nil)) ?zok2 ?zgd2 ?zk2
  case z2_0 =>
    intro a' w' hE hK hg
    exact ok_call1 fn14 rfl (rOf _ _ (by simp only [str_size, ByteArray.size_append, size1, size0, le4, D_length, List.length_cons, List.length_nil] at *; omega))
  case z2_1 =>
    intro a' w' hE hK hg
    have x0 := ksv (hK 1 rfl) rfl rfl rfl
    exact ok_assign x0
  case zok2 => kernel_rfl
  case zgd2 => kernel_rfl
  intro a2 w2 hA' hE HF
  have r0 := ksv (HF 0) rfl rfl rfl
  clear hA HF
  have hA := hA'
  clear hA'
  have hLt := hB.size
  replace hB := hB.trans hE
  clear hE hLt
  refine (li_nil (nx_then ?_))
  refine (wp_ret ?_)
  refine retPure Try.results28 hA r0 hB ?_
  (show _ = _; rfl)

theorem sClone (s : ByteArray) (w0 : World) (hs : s.size ≤ 281474976710656) : Pure Try.prog 38 #[.string s] w0 (SP.isv (.string s)).holds := by
  refine pure_of_wp Try.func38 rfl 5 Try.ntmps38 (by simp) fun a0 hA hs0 => ?_
  have r0 : a0.get 0 = .string s := hs0 0 _ rfl
  clear hs0
  have hB : Ext w0 w0 := Ext.refl _
  refine wp_seq ?_
  refine' region [_] mixed hA (.cons ?z1_0 .nil) ?zok1 ?zgd1 ?zk1
  case z1_0 =>
    intro a' w' hE hK hg
    exact ok_assign rfl
  case zok1 => kernel_rfl
  case zgd1 => kernel_rfl
  intro a1 w1 hA' hE HF
  replace r0 := kn (HF 0) rfl r0
  clear hA HF
  have hA := hA'
  clear hA'
  have hLt := hB.size
  replace hB := hB.trans hE
  clear hE hLt
  refine (li_nil (nx_then ?_))
  refine wp_seq ?_
  refine' region [_, _, _] mixed hA (.cons ?z2_0 (.cons ?z2_1 (.cons ?z2_2 .nil))) ?zok2 ?zgd2 ?zk2
  case z2_0 =>
    intro a' w' hE hK hg
    have x0 := kn (hK 0 rfl) rfl r0
    exact ok_move x0
  case z2_1 =>
    intro a' w' hE hK hg
    have x0 := ksv (hK 3 rfl) rfl rfl rfl
    exact ok_call1 fn40 x0 (clone_lib _ _ (by assumption))
  case z2_2 =>
    intro a' w' hE hK hg
    have x0 := ksv (hK 4 rfl) rfl rfl rfl
    exact ok_assign x0
  case zok2 => kernel_rfl
  case zgd2 => kernel_rfl
  intro a2 w2 hA' hE HF
  have r2 := ksv (HF 2) rfl rfl rfl
  clear hA HF
  have hA := hA'
  clear hA'
  have hLt := hB.size
  replace hB := hB.trans hE
  clear hE hLt
  refine (li_nil (nx_then ?_))
  refine (wp_ret ?_)
  refine retPure Try.results38 hA r2 hB ?_
  show _ = _; rfl

theorem dLength (s : ByteArray) (w0 : World) : Pure Try.prog 33 #[.string s] w0 (SP.isv (.string (str (le4 s.size)))).holds := by
  refine pure_of_wp Try.func33 rfl 19 Try.ntmps33 (by simp) fun a0 hA hs0 => ?_
  have r0 : a0.get 0 = .string s := hs0 0 _ rfl
  clear hs0
  have hB : Ext w0 w0 := Ext.refl _
  refine wp_seq ?_
  refine' region [_] mixed hA (.cons ?z1_0 .nil) ?zok1 ?zgd1 ?zk1
  case z1_0 =>
    intro a' w' hE hK hg
    exact ok_assign rfl
  case zok1 => kernel_rfl
  case zgd1 => kernel_rfl
  intro a1 w1 hA' hE HF
  replace r0 := kn (HF 0) rfl r0
  clear hA HF
  have hA := hA'
  clear hA'
  have hLt := hB.size
  replace hB := hB.trans hE
  clear hE hLt
  refine (li_nil (nx_then ?_))
  refine wp_seq ?_
  refine' region [_, _, _] mixed hA (.cons ?z2_0 (.cons ?z2_1 (.cons ?z2_2 .nil))) ?zok2 ?zgd2 ?zk2
  case z2_0 =>
    intro a' w' hE hK hg
    have x0 := kn (hK 0 rfl) rfl r0
    exact ok_move x0
  case z2_1 =>
    intro a' w' hE hK hg
    have x0 := ksv (hK 4 rfl) rfl rfl rfl
    exact ok_lenS ty9 x0
  case z2_2 =>
    intro a' w' hE hK hg
    have x0 := ksv (hK 5 rfl) rfl rfl rfl
    exact ok_assign x0
  case zok2 => kernel_rfl
  case zgd2 => kernel_rfl
  intro a2 w2 hA' hE HF
  have r3 := ksv (HF 3) rfl rfl rfl
  clear hA HF
  have hA := hA'
  clear hA'
  have hLt := hB.size
  replace hB := hB.trans hE
  clear hE hLt
  refine (li_nil (nx_then ?_))
  refine wp_seq ?_
  refine' region [_, _, _, _, _, _, _, _, _, _, _, _, _, _] mixed hA (.cons ?z3_0 (.cons ?z3_1 (.cons ?z3_2 (.cons ?z3_3 (.cons ?z3_4 (.cons ?z3_5 (.cons ?z3_6 (.cons ?z3_7 (.cons ?z3_8 (.cons ?z3_9 (.cons ?z3_10 (.cons ?z3_11 (.cons ?z3_12 (.cons ?z3_13 .nil)))))))))))))) ?zok3 ?zgd3 ?zk3
  case z3_0 =>
    intro a' w' hE hK hg
    have x0 := kn (hK 3 rfl) rfl r3
    exact ok_move x0
  case z3_1 =>
    intro a' w' hE hK hg
    have x0 := ksv (hK 6 rfl) rfl rfl rfl
    first | exact ok_conv_id ty3 ty5 x0 (by first | rfl | (rw [IntKind.wrap_u8]; omega)) | exact ok_conv_u8 ty3 ty5 x0 | exact ok_convI ty3 ty5 x0
  case z3_2 =>
    intro a' w' hE hK hg
    have x0 := kn (hK 3 rfl) rfl r3
    exact ok_move x0
  case z3_3 =>
    intro a' w' hE hK hg
    have x0 := ksv (hK 8 rfl) rfl rfl rfl
    exact ok_shr x0 rfl (by omega)
  case z3_4 =>
    intro a' w' hE hK hg
    have x0 := ksv (hK 9 rfl) rfl rfl rfl
    first | exact ok_conv_id ty3 ty5 x0 (by first | rfl | (rw [IntKind.wrap_u8]; omega)) | exact ok_conv_u8 ty3 ty5 x0 | exact ok_convI ty3 ty5 x0
  case z3_5 =>
    intro a' w' hE hK hg
    have x0 := kn (hK 3 rfl) rfl r3
    exact ok_move x0
  case z3_6 =>
    intro a' w' hE hK hg
    have x0 := ksv (hK 11 rfl) rfl rfl rfl
    exact ok_shr x0 rfl (by omega)
  case z3_7 =>
    intro a' w' hE hK hg
    have x0 := ksv (hK 12 rfl) rfl rfl rfl
    first | exact ok_conv_id ty3 ty5 x0 (by first | rfl | (rw [IntKind.wrap_u8]; omega)) | exact ok_conv_u8 ty3 ty5 x0 | exact ok_convI ty3 ty5 x0
  case z3_8 =>
    intro a' w' hE hK hg
    have x0 := kn (hK 3 rfl) rfl r3
    exact ok_move x0
  case z3_9 =>
    intro a' w' hE hK hg
    have x0 := ksv (hK 14 rfl) rfl rfl rfl
    exact ok_shr x0 rfl (by omega)
  case z3_10 =>
    intro a' w' hE hK hg
    have x0 := ksv (hK 15 rfl) rfl rfl rfl
    first | exact ok_conv_id ty3 ty5 x0 (by first | rfl | (rw [IntKind.wrap_u8]; omega)) | exact ok_conv_u8 ty3 ty5 x0 | exact ok_convI ty3 ty5 x0
  case z3_11 =>
    intro a' w' hE hK hg
    have x0 := ksv (hK 7 rfl) rfl rfl rfl
    have x1 := ksv (hK 10 rfl) rfl rfl rfl
    have x2 := ksv (hK 13 rfl) rfl rfl rfl
    have x3 := ksv (hK 16 rfl) rfl rfl rfl
    exact ok_buildSlice (E := 0) (B := w2.heap.size) ty40 ty5 hE.size (parts_of (parts_cons x0 (parts_cons x1 (parts_cons x2 (parts_cons x3 parts_nil))))) (by first | (simp [Value.cells]; done) | (simp [Value.cells, bv, Dig.D_length]; done)) rfl (by omega)
  case z3_12 =>
    intro a' w' hE hK hg
    have x0 := ksp (hK 17 rfl) rfl rfl rfl
    exact ok_bytesToStr ty40 ty5 ty9 rfl (slv_cast (le4_bv s.size) x0.slv)
  case z3_13 =>
    intro a' w' hE hK hg
    have x0 := ksv (hK 18 rfl) rfl rfl rfl
    exact ok_assign x0
  case zok3 => kernel_rfl
  case zgd3 => kernel_rfl
  intro a3 w3 hA' hE HF
  have r2 := ksv (HF 2) rfl rfl rfl
  clear hA HF
  have hA := hA'
  clear hA'
  have hLt := hB.size
  replace hB := hB.trans hE
  clear hE hLt
  refine (li_nil (nx_then ?_))
  refine (wp_ret ?_)
  refine retPure Try.results33 hA r2 hB ?_
  show _ = _; rfl

theorem dOf (v : Value) (xs : List Value) (ss : List ByteArray) (hx : Strs xs ss) (w0 : World) (h : SlV w0 1 v xs) (hl : ss.length ≤ 1000000) (hs : ∀ s ∈ ss, s.size ≤ 8796093022208) : Pure Try.prog 30 #[v] w0 (SP.isv (.agg (bv (D (cat ss))).toArray)).holds := by
  obtain rfl := hx.map
  refine pure_of_wp Try.func30 rfl 62 Try.ntmps30 (by simp) fun a0 hA hs0 => ?_
  have r0 : a0.get 0 = v := hs0 0 _ rfl
  clear hs0
  have hB : Ext w0 w0 := Ext.refl _
  refine wp_seq ?_
  refine' region [_] mixed hA (.cons ?z1_0 .nil) ?zok1 ?zgd1 ?zk1
  case z1_0 =>
    intro a' w' hE hK hg
    exact ok_alloc (L := w0.heap.size) hE.size ty43
  case zok1 => kernel_rfl
  case zgd1 => kernel_rfl
  intro a1 w1 hA' hE HF
  replace r0 := kn (HF 0) rfl r0
  have x2 := ksp (HF 2) rfl rfl rfl
  clear hA HF
  have hA := hA'
  clear hA'
  have hLt := hB.size
  replace hB := hB.trans hE
  obtain ⟨b2, hb2, r2, m_t2⟩ := x2
  have hb0_t2 : w0.heap.size ≤ b2 := Nat.le_trans hLt hb2
  clear hE hLt
  refine (li_nil (nx_then ?_))
  refine wp_seq ?_
  refine' region [_, _] mixed hA (.cons ?z2_0 (.cons ?z2_1 .nil)) ?zok2 ?zgd2 ?zk2
  case z2_0 =>
    intro a' w' hE hK hg
    exact ok_assign rfl
  case z2_1 =>
    intro a' w' hE hK hg
    exact ok_assign rfl
  case zok2 => kernel_rfl
  case zgd2 => kernel_rfl
  intro a2 w2 hA' hE HF
  replace r0 := kn (HF 0) rfl r0
  replace r2 := kn (HF 2) rfl r2
  have r3 := ksv (HF 3) rfl rfl rfl
  have r4 := ksv (HF 4) rfl rfl rfl
  clear hA HF
  have hA := hA'
  clear hA'
  replace m_t2 := m_t2.ext hE
  have hLt := hB.size
  replace hB := hB.trans hE
  clear hE hLt
  refine (li_nil (nx_then ?_))
  refine wp_seq ?_
  refine wp_seq ?_
  refine' region [_, _, _] mixed hA (.cons ?z3_0 (.cons ?z3_1 (.cons ?z3_2 .nil))) ?zok3 ?zgd3 ?zk3
  case z3_0 =>
    intro a' w' hE hK hg
    have x0 := kn (hK 0 rfl) rfl r0
    exact ok_move x0
  case z3_1 =>
    intro a' w' hE hK hg
    have x0 := ksv (hK 11 rfl) rfl rfl rfl
    exact ok_lenV ty29 x0 (h.ext (hB.trans hE))
  case z3_2 =>
    intro a' w' hE hK hg
    exact ok_move rfl
  case zok3 => kernel_rfl
  case zgd3 => kernel_rfl
  intro a3 w3 hA' hE HF
  replace r2 := kn (HF 2) rfl r2
  replace r3 := kn (HF 3) rfl r3
  replace r4 := kn (HF 4) rfl r4
  have r11 := ksv (HF 11) rfl rfl rfl
  have r12 := ksv (HF 12) rfl rfl rfl
  have r13 := ksv (HF 13) rfl rfl rfl
  clear hA HF
  have hA := hA'
  clear hA'
  replace m_t2 := m_t2.ext hE
  have hLt := hB.size
  replace hB := hB.trans hE
  clear hE hLt
  refine (li_nil (nx_then ?_))
  refine wp_block ?_
  have q4_2 := r2
  have q4_11 := r11
  have q4_12 := r12
  have hL4 : Ext w3 w3 := Ext.refl _
  have k4_t2 := m_t2
  refine loop_m (fun m a w => ∃ i : Nat, m = ss.length - i ∧ a.fit 62 ∧ Ext w0 w ∧ Ext w3 w ∧ a.get 2 = a3.get 2 ∧ a.get 11 = a3.get 11 ∧ a.get 12 = a3.get 12 ∧ a.get 3 = .int .u64 (dx (cat (ss.take i)) : Int) ∧ a.get 4 = .int .u64 (dy (cat (ss.take i)) : Int) ∧ a.get 13 = .int .i64 (i : Int) ∧ (i ≤ ss.length)) (m := ss.length - (0)) (?st5) ?_
  case st5 =>
    refine ⟨(0), rfl, hA, hB, hL4, r2.trans q4_2.symm, r11.trans q4_11.symm, r12.trans q4_12.symm, r3.trans ?v5_3, r4.trans ?v5_4, r13.trans ?v5_13, ?p5_0⟩
    case v5_3 => first | rfl | (congr 1; omega)
    case v5_4 => first | rfl | (congr 1; omega)
    case v5_13 => first | rfl | (congr 1; omega)
    case p5_0 => first | omega | assumption
  intro m_ a4 w4 hI
  obtain ⟨i, rfl, hA, hB, hL4, z2, z11, z12, r3, r4, r13, hp4_0⟩ := hI
  have r2 := z2.trans q4_2
  have r11 := z11.trans q4_11
  have r12 := z12.trans q4_12
  clear z2 z11 z12
  have m_t2' := k4_t2.ext hL4
  have m_t2 := m_t2'
  refine wp_seq ?_
  refine' region [_] mixed hA (.cons ?z6_0 .nil) ?zok6 ?zgd6 ?zk6
  case z6_0 =>
    intro a' w' hE hK hg
    have x0 := kn (hK 13 rfl) rfl r13
    have x1 := kn (hK 12 rfl) rfl r12
    exact ok_lss x0 x1
  case zok6 => kernel_rfl
  case zgd6 => kernel_rfl
  intro a5 w5 hA' hE HF
  replace r2 := kn (HF 2) rfl r2
  replace r3 := kn (HF 3) rfl r3
  replace r4 := kn (HF 4) rfl r4
  replace r11 := kn (HF 11) rfl r11
  replace r12 := kn (HF 12) rfl r12
  replace r13 := kn (HF 13) rfl r13
  have r14 := ksv (HF 14) rfl rfl rfl
  clear hA HF
  have hA := hA'
  clear hA'
  replace m_t2 := m_t2.ext hE
  have hLt := hB.size
  replace hB := hB.trans hE
  replace hL4 := hL4.trans hE
  clear hE hLt
  refine (li_nil (nx_then ?_))
  refine wp_seq ?_
  refine wp_cond_b r14 (fun hc => ?_) (fun hc => ?_)
  ·
    try simp only [Bool.and_eq_true, Bool.or_eq_true, Bool.and_eq_false_iff, Bool.or_eq_false_iff, Bool.not_eq_true', Bool.not_eq_false', decide_eq_true_eq, decide_eq_false_iff_not, ne_eq, Decidable.not_not, gt_iff_lt, ge_iff_le, Int.not_lt, Int.not_le, Nat.not_lt, Nat.not_le, Int.ofNat_lt, Int.ofNat_le] at hc
    have hi_ : i < ss.length := (by simpa using hc)
    refine wp_skip ?_
    refine (nx_then ?_)
    refine wp_seq ?_
    refine wp_block ?_
    refine wp_seq ?_
    refine' region [_, _, _] mixed hA (.cons ?z8_0 (.cons ?z8_1 (.cons ?z8_2 .nil))) ?zok8 ?zgd8 ?zk8
    case z8_0 =>
      intro a' w' hE hK hg
      have x0 := kn (hK 11 rfl) rfl r11
      have x1 := kn (hK 13 rfl) rfl r13
      exact ok_indexV ty29 ty9 x0 (h.ext (hB.trans hE)) x1 (by first | omega | (simp; done) | (simp; omega)) (by exact get_str ss i (by simpa using hc))
    case z8_1 =>
      intro a' w' hE hK hg
      have x0 := ksp (hK 15 rfl) rfl rfl rfl
      exact ok_loadPt ty9 rfl rfl x0 rfl
    case z8_2 =>
      intro a' w' hE hK hg
      have x0 := ksv (hK 16 rfl) rfl rfl rfl
      exact ok_assign x0
    case zok8 => kernel_rfl
    case zgd8 => kernel_rfl
    intro a6 w6 hA' hE HF
    replace r2 := kn (HF 2) rfl r2
    replace r3 := kn (HF 3) rfl r3
    replace r4 := kn (HF 4) rfl r4
    have r6 := ksv (HF 6) rfl rfl rfl
    replace r11 := kn (HF 11) rfl r11
    replace r12 := kn (HF 12) rfl r12
    replace r13 := kn (HF 13) rfl r13
    clear hA HF
    have hA := hA'
    clear hA'
    replace m_t2 := m_t2.ext hE
    have hLt := hB.size
    replace hB := hB.trans hE
    replace hL4 := hL4.trans hE
    clear hE hLt
    refine (li_nil (nx_then ?_))
    refine wp_seq ?_
    refine' region [_, _, _, _] mixed hA (.cons ?z9_0 (.cons ?z9_1 (.cons ?z9_2 (.cons ?z9_3 .nil)))) ?zok9 ?zgd9 ?zk9
    case z9_0 =>
      intro a' w' hE hK hg
      have x0 := kn (hK 6 rfl) rfl r6
      exact ok_move x0
    case z9_1 =>
      intro a' w' hE hK hg
      have x0 := ksv (hK 17 rfl) rfl rfl rfl
      exact ok_strToBytes (B := w6.heap.size) ty9 ty40 ty5 hE.size x0
    case z9_2 =>
      intro a' w' hE hK hg
      have x0 := ksp (hK 18 rfl) rfl rfl rfl
      obtain ⟨_, _, _, x1, _⟩ := x0
      exact ok_lenSl ty40 x1
    case z9_3 =>
      intro a' w' hE hK hg
      exact ok_move rfl
    case zok9 => kernel_rfl
    case zgd9 => kernel_rfl
    intro a7 w7 hA' hE HF
    replace r2 := kn (HF 2) rfl r2
    replace r3 := kn (HF 3) rfl r3
    replace r4 := kn (HF 4) rfl r4
    replace r11 := kn (HF 11) rfl r11
    replace r12 := kn (HF 12) rfl r12
    replace r13 := kn (HF 13) rfl r13
    have x18 := ksp (HF 18) rfl rfl rfl
    have r19 := ksv (HF 19) rfl rfl rfl
    have r20 := ksv (HF 20) rfl rfl rfl
    clear hA HF
    have hA := hA'
    clear hA'
    have hl_t2 := m_t2.lt
    replace m_t2 := m_t2.ext hE
    have hLt := hB.size
    replace hB := hB.trans hE
    replace hL4 := hL4.trans hE
    obtain ⟨b18, c18, hb18, r18, m_t18⟩ := x18
    have hb0_t18 : w0.heap.size ≤ b18 := Nat.le_trans hLt hb18
    have hne_t2_t18 : b2 ≠ b18 := by omega
    clear hE hLt
    refine (li_nil (nx_then ?_))
    refine wp_block ?_
    have hsi := hs ss[i] (by simp); have hsz_ : ss[i].data.toList.length = ss[i].size := bs_length _
    have q10_2 := r2
    have q10_11 := r11
    have q10_12 := r12
    have q10_13 := r13
    have q10_18 := r18
    have q10_19 := r19
    have hL10 : Ext w7 w7 := Ext.refl _
    have k10_t2 := m_t2
    have k10_t18 := m_t18
    refine loop_m (fun m a w => ∃ j : Nat, m = ss[i].size - j ∧ a.fit 62 ∧ Ext w0 w ∧ Ext w7 w ∧ a.get 2 = a7.get 2 ∧ a.get 11 = a7.get 11 ∧ a.get 12 = a7.get 12 ∧ a.get 13 = a7.get 13 ∧ a.get 18 = a7.get 18 ∧ a.get 19 = a7.get 19 ∧ a.get 3 = .int .u64 (dx (cat (ss.take i) ++ (bs ss[i]).take j) : Int) ∧ a.get 4 = .int .u64 (dy (cat (ss.take i) ++ (bs ss[i]).take j) : Int) ∧ a.get 20 = .int .i64 (j : Int) ∧ (j ≤ ss[i].size)) (m := ss[i].size - (0)) (?st11) ?_
    case st11 =>
      refine ⟨(0), rfl, hA, hB, hL10, r2.trans q10_2.symm, r11.trans q10_11.symm, r12.trans q10_12.symm, r13.trans q10_13.symm, r18.trans q10_18.symm, r19.trans q10_19.symm, r3.trans ?v11_3, r4.trans ?v11_4, r20.trans ?v11_20, ?p11_0⟩
      case v11_3 => (simp)
      case v11_4 => (simp)
      case v11_20 => first | rfl | (congr 1; omega)
      case p11_0 => first | omega | assumption
    intro m_ a8 w8 hI
    obtain ⟨j, rfl, hA, hB, hL10, z2, z11, z12, z13, z18, z19, r3, r4, r20, hp10_0⟩ := hI
    replace hL4 := hL4.trans hL10
    have r2 := z2.trans q10_2
    have r11 := z11.trans q10_11
    have r12 := z12.trans q10_12
    have r13 := z13.trans q10_13
    have r18 := z18.trans q10_18
    have r19 := z19.trans q10_19
    clear z2 z11 z12 z13 z18 z19
    have m_t2' := k10_t2.ext hL10
    have m_t2 := m_t2'
    have m_t18' := k10_t18.ext hL10
    have m_t18 := m_t18'
    have hu := u8_lt (byteAt ss[i] j); have h1 := dx_lt (cat (ss.take i) ++ (bs ss[i]).take j); have h2 := dy_lt (cat (ss.take i) ++ (bs ss[i]).take j)
    refine wp_seq ?_
    refine' region [_] mixed hA (.cons ?z12_0 .nil) ?zok12 ?zgd12 ?zk12
    case z12_0 =>
      intro a' w' hE hK hg
      have x0 := kn (hK 20 rfl) rfl r20
      have x1 := kn (hK 19 rfl) rfl r19
      exact ok_lss x0 x1
    case zok12 => kernel_rfl
    case zgd12 => kernel_rfl
    intro a9 w9 hA' hE HF
    replace r2 := kn (HF 2) rfl r2
    replace r3 := kn (HF 3) rfl r3
    replace r4 := kn (HF 4) rfl r4
    replace r11 := kn (HF 11) rfl r11
    replace r12 := kn (HF 12) rfl r12
    replace r13 := kn (HF 13) rfl r13
    replace r18 := kn (HF 18) rfl r18
    replace r19 := kn (HF 19) rfl r19
    replace r20 := kn (HF 20) rfl r20
    have r21 := ksv (HF 21) rfl rfl rfl
    clear hA HF
    have hA := hA'
    clear hA'
    replace m_t2 := m_t2.ext hE
    replace m_t18 := m_t18.ext hE
    have hLt := hB.size
    replace hB := hB.trans hE
    replace hL10 := hL10.trans hE
    replace hL4 := hL4.trans hE
    clear hE hLt
    refine (li_nil (nx_then ?_))
    refine wp_seq ?_
    refine wp_cond_b r21 (fun hc => ?_) (fun hc => ?_)
    ·
      try simp only [Bool.and_eq_true, Bool.or_eq_true, Bool.and_eq_false_iff, Bool.or_eq_false_iff, Bool.not_eq_true', Bool.not_eq_false', decide_eq_true_eq, decide_eq_false_iff_not, ne_eq, Decidable.not_not, gt_iff_lt, ge_iff_le, Int.not_lt, Int.not_le, Nat.not_lt, Nat.not_le, Int.ofNat_lt, Int.ofNat_le] at hc
      refine wp_skip ?_
      refine (nx_then ?_)
      refine wp_seq ?_
      refine wp_block ?_
      refine wp_seq ?_
      refine' region [_, _, _] mixed hA (.cons ?z14_0 (.cons ?z14_1 (.cons ?z14_2 .nil))) ?zok14 ?zgd14 ?zk14
      case z14_0 =>
        intro a' w' hE hK hg
        have x0 := kn (hK 18 rfl) rfl r18
        have x1 := kn (hK 20 rfl) rfl r20
        exact ok_indexV ty40 ty5 x0 (m_t18.ext hE).slv x1 (by first | omega | (simp; done) | (simp; omega)) (by exact get_bv ss[i] j (by simpa using hc))
      case z14_1 =>
        intro a' w' hE hK hg
        have x0 := ksp (hK 22 rfl) rfl rfl rfl
        exact ok_loadPt ty5 rfl rfl x0 rfl
      case z14_2 =>
        intro a' w' hE hK hg
        have x0 := ksv (hK 23 rfl) rfl rfl rfl
        exact ok_assign x0
      case zok14 => kernel_rfl
      case zgd14 => kernel_rfl
      intro a10 w10 hA' hE HF
      replace r2 := kn (HF 2) rfl r2
      replace r3 := kn (HF 3) rfl r3
      replace r4 := kn (HF 4) rfl r4
      have r8 := ksv (HF 8) rfl rfl rfl
      replace r11 := kn (HF 11) rfl r11
      replace r12 := kn (HF 12) rfl r12
      replace r13 := kn (HF 13) rfl r13
      replace r18 := kn (HF 18) rfl r18
      replace r19 := kn (HF 19) rfl r19
      replace r20 := kn (HF 20) rfl r20
      clear hA HF
      have hA := hA'
      clear hA'
      replace m_t2 := m_t2.ext hE
      replace m_t18 := m_t18.ext hE
      have hLt := hB.size
      replace hB := hB.trans hE
      replace hL10 := hL10.trans hE
      replace hL4 := hL4.trans hE
      clear hE hLt
      refine (li_nil (nx_then ?_))
      refine wp_seq ?_
      refine' region [_, _, _, _, _, _, _, _] mixed hA (.cons ?z15_0 (.cons ?z15_1 (.cons ?z15_2 (.cons ?z15_3 (.cons ?z15_4 (.cons ?z15_5 (.cons ?z15_6 (.cons ?z15_7 .nil)))))))) ?zok15 ?zgd15 ?zk15
      case z15_0 =>
        intro a' w' hE hK hg
        have x0 := kn (hK 3 rfl) rfl r3
        exact ok_move x0
      case z15_1 =>
        intro a' w' hE hK hg
        have x1 := ksv (hK 24 rfl) rfl rfl rfl
        first | exact ok_mul_u rfl x1 (by omega) | exact ok_mul rfl x1
      case z15_2 =>
        intro a' w' hE hK hg
        have x0 := kn (hK 8 rfl) rfl r8
        exact ok_move x0
      case z15_3 =>
        intro a' w' hE hK hg
        have x0 := ksv (hK 26 rfl) rfl rfl rfl
        first | exact ok_conv_b ty5 ty51 x0 (by simp) | exact ok_conv_id ty5 ty51 x0 (by first | rfl | (rw [IntKind.wrap_u64]; omega)) | exact ok_convI ty5 ty51 x0
      case z15_4 =>
        intro a' w' hE hK hg
        have x0 := ksv (hK 25 rfl) rfl rfl rfl
        have x1 := ksv (hK 27 rfl) rfl rfl rfl
        first | exact ok_add_u x0 x1 (by omega) | exact ok_add x0 x1
      case z15_5 =>
        intro a' w' hE hK hg
        have x0 := ksv (hK 28 rfl) rfl rfl rfl
        first | exact ok_add_u x0 rfl (by omega) | exact ok_add x0 rfl
      case z15_6 =>
        intro a' w' hE hK hg
        have x0 := ksv (hK 29 rfl) rfl rfl rfl
        first | exact ok_rem_n x0 rfl (by omega) (by omega) | exact ok_rem x0 rfl (by omega)
      case z15_7 =>
        intro a' w' hE hK hg
        have x0 := ksv (hK 30 rfl) rfl rfl rfl
        exact ok_assign x0
      case zok15 => kernel_rfl
      case zgd15 => kernel_rfl
      intro a11 w11 hA' hE HF
      replace r2 := kn (HF 2) rfl r2
      replace r3 := ksv (HF 3) rfl rfl rfl
      replace r4 := kn (HF 4) rfl r4
      replace r8 := kn (HF 8) rfl r8
      replace r11 := kn (HF 11) rfl r11
      replace r12 := kn (HF 12) rfl r12
      replace r13 := kn (HF 13) rfl r13
      replace r18 := kn (HF 18) rfl r18
      replace r19 := kn (HF 19) rfl r19
      replace r20 := kn (HF 20) rfl r20
      clear hA HF
      have hA := hA'
      clear hA'
      replace m_t2 := m_t2.ext hE
      replace m_t18 := m_t18.ext hE
      have hLt := hB.size
      replace hB := hB.trans hE
      replace hL10 := hL10.trans hE
      replace hL4 := hL4.trans hE
      clear hE hLt
      refine (li_nil (nx_then ?_))
      refine' region [_, _, _, _, _, _, _, _] mixed hA (.cons ?z16_0 (.cons ?z16_1 (.cons ?z16_2 (.cons ?z16_3 (.cons ?z16_4 (.cons ?z16_5 (.cons ?z16_6 (.cons ?z16_7 .nil)))))))) ?zok16 ?zgd16 ?zk16
      case z16_0 =>
        intro a' w' hE hK hg
        have x0 := kn (hK 4 rfl) rfl r4
        exact ok_move x0
      case z16_1 =>
        intro a' w' hE hK hg
        have x1 := ksv (hK 31 rfl) rfl rfl rfl
        first | exact ok_mul_u rfl x1 (by omega) | exact ok_mul rfl x1
      case z16_2 =>
        intro a' w' hE hK hg
        have x0 := kn (hK 8 rfl) rfl r8
        exact ok_move x0
      case z16_3 =>
        intro a' w' hE hK hg
        have x0 := ksv (hK 33 rfl) rfl rfl rfl
        first | exact ok_conv_b ty5 ty51 x0 (by simp) | exact ok_conv_id ty5 ty51 x0 (by first | rfl | (rw [IntKind.wrap_u64]; omega)) | exact ok_convI ty5 ty51 x0
      case z16_4 =>
        intro a' w' hE hK hg
        have x0 := ksv (hK 32 rfl) rfl rfl rfl
        have x1 := ksv (hK 34 rfl) rfl rfl rfl
        first | exact ok_add_u x0 x1 (by omega) | exact ok_add x0 x1
      case z16_5 =>
        intro a' w' hE hK hg
        have x0 := ksv (hK 35 rfl) rfl rfl rfl
        first | exact ok_add_u x0 rfl (by omega) | exact ok_add x0 rfl
      case z16_6 =>
        intro a' w' hE hK hg
        have x0 := ksv (hK 36 rfl) rfl rfl rfl
        first | exact ok_rem_n x0 rfl (by omega) (by omega) | exact ok_rem x0 rfl (by omega)
      case z16_7 =>
        intro a' w' hE hK hg
        have x0 := ksv (hK 37 rfl) rfl rfl rfl
        exact ok_assign x0
      case zok16 => kernel_rfl
      case zgd16 => kernel_rfl
      intro a12 w12 hA' hE HF
      replace r2 := kn (HF 2) rfl r2
      replace r3 := kn (HF 3) rfl r3
      replace r4 := ksv (HF 4) rfl rfl rfl
      replace r11 := kn (HF 11) rfl r11
      replace r12 := kn (HF 12) rfl r12
      replace r13 := kn (HF 13) rfl r13
      replace r18 := kn (HF 18) rfl r18
      replace r19 := kn (HF 19) rfl r19
      replace r20 := kn (HF 20) rfl r20
      clear hA HF
      have hA := hA'
      clear hA'
      replace m_t2 := m_t2.ext hE
      replace m_t18 := m_t18.ext hE
      have hLt := hB.size
      replace hB := hB.trans hE
      replace hL10 := hL10.trans hE
      replace hL4 := hL4.trans hE
      clear hE hLt
      refine (li_nil (nx_blk (nx_then ?_)))
      refine' region [_, _] mixed hA (.cons ?z17_0 (.cons ?z17_1 .nil)) ?zok17 ?zgd17 ?zk17
      case z17_0 =>
        intro a' w' hE hK hg
        have x0 := kn (hK 20 rfl) rfl r20
        first | exact ok_add_i x0 rfl (by first | omega | (constructor <;> omega)) | exact ok_add x0 rfl
      case z17_1 =>
        intro a' w' hE hK hg
        have x0 := ksv (hK 38 rfl) rfl rfl rfl
        exact ok_move x0
      case zok17 => kernel_rfl
      case zgd17 => kernel_rfl
      intro a13 w13 hA' hE HF
      replace r2 := kn (HF 2) rfl r2
      replace r3 := kn (HF 3) rfl r3
      replace r4 := kn (HF 4) rfl r4
      replace r11 := kn (HF 11) rfl r11
      replace r12 := kn (HF 12) rfl r12
      replace r13 := kn (HF 13) rfl r13
      replace r18 := kn (HF 18) rfl r18
      replace r19 := kn (HF 19) rfl r19
      replace r20 := ksv (HF 20) rfl rfl rfl
      clear hA HF
      have hA := hA'
      clear hA'
      replace m_t2 := m_t2.ext hE
      replace m_t18 := m_t18.ext hE
      have hLt := hB.size
      replace hB := hB.trans hE
      replace hL10 := hL10.trans hE
      replace hL4 := hL4.trans hE
      clear hE hLt
      refine (li_nil (nx_then ?_))
      refine ⟨_, ?lt18, (j + 1), rfl, hA, hB, hL10, r2.trans q10_2.symm, r11.trans q10_11.symm, r12.trans q10_12.symm, r13.trans q10_13.symm, r18.trans q10_18.symm, r19.trans q10_19.symm, r3.trans ?v18_3, r4.trans ?v18_4, r20.trans ?v18_20, ?p18_0⟩
      case v18_3 => (rw [← dx_catj _ _ _ (by omega)])
      case v18_4 => (rw [← dy_catj _ _ _ (by omega)])
      case v18_20 => first | rfl | (congr 1; omega)
      case p18_0 => first | omega | assumption
      case lt18 => omega
    ·
      try simp only [Bool.and_eq_true, Bool.or_eq_true, Bool.and_eq_false_iff, Bool.or_eq_false_iff, Bool.not_eq_true', Bool.not_eq_false', decide_eq_true_eq, decide_eq_false_iff_not, ne_eq, Decidable.not_not, gt_iff_lt, ge_iff_le, Int.not_lt, Int.not_le, Nat.not_lt, Nat.not_le, Int.ofNat_lt, Int.ofNat_le] at hc
      refine wp_exit ?_
      refine (ex_then (ex_then (ex_same ?_)))
      refine (nx_blk (nx_then ?_))
      refine' region [_, _] mixed hA (.cons ?z19_0 (.cons ?z19_1 .nil)) ?zok19 ?zgd19 ?zk19
      case z19_0 =>
        intro a' w' hE hK hg
        have x0 := kn (hK 13 rfl) rfl r13
        first | exact ok_add_i x0 rfl (by first | omega | (constructor <;> omega)) | exact ok_add x0 rfl
      case z19_1 =>
        intro a' w' hE hK hg
        have x0 := ksv (hK 39 rfl) rfl rfl rfl
        exact ok_move x0
      case zok19 => kernel_rfl
      case zgd19 => kernel_rfl
      intro a14 w14 hA' hE HF
      replace r2 := kn (HF 2) rfl r2
      replace r3 := kn (HF 3) rfl r3
      replace r4 := kn (HF 4) rfl r4
      replace r11 := kn (HF 11) rfl r11
      replace r12 := kn (HF 12) rfl r12
      replace r13 := ksv (HF 13) rfl rfl rfl
      clear hA HF
      have hA := hA'
      clear hA'
      replace m_t2 := m_t2.ext hE
      replace m_t18 := m_t18.ext hE
      have hLt := hB.size
      replace hB := hB.trans hE
      replace hL4 := hL4.trans hE
      clear hE hLt
      clear m_t18
      refine (li_nil (nx_then ?_))
      refine ⟨_, ?lt20, (i + 1), rfl, hA, hB, hL4, r2.trans q4_2.symm, r11.trans q4_11.symm, r12.trans q4_12.symm, r3.trans ?v20_3, r4.trans ?v20_4, r13.trans ?v20_13, ?p20_0⟩
      case v20_3 => (obtain rfl : j = ss[i].size := (by omega); rw [cat_take ss i hi_, ← bs_length, List.take_length])
      case v20_4 => (obtain rfl : j = ss[i].size := (by omega); rw [cat_take ss i hi_, ← bs_length, List.take_length])
      case v20_13 => first | rfl | (congr 1; omega)
      case p20_0 => first | omega | assumption
      case lt20 => omega
  ·
    try simp only [Bool.and_eq_true, Bool.or_eq_true, Bool.and_eq_false_iff, Bool.or_eq_false_iff, Bool.not_eq_true', Bool.not_eq_false', decide_eq_true_eq, decide_eq_false_iff_not, ne_eq, Decidable.not_not, gt_iff_lt, ge_iff_le, Int.not_lt, Int.not_le, Nat.not_lt, Nat.not_le, Int.ofNat_lt, Int.ofNat_le] at hc
    refine wp_exit ?_
    refine (ex_then (ex_then (ex_same ?_)))
    refine (nx_then ?_)
    refine wp_seq ?_
    refine' region [_] mixed hA (.cons ?z21_0 .nil) ?zok21 ?zgd21 ?zk21
    case z21_0 =>
      intro a' w' hE hK hg
      exact ok_alloc (L := w5.heap.size) hE.size ty43
    case zok21 => kernel_rfl
    case zgd21 => kernel_rfl
    intro a15 w15 hA' hE HF
    replace r2 := kn (HF 2) rfl r2
    replace r3 := kn (HF 3) rfl r3
    replace r4 := kn (HF 4) rfl r4
    have x9 := ksp (HF 9) rfl rfl rfl
    clear hA HF
    have hA := hA'
    clear hA'
    have hl_t2 := m_t2.lt
    replace m_t2 := m_t2.ext hE
    have hLt := hB.size
    replace hB := hB.trans hE
    obtain ⟨b9, hb9, r9, m_t9⟩ := x9
    have hb0_t9 : w0.heap.size ≤ b9 := Nat.le_trans hLt hb9
    have hne_t2_t9 : b2 ≠ b9 := by omega
    clear hE hLt
    refine (li_nil (nx_then ?_))
    refine wp_seq ?_
    refine wp_seq ?_
    refine' region [_] mixed hA (.cons ?z22_0 .nil) ?zok22 ?zgd22 ?zk22
    case z22_0 =>
      intro a' w' hE hK hg
      exact ok_move rfl
    case zok22 => kernel_rfl
    case zgd22 => kernel_rfl
    intro a16 w16 hA' hE HF
    replace r2 := kn (HF 2) rfl r2
    replace r3 := kn (HF 3) rfl r3
    replace r4 := kn (HF 4) rfl r4
    replace r9 := kn (HF 9) rfl r9
    have r40 := ksv (HF 40) rfl rfl rfl
    clear hA HF
    have hA := hA'
    clear hA'
    replace m_t2 := m_t2.ext hE
    replace m_t9 := m_t9.ext hE
    have hLt := hB.size
    replace hB := hB.trans hE
    clear hE hLt
    refine (li_nil (nx_then ?_))
    refine wp_block ?_
    obtain ⟨X, hX⟩ : ∃ X, X = dx (cat (ss.take i)) := ⟨_, rfl⟩; obtain ⟨Y, hY⟩ : ∃ Y, Y = dy (cat (ss.take i)) := ⟨_, rfl⟩; rw [← hX] at r3; rw [← hY] at r4; have hXl : X < 4294967296 := (by rw [hX]; exact Nat.lt_trans (dx_lt _) (by decide)); have hYl : Y < 4294967296 := (by rw [hY]; exact Nat.lt_trans (dy_lt _) (by decide)); obtain ⟨z2, hz2⟩ : ∃ z, z = (Value.agg #[.int .u8 0, .int .u8 0, .int .u8 0, .int .u8 0, .int .u8 0, .int .u8 0, .int .u8 0, .int .u8 0]).cells := ⟨_, rfl⟩; rw [← hz2] at m_t2
    have q23_2 := r2
    have q23_3 := r3
    have q23_4 := r4
    have q23_9 := r9
    refine loop_m (fun m a w => ∃ k : Nat, m = 4 - k ∧ a.fit 62 ∧ Ext w0 w ∧ a.get 2 = a16.get 2 ∧ a.get 3 = a16.get 3 ∧ a.get 4 = a16.get 4 ∧ a.get 9 = a16.get 9 ∧ a.get 40 = .int .i64 (k : Int) ∧ (Own w b9 (darr X Y k) 43) ∧ (Own w b2 z2 43) ∧ (k ≤ 4)) (m := 4 - (0)) (?st24) ?_
    case st24 =>
      refine ⟨(0), rfl, hA, hB, r2.trans q23_2.symm, r3.trans q23_3.symm, r4.trans q23_4.symm, r9.trans q23_9.symm, r40.trans ?v24_40, ?m24_t9, ?m24_t2, ?p24_0⟩
      case v24_40 => first | rfl | (congr 1; omega)
      case m24_t9 => exact m_t9
      case m24_t2 => exact m_t2
      case p24_0 => first | omega | assumption
    intro m_ a17 w17 hI
    obtain ⟨k, rfl, hA, hB, z2, z3, z4, z9, r40, m_t9, m_t2, hp23_0⟩ := hI
    have r2 := z2.trans q23_2
    have r3 := z3.trans q23_3
    have r4 := z4.trans q23_4
    have r9 := z9.trans q23_9
    clear z2 z3 z4 z9
    refine wp_seq ?_
    refine' region [_] mixed hA (.cons ?z25_0 .nil) ?zok25 ?zgd25 ?zk25
    case z25_0 =>
      intro a' w' hE hK hg
      have x0 := kn (hK 40 rfl) rfl r40
      exact ok_lss x0 rfl
    case zok25 => kernel_rfl
    case zgd25 => kernel_rfl
    intro a18 w18 hA' hE HF
    replace r2 := kn (HF 2) rfl r2
    replace r3 := kn (HF 3) rfl r3
    replace r4 := kn (HF 4) rfl r4
    replace r9 := kn (HF 9) rfl r9
    replace r40 := kn (HF 40) rfl r40
    have r41 := ksv (HF 41) rfl rfl rfl
    clear hA HF
    have hA := hA'
    clear hA'
    replace m_t9 := m_t9.ext hE
    replace m_t2 := m_t2.ext hE
    have hLt := hB.size
    replace hB := hB.trans hE
    clear hE hLt
    refine (li_nil (nx_then ?_))
    refine wp_seq ?_
    refine wp_cond_b r41 (fun hc => ?_) (fun hc => ?_)
    ·
      try simp only [Bool.and_eq_true, Bool.or_eq_true, Bool.and_eq_false_iff, Bool.or_eq_false_iff, Bool.not_eq_true', Bool.not_eq_false', decide_eq_true_eq, decide_eq_false_iff_not, ne_eq, Decidable.not_not, gt_iff_lt, ge_iff_le, Int.not_lt, Int.not_le, Nat.not_lt, Nat.not_le, Int.ofNat_lt, Int.ofNat_le] at hc
      refine wp_skip ?_
      refine (nx_then ?_)
      refine wp_seq ?_
      refine wp_block ?_
      refine wp_seq ?_
      refine' region [_, _] mixed hA (.cons ?z27_0 (.cons ?z27_1 .nil)) ?zok27 ?zgd27 ?zk27
      case z27_0 =>
        intro a' w' hE hK hg
        have x0 := kn (hK 40 rfl) rfl r40
        exact ok_move x0
      case z27_1 =>
        intro a' w' hE hK hg
        have x0 := ksv (hK 42 rfl) rfl rfl rfl
        exact ok_assign x0
      case zok27 => kernel_rfl
      case zgd27 => kernel_rfl
      intro a19 w19 hA' hE HF
      replace r2 := kn (HF 2) rfl r2
      replace r3 := kn (HF 3) rfl r3
      replace r4 := kn (HF 4) rfl r4
      replace r9 := kn (HF 9) rfl r9
      have r10 := ksv (HF 10) rfl rfl rfl
      replace r40 := kn (HF 40) rfl r40
      clear hA HF
      have hA := hA'
      clear hA'
      replace m_t9 := m_t9.ext hE
      replace m_t2 := m_t2.ext hE
      have hLt := hB.size
      replace hB := hB.trans hE
      clear hE hLt
      refine (li_nil (nx_then ?_))
      have hlt_ := m_t9.lt
      obtain ⟨fr, ho_, hf_⟩ := m_t9
      refine' regionE (E := ButOr b9 (.cells ((darr X Y k).setIfInBounds k (nb X k)) 43 fr)) (ButOr.refl _ _) (fun _ _ _ => ButOr.trans) (ButOr.drawn _ _) [_, _, _, _, _, _, _, _, _, _, _, _, _, _, _, _, _, _] mixed hA (.cons ?z28_0 (.cons ?z28_1 (.cons ?z28_2 (.cons ?z28_3 (.cons ?z28_4 (.cons ?z28_5 (.cons ?z28_6 (.cons ?z28_7 (.cons ?z28_8 (.cons ?z28_9 (.cons ?z28_10 (.cons ?z28_11 (.cons ?z28_12 (.cons ?z28_13 (.cons ?z28_14 (.cons ?z28_15 (.cons ?z28_16 (.cons ?z28_17 .nil)))))))))))))))))) ?zst28 ?zok28 ?zgd28 ?zk28
      case z28_0 =>
        intro a' w' hE hK hg
        refine okb (Nat.lt_of_lt_of_le hlt_ hE.size) ?_
        have x0 := kn (hK 10 rfl) rfl r10
        exact ok_move x0
      case z28_1 =>
        intro a' w' hE hK hg
        refine okb (Nat.lt_of_lt_of_le hlt_ hE.size) ?_
        have x0 := kn (hK 10 rfl) rfl r10
        exact ok_move x0
      case z28_2 =>
        intro a' w' hE hK hg
        refine okb (Nat.lt_of_lt_of_le hlt_ hE.size) ?_
        have x1 := ksv (hK 44 rfl) rfl rfl rfl
        first | exact ok_add_i rfl x1 (by first | omega | (constructor <;> omega)) | exact ok_add rfl x1
      case z28_3 =>
        intro a' w' hE hK hg
        refine okb (Nat.lt_of_lt_of_le hlt_ hE.size) ?_
        have x0 := kn (hK 3 rfl) rfl r3
        exact ok_move x0
      case z28_4 =>
        intro a' w' hE hK hg
        refine okb (Nat.lt_of_lt_of_le hlt_ hE.size) ?_
        have x0 := kn (hK 10 rfl) rfl r10
        exact ok_move x0
      case z28_5 =>
        intro a' w' hE hK hg
        refine okb (Nat.lt_of_lt_of_le hlt_ hE.size) ?_
        have x1 := ksv (hK 47 rfl) rfl rfl rfl
        first | exact ok_mul_i rfl x1 (by first | omega | (constructor <;> omega)) | exact ok_mul rfl x1
      case z28_6 =>
        intro a' w' hE hK hg
        refine okb (Nat.lt_of_lt_of_le hlt_ hE.size) ?_
        have x1 := ksv (hK 48 rfl) rfl rfl rfl
        first | exact ok_sub_i rfl x1 (by first | omega | (constructor <;> omega)) | exact ok_sub rfl x1
      case z28_7 =>
        intro a' w' hE hK hg
        refine okb (Nat.lt_of_lt_of_le hlt_ hE.size) ?_
        have x0 := ksv (hK 46 rfl) rfl rfl rfl
        have x1 := ksv (hK 49 rfl) rfl rfl rfl
        exact ok_shr x0 x1 (by omega)
      case z28_8 =>
        intro a' w' hE hK hg
        refine okb (Nat.lt_of_lt_of_le hlt_ hE.size) ?_
        have x0 := ksv (hK 50 rfl) rfl rfl rfl
        first | exact ok_conv_id ty51 ty5 x0 (by first | rfl | (rw [IntKind.wrap_u8]; omega)) | exact ok_conv_u8 ty51 ty5 x0 | exact ok_convI ty51 ty5 x0
      case z28_9 =>
        intro a' w' hE hK hg
        refine okb (Nat.lt_of_lt_of_le hlt_ hE.size) ?_
        have x0 := kn (hK 4 rfl) rfl r4
        exact ok_move x0
      case z28_10 =>
        intro a' w' hE hK hg
        refine okb (Nat.lt_of_lt_of_le hlt_ hE.size) ?_
        have x0 := kn (hK 10 rfl) rfl r10
        exact ok_move x0
      case z28_11 =>
        intro a' w' hE hK hg
        refine okb (Nat.lt_of_lt_of_le hlt_ hE.size) ?_
        have x1 := ksv (hK 53 rfl) rfl rfl rfl
        first | exact ok_mul_i rfl x1 (by first | omega | (constructor <;> omega)) | exact ok_mul rfl x1
      case z28_12 =>
        intro a' w' hE hK hg
        refine okb (Nat.lt_of_lt_of_le hlt_ hE.size) ?_
        have x1 := ksv (hK 54 rfl) rfl rfl rfl
        first | exact ok_sub_i rfl x1 (by first | omega | (constructor <;> omega)) | exact ok_sub rfl x1
      case z28_13 =>
        intro a' w' hE hK hg
        refine okb (Nat.lt_of_lt_of_le hlt_ hE.size) ?_
        have x0 := ksv (hK 52 rfl) rfl rfl rfl
        have x1 := ksv (hK 55 rfl) rfl rfl rfl
        exact ok_shr x0 x1 (by omega)
      case z28_14 =>
        intro a' w' hE hK hg
        refine okb (Nat.lt_of_lt_of_le hlt_ hE.size) ?_
        have x0 := ksv (hK 56 rfl) rfl rfl rfl
        first | exact ok_conv_id ty51 ty5 x0 (by first | rfl | (rw [IntKind.wrap_u8]; omega)) | exact ok_conv_u8 ty51 ty5 x0 | exact ok_convI ty51 ty5 x0
      case z28_15 =>
        intro a' w' hE hK hg
        refine okb (Nat.lt_of_lt_of_le hlt_ hE.size) ?_
        have x0 := kn (hK 9 rfl) rfl r9
        have x1 := ksv (hK 43 rfl) rfl rfl rfl
        exact ok_indexArr ty43 ty5 x0 x1 (by first | omega | (simp; done) | (simp; omega)) (by first | omega | (simp; done) | (simp; omega))
      case z28_16 =>
        intro a' w' hE hK hg
        have x0 := ksv (hK 58 rfl) rfl rfl rfl
        have x1 := ksv (hK 51 rfl) rfl rfl rfl
        exact okb_store ty5 ho_ hf_ hE (show a'.get 58 = _ from by simpa using x0) x1 rfl rfl (by rw [darr_size]; omega)
      case z28_17 =>
        intro a' w' hE hK hg
        refine okb (Nat.lt_of_lt_of_le hlt_ hE.size) ?_
        have x0 := kn (hK 9 rfl) rfl r9
        have x1 := ksv (hK 45 rfl) rfl rfl rfl
        exact ok_indexArr ty43 ty5 x0 x1 (by first | omega | (simp; done) | (simp; omega)) (by first | omega | (simp; done) | (simp; omega))
      case zst28 => exact (.cons (stE_isv _) (.cons (stE_isv _) (.cons (stE_isv _) (.cons (stE_isv _) (.cons (stE_isv _) (.cons (stE_isv _) (.cons (stE_isv _) (.cons (stE_isv _) (.cons (stE_isv _) (.cons (stE_isv _) (.cons (stE_isv _) (.cons (stE_isv _) (.cons (stE_isv _) (.cons (stE_isv _) (.cons (stE_isv _) (.cons (stE_isv _) (.cons stE_mark (.cons (stE_isv _) .nil))))))))))))))))))
      case zok28 => kernel_rfl
      case zgd28 => kernel_rfl
      intro a20 w20 hA' hE HF HD
      replace r2 := kn (HF 2) rfl r2
      replace r3 := kn (HF 3) rfl r3
      replace r4 := kn (HF 4) rfl r4
      replace r9 := kn (HF 9) rfl r9
      replace r40 := kn (HF 40) rfl r40
      have r57 := ksv (HF 57) rfl rfl rfl
      have r59 := ksv (HF 59) rfl rfl rfl
      clear hA HF
      have hA := hA'
      clear hA'
      obtain ⟨_, hX⟩ := HD 16 _ rfl rfl (by simp) rfl
      clear HD
      replace m_t2 := own_butor m_t2 (by first | assumption | exact Ne.symm (by assumption)) hE
      have m_t9 := Own.of_mark hX (by simp) hf_
      have hLt := hB.size
      replace hB := ext_butor hB hb0_t9 hE
      clear hX ho_ hf_ hlt_
      clear hE hLt
      refine t_store1 ty5 r59 r57 rfl rfl m_t9 (by simp [darr]; omega) fun w21 hE m_ => ?_
      replace m_t2 := own_but m_t2 (by first | assumption | exact Ne.symm (by assumption) | omega) hE
      replace m_t9 := m_; clear m_
      replace hB := ext_but hB hb0_t9 hE
      clear hE
      refine (li_nil (nx_blk (nx_then ?_)))
      refine' region [_, _] mixed hA (.cons ?z29_0 (.cons ?z29_1 .nil)) ?zok29 ?zgd29 ?zk29
      case z29_0 =>
        intro a' w' hE hK hg
        have x0 := kn (hK 40 rfl) rfl r40
        first | exact ok_add_i x0 rfl (by first | omega | (constructor <;> omega)) | exact ok_add x0 rfl
      case z29_1 =>
        intro a' w' hE hK hg
        have x0 := ksv (hK 60 rfl) rfl rfl rfl
        exact ok_move x0
      case zok29 => kernel_rfl
      case zgd29 => kernel_rfl
      intro a22 w22 hA' hE HF
      replace r2 := kn (HF 2) rfl r2
      replace r3 := kn (HF 3) rfl r3
      replace r4 := kn (HF 4) rfl r4
      replace r9 := kn (HF 9) rfl r9
      replace r40 := ksv (HF 40) rfl rfl rfl
      clear hA HF
      have hA := hA'
      clear hA'
      replace m_t9 := m_t9.ext hE
      replace m_t2 := m_t2.ext hE
      have hLt := hB.size
      replace hB := hB.trans hE
      clear hE hLt
      refine (li_nil (nx_then ?_))
      refine ⟨_, ?lt30, (k + 1), rfl, hA, hB, r2.trans q23_2.symm, r3.trans q23_3.symm, r4.trans q23_4.symm, r9.trans q23_9.symm, r40.trans ?v30_40, ?m30_t9, ?m30_t2, ?p30_0⟩
      case v30_40 => first | rfl | (congr 1; omega)
      case m30_t9 => (have := m_t9; have e_ : (4 + (k : Int)).toNat = 4 + k := (by omega); rw [← darr_step X Y k (by omega)]; simpa [nb, e_] using this)
      case m30_t2 => exact m_t2
      case p30_0 => first | omega | assumption
      case lt30 => omega
    ·
      try simp only [Bool.and_eq_true, Bool.or_eq_true, Bool.and_eq_false_iff, Bool.or_eq_false_iff, Bool.not_eq_true', Bool.not_eq_false', decide_eq_true_eq, decide_eq_false_iff_not, ne_eq, Decidable.not_not, gt_iff_lt, ge_iff_le, Int.not_lt, Int.not_le, Nat.not_lt, Nat.not_le, Int.ofNat_lt, Int.ofNat_le] at hc
      refine wp_exit ?_
      refine (ex_then (ex_then (ex_same ?_)))
      refine (nx_then ?_)
      refine wp_seq ?_
      refine' region [_] mixed hA (.cons ?z31_0 .nil) ?zok31 ?zgd31 ?zk31
      case z31_0 =>
        intro a' w' hE hK hg
        have x0 := kn (hK 9 rfl) rfl r9
        exact ok_loadOwnAgg ty43 rfl x0 (m_t9.ext hE) (by first | rfl | (first | omega | (simp; done) | (simp; omega)))
      case zok31 => kernel_rfl
      case zgd31 => kernel_rfl
      intro a23 w23 hA' hE HF
      replace r2 := kn (HF 2) rfl r2
      have r61 := ksv (HF 61) rfl rfl rfl
      clear hA HF
      have hA := hA'
      clear hA'
      replace m_t9 := m_t9.ext hE
      replace m_t2 := m_t2.ext hE
      have hLt := hB.size
      replace hB := hB.trans hE
      clear hE hLt
      clear m_t9
      refine t_storeAgg ty43 r2 r61 (by exact darr_one _ _ _) m_t2 (by rw [hz2]; rfl) fun w24 hE m_ => ?_
      replace m_t2 := m_; clear m_
      replace hB := ext_but hB hb0_t2 hE
      clear hE
      refine (li_nil (nx_then ?_))
      refine (wp_ret ?_)
      refine retPureCell Try.results30 hA r2 ty43 rfl m_t2 hB ?_
      (show _ = _; obtain rfl : k = 4 := (by omega); have hi : i = ss.length := (by simp only [List.length_map] at *; omega); subst hi; rw [darr_four, hX, hY, List.take_length]; rfl)

theorem dText (l : List UInt8) (w0 : World) (hl : l.length = 8) : Pure Try.prog 31 #[.agg (bv l).toArray] w0 (SP.isv (.string (str l))).holds := by
  refine pure_of_wp Try.func31 rfl 6 Try.ntmps31 (by simp) fun a0 hA hs0 => ?_
  have r0 : a0.get 0 = .agg (bv l).toArray := hs0 0 _ rfl
  clear hs0
  have hB : Ext w0 w0 := Ext.refl _
  refine wp_seq ?_
  refine' region [_, _] mixed hA (.cons ?z1_0 (.cons ?z1_1 .nil)) ?zok1 ?zgd1 ?zk1
  case z1_0 =>
    intro a' w' hE hK hg
    have x0 := kn (hK 0 rfl) rfl r0
    exact ok_box (L := w0.heap.size) hE.size x0
  case z1_1 =>
    intro a' w' hE hK hg
    exact ok_assign rfl
  case zok1 => kernel_rfl
  case zgd1 => kernel_rfl
  intro a1 w1 hA' hE HF
  have x1 := ksp (HF 1) rfl rfl rfl
  clear hA HF
  have hA := hA'
  clear hA'
  have hLt := hB.size
  replace hB := hB.trans hE
  obtain ⟨b1, hb1, r1, m_t1⟩ := x1
  have hb0_t1 : w0.heap.size ≤ b1 := Nat.le_trans hLt hb1
  clear hE hLt
  refine (li_nil (nx_then ?_))
  refine wp_seq ?_
  refine' region [_, _, _, _] mixed hA (.cons ?z2_0 (.cons ?z2_1 (.cons ?z2_2 (.cons ?z2_3 .nil)))) ?zok2 ?zgd2 ?zk2
  case z2_0 =>
    intro a' w' hE hK hg
    have x0 := kn (hK 1 rfl) rfl r1
    exact ok_sliceArrPt ty43 ty5 x0 (pt_of_own rfl (m_t1.ext hE)) (by simp [bv, Value.cells, hl]) (by intro v hv; simp only [Value.cells, List.mem_toArray, List.toList_toArray] at hv; exact bv_scalar v hv)
  case z2_1 =>
    intro a' w' hE hK hg
    have x0 := ksp (hK 3 rfl) rfl rfl rfl
    exact ok_bytesToStr ty40 ty5 ty9 rfl (slv_cast (ys := bv l) (by simp [Value.cells]) x0)
  case z2_2 =>
    intro a' w' hE hK hg
    have x0 := ksv (hK 4 rfl) rfl rfl rfl
    exact ok_call1 fn38 x0 (sClone _ _ (by show (str l).size ≤ _; rw [str_size]; omega))
  case z2_3 =>
    intro a' w' hE hK hg
    have x0 := ksv (hK 5 rfl) rfl rfl rfl
    exact ok_assign x0
  case zok2 => kernel_rfl
  case zgd2 => kernel_rfl
  intro a2 w2 hA' hE HF
  have r2 := ksv (HF 2) rfl rfl rfl
  clear hA HF
  have hA := hA'
  clear hA'
  replace m_t1 := m_t1.ext hE
  have hLt := hB.size
  replace hB := hB.trans hE
  clear hE hLt
  clear m_t1
  refine (li_nil (nx_then ?_))
  refine (wp_ret ?_)
  refine retPure Try.results31 hA r2 hB ?_
  show _ = _; rfl

theorem dOf1 (s : ByteArray) (w0 : World) (hs : s.size ≤ 1099511627776) : Pure Try.prog 13 #[.string s] w0 (SP.isv (.string (str (D (bs s))))).holds := by
  refine pure_of_wp Try.func13 rfl 7 Try.ntmps13 (by simp) fun a0 hA hs0 => ?_
  have r0 : a0.get 0 = .string s := hs0 0 _ rfl
  clear hs0
  have hB : Ext w0 w0 := Ext.refl _
  refine wp_seq ?_
  refine' region [_] mixed hA (.cons ?z1_0 .nil) ?zok1 ?zgd1 ?zk1
  case z1_0 =>
    intro a' w' hE hK hg
    exact ok_assign rfl
  case zok1 => kernel_rfl
  case zgd1 => kernel_rfl
  intro a1 w1 hA' hE HF
  replace r0 := kn (HF 0) rfl r0
  clear hA HF
  have hA := hA'
  clear hA'
  have hLt := hB.size
  replace hB := hB.trans hE
  clear hE hLt
  refine (li_nil (nx_then ?_))
  refine wp_seq ?_
  refine' region [_, _, _, _, _] mixed hA (.cons ?z2_0 (.cons ?z2_1 (.cons ?z2_2 (.cons ?z2_3 (.cons ?z2_4 .nil))))) ?zok2 ?zgd2 ?zk2
  case z2_0 =>
    intro a' w' hE hK hg
    have x0 := kn (hK 0 rfl) rfl r0
    exact ok_move x0
  case z2_1 =>
    intro a' w' hE hK hg
    have x0 := ksv (hK 3 rfl) rfl rfl rfl
    exact ok_buildSlice (E := 0) (B := w1.heap.size) ty29 ty9 hE.size (parts_of (parts_cons x0 parts_nil)) (by first | (simp [Value.cells]; done) | (simp [Value.cells, bv, Dig.D_length]; done)) rfl (by omega)
  case z2_2 =>
    intro a' w' hE hK hg
    have x0 := ksp (hK 4 rfl) rfl rfl rfl
    exact ok_call1 fn30 rfl (dOf _ _ _ (.cons _ .nil) _ x0.slv (by first | (simp; done) | (simp only [List.mem_cons, List.not_mem_nil, or_false, forall_eq_or_imp, forall_eq, str_size, size1, size0, le4, List.length_cons, List.length_nil]; omega) | omega) (by first | (simp; done) | (simp only [List.mem_cons, List.not_mem_nil, or_false, forall_eq_or_imp, forall_eq, str_size, size1, size0, le4, List.length_cons, List.length_nil]; omega) | omega))
  case z2_3 =>
    intro a' w' hE hK hg
    have x0 := ksv (hK 5 rfl) rfl rfl rfl
    exact ok_call1 fn31 x0 (dText _ _ rfl)
  case z2_4 =>
    intro a' w' hE hK hg
    have x0 := ksv (hK 6 rfl) rfl rfl rfl
    exact ok_assign x0
  case zok2 => kernel_rfl
  case zgd2 => kernel_rfl
  intro a2 w2 hA' hE HF
  have r2 := ksv (HF 2) rfl rfl rfl
  clear hA HF
  have hA := hA'
  clear hA'
  have hLt := hB.size
  replace hB := hB.trans hE
  clear hE hLt
  refine (li_nil (nx_then ?_))
  refine (wp_ret ?_)
  refine retPure Try.results13 hA r2 hB ?_
  (show _ = _; simp [cat])

theorem dChain (s t : ByteArray) (w0 : World) (hs : s.size ≤ 1099511627776) (ht : t.size ≤ 1099511627776) : Pure Try.prog 15 #[.string s, .string t] w0 (SP.isv (.string (str (D (chainL (bs s) (bs t)))))).holds := by
  refine pure_of_wp Try.func15 rfl 12 Try.ntmps15 (by simp) fun a0 hA hs0 => ?_
  have r0 : a0.get 0 = .string s := hs0 0 _ rfl
  have r1 : a0.get 1 = .string t := hs0 1 _ rfl
  clear hs0
  have hB : Ext w0 w0 := Ext.refl _
  refine wp_seq ?_
  refine' region [_] mixed hA (.cons ?z1_0 .nil) ?zok1 ?zgd1 ?zk1
  case z1_0 =>
    intro a' w' hE hK hg
    exact ok_assign rfl
  case zok1 => kernel_rfl
  case zgd1 => kernel_rfl
  intro a1 w1 hA' hE HF
  replace r0 := kn (HF 0) rfl r0
  replace r1 := kn (HF 1) rfl r1
  clear hA HF
  have hA := hA'
  clear hA'
  have hLt := hB.size
  replace hB := hB.trans hE
  clear hE hLt
  refine (li_nil (nx_then ?_))
  refine wp_seq ?_
  refine' region [_, _, _, _, _, _, _, _] mixed hA (.cons ?z2_0 (.cons ?z2_1 (.cons ?z2_2 (.cons ?z2_3 (.cons ?z2_4 (.cons ?z2_5 (.cons ?z2_6 (.cons ?z2_7 .nil)))))))) ?zok2 ?zgd2 ?zk2
  case z2_0 =>
    intro a' w' hE hK hg
    have x0 := kn (hK 0 rfl) rfl r0
    exact ok_move x0
  case z2_1 =>
    intro a' w' hE hK hg
    have x0 := ksv (hK 5 rfl) rfl rfl rfl
    exact ok_call1 fn33 x0 (dLength _ _)
  case z2_2 =>
    intro a' w' hE hK hg
    have x0 := kn (hK 0 rfl) rfl r0
    exact ok_move x0
  case z2_3 =>
    intro a' w' hE hK hg
    have x0 := kn (hK 1 rfl) rfl r1
    exact ok_move x0
  case z2_4 =>
    intro a' w' hE hK hg
    have x1 := ksv (hK 6 rfl) rfl rfl rfl
    have x2 := ksv (hK 7 rfl) rfl rfl rfl
    have x3 := ksv (hK 8 rfl) rfl rfl rfl
    exact ok_buildSlice (E := 0) (B := w1.heap.size) ty29 ty9 hE.size (parts_of (parts_cons rfl (parts_cons x1 (parts_cons x2 (parts_cons x3 parts_nil))))) (by first | (simp [Value.cells]; done) | (simp [Value.cells, bv, Dig.D_length]; done)) rfl (by omega)
  case z2_5 =>
    intro a' w' hE hK hg
    have x0 := ksp (hK 9 rfl) rfl rfl rfl
    exact ok_call1 fn30 rfl (dOf _ _ _ (.cons _ (.cons _ (.cons _ (.cons _ .nil)))) _ x0.slv (by first | (simp; done) | (simp only [List.mem_cons, List.not_mem_nil, or_false, forall_eq_or_imp, forall_eq, str_size, size1, size0, le4, List.length_cons, List.length_nil]; omega) | omega) (by first | (simp; done) | (simp only [List.mem_cons, List.not_mem_nil, or_false, forall_eq_or_imp, forall_eq, str_size, size1, size0, le4, List.length_cons, List.length_nil]; omega) | omega))
  case z2_6 =>
    intro a' w' hE hK hg
    have x0 := ksv (hK 10 rfl) rfl rfl rfl
    exact ok_call1 fn31 x0 (dText _ _ rfl)
  case z2_7 =>
    intro a' w' hE hK hg
    have x0 := ksv (hK 11 rfl) rfl rfl rfl
    exact ok_assign x0
  case zok2 => kernel_rfl
  case zgd2 => kernel_rfl
  intro a2 w2 hA' hE HF
  have r4 := ksv (HF 4) rfl rfl rfl
  clear hA HF
  have hA := hA'
  clear hA'
  have hLt := hB.size
  replace hB := hB.trans hE
  clear hE hLt
  refine (li_nil (nx_then ?_))
  refine (wp_ret ?_)
  refine retPure Try.results15 hA r4 hB ?_
  (show _ = _; simp only [chainL, lenL_bs, cat, List.flatMap_cons, List.flatMap_nil, List.append_nil, bs_str, bs1, List.append_assoc])

theorem dMarked (s t : ByteArray) (w0 : World) (hs : s.size ≤ 1099511627776) (ht : t.size ≤ 1099511627776) : Pure Try.prog 34 #[.string s, .string t] w0 (SP.isv (.agg (bv (D (markL (bs s) (bs t)))).toArray)).holds := by
  refine pure_of_wp Try.func34 rfl 14 Try.ntmps34 (by simp) fun a0 hA hs0 => ?_
  have r0 : a0.get 0 = .string s := hs0 0 _ rfl
  have r1 : a0.get 1 = .string t := hs0 1 _ rfl
  clear hs0
  have hB : Ext w0 w0 := Ext.refl _
  refine wp_seq ?_
  refine' region [_] mixed hA (.cons ?z1_0 .nil) ?zok1 ?zgd1 ?zk1
  case z1_0 =>
    intro a' w' hE hK hg
    exact ok_alloc (L := w0.heap.size) hE.size ty43
  case zok1 => kernel_rfl
  case zgd1 => kernel_rfl
  intro a1 w1 hA' hE HF
  replace r0 := kn (HF 0) rfl r0
  replace r1 := kn (HF 1) rfl r1
  have x4 := ksp (HF 4) rfl rfl rfl
  clear hA HF
  have hA := hA'
  clear hA'
  have hLt := hB.size
  replace hB := hB.trans hE
  obtain ⟨b4, hb4, r4, m_t4⟩ := x4
  have hb0_t4 : w0.heap.size ≤ b4 := Nat.le_trans hLt hb4
  clear hE hLt
  refine (li_nil (nx_then ?_))
  refine wp_seq ?_
  refine' region [_, _, _, _, _, _, _, _, _] mixed hA (.cons ?z2_0 (.cons ?z2_1 (.cons ?z2_2 (.cons ?z2_3 (.cons ?z2_4 (.cons ?z2_5 (.cons ?z2_6 (.cons ?z2_7 (.cons ?z2_8 .nil))))))))) ?zok2 ?zgd2 ?zk2
  case z2_0 =>
    intro a' w' hE hK hg
    have x0 := kn (hK 0 rfl) rfl r0
    exact ok_move x0
  case z2_1 =>
    intro a' w' hE hK hg
    have x0 := ksv (hK 5 rfl) rfl rfl rfl
    exact ok_call1 fn33 x0 (dLength _ _)
  case z2_2 =>
    intro a' w' hE hK hg
    have x0 := kn (hK 0 rfl) rfl r0
    exact ok_move x0
  case z2_3 =>
    intro a' w' hE hK hg
    have x0 := kn (hK 1 rfl) rfl r1
    exact ok_move x0
  case z2_4 =>
    intro a' w' hE hK hg
    have x0 := ksv (hK 8 rfl) rfl rfl rfl
    exact ok_call1 fn33 x0 (dLength _ _)
  case z2_5 =>
    intro a' w' hE hK hg
    have x0 := kn (hK 1 rfl) rfl r1
    exact ok_move x0
  case z2_6 =>
    intro a' w' hE hK hg
    have x0 := kn (hK 0 rfl) rfl r0
    exact ok_move x0
  case z2_7 =>
    intro a' w' hE hK hg
    have x1 := ksv (hK 6 rfl) rfl rfl rfl
    have x2 := ksv (hK 7 rfl) rfl rfl rfl
    have x3 := ksv (hK 9 rfl) rfl rfl rfl
    have x4 := ksv (hK 10 rfl) rfl rfl rfl
    have x5 := ksv (hK 11 rfl) rfl rfl rfl
    exact ok_buildSlice (E := 0) (B := w1.heap.size) ty29 ty9 hE.size (parts_of (parts_cons rfl (parts_cons x1 (parts_cons x2 (parts_cons x3 (parts_cons x4 (parts_cons x5 parts_nil))))))) (by first | (simp [Value.cells]; done) | (simp [Value.cells, bv, Dig.D_length]; done)) rfl (by omega)
  case z2_8 =>
    intro a' w' hE hK hg
    have x0 := ksp (hK 12 rfl) rfl rfl rfl
    exact ok_call1 fn30 rfl (dOf _ _ _ (.cons _ (.cons _ (.cons _ (.cons _ (.cons _ (.cons _ .nil)))))) _ x0.slv (by first | (simp; done) | (simp only [List.mem_cons, List.not_mem_nil, or_false, forall_eq_or_imp, forall_eq, str_size, size1, size0, le4, List.length_cons, List.length_nil]; omega) | omega) (by first | (simp; done) | (simp only [List.mem_cons, List.not_mem_nil, or_false, forall_eq_or_imp, forall_eq, str_size, size1, size0, le4, List.length_cons, List.length_nil]; omega) | omega))
  case zok2 => kernel_rfl
  case zgd2 => kernel_rfl
  intro a2 w2 hA' hE HF
  replace r4 := kn (HF 4) rfl r4
  have r13 := ksv (HF 13) rfl rfl rfl
  clear hA HF
  have hA := hA'
  clear hA'
  replace m_t4 := m_t4.ext hE
  have hLt := hB.size
  replace hB := hB.trans hE
  clear hE hLt
  refine t_storeAgg ty43 r4 r13 (by exact bv_one _) m_t4 (by rfl) fun w3 hE m_ => ?_
  replace m_t4 := m_; clear m_
  replace hB := ext_but hB hb0_t4 hE
  clear hE
  refine (li_nil (nx_then ?_))
  refine (wp_ret ?_)
  refine retPureCell Try.results34 hA r4 ty43 rfl m_t4 hB ?_
  (show _ = _; simp only [markL, lenL_bs, cat, List.flatMap_cons, List.flatMap_nil, List.append_nil, bs_str, bs1, List.append_assoc])

theorem dMark (s t : ByteArray) (w0 : World) (hs : s.size ≤ 1099511627776) (ht : t.size ≤ 1099511627776) : Pure Try.prog 17 #[.string s, .string t] w0 (SP.isv (.string (str (D (markL (bs s) (bs t)))))).holds := by
  refine pure_of_wp Try.func17 rfl 9 Try.ntmps17 (by simp) fun a0 hA hs0 => ?_
  have r0 : a0.get 0 = .string s := hs0 0 _ rfl
  have r1 : a0.get 1 = .string t := hs0 1 _ rfl
  clear hs0
  have hB : Ext w0 w0 := Ext.refl _
  refine wp_seq ?_
  refine' region [_] mixed hA (.cons ?z1_0 .nil) ?zok1 ?zgd1 ?zk1
  case z1_0 =>
    intro a' w' hE hK hg
    exact ok_assign rfl
  case zok1 => kernel_rfl
  case zgd1 => kernel_rfl
  intro a1 w1 hA' hE HF
  replace r0 := kn (HF 0) rfl r0
  replace r1 := kn (HF 1) rfl r1
  clear hA HF
  have hA := hA'
  clear hA'
  have hLt := hB.size
  replace hB := hB.trans hE
  clear hE hLt
  refine (li_nil (nx_then ?_))
  refine wp_seq ?_
  refine' region [_, _, _, _, _] mixed hA (.cons ?z2_0 (.cons ?z2_1 (.cons ?z2_2 (.cons ?z2_3 (.cons ?z2_4 .nil))))) ?zok2 ?zgd2 ?zk2
  case z2_0 =>
    intro a' w' hE hK hg
    have x0 := kn (hK 0 rfl) rfl r0
    exact ok_move x0
  case z2_1 =>
    intro a' w' hE hK hg
    have x0 := kn (hK 1 rfl) rfl r1
    exact ok_move x0
  case z2_2 =>
    intro a' w' hE hK hg
    have x0 := ksv (hK 5 rfl) rfl rfl rfl
    have x1 := ksv (hK 6 rfl) rfl rfl rfl
    exact ok_call2 fn34 x0 x1 (dMarked _ _ _ (by assumption) (by assumption))
  case z2_3 =>
    intro a' w' hE hK hg
    have x0 := ksv (hK 7 rfl) rfl rfl rfl
    exact ok_call1 fn31 x0 (dText _ _ rfl)
  case z2_4 =>
    intro a' w' hE hK hg
    have x0 := ksv (hK 8 rfl) rfl rfl rfl
    exact ok_assign x0
  case zok2 => kernel_rfl
  case zgd2 => kernel_rfl
  intro a2 w2 hA' hE HF
  have r4 := ksv (HF 4) rfl rfl rfl
  clear hA HF
  have hA := hA'
  clear hA'
  have hLt := hB.size
  replace hB := hB.trans hE
  clear hE hLt
  refine (li_nil (nx_then ?_))
  refine (wp_ret ?_)
  refine retPure Try.results17 hA r4 hB ?_
  (show _ = _; rfl)

theorem dCheck (s t m : ByteArray) (w0 : World) (hs : s.size ≤ 1099511627776) (ht : t.size ≤ 1099511627776) : Pure Try.prog 18 #[.string s, .string t, .string m] w0 (SP.isv (.bool (checkB s t m))).holds := by
  refine pure_of_wp Try.func18 rfl 24 Try.ntmps18 (by simp) fun a0 hA hs0 => ?_
  have r0 : a0.get 0 = .string s := hs0 0 _ rfl
  have r1 : a0.get 1 = .string t := hs0 1 _ rfl
  have r2 : a0.get 2 = .string m := hs0 2 _ rfl
  clear hs0
  have hB : Ext w0 w0 := Ext.refl _
  refine wp_seq ?_
  refine' region [_] mixed hA (.cons ?z1_0 .nil) ?zok1 ?zgd1 ?zk1
  case z1_0 =>
    intro a' w' hE hK hg
    exact ok_assign rfl
  case zok1 => kernel_rfl
  case zgd1 => kernel_rfl
  intro a1 w1 hA' hE HF
  replace r0 := kn (HF 0) rfl r0
  replace r1 := kn (HF 1) rfl r1
  replace r2 := kn (HF 2) rfl r2
  clear hA HF
  have hA := hA'
  clear hA'
  have hLt := hB.size
  replace hB := hB.trans hE
  clear hE hLt
  refine (li_nil (nx_then ?_))
  refine wp_seq ?_
  refine' region [_, _, _, _, _, _, _, _, _, _, _, _, _, _, _, _, _, _] mixed hA (.cons ?z2_0 (.cons ?z2_1 (.cons ?z2_2 (.cons ?z2_3 (.cons ?z2_4 (.cons ?z2_5 (.cons ?z2_6 (.cons ?z2_7 (.cons ?z2_8 (.cons ?z2_9 (.cons ?z2_10 (.cons ?z2_11 (.cons ?z2_12 (.cons ?z2_13 (.cons ?z2_14 (.cons ?z2_15 (.cons ?z2_16 (.cons ?z2_17 .nil)))))))))))))))))) ?zok2 ?zgd2 ?zk2
  case z2_0 =>
    intro a' w' hE hK hg
    have x0 := kn (hK 0 rfl) rfl r0
    exact ok_move x0
  case z2_1 =>
    intro a' w' hE hK hg
    have x0 := ksv (hK 7 rfl) rfl rfl rfl
    exact ok_neqS x0 rfl
  case z2_2 =>
    intro a' w' hE hK hg
    have x0 := ksv (hK 8 rfl) rfl rfl rfl
    exact ok_move x0
  case z2_3 =>
    intro a' w' hE hK hg
    have x0 := kn (hK 2 rfl) rfl r2
    exact ok_move x0
  case z2_4 =>
    intro a' w' hE hK hg
    have x0 := ksv (hK 10 rfl) rfl rfl hg
    exact ok_lenS ty9 x0
  case z2_5 =>
    intro a' w' hE hK hg
    have x0 := ksv (hK 11 rfl) rfl rfl hg
    exact ok_eqlI x0 rfl
  case z2_6 =>
    intro a' w' hE hK hg
    have x0 := ksv (hK 9 rfl) rfl rfl rfl
    exact ok_and x0 (fun hb => ksv (hK 12 rfl) rfl rfl (act_g1 rfl rfl hb))
  case z2_7 =>
    intro a' w' hE hK hg
    have x0 := ksv (hK 13 rfl) rfl rfl rfl
    exact ok_move x0
  case z2_8 =>
    intro a' w' hE hK hg
    have x0 := kn (hK 2 rfl) rfl r2
    exact ok_move x0
  case z2_9 =>
    intro a' w' hE hK hg
    have x0 := ksv (hK 15 rfl) rfl rfl hg
    exact ok_strToBytes (B := w1.heap.size) ty9 ty40 ty5 hE.size x0
  case z2_10 =>
    intro a' w' hE hK hg
    have x0 := ksp (hK 16 rfl) rfl rfl hg
    have hgc := agv rfl hg rfl; revert hgc; intro hgc
    obtain ⟨_, _, _, x1, x2⟩ := x0
    exact ok_toArrPtr ty43 x1 x2.slv (by (try simp only [Bool.and_eq_true, Bool.or_eq_true, Bool.and_eq_false_iff, Bool.or_eq_false_iff, Bool.not_eq_true', Bool.not_eq_false', decide_eq_true_eq, decide_eq_false_iff_not, ne_eq, Decidable.not_not, gt_iff_lt, ge_iff_le, Int.not_lt, Int.not_le, Nat.not_lt, Nat.not_le, Int.ofNat_lt, Int.ofNat_le] at hgc); (first | obtain ⟨⟨⟨⟨_, _⟩, _⟩, _⟩, _⟩ := hgc | obtain ⟨⟨⟨_, _⟩, _⟩, _⟩ := hgc | obtain ⟨⟨_, _⟩, _⟩ := hgc | obtain ⟨_, _⟩ := hgc | skip); (simp only [bv, List.length_map, bs_length] at *; omega)) (by decide) (by intro v hv; exact bv_scalar v hv)
  case z2_11 =>
    intro a' w' hE hK hg
    have x0 := ksp (hK 17 rfl) rfl rfl hg
    have hgc := agv rfl hg rfl; revert hgc; intro hgc
    exact ok_loadPtAgg ty43 rfl rfl x0 (by first | rfl | ((try simp only [Bool.and_eq_true, Bool.or_eq_true, Bool.and_eq_false_iff, Bool.or_eq_false_iff, Bool.not_eq_true', Bool.not_eq_false', decide_eq_true_eq, decide_eq_false_iff_not, ne_eq, Decidable.not_not, gt_iff_lt, ge_iff_le, Int.not_lt, Int.not_le, Nat.not_lt, Nat.not_le, Int.ofNat_lt, Int.ofNat_le] at hgc); (first | obtain ⟨⟨⟨⟨_, _⟩, _⟩, _⟩, _⟩ := hgc | obtain ⟨⟨⟨_, _⟩, _⟩, _⟩ := hgc | obtain ⟨⟨_, _⟩, _⟩ := hgc | obtain ⟨_, _⟩ := hgc | skip); (simp only [bv, List.size_toArray, List.length_map]; have := dl_length m; omega)))
  case z2_12 =>
    intro a' w' hE hK hg
    have x0 := kn (hK 0 rfl) rfl r0
    exact ok_move x0
  case z2_13 =>
    intro a' w' hE hK hg
    have x0 := kn (hK 1 rfl) rfl r1
    exact ok_move x0
  case z2_14 =>
    intro a' w' hE hK hg
    have x0 := ksv (hK 19 rfl) rfl rfl hg
    have x1 := ksv (hK 20 rfl) rfl rfl hg
    have hgc := agv rfl hg rfl; revert hgc; intro hgc
    exact ok_call2 fn34 x0 x1 (dMarked _ _ _ (by (try simp only [Bool.and_eq_true, Bool.or_eq_true, Bool.and_eq_false_iff, Bool.or_eq_false_iff, Bool.not_eq_true', Bool.not_eq_false', decide_eq_true_eq, decide_eq_false_iff_not, ne_eq, Decidable.not_not, gt_iff_lt, ge_iff_le, Int.not_lt, Int.not_le, Nat.not_lt, Nat.not_le, Int.ofNat_lt, Int.ofNat_le] at hgc); (first | obtain ⟨⟨⟨⟨_, _⟩, _⟩, _⟩, _⟩ := hgc | obtain ⟨⟨⟨_, _⟩, _⟩, _⟩ := hgc | obtain ⟨⟨_, _⟩, _⟩ := hgc | obtain ⟨_, _⟩ := hgc | skip); (assumption)) (by (try simp only [Bool.and_eq_true, Bool.or_eq_true, Bool.and_eq_false_iff, Bool.or_eq_false_iff, Bool.not_eq_true', Bool.not_eq_false', decide_eq_true_eq, decide_eq_false_iff_not, ne_eq, Decidable.not_not, gt_iff_lt, ge_iff_le, Int.not_lt, Int.not_le, Nat.not_lt, Nat.not_le, Int.ofNat_lt, Int.ofNat_le] at hgc); (first | obtain ⟨⟨⟨⟨_, _⟩, _⟩, _⟩, _⟩ := hgc | obtain ⟨⟨⟨_, _⟩, _⟩, _⟩ := hgc | obtain ⟨⟨_, _⟩, _⟩ := hgc | obtain ⟨_, _⟩ := hgc | skip); (assumption)))
  case z2_15 =>
    intro a' w' hE hK hg
    have x0 := ksv (hK 18 rfl) rfl rfl hg
    have x1 := ksv (hK 21 rfl) rfl rfl hg
    have hgc := agv rfl hg rfl; revert hgc; intro hgc
    exact ok_eqlA ty43 ty5 eg43 (x0.trans (agg_ints _)) (x1.trans (agg_ints _)) (by (try simp only [Bool.and_eq_true, Bool.or_eq_true, Bool.and_eq_false_iff, Bool.or_eq_false_iff, Bool.not_eq_true', Bool.not_eq_false', decide_eq_true_eq, decide_eq_false_iff_not, ne_eq, Decidable.not_not, gt_iff_lt, ge_iff_le, Int.not_lt, Int.not_le, Nat.not_lt, Nat.not_le, Int.ofNat_lt, Int.ofNat_le] at hgc); (first | obtain ⟨⟨⟨⟨_, _⟩, _⟩, _⟩, _⟩ := hgc | obtain ⟨⟨⟨_, _⟩, _⟩, _⟩ := hgc | obtain ⟨⟨_, _⟩, _⟩ := hgc | obtain ⟨_, _⟩ := hgc | skip); (first | (simp [iv, D_length]; done) | (simp only [iv, List.length_map]; have := dl_length m; omega))) (by (try simp only [Bool.and_eq_true, Bool.or_eq_true, Bool.and_eq_false_iff, Bool.or_eq_false_iff, Bool.not_eq_true', Bool.not_eq_false', decide_eq_true_eq, decide_eq_false_iff_not, ne_eq, Decidable.not_not, gt_iff_lt, ge_iff_le, Int.not_lt, Int.not_le, Nat.not_lt, Nat.not_le, Int.ofNat_lt, Int.ofNat_le] at hgc); (first | obtain ⟨⟨⟨⟨_, _⟩, _⟩, _⟩, _⟩ := hgc | obtain ⟨⟨⟨_, _⟩, _⟩, _⟩ := hgc | obtain ⟨⟨_, _⟩, _⟩ := hgc | obtain ⟨_, _⟩ := hgc | skip); (first | (simp [iv, D_length]; done) | (simp only [iv, List.length_map]; have := dl_length m; omega)))
  case z2_16 =>
    intro a' w' hE hK hg
    have x0 := ksv (hK 14 rfl) rfl rfl rfl
    exact ok_and x0 (fun hb => ksv (hK 22 rfl) rfl rfl (act_g1 rfl rfl hb))
  case z2_17 =>
    intro a' w' hE hK hg
    have x0 := ksv (hK 23 rfl) rfl rfl rfl
    exact ok_assign x0
  case zok2 => kernel_rfl
  case zgd2 => kernel_rfl
  intro a2 w2 hA' hE HF
  have r6 := ksv (HF 6) rfl rfl rfl
  clear hA HF
  have hA := hA'
  clear hA'
  have hLt := hB.size
  replace hB := hB.trans hE
  clear hE hLt
  refine (li_nil (nx_then ?_))
  refine (wp_ret ?_)
  refine retPure Try.results18 hA r6 hB ?_
  (show _ = _; exact congrArg _ (check_eq s t m))

theorem dLeaf (s : ByteArray) (w0 : World) (hs : s.size ≤ 1099511627776) : Pure Try.prog 23 #[.string s] w0 (SP.isv (.string (str (D (leafL (bs s)))))).holds := by
  refine pure_of_wp Try.func23 rfl 7 Try.ntmps23 (by simp) fun a0 hA hs0 => ?_
  have r0 : a0.get 0 = .string s := hs0 0 _ rfl
  clear hs0
  have hB : Ext w0 w0 := Ext.refl _
  refine wp_seq ?_
  refine' region [_] mixed hA (.cons ?z1_0 .nil) ?zok1 ?zgd1 ?zk1
  case z1_0 =>
    intro a' w' hE hK hg
    exact ok_assign rfl
  case zok1 => kernel_rfl
  case zgd1 => kernel_rfl
  intro a1 w1 hA' hE HF
  replace r0 := kn (HF 0) rfl r0
  clear hA HF
  have hA := hA'
  clear hA'
  have hLt := hB.size
  replace hB := hB.trans hE
  clear hE hLt
  refine (li_nil (nx_then ?_))
  refine wp_seq ?_
  refine' region [_, _, _, _, _] mixed hA (.cons ?z2_0 (.cons ?z2_1 (.cons ?z2_2 (.cons ?z2_3 (.cons ?z2_4 .nil))))) ?zok2 ?zgd2 ?zk2
  case z2_0 =>
    intro a' w' hE hK hg
    have x0 := kn (hK 0 rfl) rfl r0
    exact ok_move x0
  case z2_1 =>
    intro a' w' hE hK hg
    have x1 := ksv (hK 3 rfl) rfl rfl rfl
    exact ok_buildSlice (E := 0) (B := w1.heap.size) ty29 ty9 hE.size (parts_of (parts_cons rfl (parts_cons x1 parts_nil))) (by first | (simp [Value.cells]; done) | (simp [Value.cells, bv, Dig.D_length]; done)) rfl (by omega)
  case z2_2 =>
    intro a' w' hE hK hg
    have x0 := ksp (hK 4 rfl) rfl rfl rfl
    exact ok_call1 fn30 rfl (dOf _ _ _ (.cons _ (.cons _ .nil)) _ x0.slv (by first | (simp; done) | (simp only [List.mem_cons, List.not_mem_nil, or_false, forall_eq_or_imp, forall_eq, str_size, size1, size0, le4, List.length_cons, List.length_nil]; omega) | omega) (by first | (simp; done) | (simp only [List.mem_cons, List.not_mem_nil, or_false, forall_eq_or_imp, forall_eq, str_size, size1, size0, le4, List.length_cons, List.length_nil]; omega) | omega))
  case z2_3 =>
    intro a' w' hE hK hg
    have x0 := ksv (hK 5 rfl) rfl rfl rfl
    exact ok_call1 fn31 x0 (dText _ _ rfl)
  case z2_4 =>
    intro a' w' hE hK hg
    have x0 := ksv (hK 6 rfl) rfl rfl rfl
    exact ok_assign x0
  case zok2 => kernel_rfl
  case zgd2 => kernel_rfl
  intro a2 w2 hA' hE HF
  have r2 := ksv (HF 2) rfl rfl rfl
  clear hA HF
  have hA := hA'
  clear hA'
  have hLt := hB.size
  replace hB := hB.trans hE
  clear hE hLt
  refine (li_nil (nx_then ?_))
  refine (wp_ret ?_)
  refine retPure Try.results23 hA r2 hB ?_
  (show _ = _; simp only [leafL, cat, List.flatMap_cons, List.flatMap_nil, List.append_nil, bs1])

theorem dInner (s t : ByteArray) (w0 : World) (hs : s.size ≤ 1099511627776) (ht : t.size ≤ 1099511627776) : Pure Try.prog 25 #[.string s, .string t] w0 (SP.isv (.string (str (D (innerL (bs s) (bs t)))))).holds := by
  refine pure_of_wp Try.func25 rfl 10 Try.ntmps25 (by simp) fun a0 hA hs0 => ?_
  have r0 : a0.get 0 = .string s := hs0 0 _ rfl
  have r1 : a0.get 1 = .string t := hs0 1 _ rfl
  clear hs0
  have hB : Ext w0 w0 := Ext.refl _
  refine wp_seq ?_
  refine' region [_] mixed hA (.cons ?z1_0 .nil) ?zok1 ?zgd1 ?zk1
  case z1_0 =>
    intro a' w' hE hK hg
    exact ok_assign rfl
  case zok1 => kernel_rfl
  case zgd1 => kernel_rfl
  intro a1 w1 hA' hE HF
  replace r0 := kn (HF 0) rfl r0
  replace r1 := kn (HF 1) rfl r1
  clear hA HF
  have hA := hA'
  clear hA'
  have hLt := hB.size
  replace hB := hB.trans hE
  clear hE hLt
  refine (li_nil (nx_then ?_))
  refine wp_seq ?_
  refine' region [_, _, _, _, _, _] mixed hA (.cons ?z2_0 (.cons ?z2_1 (.cons ?z2_2 (.cons ?z2_3 (.cons ?z2_4 (.cons ?z2_5 .nil)))))) ?zok2 ?zgd2 ?zk2
  case z2_0 =>
    intro a' w' hE hK hg
    have x0 := kn (hK 0 rfl) rfl r0
    exact ok_move x0
  case z2_1 =>
    intro a' w' hE hK hg
    have x0 := kn (hK 1 rfl) rfl r1
    exact ok_move x0
  case z2_2 =>
    intro a' w' hE hK hg
    have x1 := ksv (hK 5 rfl) rfl rfl rfl
    have x2 := ksv (hK 6 rfl) rfl rfl rfl
    exact ok_buildSlice (E := 0) (B := w1.heap.size) ty29 ty9 hE.size (parts_of (parts_cons rfl (parts_cons x1 (parts_cons x2 parts_nil)))) (by first | (simp [Value.cells]; done) | (simp [Value.cells, bv, Dig.D_length]; done)) rfl (by omega)
  case z2_3 =>
    intro a' w' hE hK hg
    have x0 := ksp (hK 7 rfl) rfl rfl rfl
    exact ok_call1 fn30 rfl (dOf _ _ _ (.cons _ (.cons _ (.cons _ .nil))) _ x0.slv (by first | (simp; done) | (simp only [List.mem_cons, List.not_mem_nil, or_false, forall_eq_or_imp, forall_eq, str_size, size1, size0, le4, List.length_cons, List.length_nil]; omega) | omega) (by first | (simp; done) | (simp only [List.mem_cons, List.not_mem_nil, or_false, forall_eq_or_imp, forall_eq, str_size, size1, size0, le4, List.length_cons, List.length_nil]; omega) | omega))
  case z2_4 =>
    intro a' w' hE hK hg
    have x0 := ksv (hK 8 rfl) rfl rfl rfl
    exact ok_call1 fn31 x0 (dText _ _ rfl)
  case z2_5 =>
    intro a' w' hE hK hg
    have x0 := ksv (hK 9 rfl) rfl rfl rfl
    exact ok_assign x0
  case zok2 => kernel_rfl
  case zgd2 => kernel_rfl
  intro a2 w2 hA' hE HF
  have r4 := ksv (HF 4) rfl rfl rfl
  clear hA HF
  have hA := hA'
  clear hA'
  have hLt := hB.size
  replace hB := hB.trans hE
  clear hE hLt
  refine (li_nil (nx_then ?_))
  refine (wp_ret ?_)
  refine retPure Try.results25 hA r4 hB ?_
  (show _ = _; simp only [innerL, cat, List.flatMap_cons, List.flatMap_nil, List.append_nil, bs1, List.append_assoc])

theorem dMissing  (w0 : World) : Pure Try.prog 27 #[] w0 (SP.isv (.string (str (D missL)))).holds := by
  refine pure_of_wp Try.func27 rfl 4 Try.ntmps27 (by simp) fun a0 hA hs0 => ?_
  clear hs0
  have hB : Ext w0 w0 := Ext.refl _
  refine wp_seq ?_
  refine' region [_] mixed hA (.cons ?z1_0 .nil) ?zok1 ?zgd1 ?zk1
  case z1_0 =>
    intro a' w' hE hK hg
    exact ok_assign rfl
  case zok1 => kernel_rfl
  case zgd1 => kernel_rfl
  intro a1 w1 hA' hE HF
  clear hA HF
  have hA := hA'
  clear hA'
  have hLt := hB.size
  replace hB := hB.trans hE
  clear hE hLt
  refine (li_nil (nx_then ?_))
  refine wp_seq ?_
  refine' region [_, _, _, _] mixed hA (.cons ?z2_0 (.cons ?z2_1 (.cons ?z2_2 (.cons ?z2_3 .nil)))) ?zok2 ?zgd2 ?zk2
  case z2_0 =>
    intro a' w' hE hK hg
    exact ok_buildSlice (E := 0) (B := w1.heap.size) ty29 ty9 hE.size (parts_of (parts_cons rfl parts_nil)) (by first | (simp [Value.cells]; done) | (simp [Value.cells, bv, Dig.D_length]; done)) rfl (by omega)
  case z2_1 =>
    intro a' w' hE hK hg
    have x0 := ksp (hK 1 rfl) rfl rfl rfl
    exact ok_call1 fn30 rfl (dOf _ _ _ (.cons _ .nil) _ x0.slv (by first | (simp; done) | (simp only [List.mem_cons, List.not_mem_nil, or_false, forall_eq_or_imp, forall_eq, str_size, size1, size0, le4, List.length_cons, List.length_nil]; omega) | omega) (by first | (simp; done) | (simp only [List.mem_cons, List.not_mem_nil, or_false, forall_eq_or_imp, forall_eq, str_size, size1, size0, le4, List.length_cons, List.length_nil]; omega) | omega))
  case z2_2 =>
    intro a' w' hE hK hg
    have x0 := ksv (hK 2 rfl) rfl rfl rfl
    exact ok_call1 fn31 x0 (dText _ _ rfl)
  case z2_3 =>
    intro a' w' hE hK hg
    have x0 := ksv (hK 3 rfl) rfl rfl rfl
    exact ok_assign x0
  case zok2 => kernel_rfl
  case zgd2 => kernel_rfl
  intro a2 w2 hA' hE HF
  have r0 := ksv (HF 0) rfl rfl rfl
  clear hA HF
  have hA := hA'
  clear hA'
  have hLt := hB.size
  replace hB := hB.trans hE
  clear hE hLt
  refine (li_nil (nx_then ?_))
  refine (wp_ret ?_)
  refine retPure Try.results27 hA r0 hB ?_
  (show _ = _; rfl)
end Go.Proofs.Ytbkmnghnjajdmaa
