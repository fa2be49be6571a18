/- The digest package and its reference, walked by program (wip/gen). No statement stands here. -/
import Derived.Test.YtbkmnghnjajdmaaDigG
import Derived.Test.YtbkmnghnjajdmaaDigF
namespace Go.Proofs.Ytbkmnghnjajdmaa
open Go Go.RowKit Go.Eng Go.Dig
set_option linter.unusedVariables false
set_option linter.unusedSimpArgs false
theorem ty4 : Ty Try.prog 4 .bool (.bool false) 1 1 := ⟨by kernel_rfl, by kernel_rfl⟩
theorem ty23 : Ty Try.prog 23 (.struct (Try.prog.fieldsOf 23)) (.agg #[.int .u8 0, .int .u8 0, .string ⟨#[]⟩]) 3 24 := ⟨by kernel_rfl, by kernel_rfl⟩
theorem fn11 : FnOk Try.prog 11 := ⟨_, Try.func11, rfl, by kernel_rfl⟩
theorem lawKeys (s t : ByteArray) (x y : UInt8) (u : ByteArray) (x' y' : UInt8) (u' : ByteArray) (w0 : World) (hu : u.size ≤ 9223372036854775807) (hu' : u'.size ≤ 9223372036854775807) : Pure Try.prog 6 #[.string s, .string t, .agg #[.int .u8 (x.toNat : Int), .int .u8 (y.toNat : Int), .string u], .agg #[.int .u8 (x'.toNat : Int), .int .u8 (y'.toNat : Int), .string u']] w0 (SP.isv (.bool true)).holds := by
  refine pure_of_wp Try.func6 rfl 70 Try.ntmps6 (by simp) fun a0 hA hs0 => ?_
  have r0 : a0.get 0 = .string s := hs0 0 _ rfl
  have r1 : a0.get 1 = .string t := hs0 1 _ rfl
  have r2 : a0.get 2 = .agg #[.int .u8 (x.toNat : Int), .int .u8 (y.toNat : Int), .string u] := hs0 2 _ rfl
  have r3 : a0.get 3 = .agg #[.int .u8 (x'.toNat : Int), .int .u8 (y'.toNat : Int), .string u'] := hs0 3 _ rfl
  clear hs0
  have hB : Ext w0 w0 := Ext.refl _
  have hcs := cut_size 60 s; have hct := cut_size 60 t; have hch := chg_size x y u (cut 60 s); have hch' := chg_size x' y' u' (cut 60 t)
  refine wp_seq ?_
  refine' region [_, _, _] mixed hA (.cons ?z1_0 (.cons ?z1_1 (.cons ?z1_2 .nil))) ?zok1 ?zgd1 ?zk1
  case z1_0 =>
    intro a' w' hE hK hg
    have x0 := kn (hK 2 rfl) rfl r2
    exact ok_box (L := w0.heap.size) hE.size x0
  case z1_1 =>
    intro a' w' hE hK hg
    have x0 := kn (hK 3 rfl) rfl r3
    exact ok_box (L := w0.heap.size) hE.size x0
  case z1_2 =>
    intro a' w' hE hK hg
    exact ok_assign rfl
  case zok1 => kernel_rfl
  case zgd1 => kernel_rfl
  intro a1 w1 hA' hE HF
  replace r0 := kn (HF 0) rfl r0
  replace r1 := kn (HF 1) rfl r1
  have x6 := ksp (HF 6) rfl rfl rfl
  have x7 := ksp (HF 7) rfl rfl rfl
  clear hA HF
  have hA := hA'
  clear hA'
  have hLt := hB.size
  replace hB := hB.trans hE
  obtain ⟨b6, hb6, r6, m_t6⟩ := x6
  have hb0_t6 : w0.heap.size ≤ b6 := Nat.le_trans hLt hb6
  obtain ⟨b7, hb7, r7, m_t7⟩ := x7
  have hb0_t7 : w0.heap.size ≤ b7 := Nat.le_trans hLt hb7
  clear hE hLt
  refine (li_nil (nx_then ?_))
  refine wp_seq ?_
  refine' region [_, _] mixed hA (.cons ?z2_0 (.cons ?z2_1 .nil)) ?zok2 ?zgd2 ?zk2
  case z2_0 =>
    intro a' w' hE hK hg
    exact ok_call0 fn9  (lSanity _)
  case z2_1 =>
    intro a' w' hE hK hg
    have x0 := ksv (hK 14 rfl) rfl rfl rfl
    exact ok_assign x0
  case zok2 => kernel_rfl
  case zgd2 => kernel_rfl
  intro a2 w2 hA' hE HF
  replace r0 := kn (HF 0) rfl r0
  replace r1 := kn (HF 1) rfl r1
  replace r6 := kn (HF 6) rfl r6
  replace r7 := kn (HF 7) rfl r7
  have r9 := ksv (HF 9) rfl rfl rfl
  clear hA HF
  have hA := hA'
  clear hA'
  replace m_t6 := m_t6.ext hE
  replace m_t7 := m_t7.ext hE
  have hLt := hB.size
  replace hB := hB.trans hE
  clear hE hLt
  refine (li_nil (nx_then ?_))
  refine wp_seq ?_
  refine' region [_, _, _, _, _, _] mixed hA (.cons ?z3_0 (.cons ?z3_1 (.cons ?z3_2 (.cons ?z3_3 (.cons ?z3_4 (.cons ?z3_5 .nil)))))) ?zok3 ?zgd3 ?zk3
  case z3_0 =>
    intro a' w' hE hK hg
    have x0 := kn (hK 0 rfl) rfl r0
    exact ok_move x0
  case z3_1 =>
    intro a' w' hE hK hg
    have x0 := ksv (hK 15 rfl) rfl rfl rfl
    exact ok_call1 fn10 x0 (lShort _ _)
  case z3_2 =>
    intro a' w' hE hK hg
    have x0 := kn (hK 1 rfl) rfl r1
    exact ok_move x0
  case z3_3 =>
    intro a' w' hE hK hg
    have x0 := ksv (hK 17 rfl) rfl rfl rfl
    exact ok_call1 fn10 x0 (lShort _ _)
  case z3_4 =>
    intro a' w' hE hK hg
    have x0 := ksv (hK 16 rfl) rfl rfl rfl
    exact ok_assign x0
  case z3_5 =>
    intro a' w' hE hK hg
    have x0 := ksv (hK 18 rfl) rfl rfl rfl
    exact ok_assign x0
  case zok3 => kernel_rfl
  case zgd3 => kernel_rfl
  intro a3 w3 hA' hE HF
  replace r0 := ksv (HF 0) rfl rfl rfl
  replace r1 := ksv (HF 1) rfl rfl rfl
  replace r6 := kn (HF 6) rfl r6
  replace r7 := kn (HF 7) rfl r7
  replace r9 := kn (HF 9) rfl r9
  clear hA HF
  have hA := hA'
  clear hA'
  replace m_t6 := m_t6.ext hE
  replace m_t7 := m_t7.ext hE
  have hLt := hB.size
  replace hB := hB.trans hE
  clear hE hLt
  refine (li_nil (nx_then ?_))
  refine wp_seq ?_
  refine' region [_, _, _, _] mixed hA (.cons ?z4_0 (.cons ?z4_1 (.cons ?z4_2 (.cons ?z4_3 .nil)))) ?zok4 ?zgd4 ?zk4
  case z4_0 =>
    intro a' w' hE hK hg
    have x0 := kn (hK 0 rfl) rfl r0
    exact ok_move x0
  case z4_1 =>
    intro a' w' hE hK hg
    have x0 := kn (hK 1 rfl) rfl r1
    exact ok_move x0
  case z4_2 =>
    intro a' w' hE hK hg
    have x0 := ksv (hK 19 rfl) rfl rfl rfl
    have x1 := ksv (hK 20 rfl) rfl rfl rfl
    exact ok_call2 fn17 x0 x1 (dMark _ _ _ (by first | assumption | omega | (simp; done) | (simp only [str_size, ByteArray.size_append, size1, size0, D_length, List.length_cons, List.length_nil] at *; omega)) (by first | assumption | omega | (simp; done) | (simp only [str_size, ByteArray.size_append, size1, size0, D_length, List.length_cons, List.length_nil] at *; omega)))
  case z4_3 =>
    intro a' w' hE hK hg
    have x0 := ksv (hK 21 rfl) rfl rfl rfl
    exact ok_assign x0
  case zok4 => kernel_rfl
  case zgd4 => kernel_rfl
  intro a4 w4 hA' hE HF
  replace r0 := kn (HF 0) rfl r0
  replace r1 := kn (HF 1) rfl r1
  replace r6 := kn (HF 6) rfl r6
  replace r7 := kn (HF 7) rfl r7
  replace r9 := kn (HF 9) rfl r9
  have r10 := ksv (HF 10) rfl rfl rfl
  clear hA HF
  have hA := hA'
  clear hA'
  replace m_t6 := m_t6.ext hE
  replace m_t7 := m_t7.ext hE
  have hLt := hB.size
  replace hB := hB.trans hE
  clear hE hLt
  refine (li_nil (nx_then ?_))
  refine wp_seq ?_
  refine wp_seq ?_
  refine' region [_, _] mixed hA (.cons ?z5_0 (.cons ?z5_1 .nil)) ?zok5 ?zgd5 ?zk5
  case z5_0 =>
    intro a' w' hE hK hg
    have x0 := kn (hK 0 rfl) rfl r0
    exact ok_move x0
  case z5_1 =>
    intro a' w' hE hK hg
    have x0 := ksv (hK 22 rfl) rfl rfl rfl
    exact ok_eqlS x0 rfl
  case zok5 => kernel_rfl
  case zgd5 => kernel_rfl
  intro a5 w5 hA' hE HF
  replace r0 := kn (HF 0) rfl r0
  replace r1 := kn (HF 1) rfl r1
  replace r6 := kn (HF 6) rfl r6
  replace r7 := kn (HF 7) rfl r7
  replace r9 := kn (HF 9) rfl r9
  replace r10 := kn (HF 10) rfl r10
  have r23 := ksv (HF 23) rfl rfl rfl
  clear hA HF
  have hA := hA'
  clear hA'
  replace m_t6 := m_t6.ext hE
  replace m_t7 := m_t7.ext hE
  have hLt := hB.size
  replace hB := hB.trans hE
  clear hE hLt
  refine (li_nil (nx_then ?_))
  refine wp_cond_b r23 (fun hc => ?_) (fun hc => ?_)
  ·
    try simp only [Bool.and_eq_true, Bool.or_eq_true, Bool.and_eq_false_iff, Bool.or_eq_false_iff, Bool.not_eq_true', Bool.not_eq_false', decide_eq_true_eq, decide_eq_false_iff_not, ne_eq, Decidable.not_not, gt_iff_lt, ge_iff_le, Int.not_lt, Int.not_le, Nat.not_lt, Nat.not_le, Int.ofNat_lt, Int.ofNat_le] at hc
    refine wp_seq ?_
    refine' region [_, _, _, _, _, _, _, _, _] mixed hA (.cons ?z7_0 (.cons ?z7_1 (.cons ?z7_2 (.cons ?z7_3 (.cons ?z7_4 (.cons ?z7_5 (.cons ?z7_6 (.cons ?z7_7 (.cons ?z7_8 .nil))))))))) ?zok7 ?zgd7 ?zk7
    case z7_0 =>
      intro a' w' hE hK hg
      have x0 := kn (hK 9 rfl) rfl r9
      exact ok_move x0
    case z7_1 =>
      intro a' w' hE hK hg
      have x0 := ksv (hK 24 rfl) rfl rfl rfl
      exact ok_move x0
    case z7_2 =>
      intro a' w' hE hK hg
      have x0 := kn (hK 0 rfl) rfl r0
      exact ok_move x0
    case z7_3 =>
      intro a' w' hE hK hg
      have x0 := kn (hK 1 rfl) rfl r1
      exact ok_move x0
    case z7_4 =>
      intro a' w' hE hK hg
      have x0 := kn (hK 10 rfl) rfl r10
      exact ok_move x0
    case z7_5 =>
      intro a' w' hE hK hg
      have x0 := ksv (hK 26 rfl) rfl rfl hg
      have x1 := ksv (hK 27 rfl) rfl rfl hg
      have x2 := ksv (hK 28 rfl) rfl rfl hg
      have hgc := agv rfl hg rfl; revert hgc; intro hgc
      exact ok_call3 fn18 x0 x1 x2 (dCheck _ _ _ _ (by (try simp only [Bool.and_eq_true, Bool.or_eq_true, Bool.and_eq_false_iff, Bool.or_eq_false_iff, Bool.not_eq_true', Bool.not_eq_false', decide_eq_true_eq, decide_eq_false_iff_not, ne_eq, Decidable.not_not, gt_iff_lt, ge_iff_le, Int.not_lt, Int.not_le, Nat.not_lt, Nat.not_le, Int.ofNat_lt, Int.ofNat_le] at hgc); (first | obtain ⟨⟨⟨⟨_, _⟩, _⟩, _⟩, _⟩ := hgc | obtain ⟨⟨⟨_, _⟩, _⟩, _⟩ := hgc | obtain ⟨⟨_, _⟩, _⟩ := hgc | obtain ⟨_, _⟩ := hgc | skip); (first | assumption | omega | (simp; done) | (simp only [str_size, ByteArray.size_append, size1, size0, D_length, List.length_cons, List.length_nil] at *; omega))) (by (try simp only [Bool.and_eq_true, Bool.or_eq_true, Bool.and_eq_false_iff, Bool.or_eq_false_iff, Bool.not_eq_true', Bool.not_eq_false', decide_eq_true_eq, decide_eq_false_iff_not, ne_eq, Decidable.not_not, gt_iff_lt, ge_iff_le, Int.not_lt, Int.not_le, Nat.not_lt, Nat.not_le, Int.ofNat_lt, Int.ofNat_le] at hgc); (first | obtain ⟨⟨⟨⟨_, _⟩, _⟩, _⟩, _⟩ := hgc | obtain ⟨⟨⟨_, _⟩, _⟩, _⟩ := hgc | obtain ⟨⟨_, _⟩, _⟩ := hgc | obtain ⟨_, _⟩ := hgc | skip); (first | assumption | omega | (simp; done) | (simp only [str_size, ByteArray.size_append, size1, size0, D_length, List.length_cons, List.length_nil] at *; omega))))
    case z7_6 =>
      intro a' w' hE hK hg
      have x0 := ksv (hK 29 rfl) rfl rfl hg
      exact ok_not x0
    case z7_7 =>
      intro a' w' hE hK hg
      have x0 := ksv (hK 25 rfl) rfl rfl rfl
      exact ok_and x0 (fun hb => ksv (hK 30 rfl) rfl rfl (act_g1 rfl rfl hb))
    case z7_8 =>
      intro a' w' hE hK hg
      have x0 := ksv (hK 31 rfl) rfl rfl rfl
      exact ok_assign x0
    case zok7 => kernel_rfl
    case zgd7 => kernel_rfl
    intro a6 w6 hA' hE HF
    have r8 := ksv (HF 8) rfl rfl rfl
    clear hA HF
    have hA := hA'
    clear hA'
    replace m_t6 := m_t6.ext hE
    replace m_t7 := m_t7.ext hE
    have hLt := hB.size
    replace hB := hB.trans hE
    clear hE hLt
    clear m_t6
    clear m_t7
    refine (li_nil (nx_then ?_))
    refine (wp_ret (rt_then ?_))
    refine retPure Try.results6 hA r8 hB ?_
    (show _ = _; first | exact congrArg _ (keys_b _ _ _ _ hc) | exact congrArg _ (keys_a _ _ hc))
  ·
    try simp only [Bool.and_eq_true, Bool.or_eq_true, Bool.and_eq_false_iff, Bool.or_eq_false_iff, Bool.not_eq_true', Bool.not_eq_false', decide_eq_true_eq, decide_eq_false_iff_not, ne_eq, Decidable.not_not, gt_iff_lt, ge_iff_le, Int.not_lt, Int.not_le, Nat.not_lt, Nat.not_le, Int.ofNat_lt, Int.ofNat_le] at hc
    refine wp_skip ?_
    refine (nx_then ?_)
    refine wp_seq ?_
    refine' region [_, _, _, _, _, _, _, _] mixed hA (.cons ?z9_0 (.cons ?z9_1 (.cons ?z9_2 (.cons ?z9_3 (.cons ?z9_4 (.cons ?z9_5 (.cons ?z9_6 (.cons ?z9_7 .nil)))))))) ?zok9 ?zgd9 ?zk9
    case z9_0 =>
      intro a' w' hE hK hg
      have x0 := kn (hK 6 rfl) rfl r6
      exact ok_loadOwnAgg ty23 rfl x0 (m_t6.ext hE) (by first | rfl | (first | assumption | omega | (simp; done) | (simp only [str_size, ByteArray.size_append, size1, size0, D_length, List.length_cons, List.length_nil] at *; omega)))
    case z9_1 =>
      intro a' w' hE hK hg
      have x0 := kn (hK 0 rfl) rfl r0
      exact ok_move x0
    case z9_2 =>
      intro a' w' hE hK hg
      have x0 := ksv (hK 32 rfl) rfl rfl rfl
      have x1 := ksv (hK 33 rfl) rfl rfl rfl
      exact ok_call2 fn11 x0 x1 (lChange _ _ _ _ _ (by first | assumption | omega | (simp; done) | (simp only [str_size, ByteArray.size_append, size1, size0, D_length, List.length_cons, List.length_nil] at *; omega)) (by first | assumption | omega | (simp; done) | (simp only [str_size, ByteArray.size_append, size1, size0, D_length, List.length_cons, List.length_nil] at *; omega)))
    case z9_3 =>
      intro a' w' hE hK hg
      have x0 := kn (hK 7 rfl) rfl r7
      exact ok_loadOwnAgg ty23 rfl x0 (m_t7.ext hE) (by first | rfl | (first | assumption | omega | (simp; done) | (simp only [str_size, ByteArray.size_append, size1, size0, D_length, List.length_cons, List.length_nil] at *; omega)))
    case z9_4 =>
      intro a' w' hE hK hg
      have x0 := kn (hK 1 rfl) rfl r1
      exact ok_move x0
    case z9_5 =>
      intro a' w' hE hK hg
      have x0 := ksv (hK 35 rfl) rfl rfl rfl
      have x1 := ksv (hK 36 rfl) rfl rfl rfl
      exact ok_call2 fn11 x0 x1 (lChange _ _ _ _ _ (by first | assumption | omega | (simp; done) | (simp only [str_size, ByteArray.size_append, size1, size0, D_length, List.length_cons, List.length_nil] at *; omega)) (by first | assumption | omega | (simp; done) | (simp only [str_size, ByteArray.size_append, size1, size0, D_length, List.length_cons, List.length_nil] at *; omega)))
    case z9_6 =>
      intro a' w' hE hK hg
      have x0 := ksv (hK 34 rfl) rfl rfl rfl
      exact ok_assign x0
    case z9_7 =>
      intro a' w' hE hK hg
      have x0 := ksv (hK 37 rfl) rfl rfl rfl
      exact ok_assign x0
    case zok9 => kernel_rfl
    case zgd9 => kernel_rfl
    intro a7 w7 hA' hE HF
    replace r0 := kn (HF 0) rfl r0
    replace r1 := kn (HF 1) rfl r1
    replace r9 := kn (HF 9) rfl r9
    replace r10 := kn (HF 10) rfl r10
    have r11 := ksv (HF 11) rfl rfl rfl
    have r12 := ksv (HF 12) rfl rfl rfl
    clear hA HF
    have hA := hA'
    clear hA'
    replace m_t6 := m_t6.ext hE
    replace m_t7 := m_t7.ext hE
    have hLt := hB.size
    replace hB := hB.trans hE
    clear hE hLt
    clear m_t6
    clear m_t7
    refine (li_nil (nx_then ?_))
    refine wp_seq ?_
    refine' region [_, _, _, _, _, _, _, _, _, _] mixed hA (.cons ?z10_0 (.cons ?z10_1 (.cons ?z10_2 (.cons ?z10_3 (.cons ?z10_4 (.cons ?z10_5 (.cons ?z10_6 (.cons ?z10_7 (.cons ?z10_8 (.cons ?z10_9 .nil)))))))))) ?zok10 ?zgd10 ?zk10
    case z10_0 =>
      intro a' w' hE hK hg
      have x0 := kn (hK 11 rfl) rfl r11
      exact ok_move x0
    case z10_1 =>
      intro a' w' hE hK hg
      have x0 := kn (hK 12 rfl) rfl r12
      exact ok_move x0
    case z10_2 =>
      intro a' w' hE hK hg
      have x0 := ksv (hK 38 rfl) rfl rfl rfl
      have x1 := ksv (hK 39 rfl) rfl rfl rfl
      exact ok_call2 fn12 x0 x1 (rMark _ _ _ (by first | assumption | omega | (simp; done) | (simp only [str_size, ByteArray.size_append, size1, size0, D_length, List.length_cons, List.length_nil] at *; omega)) (by first | assumption | omega | (simp; done) | (simp only [str_size, ByteArray.size_append, size1, size0, D_length, List.length_cons, List.length_nil] at *; omega)))
    case z10_3 =>
      intro a' w' hE hK hg
      have x0 := kn (hK 10 rfl) rfl r10
      exact ok_move x0
    case z10_4 =>
      intro a' w' hE hK hg
      have x0 := ksv (hK 40 rfl) rfl rfl rfl
      have x1 := ksv (hK 41 rfl) rfl rfl rfl
      exact ok_eqlS x0 x1
    case z10_5 =>
      intro a' w' hE hK hg
      have x0 := ksv (hK 42 rfl) rfl rfl rfl
      exact ok_move x0
    case z10_6 =>
      intro a' w' hE hK hg
      have x0 := kn (hK 11 rfl) rfl r11
      exact ok_move x0
    case z10_7 =>
      intro a' w' hE hK hg
      have x0 := ksv (hK 44 rfl) rfl rfl hg
      exact ok_neqS x0 rfl
    case z10_8 =>
      intro a' w' hE hK hg
      have x0 := ksv (hK 43 rfl) rfl rfl rfl
      exact ok_and x0 (fun hb => ksv (hK 45 rfl) rfl rfl (act_g1 rfl rfl hb))
    case z10_9 =>
      intro a' w' hE hK hg
      have x0 := ksv (hK 46 rfl) rfl rfl rfl
      exact ok_assign x0
    case zok10 => kernel_rfl
    case zgd10 => kernel_rfl
    intro a8 w8 hA' hE HF
    replace r0 := kn (HF 0) rfl r0
    replace r1 := kn (HF 1) rfl r1
    replace r9 := kn (HF 9) rfl r9
    replace r10 := kn (HF 10) rfl r10
    replace r11 := kn (HF 11) rfl r11
    replace r12 := kn (HF 12) rfl r12
    have r13 := ksv (HF 13) rfl rfl rfl
    clear hA HF
    have hA := hA'
    clear hA'
    have hLt := hB.size
    replace hB := hB.trans hE
    clear hE hLt
    refine (li_nil (nx_then ?_))
    refine wp_seq ?_
    refine' region [_, _, _, _, _, _, _, _, _, _, _, _, _, _, _, _, _, _, _, _, _, _, _, _] mixed hA (.cons ?z11_0 (.cons ?z11_1 (.cons ?z11_2 (.cons ?z11_3 (.cons ?z11_4 (.cons ?z11_5 (.cons ?z11_6 (.cons ?z11_7 (.cons ?z11_8 (.cons ?z11_9 (.cons ?z11_10 (.cons ?z11_11 (.cons ?z11_12 (.cons ?z11_13 (.cons ?z11_14 (.cons ?z11_15 (.cons ?z11_16 (.cons ?z11_17 (.cons ?z11_18 (.cons ?z11_19 (.cons ?z11_20 (.cons ?z11_21 (.cons ?z11_22 (.cons ?z11_23 .nil)))))))))))))))))))))))) ?zok11 ?zgd11 ?zk11
    case z11_0 =>
      intro a' w' hE hK hg
      have x0 := kn (hK 9 rfl) rfl r9
      exact ok_move x0
    case z11_1 =>
      intro a' w' hE hK hg
      have x0 := ksv (hK 47 rfl) rfl rfl rfl
      exact ok_move x0
    case z11_2 =>
      intro a' w' hE hK hg
      have x0 := kn (hK 0 rfl) rfl r0
      exact ok_move x0
    case z11_3 =>
      intro a' w' hE hK hg
      have x0 := kn (hK 1 rfl) rfl r1
      exact ok_move x0
    case z11_4 =>
      intro a' w' hE hK hg
      have x0 := kn (hK 10 rfl) rfl r10
      exact ok_move x0
    case z11_5 =>
      intro a' w' hE hK hg
      have x0 := ksv (hK 49 rfl) rfl rfl hg
      have x1 := ksv (hK 50 rfl) rfl rfl hg
      have x2 := ksv (hK 51 rfl) rfl rfl hg
      have hgc := agv rfl hg rfl; revert hgc; intro hgc
      exact ok_call3 fn18 x0 x1 x2 (dCheck _ _ _ _ (by (try simp only [Bool.and_eq_true, Bool.or_eq_true, Bool.and_eq_false_iff, Bool.or_eq_false_iff, Bool.not_eq_true', Bool.not_eq_false', decide_eq_true_eq, decide_eq_false_iff_not, ne_eq, Decidable.not_not, gt_iff_lt, ge_iff_le, Int.not_lt, Int.not_le, Nat.not_lt, Nat.not_le, Int.ofNat_lt, Int.ofNat_le] at hgc); (first | obtain ⟨⟨⟨⟨_, _⟩, _⟩, _⟩, _⟩ := hgc | obtain ⟨⟨⟨_, _⟩, _⟩, _⟩ := hgc | obtain ⟨⟨_, _⟩, _⟩ := hgc | obtain ⟨_, _⟩ := hgc | skip); (first | assumption | omega | (simp; done) | (simp only [str_size, ByteArray.size_append, size1, size0, D_length, List.length_cons, List.length_nil] at *; omega))) (by (try simp only [Bool.and_eq_true, Bool.or_eq_true, Bool.and_eq_false_iff, Bool.or_eq_false_iff, Bool.not_eq_true', Bool.not_eq_false', decide_eq_true_eq, decide_eq_false_iff_not, ne_eq, Decidable.not_not, gt_iff_lt, ge_iff_le, Int.not_lt, Int.not_le, Nat.not_lt, Nat.not_le, Int.ofNat_lt, Int.ofNat_le] at hgc); (first | obtain ⟨⟨⟨⟨_, _⟩, _⟩, _⟩, _⟩ := hgc | obtain ⟨⟨⟨_, _⟩, _⟩, _⟩ := hgc | obtain ⟨⟨_, _⟩, _⟩ := hgc | obtain ⟨_, _⟩ := hgc | skip); (first | assumption | omega | (simp; done) | (simp only [str_size, ByteArray.size_append, size1, size0, D_length, List.length_cons, List.length_nil] at *; omega))))
    case z11_6 =>
      intro a' w' hE hK hg
      have x0 := ksv (hK 48 rfl) rfl rfl rfl
      exact ok_and x0 (fun hb => ksv (hK 52 rfl) rfl rfl (act_g1 rfl rfl hb))
    case z11_7 =>
      intro a' w' hE hK hg
      have x0 := ksv (hK 53 rfl) rfl rfl rfl
      exact ok_move x0
    case z11_8 =>
      intro a' w' hE hK hg
      have x0 := kn (hK 0 rfl) rfl r0
      exact ok_move x0
    case z11_9 =>
      intro a' w' hE hK hg
      have x0 := kn (hK 1 rfl) rfl r1
      exact ok_move x0
    case z11_10 =>
      intro a' w' hE hK hg
      have x0 := kn (hK 10 rfl) rfl r10
      exact ok_move x0
    case z11_11 =>
      intro a' w' hE hK hg
      have x0 := ksv (hK 57 rfl) rfl rfl hg
      have hgc := agv rfl hg rfl; revert hgc; intro hgc
      exact ok_addS x0 rfl (by (try simp only [Bool.and_eq_true, Bool.or_eq_true, Bool.and_eq_false_iff, Bool.or_eq_false_iff, Bool.not_eq_true', Bool.not_eq_false', decide_eq_true_eq, decide_eq_false_iff_not, ne_eq, Decidable.not_not, gt_iff_lt, ge_iff_le, Int.not_lt, Int.not_le, Nat.not_lt, Nat.not_le, Int.ofNat_lt, Int.ofNat_le] at hgc); (first | obtain ⟨⟨⟨⟨_, _⟩, _⟩, _⟩, _⟩ := hgc | obtain ⟨⟨⟨_, _⟩, _⟩, _⟩ := hgc | obtain ⟨⟨_, _⟩, _⟩ := hgc | obtain ⟨_, _⟩ := hgc | skip); (first | assumption | omega | (simp; done) | (simp only [str_size, ByteArray.size_append, size1, size0, D_length, List.length_cons, List.length_nil] at *; omega)))
    case z11_12 =>
      intro a' w' hE hK hg
      have x0 := ksv (hK 55 rfl) rfl rfl hg
      have x1 := ksv (hK 56 rfl) rfl rfl hg
      have x2 := ksv (hK 58 rfl) rfl rfl hg
      have hgc := agv rfl hg rfl; revert hgc; intro hgc
      exact ok_call3 fn18 x0 x1 x2 (dCheck _ _ _ _ (by (try simp only [Bool.and_eq_true, Bool.or_eq_true, Bool.and_eq_false_iff, Bool.or_eq_false_iff, Bool.not_eq_true', Bool.not_eq_false', decide_eq_true_eq, decide_eq_false_iff_not, ne_eq, Decidable.not_not, gt_iff_lt, ge_iff_le, Int.not_lt, Int.not_le, Nat.not_lt, Nat.not_le, Int.ofNat_lt, Int.ofNat_le] at hgc); (first | obtain ⟨⟨⟨⟨_, _⟩, _⟩, _⟩, _⟩ := hgc | obtain ⟨⟨⟨_, _⟩, _⟩, _⟩ := hgc | obtain ⟨⟨_, _⟩, _⟩ := hgc | obtain ⟨_, _⟩ := hgc | skip); (first | assumption | omega | (simp; done) | (simp only [str_size, ByteArray.size_append, size1, size0, D_length, List.length_cons, List.length_nil] at *; omega))) (by (try simp only [Bool.and_eq_true, Bool.or_eq_true, Bool.and_eq_false_iff, Bool.or_eq_false_iff, Bool.not_eq_true', Bool.not_eq_false', decide_eq_true_eq, decide_eq_false_iff_not, ne_eq, Decidable.not_not, gt_iff_lt, ge_iff_le, Int.not_lt, Int.not_le, Nat.not_lt, Nat.not_le, Int.ofNat_lt, Int.ofNat_le] at hgc); (first | obtain ⟨⟨⟨⟨_, _⟩, _⟩, _⟩, _⟩ := hgc | obtain ⟨⟨⟨_, _⟩, _⟩, _⟩ := hgc | obtain ⟨⟨_, _⟩, _⟩ := hgc | obtain ⟨_, _⟩ := hgc | skip); (first | assumption | omega | (simp; done) | (simp only [str_size, ByteArray.size_append, size1, size0, D_length, List.length_cons, List.length_nil] at *; omega))))
    case z11_13 =>
      intro a' w' hE hK hg
      have x0 := ksv (hK 59 rfl) rfl rfl hg
      exact ok_not x0
    case z11_14 =>
      intro a' w' hE hK hg
      have x0 := ksv (hK 54 rfl) rfl rfl rfl
      exact ok_and x0 (fun hb => ksv (hK 60 rfl) rfl rfl (act_g1 rfl rfl hb))
    case z11_15 =>
      intro a' w' hE hK hg
      have x0 := ksv (hK 61 rfl) rfl rfl rfl
      exact ok_move x0
    case z11_16 =>
      intro a' w' hE hK hg
      have x0 := kn (hK 11 rfl) rfl r11
      exact ok_move x0
    case z11_17 =>
      intro a' w' hE hK hg
      have x0 := kn (hK 12 rfl) rfl r12
      exact ok_move x0
    case z11_18 =>
      intro a' w' hE hK hg
      have x0 := kn (hK 10 rfl) rfl r10
      exact ok_move x0
    case z11_19 =>
      intro a' w' hE hK hg
      have x0 := ksv (hK 63 rfl) rfl rfl hg
      have x1 := ksv (hK 64 rfl) rfl rfl hg
      have x2 := ksv (hK 65 rfl) rfl rfl hg
      have hgc := agv rfl hg rfl; revert hgc; intro hgc
      exact ok_call3 fn18 x0 x1 x2 (dCheck _ _ _ _ (by (try simp only [Bool.and_eq_true, Bool.or_eq_true, Bool.and_eq_false_iff, Bool.or_eq_false_iff, Bool.not_eq_true', Bool.not_eq_false', decide_eq_true_eq, decide_eq_false_iff_not, ne_eq, Decidable.not_not, gt_iff_lt, ge_iff_le, Int.not_lt, Int.not_le, Nat.not_lt, Nat.not_le, Int.ofNat_lt, Int.ofNat_le] at hgc); (first | obtain ⟨⟨⟨⟨_, _⟩, _⟩, _⟩, _⟩ := hgc | obtain ⟨⟨⟨_, _⟩, _⟩, _⟩ := hgc | obtain ⟨⟨_, _⟩, _⟩ := hgc | obtain ⟨_, _⟩ := hgc | skip); (first | assumption | omega | (simp; done) | (simp only [str_size, ByteArray.size_append, size1, size0, D_length, List.length_cons, List.length_nil] at *; omega))) (by (try simp only [Bool.and_eq_true, Bool.or_eq_true, Bool.and_eq_false_iff, Bool.or_eq_false_iff, Bool.not_eq_true', Bool.not_eq_false', decide_eq_true_eq, decide_eq_false_iff_not, ne_eq, Decidable.not_not, gt_iff_lt, ge_iff_le, Int.not_lt, Int.not_le, Nat.not_lt, Nat.not_le, Int.ofNat_lt, Int.ofNat_le] at hgc); (first | obtain ⟨⟨⟨⟨_, _⟩, _⟩, _⟩, _⟩ := hgc | obtain ⟨⟨⟨_, _⟩, _⟩, _⟩ := hgc | obtain ⟨⟨_, _⟩, _⟩ := hgc | obtain ⟨_, _⟩ := hgc | skip); (first | assumption | omega | (simp; done) | (simp only [str_size, ByteArray.size_append, size1, size0, D_length, List.length_cons, List.length_nil] at *; omega))))
    case z11_20 =>
      intro a' w' hE hK hg
      have x0 := kn (hK 13 rfl) rfl r13
      exact ok_move x0
    case z11_21 =>
      intro a' w' hE hK hg
      have x0 := ksv (hK 66 rfl) rfl rfl hg
      have x1 := ksv (hK 67 rfl) rfl rfl hg
      exact ok_eqlB ty4 x0 x1
    case z11_22 =>
      intro a' w' hE hK hg
      have x0 := ksv (hK 62 rfl) rfl rfl rfl
      exact ok_and x0 (fun hb => ksv (hK 68 rfl) rfl rfl (act_g1 rfl rfl hb))
    case z11_23 =>
      intro a' w' hE hK hg
      have x0 := ksv (hK 69 rfl) rfl rfl rfl
      exact ok_assign x0
    case zok11 => kernel_rfl
    case zgd11 => kernel_rfl
    intro a9 w9 hA' hE HF
    have r8 := ksv (HF 8) rfl rfl rfl
    clear hA HF
    have hA := hA'
    clear hA'
    have hLt := hB.size
    replace hB := hB.trans hE
    clear hE hLt
    refine (li_nil (nx_then ?_))
    refine (wp_ret ?_)
    refine retPure Try.results6 hA r8 hB ?_
    (show _ = _; first | exact congrArg _ (keys_b _ _ _ _ hc) | exact congrArg _ (keys_a _ _ hc))
end Go.Proofs.Ytbkmnghnjajdmaa
