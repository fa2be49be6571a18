/- The digest package and its reference, walked by program (wip/gen). No statement stands here. -/
import Derived.Test.YtbkmnghnjajdmaaDigE
namespace Go.Proofs.Ytbkmnghnjajdmaa
open Go Go.RowKit Go.Eng Go.Dig
set_option linter.unusedVariables false
set_option linter.unusedSimpArgs false
theorem fn9 : FnOk Try.prog 9 := ⟨_, Try.func9, rfl, by kernel_rfl⟩
theorem fn10 : FnOk Try.prog 10 := ⟨_, Try.func10, rfl, by kernel_rfl⟩
theorem fn20 : FnOk Try.prog 20 := ⟨_, Try.func20, rfl, by kernel_rfl⟩
theorem fn22 : FnOk Try.prog 22 := ⟨_, Try.func22, rfl, by kernel_rfl⟩
theorem lawTrees (v : Value) (ss : List ByteArray) (s t : ByteArray) (w0 : World) (h : SlV w0 1 v (ss.map .string)) : Pure Try.prog 4 #[v, .string s, .string t] w0 (SP.isv (.bool true)).holds := by
  refine pure_of_wp Try.func4 rfl 53 Try.ntmps4 (by simp) fun a0 hA hs0 => ?_
  have r0 : a0.get 0 = v := hs0 0 _ rfl
  have r1 : a0.get 1 = .string s := hs0 1 _ rfl
  have r2 : a0.get 2 = .string t := hs0 2 _ rfl
  clear hs0
  have hB : Ext w0 w0 := Ext.refl _
  have hcs := cut_size 60 s; have hct := cut_size 60 t
  refine wp_seq ?_
  refine' region [_] mixed hA (.cons ?z1_0 .nil) ?zok1 ?zgd1 ?zk1
  case z1_0 =>
    intro a' w' hE hK hg
    exact ok_assign rfl
  case zok1 => kernel_rfl
  case zgd1 => kernel_rfl
  intro a1 w1 hA' hE HF
  replace r0 := kn (HF 0) rfl r0
  replace r1 := kn (HF 1) rfl r1
  replace r2 := kn (HF 2) rfl r2
  clear hA HF
  have hA := hA'
  clear hA'
  have hLt := hB.size
  replace hB := hB.trans hE
  clear hE hLt
  refine (li_nil (nx_then ?_))
  refine wp_seq ?_
  refine' region [_, _] mixed hA (.cons ?z2_0 (.cons ?z2_1 .nil)) ?zok2 ?zgd2 ?zk2
  case z2_0 =>
    intro a' w' hE hK hg
    exact ok_call0 fn9  (lSanity _)
  case z2_1 =>
    intro a' w' hE hK hg
    have x0 := ksv (hK 9 rfl) rfl rfl rfl
    exact ok_assign x0
  case zok2 => kernel_rfl
  case zgd2 => kernel_rfl
  intro a2 w2 hA' hE HF
  replace r0 := kn (HF 0) rfl r0
  replace r1 := kn (HF 1) rfl r1
  replace r2 := kn (HF 2) rfl r2
  have r7 := ksv (HF 7) rfl rfl rfl
  clear hA HF
  have hA := hA'
  clear hA'
  have hLt := hB.size
  replace hB := hB.trans hE
  clear hE hLt
  refine (li_nil (nx_then ?_))
  refine wp_seq ?_
  refine' region [_, _, _, _, _, _, _, _, _] mixed hA (.cons ?z3_0 (.cons ?z3_1 (.cons ?z3_2 (.cons ?z3_3 (.cons ?z3_4 (.cons ?z3_5 (.cons ?z3_6 (.cons ?z3_7 (.cons ?z3_8 .nil))))))))) ?zok3 ?zgd3 ?zk3
  case z3_0 =>
    intro a' w' hE hK hg
    have x0 := kn (hK 0 rfl) rfl r0
    exact ok_move x0
  case z3_1 =>
    intro a' w' hE hK hg
    have x0 := ksv (hK 10 rfl) rfl rfl rfl
    exact ok_call1 fn20 x0 (lList _ _ w2.heap.size _ hE.size (h.ext (hB.trans hE)))
  case z3_2 =>
    intro a' w' hE hK hg
    have x0 := kn (hK 1 rfl) rfl r1
    exact ok_move x0
  case z3_3 =>
    intro a' w' hE hK hg
    have x0 := ksv (hK 12 rfl) rfl rfl rfl
    exact ok_call1 fn10 x0 (lShort _ _)
  case z3_4 =>
    intro a' w' hE hK hg
    have x0 := kn (hK 2 rfl) rfl r2
    exact ok_move x0
  case z3_5 =>
    intro a' w' hE hK hg
    have x0 := ksv (hK 14 rfl) rfl rfl rfl
    exact ok_call1 fn10 x0 (lShort _ _)
  case z3_6 =>
    intro a' w' hE hK hg
    have x0 := ksp (hK 11 rfl) rfl rfl rfl
    exact ok_assign_own x0
  case z3_7 =>
    intro a' w' hE hK hg
    have x0 := ksv (hK 13 rfl) rfl rfl rfl
    exact ok_assign x0
  case z3_8 =>
    intro a' w' hE hK hg
    have x0 := ksv (hK 15 rfl) rfl rfl rfl
    exact ok_assign x0
  case zok3 => kernel_rfl
  case zgd3 => kernel_rfl
  intro a3 w3 hA' hE HF
  have x0 := ksp (HF 0) rfl rfl rfl
  replace r1 := ksv (HF 1) rfl rfl rfl
  replace r2 := ksv (HF 2) rfl rfl rfl
  replace r7 := kn (HF 7) rfl r7
  clear hA HF
  have hA := hA'
  clear hA'
  have hLt := hB.size
  replace hB := hB.trans hE
  have m_t0 := x0; clear x0
  obtain ⟨v0, r0⟩ : ∃ v, a3.get 0 = v := ⟨_, rfl⟩
  rw [r0] at m_t0
  clear hE hLt
  refine (li_nil (nx_then ?_))
  refine wp_seq ?_
  refine wp_seq ?_
  refine' region [_] mixed hA (.cons ?z4_0 .nil) ?zok4 ?zgd4 ?zk4
  case z4_0 =>
    intro a' w' hE hK hg
    exact ok_assign rfl
  case zok4 => kernel_rfl
  case zgd4 => kernel_rfl
  intro a4 w4 hA' hE HF
  replace r0 := kn (HF 0) rfl r0
  replace r1 := kn (HF 1) rfl r1
  replace r2 := kn (HF 2) rfl r2
  replace r7 := kn (HF 7) rfl r7
  have r8 := ksv (HF 8) rfl rfl rfl
  clear hA HF
  have hA := hA'
  clear hA'
  replace m_t0 := m_t0.ext hE
  have hLt := hB.size
  replace hB := hB.trans hE
  clear hE hLt
  refine (li_nil (nx_then ?_))
  refine wp_block ?_
  have q5_0 := r0
  have q5_1 := r1
  have q5_2 := r2
  have q5_7 := r7
  have hL5 : Ext w4 w4 := Ext.refl _
  have k5_t0 := m_t0
  refine loop_m (fun m a w => ∃ k : Nat, m = (list20 ss).length + 1 - k ∧ a.fit 53 ∧ Ext w0 w ∧ Ext w4 w ∧ a.get 0 = a4.get 0 ∧ a.get 1 = a4.get 1 ∧ a.get 2 = a4.get 2 ∧ a.get 7 = a4.get 7 ∧ a.get 8 = .int .i64 (k : Int) ∧ (k ≤ (list20 ss).length + 1)) (m := (list20 ss).length + 1 - (0)) (?st6) ?_
  case st6 =>
    refine ⟨(0), rfl, hA, hB, hL5, r0.trans q5_0.symm, r1.trans q5_1.symm, r2.trans q5_2.symm, r7.trans q5_7.symm, r8.trans ?v6_8, ?p6_0⟩
    case v6_8 => first | rfl | (congr 1; omega)
    case p6_0 => first | omega | assumption
  intro m_ a5 w5 hI
  obtain ⟨k, rfl, hA, hB, hL5, z0, z1, z2, z7, r8, hk⟩ := hI
  have r0 := z0.trans q5_0
  have r1 := z1.trans q5_1
  have r2 := z2.trans q5_2
  have r7 := z7.trans q5_7
  clear z0 z1 z2 z7
  have m_t0' := k5_t0.ext hL5
  have m_t0 := m_t0'
  have h20_ := list20_len ss; have hlm : ((list20 ss).map Value.string).length = (list20 ss).length := List.length_map _
  refine wp_seq ?_
  refine wp_seq ?_
  refine' region [_, _, _, _] mixed hA (.cons ?z7_0 (.cons ?z7_1 (.cons ?z7_2 (.cons ?z7_3 .nil)))) ?zok7 ?zgd7 ?zk7
  case z7_0 =>
    intro a' w' hE hK hg
    have x0 := kn (hK 8 rfl) rfl r8
    exact ok_move x0
  case z7_1 =>
    intro a' w' hE hK hg
    have x0 := kn (hK 0 rfl) rfl r0
    exact ok_move x0
  case z7_2 =>
    intro a' w' hE hK hg
    have x0 := ksv (hK 17 rfl) rfl rfl rfl
    exact ok_lenV ty29 x0 (m_t0.ext hE).slv
  case z7_3 =>
    intro a' w' hE hK hg
    have x0 := ksv (hK 16 rfl) rfl rfl rfl
    have x1 := ksv (hK 18 rfl) rfl rfl rfl
    exact ok_leq x0 x1
  case zok7 => kernel_rfl
  case zgd7 => kernel_rfl
  intro a6 w6 hA' hE HF
  replace r0 := kn (HF 0) rfl r0
  replace r1 := kn (HF 1) rfl r1
  replace r2 := kn (HF 2) rfl r2
  replace r7 := kn (HF 7) rfl r7
  replace r8 := kn (HF 8) rfl r8
  have r19 := ksv (HF 19) rfl rfl rfl
  clear hA HF
  have hA := hA'
  clear hA'
  replace m_t0 := m_t0.ext hE
  have hLt := hB.size
  replace hB := hB.trans hE
  replace hL5 := hL5.trans hE
  clear hE hLt
  refine (li_nil (nx_then ?_))
  refine wp_cond_b r19 (fun hc => ?_) (fun hc => ?_)
  ·
    try simp only [Bool.and_eq_true, Bool.or_eq_true, Bool.and_eq_false_iff, Bool.or_eq_false_iff, Bool.not_eq_true', Bool.not_eq_false', decide_eq_true_eq, decide_eq_false_iff_not, ne_eq, Decidable.not_not, gt_iff_lt, ge_iff_le, Int.not_lt, Int.not_le, Nat.not_lt, Nat.not_le, Int.ofNat_lt, Int.ofNat_le] at hc
    have hk_ : k ≤ (list20 ss).length := (by omega)
    refine wp_skip ?_
    refine (nx_then ?_)
    refine wp_seq ?_
    refine wp_block ?_
    refine wp_seq ?_
    refine' region [_, _, _, _, _, _, _, _, _] mixed hA (.cons ?z9_0 (.cons ?z9_1 (.cons ?z9_2 (.cons ?z9_3 (.cons ?z9_4 (.cons ?z9_5 (.cons ?z9_6 (.cons ?z9_7 (.cons ?z9_8 .nil))))))))) ?zok9 ?zgd9 ?zk9
    case z9_0 =>
      intro a' w' hE hK hg
      have x0 := kn (hK 0 rfl) rfl r0
      exact ok_move x0
    case z9_1 =>
      intro a' w' hE hK hg
      have x0 := kn (hK 8 rfl) rfl r8
      exact ok_move x0
    case z9_2 =>
      intro a' w' hE hK hg
      have x0 := ksv (hK 22 rfl) rfl rfl rfl
      have x2 := ksv (hK 23 rfl) rfl rfl rfl
      exact ok_sliceV_h ty29 ty9 x0 (m_t0.ext hE).slv x2 (by first | assumption | omega | (simp; done) | (have h_ := list20_len ss; simp only [List.length_take, List.length_map] at *; omega) | (intro x hx_; have h_ := list20_size ss x (List.mem_of_mem_take hx_); omega) | (intro x hx_; have h_ := list20_size ss x hx_; omega) | (simp only [str_size, ByteArray.size_append, size1, size0, D_length, List.length_cons, List.length_nil] at *; omega)) (by first | assumption | omega | (simp; done) | (have h_ := list20_len ss; simp only [List.length_take, List.length_map] at *; omega) | (intro x hx_; have h_ := list20_size ss x (List.mem_of_mem_take hx_); omega) | (intro x hx_; have h_ := list20_size ss x hx_; omega) | (simp only [str_size, ByteArray.size_append, size1, size0, D_length, List.length_cons, List.length_nil] at *; omega))
    case z9_3 =>
      intro a' w' hE hK hg
      have x0 := ksp (hK 24 rfl) rfl rfl rfl
      exact ok_call1 fn21 rfl (dRoot _ ((list20 ss).take k) _ (slv_cast (by rw [List.map_take]; congr 1) x0) (by first | assumption | omega | (simp; done) | (have h_ := list20_len ss; simp only [List.length_take, List.length_map] at *; omega) | (intro x hx_; have h_ := list20_size ss x (List.mem_of_mem_take hx_); omega) | (intro x hx_; have h_ := list20_size ss x hx_; omega) | (simp only [str_size, ByteArray.size_append, size1, size0, D_length, List.length_cons, List.length_nil] at *; omega)) (by first | assumption | omega | (simp; done) | (have h_ := list20_len ss; simp only [List.length_take, List.length_map] at *; omega) | (intro x hx_; have h_ := list20_size ss x (List.mem_of_mem_take hx_); omega) | (intro x hx_; have h_ := list20_size ss x hx_; omega) | (simp only [str_size, ByteArray.size_append, size1, size0, D_length, List.length_cons, List.length_nil] at *; omega)))
    case z9_4 =>
      intro a' w' hE hK hg
      have x0 := kn (hK 0 rfl) rfl r0
      exact ok_move x0
    case z9_5 =>
      intro a' w' hE hK hg
      have x0 := kn (hK 8 rfl) rfl r8
      exact ok_move x0
    case z9_6 =>
      intro a' w' hE hK hg
      have x0 := ksv (hK 26 rfl) rfl rfl rfl
      have x2 := ksv (hK 27 rfl) rfl rfl rfl
      exact ok_sliceV_h ty29 ty9 x0 (m_t0.ext hE).slv x2 (by first | assumption | omega | (simp; done) | (have h_ := list20_len ss; simp only [List.length_take, List.length_map] at *; omega) | (intro x hx_; have h_ := list20_size ss x (List.mem_of_mem_take hx_); omega) | (intro x hx_; have h_ := list20_size ss x hx_; omega) | (simp only [str_size, ByteArray.size_append, size1, size0, D_length, List.length_cons, List.length_nil] at *; omega)) (by first | assumption | omega | (simp; done) | (have h_ := list20_len ss; simp only [List.length_take, List.length_map] at *; omega) | (intro x hx_; have h_ := list20_size ss x (List.mem_of_mem_take hx_); omega) | (intro x hx_; have h_ := list20_size ss x hx_; omega) | (simp only [str_size, ByteArray.size_append, size1, size0, D_length, List.length_cons, List.length_nil] at *; omega))
    case z9_7 =>
      intro a' w' hE hK hg
      have x0 := ksp (hK 28 rfl) rfl rfl rfl
      exact ok_call1 fn22 rfl (rRoot _ ((list20 ss).take k) _ (slv_cast (by rw [List.map_take]; congr 1) x0) (by first | assumption | omega | (simp; done) | (have h_ := list20_len ss; simp only [List.length_take, List.length_map] at *; omega) | (intro x hx_; have h_ := list20_size ss x (List.mem_of_mem_take hx_); omega) | (intro x hx_; have h_ := list20_size ss x hx_; omega) | (simp only [str_size, ByteArray.size_append, size1, size0, D_length, List.length_cons, List.length_nil] at *; omega)) (by first | assumption | omega | (simp; done) | (have h_ := list20_len ss; simp only [List.length_take, List.length_map] at *; omega) | (intro x hx_; have h_ := list20_size ss x (List.mem_of_mem_take hx_); omega) | (intro x hx_; have h_ := list20_size ss x hx_; omega) | (simp only [str_size, ByteArray.size_append, size1, size0, D_length, List.length_cons, List.length_nil] at *; omega)))
    case z9_8 =>
      intro a' w' hE hK hg
      have x0 := ksv (hK 25 rfl) rfl rfl rfl
      have x1 := ksv (hK 29 rfl) rfl rfl rfl
      exact ok_neqS x0 x1
    case zok9 => kernel_rfl
    case zgd9 => kernel_rfl
    intro a7 w7 hA' hE HF
    replace r0 := kn (HF 0) rfl r0
    replace r1 := kn (HF 1) rfl r1
    replace r2 := kn (HF 2) rfl r2
    replace r7 := kn (HF 7) rfl r7
    replace r8 := kn (HF 8) rfl r8
    have r30 := ksv (HF 30) rfl rfl rfl
    clear hA HF
    have hA := hA'
    clear hA'
    replace m_t0 := m_t0.ext hE
    have hLt := hB.size
    replace hB := hB.trans hE
    replace hL5 := hL5.trans hE
    clear hE hLt
    refine (li_nil (nx_then ?_))
    refine wp_cond_b r30 (fun hc => ?_) (fun hc => ?_)
    ·
      try simp only [Bool.and_eq_true, Bool.or_eq_true, Bool.and_eq_false_iff, Bool.or_eq_false_iff, Bool.not_eq_true', Bool.not_eq_false', decide_eq_true_eq, decide_eq_false_iff_not, ne_eq, Decidable.not_not, gt_iff_lt, ge_iff_le, Int.not_lt, Int.not_le, Nat.not_lt, Nat.not_le, Int.ofNat_lt, Int.ofNat_le] at hc
      exact (hc trivial).elim
    ·
      try simp only [Bool.and_eq_true, Bool.or_eq_true, Bool.and_eq_false_iff, Bool.or_eq_false_iff, Bool.not_eq_true', Bool.not_eq_false', decide_eq_true_eq, decide_eq_false_iff_not, ne_eq, Decidable.not_not, gt_iff_lt, ge_iff_le, Int.not_lt, Int.not_le, Nat.not_lt, Nat.not_le, Int.ofNat_lt, Int.ofNat_le] at hc
      refine wp_skip ?_
      refine (nx_blk (nx_then ?_))
      refine' region [_, _, _] mixed hA (.cons ?z11_0 (.cons ?z11_1 (.cons ?z11_2 .nil))) ?zok11 ?zgd11 ?zk11
      case z11_0 =>
        intro a' w' hE hK hg
        have x0 := kn (hK 8 rfl) rfl r8
        exact ok_move x0
      case z11_1 =>
        intro a' w' hE hK hg
        have x0 := ksv (hK 20 rfl) rfl rfl rfl
        first | exact ok_add_i x0 rfl (by first | omega | (constructor <;> omega)) | exact ok_add x0 rfl
      case z11_2 =>
        intro a' w' hE hK hg
        have x0 := ksv (hK 21 rfl) rfl rfl rfl
        exact ok_assign x0
      case zok11 => kernel_rfl
      case zgd11 => kernel_rfl
      intro a8 w8 hA' hE HF
      replace r0 := kn (HF 0) rfl r0
      replace r1 := kn (HF 1) rfl r1
      replace r2 := kn (HF 2) rfl r2
      replace r7 := kn (HF 7) rfl r7
      replace r8 := ksv (HF 8) rfl rfl rfl
      clear hA HF
      have hA := hA'
      clear hA'
      replace m_t0 := m_t0.ext hE
      have hLt := hB.size
      replace hB := hB.trans hE
      replace hL5 := hL5.trans hE
      clear hE hLt
      refine (li_nil (nx_then ?_))
      refine ⟨_, ?lt12, (k + 1), rfl, hA, hB, hL5, r0.trans q5_0.symm, r1.trans q5_1.symm, r2.trans q5_2.symm, r7.trans q5_7.symm, r8.trans ?v12_8, ?p12_0⟩
      case v12_8 => first | rfl | (congr 1; omega)
      case p12_0 => omega
      case lt12 => omega
  ·
    try simp only [Bool.and_eq_true, Bool.or_eq_true, Bool.and_eq_false_iff, Bool.or_eq_false_iff, Bool.not_eq_true', Bool.not_eq_false', decide_eq_true_eq, decide_eq_false_iff_not, ne_eq, Decidable.not_not, gt_iff_lt, ge_iff_le, Int.not_lt, Int.not_le, Nat.not_lt, Nat.not_le, Int.ofNat_lt, Int.ofNat_le] at hc
    refine wp_exit ?_
    refine (ex_then (ex_then (ex_same ?_)))
    refine (nx_then ?_)
    refine wp_seq ?_
    refine' region [_, _, _, _, _, _, _, _, _, _, _, _, _, _, _, _, _, _, _, _, _, _, _] mixed hA (.cons ?z13_0 (.cons ?z13_1 (.cons ?z13_2 (.cons ?z13_3 (.cons ?z13_4 (.cons ?z13_5 (.cons ?z13_6 (.cons ?z13_7 (.cons ?z13_8 (.cons ?z13_9 (.cons ?z13_10 (.cons ?z13_11 (.cons ?z13_12 (.cons ?z13_13 (.cons ?z13_14 (.cons ?z13_15 (.cons ?z13_16 (.cons ?z13_17 (.cons ?z13_18 (.cons ?z13_19 (.cons ?z13_20 (.cons ?z13_21 (.cons ?z13_22 .nil))))))))))))))))))))))) ?zok13 ?zgd13 ?zk13
    case z13_0 =>
      intro a' w' hE hK hg
      have x0 := kn (hK 7 rfl) rfl r7
      exact ok_move x0
    case z13_1 =>
      intro a' w' hE hK hg
      have x0 := ksv (hK 31 rfl) rfl rfl rfl
      exact ok_move x0
    case z13_2 =>
      intro a' w' hE hK hg
      have x0 := kn (hK 1 rfl) rfl r1
      exact ok_move x0
    case z13_3 =>
      intro a' w' hE hK hg
      have x0 := ksv (hK 33 rfl) rfl rfl hg
      have hgc := agv rfl hg rfl; revert hgc; intro hgc
      exact ok_call1 fn23 x0 (dLeaf _ _ (by (try simp only [Bool.and_eq_true, Bool.or_eq_true, Bool.and_eq_false_iff, Bool.or_eq_false_iff, Bool.not_eq_true', Bool.not_eq_false', decide_eq_true_eq, decide_eq_false_iff_not, ne_eq, Decidable.not_not, gt_iff_lt, ge_iff_le, Int.not_lt, Int.not_le, Nat.not_lt, Nat.not_le, Int.ofNat_lt, Int.ofNat_le] at hgc); (first | obtain ⟨⟨⟨⟨_, _⟩, _⟩, _⟩, _⟩ := hgc | obtain ⟨⟨⟨_, _⟩, _⟩, _⟩ := hgc | obtain ⟨⟨_, _⟩, _⟩ := hgc | obtain ⟨_, _⟩ := hgc | skip); (first | assumption | omega | (simp; done) | (have h_ := list20_len ss; simp only [List.length_take, List.length_map] at *; omega) | (intro x hx_; have h_ := list20_size ss x (List.mem_of_mem_take hx_); omega) | (intro x hx_; have h_ := list20_size ss x hx_; omega) | (simp only [str_size, ByteArray.size_append, size1, size0, D_length, List.length_cons, List.length_nil] at *; omega))))
    case z13_4 =>
      intro a' w' hE hK hg
      have x0 := kn (hK 1 rfl) rfl r1
      exact ok_move x0
    case z13_5 =>
      intro a' w' hE hK hg
      have x0 := ksv (hK 35 rfl) rfl rfl hg
      have hgc := agv rfl hg rfl; revert hgc; intro hgc
      exact ok_call1 fn24 x0 (rLeaf _ _ (by (try simp only [Bool.and_eq_true, Bool.or_eq_true, Bool.and_eq_false_iff, Bool.or_eq_false_iff, Bool.not_eq_true', Bool.not_eq_false', decide_eq_true_eq, decide_eq_false_iff_not, ne_eq, Decidable.not_not, gt_iff_lt, ge_iff_le, Int.not_lt, Int.not_le, Nat.not_lt, Nat.not_le, Int.ofNat_lt, Int.ofNat_le] at hgc); (first | obtain ⟨⟨⟨⟨_, _⟩, _⟩, _⟩, _⟩ := hgc | obtain ⟨⟨⟨_, _⟩, _⟩, _⟩ := hgc | obtain ⟨⟨_, _⟩, _⟩ := hgc | obtain ⟨_, _⟩ := hgc | skip); (first | assumption | omega | (simp; done) | (have h_ := list20_len ss; simp only [List.length_take, List.length_map] at *; omega) | (intro x hx_; have h_ := list20_size ss x (List.mem_of_mem_take hx_); omega) | (intro x hx_; have h_ := list20_size ss x hx_; omega) | (simp only [str_size, ByteArray.size_append, size1, size0, D_length, List.length_cons, List.length_nil] at *; omega))))
    case z13_6 =>
      intro a' w' hE hK hg
      have x0 := ksv (hK 34 rfl) rfl rfl hg
      have x1 := ksv (hK 36 rfl) rfl rfl hg
      exact ok_eqlS x0 x1
    case z13_7 =>
      intro a' w' hE hK hg
      have x0 := ksv (hK 32 rfl) rfl rfl rfl
      exact ok_and x0 (fun hb => ksv (hK 37 rfl) rfl rfl (act_g1 rfl rfl hb))
    case z13_8 =>
      intro a' w' hE hK hg
      have x0 := ksv (hK 38 rfl) rfl rfl rfl
      exact ok_move x0
    case z13_9 =>
      intro a' w' hE hK hg
      have x0 := kn (hK 1 rfl) rfl r1
      exact ok_move x0
    case z13_10 =>
      intro a' w' hE hK hg
      have x0 := kn (hK 2 rfl) rfl r2
      exact ok_move x0
    case z13_11 =>
      intro a' w' hE hK hg
      have x0 := ksv (hK 40 rfl) rfl rfl hg
      have x1 := ksv (hK 41 rfl) rfl rfl hg
      have hgc := agv rfl hg rfl; revert hgc; intro hgc
      exact ok_call2 fn25 x0 x1 (dInner _ _ _ (by (try simp only [Bool.and_eq_true, Bool.or_eq_true, Bool.and_eq_false_iff, Bool.or_eq_false_iff, Bool.not_eq_true', Bool.not_eq_false', decide_eq_true_eq, decide_eq_false_iff_not, ne_eq, Decidable.not_not, gt_iff_lt, ge_iff_le, Int.not_lt, Int.not_le, Nat.not_lt, Nat.not_le, Int.ofNat_lt, Int.ofNat_le] at hgc); (first | obtain ⟨⟨⟨⟨_, _⟩, _⟩, _⟩, _⟩ := hgc | obtain ⟨⟨⟨_, _⟩, _⟩, _⟩ := hgc | obtain ⟨⟨_, _⟩, _⟩ := hgc | obtain ⟨_, _⟩ := hgc | skip); (first | assumption | omega | (simp; done) | (have h_ := list20_len ss; simp only [List.length_take, List.length_map] at *; omega) | (intro x hx_; have h_ := list20_size ss x (List.mem_of_mem_take hx_); omega) | (intro x hx_; have h_ := list20_size ss x hx_; omega) | (simp only [str_size, ByteArray.size_append, size1, size0, D_length, List.length_cons, List.length_nil] at *; omega))) (by (try simp only [Bool.and_eq_true, Bool.or_eq_true, Bool.and_eq_false_iff, Bool.or_eq_false_iff, Bool.not_eq_true', Bool.not_eq_false', decide_eq_true_eq, decide_eq_false_iff_not, ne_eq, Decidable.not_not, gt_iff_lt, ge_iff_le, Int.not_lt, Int.not_le, Nat.not_lt, Nat.not_le, Int.ofNat_lt, Int.ofNat_le] at hgc); (first | obtain ⟨⟨⟨⟨_, _⟩, _⟩, _⟩, _⟩ := hgc | obtain ⟨⟨⟨_, _⟩, _⟩, _⟩ := hgc | obtain ⟨⟨_, _⟩, _⟩ := hgc | obtain ⟨_, _⟩ := hgc | skip); (first | assumption | omega | (simp; done) | (have h_ := list20_len ss; simp only [List.length_take, List.length_map] at *; omega) | (intro x hx_; have h_ := list20_size ss x (List.mem_of_mem_take hx_); omega) | (intro x hx_; have h_ := list20_size ss x hx_; omega) | (simp only [str_size, ByteArray.size_append, size1, size0, D_length, List.length_cons, List.length_nil] at *; omega))))
    case z13_12 =>
      intro a' w' hE hK hg
      have x0 := kn (hK 1 rfl) rfl r1
      exact ok_move x0
    case z13_13 =>
      intro a' w' hE hK hg
      have x0 := kn (hK 2 rfl) rfl r2
      exact ok_move x0
    case z13_14 =>
      intro a' w' hE hK hg
      have x0 := ksv (hK 43 rfl) rfl rfl hg
      have x1 := ksv (hK 44 rfl) rfl rfl hg
      have hgc := agv rfl hg rfl; revert hgc; intro hgc
      exact ok_call2 fn26 x0 x1 (rInner _ _ _ (by (try simp only [Bool.and_eq_true, Bool.or_eq_true, Bool.and_eq_false_iff, Bool.or_eq_false_iff, Bool.not_eq_true', Bool.not_eq_false', decide_eq_true_eq, decide_eq_false_iff_not, ne_eq, Decidable.not_not, gt_iff_lt, ge_iff_le, Int.not_lt, Int.not_le, Nat.not_lt, Nat.not_le, Int.ofNat_lt, Int.ofNat_le] at hgc); (first | obtain ⟨⟨⟨⟨_, _⟩, _⟩, _⟩, _⟩ := hgc | obtain ⟨⟨⟨_, _⟩, _⟩, _⟩ := hgc | obtain ⟨⟨_, _⟩, _⟩ := hgc | obtain ⟨_, _⟩ := hgc | skip); (first | assumption | omega | (simp; done) | (have h_ := list20_len ss; simp only [List.length_take, List.length_map] at *; omega) | (intro x hx_; have h_ := list20_size ss x (List.mem_of_mem_take hx_); omega) | (intro x hx_; have h_ := list20_size ss x hx_; omega) | (simp only [str_size, ByteArray.size_append, size1, size0, D_length, List.length_cons, List.length_nil] at *; omega))) (by (try simp only [Bool.and_eq_true, Bool.or_eq_true, Bool.and_eq_false_iff, Bool.or_eq_false_iff, Bool.not_eq_true', Bool.not_eq_false', decide_eq_true_eq, decide_eq_false_iff_not, ne_eq, Decidable.not_not, gt_iff_lt, ge_iff_le, Int.not_lt, Int.not_le, Nat.not_lt, Nat.not_le, Int.ofNat_lt, Int.ofNat_le] at hgc); (first | obtain ⟨⟨⟨⟨_, _⟩, _⟩, _⟩, _⟩ := hgc | obtain ⟨⟨⟨_, _⟩, _⟩, _⟩ := hgc | obtain ⟨⟨_, _⟩, _⟩ := hgc | obtain ⟨_, _⟩ := hgc | skip); (first | assumption | omega | (simp; done) | (have h_ := list20_len ss; simp only [List.length_take, List.length_map] at *; omega) | (intro x hx_; have h_ := list20_size ss x (List.mem_of_mem_take hx_); omega) | (intro x hx_; have h_ := list20_size ss x hx_; omega) | (simp only [str_size, ByteArray.size_append, size1, size0, D_length, List.length_cons, List.length_nil] at *; omega))))
    case z13_15 =>
      intro a' w' hE hK hg
      have x0 := ksv (hK 42 rfl) rfl rfl hg
      have x1 := ksv (hK 45 rfl) rfl rfl hg
      exact ok_eqlS x0 x1
    case z13_16 =>
      intro a' w' hE hK hg
      have x0 := ksv (hK 39 rfl) rfl rfl rfl
      exact ok_and x0 (fun hb => ksv (hK 46 rfl) rfl rfl (act_g1 rfl rfl hb))
    case z13_17 =>
      intro a' w' hE hK hg
      have x0 := ksv (hK 47 rfl) rfl rfl rfl
      exact ok_move x0
    case z13_18 =>
      intro a' w' hE hK hg
      have hgc := agv rfl hg rfl; revert hgc; intro hgc
      exact ok_call0 fn27  (dMissing _)
    case z13_19 =>
      intro a' w' hE hK hg
      have hgc := agv rfl hg rfl; revert hgc; intro hgc
      exact ok_call0 fn28  (rMissing _)
    case z13_20 =>
      intro a' w' hE hK hg
      have x0 := ksv (hK 49 rfl) rfl rfl hg
      have x1 := ksv (hK 50 rfl) rfl rfl hg
      exact ok_eqlS x0 x1
    case z13_21 =>
      intro a' w' hE hK hg
      have x0 := ksv (hK 48 rfl) rfl rfl rfl
      exact ok_and x0 (fun hb => ksv (hK 51 rfl) rfl rfl (act_g1 rfl rfl hb))
    case z13_22 =>
      intro a' w' hE hK hg
      have x0 := ksv (hK 52 rfl) rfl rfl rfl
      exact ok_assign x0
    case zok13 => kernel_rfl
    case zgd13 => kernel_rfl
    intro a9 w9 hA' hE HF
    have r6 := ksv (HF 6) rfl rfl rfl
    clear hA HF
    have hA := hA'
    clear hA'
    replace m_t0 := m_t0.ext hE
    have hLt := hB.size
    replace hB := hB.trans hE
    clear hE hLt
    clear m_t0
    refine (li_nil (nx_then ?_))
    refine (wp_ret ?_)
    refine retPure Try.results4 hA r6 hB ?_
    (show _ = _; simp)
end Go.Proofs.Ytbkmnghnjajdmaa
