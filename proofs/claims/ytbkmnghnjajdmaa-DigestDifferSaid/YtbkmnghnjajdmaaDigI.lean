/- The digest package and its reference, walked by program (wip/gen). No statement stands here. -/
import Derived.Test.YtbkmnghnjajdmaaDigH
import Derived.Test.YtbkmnghnjajdmaaDif
namespace Go.Proofs.Ytbkmnghnjajdmaa
open Go Go.RowKit Go.Eng Go.Dig
set_option linter.unusedVariables false
set_option linter.unusedSimpArgs false

theorem lawDiffer (s : ByteArray) (x y : UInt8) (t : ByteArray) (w0 : World) : Pure Try.prog 5 #[.string s, .int .u8 (x.toNat : Int), .int .u8 (y.toNat : Int), .string t] w0 (SP.isv (.bool true)).holds := by
  refine pure_of_wp Try.func5 rfl 121 Try.ntmps5 (by simp) fun a0 hA hs0 => ?_
  have r0 : a0.get 0 = .string s := hs0 0 _ rfl
  have r1 : a0.get 1 = .int .u8 (x.toNat : Int) := hs0 1 _ rfl
  have r2 : a0.get 2 = .int .u8 (y.toNat : Int) := hs0 2 _ rfl
  have r3 : a0.get 3 = .string t := hs0 3 _ rfl
  clear hs0
  have hB : Ext w0 w0 := Ext.refl _
  have hcs := cut_size 60 s; have hct := cut_size 60 t; have hch := chg_size x y ⟨#[]⟩ (cut 60 s)
  refine wp_seq ?_
  refine' region [_] mixed hA (.cons ?z1_0 .nil) ?zok1 ?zgd1 ?zk1
  case z1_0 =>
    intro a' w' hE hK hg
    exact ok_assign rfl
  case zok1 => kernel_rfl
  case zgd1 => kernel_rfl
  intro a1 w1 hA' hE HF
  replace r0 := kn (HF 0) rfl r0
  replace r1 := kn (HF 1) rfl r1
  replace r2 := kn (HF 2) rfl r2
  replace r3 := kn (HF 3) rfl r3
  clear hA HF
  have hA := hA'
  clear hA'
  have hLt := hB.size
  replace hB := hB.trans hE
  clear hE hLt
  refine (li_nil (nx_then ?_))
  refine wp_seq ?_
  refine' region [_, _] mixed hA (.cons ?z2_0 (.cons ?z2_1 .nil)) ?zok2 ?zgd2 ?zk2
  case z2_0 =>
    intro a' w' hE hK hg
    exact ok_call0 fn9  (lSanity _)
  case z2_1 =>
    intro a' w' hE hK hg
    have x0 := ksv (hK 12 rfl) rfl rfl rfl
    exact ok_assign x0
  case zok2 => kernel_rfl
  case zgd2 => kernel_rfl
  intro a2 w2 hA' hE HF
  replace r0 := kn (HF 0) rfl r0
  replace r1 := kn (HF 1) rfl r1
  replace r2 := kn (HF 2) rfl r2
  replace r3 := kn (HF 3) rfl r3
  have r9 := ksv (HF 9) rfl rfl rfl
  clear hA HF
  have hA := hA'
  clear hA'
  have hLt := hB.size
  replace hB := hB.trans hE
  clear hE hLt
  refine (li_nil (nx_then ?_))
  refine wp_seq ?_
  refine' region [_, _, _, _, _, _] mixed hA (.cons ?z3_0 (.cons ?z3_1 (.cons ?z3_2 (.cons ?z3_3 (.cons ?z3_4 (.cons ?z3_5 .nil)))))) ?zok3 ?zgd3 ?zk3
  case z3_0 =>
    intro a' w' hE hK hg
    have x0 := kn (hK 0 rfl) rfl r0
    exact ok_move x0
  case z3_1 =>
    intro a' w' hE hK hg
    have x0 := ksv (hK 13 rfl) rfl rfl rfl
    exact ok_call1 fn10 x0 (lShort _ _)
  case z3_2 =>
    intro a' w' hE hK hg
    have x0 := kn (hK 3 rfl) rfl r3
    exact ok_move x0
  case z3_3 =>
    intro a' w' hE hK hg
    have x0 := ksv (hK 15 rfl) rfl rfl rfl
    exact ok_call1 fn10 x0 (lShort _ _)
  case z3_4 =>
    intro a' w' hE hK hg
    have x0 := ksv (hK 14 rfl) rfl rfl rfl
    exact ok_assign x0
  case z3_5 =>
    intro a' w' hE hK hg
    have x0 := ksv (hK 16 rfl) rfl rfl rfl
    exact ok_assign x0
  case zok3 => kernel_rfl
  case zgd3 => kernel_rfl
  intro a3 w3 hA' hE HF
  replace r0 := ksv (HF 0) rfl rfl rfl
  replace r1 := kn (HF 1) rfl r1
  replace r2 := kn (HF 2) rfl r2
  replace r3 := ksv (HF 3) rfl rfl rfl
  replace r9 := kn (HF 9) rfl r9
  clear hA HF
  have hA := hA'
  clear hA'
  have hLt := hB.size
  replace hB := hB.trans hE
  clear hE hLt
  refine (li_nil (nx_then ?_))
  refine wp_seq ?_
  refine wp_seq ?_
  refine' region [_, _, _, _, _, _, _, _, _, _, _, _, _, _, _, _, _, _, _, _, _, _, _, _, _, _, _, _, _, _, _, _] mixed hA (.cons ?z4_0 (.cons ?z4_1 (.cons ?z4_2 (.cons ?z4_3 (.cons ?z4_4 (.cons ?z4_5 (.cons ?z4_6 (.cons ?z4_7 (.cons ?z4_8 (.cons ?z4_9 (.cons ?z4_10 (.cons ?z4_11 (.cons ?z4_12 (.cons ?z4_13 (.cons ?z4_14 (.cons ?z4_15 (.cons ?z4_16 (.cons ?z4_17 (.cons ?z4_18 (.cons ?z4_19 (.cons ?z4_20 (.cons ?z4_21 (.cons ?z4_22 (.cons ?z4_23 (.cons ?z4_24 (.cons ?z4_25 (.cons ?z4_26 (.cons ?z4_27 (.cons ?z4_28 (.cons ?z4_29 (.cons ?z4_30 (.cons ?z4_31 .nil)))))))))))))))))))))))))))))))) ?zok4 ?zgd4 ?zk4
  case z4_0 =>
    intro a' w' hE hK hg
    have x0 := kn (hK 0 rfl) rfl r0
    exact ok_move x0
  case z4_1 =>
    intro a' w' hE hK hg
    have x0 := ksv (hK 17 rfl) rfl rfl rfl
    exact ok_call1 fn13 x0 (dOf1 _ _ (by first | assumption | omega | (simp; done) | (simp only [List.mem_cons, List.not_mem_nil, or_false, forall_eq_or_imp, forall_eq, str_size, ByteArray.size_append, size1, size0, D_length, List.length_cons, List.length_nil] at *; omega)))
  case z4_2 =>
    intro a' w' hE hK hg
    have x0 := ksv (hK 18 rfl) rfl rfl rfl
    exact ok_lenS ty9 x0
  case z4_3 =>
    intro a' w' hE hK hg
    have x0 := ksv (hK 19 rfl) rfl rfl rfl
    exact ok_neqI x0 rfl
  case z4_4 =>
    intro a' w' hE hK hg
    have x0 := ksv (hK 20 rfl) rfl rfl rfl
    exact ok_move x0
  case z4_5 =>
    intro a' w' hE hK hg
    have x0 := kn (hK 0 rfl) rfl r0
    exact ok_move x0
  case z4_6 =>
    intro a' w' hE hK hg
    have x0 := kn (hK 3 rfl) rfl r3
    exact ok_move x0
  case z4_7 =>
    intro a' w' hE hK hg
    have x0 := ksv (hK 22 rfl) rfl rfl hg
    have x1 := ksv (hK 23 rfl) rfl rfl hg
    have hgc := agv rfl hg rfl; revert hgc; intro hgc
    exact ok_call2 fn15 x0 x1 (dChain _ _ _ (by (try simp only [Bool.and_eq_true, Bool.or_eq_true, Bool.and_eq_false_iff, Bool.or_eq_false_iff, Bool.not_eq_true', Bool.not_eq_false', decide_eq_true_eq, decide_eq_false_iff_not, ne_eq, Decidable.not_not, gt_iff_lt, ge_iff_le, Int.not_lt, Int.not_le, Nat.not_lt, Nat.not_le, Int.ofNat_lt, Int.ofNat_le] at hgc); (first | obtain ⟨⟨⟨⟨_, _⟩, _⟩, _⟩, _⟩ := hgc | obtain ⟨⟨⟨_, _⟩, _⟩, _⟩ := hgc | obtain ⟨⟨_, _⟩, _⟩ := hgc | obtain ⟨_, _⟩ := hgc | skip); (first | assumption | omega | (simp; done) | (simp only [List.mem_cons, List.not_mem_nil, or_false, forall_eq_or_imp, forall_eq, str_size, ByteArray.size_append, size1, size0, D_length, List.length_cons, List.length_nil] at *; omega))) (by (try simp only [Bool.and_eq_true, Bool.or_eq_true, Bool.and_eq_false_iff, Bool.or_eq_false_iff, Bool.not_eq_true', Bool.not_eq_false', decide_eq_true_eq, decide_eq_false_iff_not, ne_eq, Decidable.not_not, gt_iff_lt, ge_iff_le, Int.not_lt, Int.not_le, Nat.not_lt, Nat.not_le, Int.ofNat_lt, Int.ofNat_le] at hgc); (first | obtain ⟨⟨⟨⟨_, _⟩, _⟩, _⟩, _⟩ := hgc | obtain ⟨⟨⟨_, _⟩, _⟩, _⟩ := hgc | obtain ⟨⟨_, _⟩, _⟩ := hgc | obtain ⟨_, _⟩ := hgc | skip); (first | assumption | omega | (simp; done) | (simp only [List.mem_cons, List.not_mem_nil, or_false, forall_eq_or_imp, forall_eq, str_size, ByteArray.size_append, size1, size0, D_length, List.length_cons, List.length_nil] at *; omega))))
  case z4_8 =>
    intro a' w' hE hK hg
    have x0 := ksv (hK 24 rfl) rfl rfl hg
    exact ok_lenS ty9 x0
  case z4_9 =>
    intro a' w' hE hK hg
    have x0 := ksv (hK 25 rfl) rfl rfl hg
    exact ok_neqI x0 rfl
  case z4_10 =>
    intro a' w' hE hK hg
    have x0 := ksv (hK 21 rfl) rfl rfl rfl
    exact ok_or x0 (fun hb => ksv (hK 26 rfl) rfl rfl (act_g1 rfl rfl hb))
  case z4_11 =>
    intro a' w' hE hK hg
    have x0 := ksv (hK 27 rfl) rfl rfl rfl
    exact ok_move x0
  case z4_12 =>
    intro a' w' hE hK hg
    have x0 := kn (hK 0 rfl) rfl r0
    exact ok_move x0
  case z4_13 =>
    intro a' w' hE hK hg
    have x0 := kn (hK 3 rfl) rfl r3
    exact ok_move x0
  case z4_14 =>
    intro a' w' hE hK hg
    have x0 := ksv (hK 29 rfl) rfl rfl hg
    have x1 := ksv (hK 30 rfl) rfl rfl hg
    have hgc := agv rfl hg rfl; revert hgc; intro hgc
    exact ok_call2 fn17 x0 x1 (dMark _ _ _ (by (try simp only [Bool.and_eq_true, Bool.or_eq_true, Bool.and_eq_false_iff, Bool.or_eq_false_iff, Bool.not_eq_true', Bool.not_eq_false', decide_eq_true_eq, decide_eq_false_iff_not, ne_eq, Decidable.not_not, gt_iff_lt, ge_iff_le, Int.not_lt, Int.not_le, Nat.not_lt, Nat.not_le, Int.ofNat_lt, Int.ofNat_le] at hgc); (first | obtain ⟨⟨⟨⟨_, _⟩, _⟩, _⟩, _⟩ := hgc | obtain ⟨⟨⟨_, _⟩, _⟩, _⟩ := hgc | obtain ⟨⟨_, _⟩, _⟩ := hgc | obtain ⟨_, _⟩ := hgc | skip); (first | assumption | omega | (simp; done) | (simp only [List.mem_cons, List.not_mem_nil, or_false, forall_eq_or_imp, forall_eq, str_size, ByteArray.size_append, size1, size0, D_length, List.length_cons, List.length_nil] at *; omega))) (by (try simp only [Bool.and_eq_true, Bool.or_eq_true, Bool.and_eq_false_iff, Bool.or_eq_false_iff, Bool.not_eq_true', Bool.not_eq_false', decide_eq_true_eq, decide_eq_false_iff_not, ne_eq, Decidable.not_not, gt_iff_lt, ge_iff_le, Int.not_lt, Int.not_le, Nat.not_lt, Nat.not_le, Int.ofNat_lt, Int.ofNat_le] at hgc); (first | obtain ⟨⟨⟨⟨_, _⟩, _⟩, _⟩, _⟩ := hgc | obtain ⟨⟨⟨_, _⟩, _⟩, _⟩ := hgc | obtain ⟨⟨_, _⟩, _⟩ := hgc | obtain ⟨_, _⟩ := hgc | skip); (first | assumption | omega | (simp; done) | (simp only [List.mem_cons, List.not_mem_nil, or_false, forall_eq_or_imp, forall_eq, str_size, ByteArray.size_append, size1, size0, D_length, List.length_cons, List.length_nil] at *; omega))))
  case z4_15 =>
    intro a' w' hE hK hg
    have x0 := ksv (hK 31 rfl) rfl rfl hg
    exact ok_lenS ty9 x0
  case z4_16 =>
    intro a' w' hE hK hg
    have x0 := ksv (hK 32 rfl) rfl rfl hg
    exact ok_neqI x0 rfl
  case z4_17 =>
    intro a' w' hE hK hg
    have x0 := ksv (hK 28 rfl) rfl rfl rfl
    exact ok_or x0 (fun hb => ksv (hK 33 rfl) rfl rfl (act_g1 rfl rfl hb))
  case z4_18 =>
    intro a' w' hE hK hg
    have x0 := ksv (hK 34 rfl) rfl rfl rfl
    exact ok_move x0
  case z4_19 =>
    intro a' w' hE hK hg
    have x0 := kn (hK 0 rfl) rfl r0
    exact ok_move x0
  case z4_20 =>
    intro a' w' hE hK hg
    have x0 := kn (hK 3 rfl) rfl r3
    exact ok_move x0
  case z4_21 =>
    intro a' w' hE hK hg
    have x0 := ksv (hK 36 rfl) rfl rfl hg
    have x1 := ksv (hK 37 rfl) rfl rfl hg
    exact ok_buildSlice (E := 0) (B := w3.heap.size) ty29 ty9 hE.size (parts_of (parts_cons x0 (parts_cons x1 parts_nil))) (by first | (simp [Value.cells]; done) | (simp [Value.cells, bv, Dig.D_length]; done)) rfl (by omega)
  case z4_22 =>
    intro a' w' hE hK hg
    have x0 := ksp (hK 38 rfl) rfl rfl hg
    have hgc := agv rfl hg rfl; revert hgc; intro hgc
    exact ok_call1 fn21 rfl (dRootS _ _ _ (.cons _ (.cons _ .nil)) _ x0.slv (by (try simp only [Bool.and_eq_true, Bool.or_eq_true, Bool.and_eq_false_iff, Bool.or_eq_false_iff, Bool.not_eq_true', Bool.not_eq_false', decide_eq_true_eq, decide_eq_false_iff_not, ne_eq, Decidable.not_not, gt_iff_lt, ge_iff_le, Int.not_lt, Int.not_le, Nat.not_lt, Nat.not_le, Int.ofNat_lt, Int.ofNat_le] at hgc); (first | obtain ⟨⟨⟨⟨_, _⟩, _⟩, _⟩, _⟩ := hgc | obtain ⟨⟨⟨_, _⟩, _⟩, _⟩ := hgc | obtain ⟨⟨_, _⟩, _⟩ := hgc | obtain ⟨_, _⟩ := hgc | skip); (first | assumption | omega | (simp; done) | (simp only [List.mem_cons, List.not_mem_nil, or_false, forall_eq_or_imp, forall_eq, str_size, ByteArray.size_append, size1, size0, D_length, List.length_cons, List.length_nil] at *; omega))) (by (try simp only [Bool.and_eq_true, Bool.or_eq_true, Bool.and_eq_false_iff, Bool.or_eq_false_iff, Bool.not_eq_true', Bool.not_eq_false', decide_eq_true_eq, decide_eq_false_iff_not, ne_eq, Decidable.not_not, gt_iff_lt, ge_iff_le, Int.not_lt, Int.not_le, Nat.not_lt, Nat.not_le, Int.ofNat_lt, Int.ofNat_le] at hgc); (first | obtain ⟨⟨⟨⟨_, _⟩, _⟩, _⟩, _⟩ := hgc | obtain ⟨⟨⟨_, _⟩, _⟩, _⟩ := hgc | obtain ⟨⟨_, _⟩, _⟩ := hgc | obtain ⟨_, _⟩ := hgc | skip); (first | assumption | omega | (simp; done) | (simp only [List.mem_cons, List.not_mem_nil, or_false, forall_eq_or_imp, forall_eq, str_size, ByteArray.size_append, size1, size0, D_length, List.length_cons, List.length_nil] at *; omega))))
  case z4_23 =>
    intro a' w' hE hK hg
    have x0 := ksv (hK 39 rfl) rfl rfl hg
    exact ok_lenS ty9 x0
  case z4_24 =>
    intro a' w' hE hK hg
    have x0 := ksv (hK 40 rfl) rfl rfl hg
    exact ok_neqI x0 rfl
  case z4_25 =>
    intro a' w' hE hK hg
    have x0 := ksv (hK 35 rfl) rfl rfl rfl
    exact ok_or x0 (fun hb => ksv (hK 41 rfl) rfl rfl (act_g1 rfl rfl hb))
  case z4_26 =>
    intro a' w' hE hK hg
    have x0 := ksv (hK 42 rfl) rfl rfl rfl
    exact ok_move x0
  case z4_27 =>
    intro a' w' hE hK hg
    have x0 := kn (hK 0 rfl) rfl r0
    exact ok_move x0
  case z4_28 =>
    intro a' w' hE hK hg
    have x0 := ksv (hK 44 rfl) rfl rfl hg
    have hgc := agv rfl hg rfl; revert hgc; intro hgc
    exact ok_call1 fn23 x0 (dLeaf _ _ (by (try simp only [Bool.and_eq_true, Bool.or_eq_true, Bool.and_eq_false_iff, Bool.or_eq_false_iff, Bool.not_eq_true', Bool.not_eq_false', decide_eq_true_eq, decide_eq_false_iff_not, ne_eq, Decidable.not_not, gt_iff_lt, ge_iff_le, Int.not_lt, Int.not_le, Nat.not_lt, Nat.not_le, Int.ofNat_lt, Int.ofNat_le] at hgc); (first | obtain ⟨⟨⟨⟨_, _⟩, _⟩, _⟩, _⟩ := hgc | obtain ⟨⟨⟨_, _⟩, _⟩, _⟩ := hgc | obtain ⟨⟨_, _⟩, _⟩ := hgc | obtain ⟨_, _⟩ := hgc | skip); (first | assumption | omega | (simp; done) | (simp only [List.mem_cons, List.not_mem_nil, or_false, forall_eq_or_imp, forall_eq, str_size, ByteArray.size_append, size1, size0, D_length, List.length_cons, List.length_nil] at *; omega))))
  case z4_29 =>
    intro a' w' hE hK hg
    have x0 := ksv (hK 45 rfl) rfl rfl hg
    exact ok_lenS ty9 x0
  case z4_30 =>
    intro a' w' hE hK hg
    have x0 := ksv (hK 46 rfl) rfl rfl hg
    exact ok_neqI x0 rfl
  case z4_31 =>
    intro a' w' hE hK hg
    have x0 := ksv (hK 43 rfl) rfl rfl rfl
    exact ok_or x0 (fun hb => ksv (hK 47 rfl) rfl rfl (act_g1 rfl rfl hb))
  case zok4 => kernel_rfl
  case zgd4 => kernel_rfl
  intro a4 w4 hA' hE HF
  replace r0 := kn (HF 0) rfl r0
  replace r1 := kn (HF 1) rfl r1
  replace r2 := kn (HF 2) rfl r2
  replace r3 := kn (HF 3) rfl r3
  replace r9 := kn (HF 9) rfl r9
  have r48 := ksv (HF 48) rfl rfl rfl
  clear hA HF
  have hA := hA'
  clear hA'
  have hLt := hB.size
  replace hB := hB.trans hE
  clear hE hLt
  refine (li_nil (nx_then ?_))
  refine wp_cond_b r48 (fun hc => ?_) (fun hc => ?_)
  ·
    try simp only [Bool.and_eq_true, Bool.or_eq_true, Bool.and_eq_false_iff, Bool.or_eq_false_iff, Bool.not_eq_true', Bool.not_eq_false', decide_eq_true_eq, decide_eq_false_iff_not, ne_eq, Decidable.not_not, gt_iff_lt, ge_iff_le, Int.not_lt, Int.not_le, Nat.not_lt, Nat.not_le, Int.ofNat_lt, Int.ofNat_le] at hc
    exact absurd hc (by simp [str_size, rootD_len, D_length])
  ·
    try simp only [Bool.and_eq_true, Bool.or_eq_true, Bool.and_eq_false_iff, Bool.or_eq_false_iff, Bool.not_eq_true', Bool.not_eq_false', decide_eq_true_eq, decide_eq_false_iff_not, ne_eq, Decidable.not_not, gt_iff_lt, ge_iff_le, Int.not_lt, Int.not_le, Nat.not_lt, Nat.not_le, Int.ofNat_lt, Int.ofNat_le] at hc
    refine wp_skip ?_
    refine (nx_then ?_)
    refine wp_seq ?_
    refine wp_seq ?_
    refine' region [_, _, _, _, _, _, _] mixed hA (.cons ?z6_0 (.cons ?z6_1 (.cons ?z6_2 (.cons ?z6_3 (.cons ?z6_4 (.cons ?z6_5 (.cons ?z6_6 .nil))))))) ?zok6 ?zgd6 ?zk6
    case z6_0 =>
      intro a' w' hE hK hg
      have x0 := kn (hK 0 rfl) rfl r0
      exact ok_move x0
    case z6_1 =>
      intro a' w' hE hK hg
      have x0 := ksv (hK 49 rfl) rfl rfl rfl
      exact ok_lenS ty9 x0
    case z6_2 =>
      intro a' w' hE hK hg
      have x0 := ksv (hK 50 rfl) rfl rfl rfl
      exact ok_eqlI x0 rfl
    case z6_3 =>
      intro a' w' hE hK hg
      have x0 := ksv (hK 51 rfl) rfl rfl rfl
      exact ok_move x0
    case z6_4 =>
      intro a' w' hE hK hg
      have x0 := kn (hK 2 rfl) rfl r2
      exact ok_move x0
    case z6_5 =>
      intro a' w' hE hK hg
      have x0 := ksv (hK 53 rfl) rfl rfl hg
      exact ok_eqlI x0 rfl
    case z6_6 =>
      intro a' w' hE hK hg
      have x0 := ksv (hK 52 rfl) rfl rfl rfl
      exact ok_or x0 (fun hb => ksv (hK 54 rfl) rfl rfl (act_g1 rfl rfl hb))
    case zok6 => kernel_rfl
    case zgd6 => kernel_rfl
    intro a5 w5 hA' hE HF
    replace r0 := kn (HF 0) rfl r0
    replace r1 := kn (HF 1) rfl r1
    replace r2 := kn (HF 2) rfl r2
    replace r3 := kn (HF 3) rfl r3
    replace r9 := kn (HF 9) rfl r9
    have r55 := ksv (HF 55) rfl rfl rfl
    clear hA HF
    have hA := hA'
    clear hA'
    have hLt := hB.size
    replace hB := hB.trans hE
    clear hE hLt
    refine (li_nil (nx_then ?_))
    refine wp_cond_b r55 (fun hc => ?_) (fun hc => ?_)
    ·
      try simp only [Bool.and_eq_true, Bool.or_eq_true, Bool.and_eq_false_iff, Bool.or_eq_false_iff, Bool.not_eq_true', Bool.not_eq_false', decide_eq_true_eq, decide_eq_false_iff_not, ne_eq, Decidable.not_not, gt_iff_lt, ge_iff_le, Int.not_lt, Int.not_le, Nat.not_lt, Nat.not_le, Int.ofNat_lt, Int.ofNat_le] at hc
      refine wp_seq ?_
      refine' region [_, _] mixed hA (.cons ?z8_0 (.cons ?z8_1 .nil)) ?zok8 ?zgd8 ?zk8
      case z8_0 =>
        intro a' w' hE hK hg
        have x0 := kn (hK 9 rfl) rfl r9
        exact ok_move x0
      case z8_1 =>
        intro a' w' hE hK hg
        have x0 := ksv (hK 56 rfl) rfl rfl rfl
        exact ok_assign x0
      case zok8 => kernel_rfl
      case zgd8 => kernel_rfl
      intro a6 w6 hA' hE HF
      have r8 := ksv (HF 8) rfl rfl rfl
      clear hA HF
      have hA := hA'
      clear hA'
      have hLt := hB.size
      replace hB := hB.trans hE
      clear hE hLt
      refine (li_nil (nx_then ?_))
      refine (wp_ret (rt_then ?_))
      refine retPure Try.results5 hA r8 hB ?_
      (show _ = _; first | rfl | exact congrArg _ (differ_b hd_ _ _ (key_ne _)))
    ·
      try simp only [Bool.and_eq_true, Bool.or_eq_true, Bool.and_eq_false_iff, Bool.or_eq_false_iff, Bool.not_eq_true', Bool.not_eq_false', decide_eq_true_eq, decide_eq_false_iff_not, ne_eq, Decidable.not_not, gt_iff_lt, ge_iff_le, Int.not_lt, Int.not_le, Nat.not_lt, Nat.not_le, Int.ofNat_lt, Int.ofNat_le] at hc
      have hy_ : y ≠ 0 := ne_zero_u8 hc.2
      have hS_ : 0 < (cut 60 s).size := (by omega)
      have hd_ := dif_of x y (cut 60 s) hS_ hy_
      refine wp_skip ?_
      refine (nx_then ?_)
      refine wp_seq ?_
      refine' region [_, _, _, _, _, _] mixed hA (.cons ?z10_0 (.cons ?z10_1 (.cons ?z10_2 (.cons ?z10_3 (.cons ?z10_4 (.cons ?z10_5 .nil)))))) ?zok10 ?zgd10 ?zk10
      case z10_0 =>
        intro a' w' hE hK hg
        have x0 := kn (hK 1 rfl) rfl r1
        exact ok_move x0
      case z10_1 =>
        intro a' w' hE hK hg
        have x0 := kn (hK 2 rfl) rfl r2
        exact ok_move x0
      case z10_2 =>
        intro a' w' hE hK hg
        have x0 := ksv (hK 57 rfl) rfl rfl rfl
        have x1 := ksv (hK 58 rfl) rfl rfl rfl
        exact ok_build2of3 ty23 (by kernel_rfl) fl23_0 fl23_1 fl23_2 ty5 ty5 ty9 x0 x1 rfl rfl
      case z10_3 =>
        intro a' w' hE hK hg
        have x0 := kn (hK 0 rfl) rfl r0
        exact ok_move x0
      case z10_4 =>
        intro a' w' hE hK hg
        have x0 := ksv (hK 59 rfl) rfl rfl rfl
        have x1 := ksv (hK 60 rfl) rfl rfl rfl
        exact ok_call2 fn11 x0 x1 (lChange _ _ _ _ _ (by first | assumption | omega | (simp; done) | (simp only [List.mem_cons, List.not_mem_nil, or_false, forall_eq_or_imp, forall_eq, str_size, ByteArray.size_append, size1, size0, D_length, List.length_cons, List.length_nil] at *; omega)) (by first | assumption | omega | (simp; done) | (simp only [List.mem_cons, List.not_mem_nil, or_false, forall_eq_or_imp, forall_eq, str_size, ByteArray.size_append, size1, size0, D_length, List.length_cons, List.length_nil] at *; omega)))
      case z10_5 =>
        intro a' w' hE hK hg
        have x0 := ksv (hK 61 rfl) rfl rfl rfl
        exact ok_assign x0
      case zok10 => kernel_rfl
      case zgd10 => kernel_rfl
      intro a7 w7 hA' hE HF
      replace r0 := kn (HF 0) rfl r0
      replace r3 := kn (HF 3) rfl r3
      replace r9 := kn (HF 9) rfl r9
      have r10 := ksv (HF 10) rfl rfl rfl
      clear hA HF
      have hA := hA'
      clear hA'
      have hLt := hB.size
      replace hB := hB.trans hE
      clear hE hLt
      refine (li_nil (nx_then ?_))
      refine wp_seq ?_
      refine' region [_, _, _, _, _] mixed hA (.cons ?z11_0 (.cons ?z11_1 (.cons ?z11_2 (.cons ?z11_3 (.cons ?z11_4 .nil))))) ?zok11 ?zgd11 ?zk11
      case z11_0 =>
        intro a' w' hE hK hg
        have x0 := kn (hK 3 rfl) rfl r3
        exact ok_move x0
      case z11_1 =>
        intro a' w' hE hK hg
        have x1 := ksv (hK 62 rfl) rfl rfl rfl
        exact ok_addS rfl x1 (by first | assumption | omega | (simp; done) | (simp only [List.mem_cons, List.not_mem_nil, or_false, forall_eq_or_imp, forall_eq, str_size, ByteArray.size_append, size1, size0, D_length, List.length_cons, List.length_nil] at *; omega))
      case z11_2 =>
        intro a' w' hE hK hg
        have x0 := kn (hK 0 rfl) rfl r0
        exact ok_move x0
      case z11_3 =>
        intro a' w' hE hK hg
        have x0 := ksv (hK 63 rfl) rfl rfl rfl
        have x1 := ksv (hK 64 rfl) rfl rfl rfl
        exact ok_call2 fn17 x0 x1 (dMark _ _ _ (by first | assumption | omega | (simp; done) | (simp only [List.mem_cons, List.not_mem_nil, or_false, forall_eq_or_imp, forall_eq, str_size, ByteArray.size_append, size1, size0, D_length, List.length_cons, List.length_nil] at *; omega)) (by first | assumption | omega | (simp; done) | (simp only [List.mem_cons, List.not_mem_nil, or_false, forall_eq_or_imp, forall_eq, str_size, ByteArray.size_append, size1, size0, D_length, List.length_cons, List.length_nil] at *; omega)))
      case z11_4 =>
        intro a' w' hE hK hg
        have x0 := ksv (hK 65 rfl) rfl rfl rfl
        exact ok_assign x0
      case zok11 => kernel_rfl
      case zgd11 => kernel_rfl
      intro a8 w8 hA' hE HF
      replace r0 := kn (HF 0) rfl r0
      replace r3 := kn (HF 3) rfl r3
      replace r9 := kn (HF 9) rfl r9
      replace r10 := kn (HF 10) rfl r10
      have r11 := ksv (HF 11) rfl rfl rfl
      clear hA HF
      have hA := hA'
      clear hA'
      have hLt := hB.size
      replace hB := hB.trans hE
      clear hE hLt
      refine (li_nil (nx_then ?_))
      refine wp_seq ?_
      refine wp_seq ?_
      refine' region [_, _, _, _, _, _, _, _, _, _, _, _, _, _, _, _, _, _, _, _, _] mixed hA (.cons ?z12_0 (.cons ?z12_1 (.cons ?z12_2 (.cons ?z12_3 (.cons ?z12_4 (.cons ?z12_5 (.cons ?z12_6 (.cons ?z12_7 (.cons ?z12_8 (.cons ?z12_9 (.cons ?z12_10 (.cons ?z12_11 (.cons ?z12_12 (.cons ?z12_13 (.cons ?z12_14 (.cons ?z12_15 (.cons ?z12_16 (.cons ?z12_17 (.cons ?z12_18 (.cons ?z12_19 (.cons ?z12_20 .nil))))))))))))))))))))) ?zok12 ?zgd12 ?zk12
      case z12_0 =>
        intro a' w' hE hK hg
        have x0 := kn (hK 0 rfl) rfl r0
        exact ok_move x0
      case z12_1 =>
        intro a' w' hE hK hg
        have x0 := ksv (hK 66 rfl) rfl rfl rfl
        exact ok_call1 fn13 x0 (dOf1 _ _ (by first | assumption | omega | (simp; done) | (simp only [List.mem_cons, List.not_mem_nil, or_false, forall_eq_or_imp, forall_eq, str_size, ByteArray.size_append, size1, size0, D_length, List.length_cons, List.length_nil] at *; omega)))
      case z12_2 =>
        intro a' w' hE hK hg
        have x0 := kn (hK 10 rfl) rfl r10
        exact ok_move x0
      case z12_3 =>
        intro a' w' hE hK hg
        have x0 := ksv (hK 68 rfl) rfl rfl rfl
        exact ok_call1 fn13 x0 (dOf1 _ _ (by first | assumption | omega | (simp; done) | (simp only [List.mem_cons, List.not_mem_nil, or_false, forall_eq_or_imp, forall_eq, str_size, ByteArray.size_append, size1, size0, D_length, List.length_cons, List.length_nil] at *; omega)))
      case z12_4 =>
        intro a' w' hE hK hg
        have x0 := ksv (hK 67 rfl) rfl rfl rfl
        have x1 := ksv (hK 69 rfl) rfl rfl rfl
        exact ok_eqlS x0 x1
      case z12_5 =>
        intro a' w' hE hK hg
        have x0 := ksv (hK 70 rfl) rfl rfl rfl
        exact ok_move x0
      case z12_6 =>
        intro a' w' hE hK hg
        have x0 := kn (hK 0 rfl) rfl r0
        exact ok_move x0
      case z12_7 =>
        intro a' w' hE hK hg
        have x0 := ksv (hK 72 rfl) rfl rfl hg
        have hgc := agv rfl hg rfl; revert hgc; intro hgc
        exact ok_call1 fn23 x0 (dLeaf _ _ (by (try simp only [Bool.and_eq_true, Bool.or_eq_true, Bool.and_eq_false_iff, Bool.or_eq_false_iff, Bool.not_eq_true', Bool.not_eq_false', decide_eq_true_eq, decide_eq_false_iff_not, ne_eq, Decidable.not_not, gt_iff_lt, ge_iff_le, Int.not_lt, Int.not_le, Nat.not_lt, Nat.not_le, Int.ofNat_lt, Int.ofNat_le] at hgc); (first | obtain ⟨⟨⟨⟨_, _⟩, _⟩, _⟩, _⟩ := hgc | obtain ⟨⟨⟨_, _⟩, _⟩, _⟩ := hgc | obtain ⟨⟨_, _⟩, _⟩ := hgc | obtain ⟨_, _⟩ := hgc | skip); (first | assumption | omega | (simp; done) | (simp only [List.mem_cons, List.not_mem_nil, or_false, forall_eq_or_imp, forall_eq, str_size, ByteArray.size_append, size1, size0, D_length, List.length_cons, List.length_nil] at *; omega))))
      case z12_8 =>
        intro a' w' hE hK hg
        have x0 := kn (hK 10 rfl) rfl r10
        exact ok_move x0
      case z12_9 =>
        intro a' w' hE hK hg
        have x0 := ksv (hK 74 rfl) rfl rfl hg
        have hgc := agv rfl hg rfl; revert hgc; intro hgc
        exact ok_call1 fn23 x0 (dLeaf _ _ (by (try simp only [Bool.and_eq_true, Bool.or_eq_true, Bool.and_eq_false_iff, Bool.or_eq_false_iff, Bool.not_eq_true', Bool.not_eq_false', decide_eq_true_eq, decide_eq_false_iff_not, ne_eq, Decidable.not_not, gt_iff_lt, ge_iff_le, Int.not_lt, Int.not_le, Nat.not_lt, Nat.not_le, Int.ofNat_lt, Int.ofNat_le] at hgc); (first | obtain ⟨⟨⟨⟨_, _⟩, _⟩, _⟩, _⟩ := hgc | obtain ⟨⟨⟨_, _⟩, _⟩, _⟩ := hgc | obtain ⟨⟨_, _⟩, _⟩ := hgc | obtain ⟨_, _⟩ := hgc | skip); (first | assumption | omega | (simp; done) | (simp only [List.mem_cons, List.not_mem_nil, or_false, forall_eq_or_imp, forall_eq, str_size, ByteArray.size_append, size1, size0, D_length, List.length_cons, List.length_nil] at *; omega))))
      case z12_10 =>
        intro a' w' hE hK hg
        have x0 := ksv (hK 73 rfl) rfl rfl hg
        have x1 := ksv (hK 75 rfl) rfl rfl hg
        exact ok_eqlS x0 x1
      case z12_11 =>
        intro a' w' hE hK hg
        have x0 := ksv (hK 71 rfl) rfl rfl rfl
        exact ok_or x0 (fun hb => ksv (hK 76 rfl) rfl rfl (act_g1 rfl rfl hb))
      case z12_12 =>
        intro a' w' hE hK hg
        have x0 := ksv (hK 77 rfl) rfl rfl rfl
        exact ok_move x0
      case z12_13 =>
        intro a' w' hE hK hg
        have x0 := kn (hK 0 rfl) rfl r0
        exact ok_move x0
      case z12_14 =>
        intro a' w' hE hK hg
        have x0 := kn (hK 3 rfl) rfl r3
        exact ok_move x0
      case z12_15 =>
        intro a' w' hE hK hg
        have x0 := ksv (hK 79 rfl) rfl rfl hg
        have x1 := ksv (hK 80 rfl) rfl rfl hg
        have hgc := agv rfl hg rfl; revert hgc; intro hgc
        exact ok_call2 fn25 x0 x1 (dInner _ _ _ (by (try simp only [Bool.and_eq_true, Bool.or_eq_true, Bool.and_eq_false_iff, Bool.or_eq_false_iff, Bool.not_eq_true', Bool.not_eq_false', decide_eq_true_eq, decide_eq_false_iff_not, ne_eq, Decidable.not_not, gt_iff_lt, ge_iff_le, Int.not_lt, Int.not_le, Nat.not_lt, Nat.not_le, Int.ofNat_lt, Int.ofNat_le] at hgc); (first | obtain ⟨⟨⟨⟨_, _⟩, _⟩, _⟩, _⟩ := hgc | obtain ⟨⟨⟨_, _⟩, _⟩, _⟩ := hgc | obtain ⟨⟨_, _⟩, _⟩ := hgc | obtain ⟨_, _⟩ := hgc | skip); (first | assumption | omega | (simp; done) | (simp only [List.mem_cons, List.not_mem_nil, or_false, forall_eq_or_imp, forall_eq, str_size, ByteArray.size_append, size1, size0, D_length, List.length_cons, List.length_nil] at *; omega))) (by (try simp only [Bool.and_eq_true, Bool.or_eq_true, Bool.and_eq_false_iff, Bool.or_eq_false_iff, Bool.not_eq_true', Bool.not_eq_false', decide_eq_true_eq, decide_eq_false_iff_not, ne_eq, Decidable.not_not, gt_iff_lt, ge_iff_le, Int.not_lt, Int.not_le, Nat.not_lt, Nat.not_le, Int.ofNat_lt, Int.ofNat_le] at hgc); (first | obtain ⟨⟨⟨⟨_, _⟩, _⟩, _⟩, _⟩ := hgc | obtain ⟨⟨⟨_, _⟩, _⟩, _⟩ := hgc | obtain ⟨⟨_, _⟩, _⟩ := hgc | obtain ⟨_, _⟩ := hgc | skip); (first | assumption | omega | (simp; done) | (simp only [List.mem_cons, List.not_mem_nil, or_false, forall_eq_or_imp, forall_eq, str_size, ByteArray.size_append, size1, size0, D_length, List.length_cons, List.length_nil] at *; omega))))
      case z12_16 =>
        intro a' w' hE hK hg
        have x0 := kn (hK 10 rfl) rfl r10
        exact ok_move x0
      case z12_17 =>
        intro a' w' hE hK hg
        have x0 := kn (hK 3 rfl) rfl r3
        exact ok_move x0
      case z12_18 =>
        intro a' w' hE hK hg
        have x0 := ksv (hK 82 rfl) rfl rfl hg
        have x1 := ksv (hK 83 rfl) rfl rfl hg
        have hgc := agv rfl hg rfl; revert hgc; intro hgc
        exact ok_call2 fn25 x0 x1 (dInner _ _ _ (by (try simp only [Bool.and_eq_true, Bool.or_eq_true, Bool.and_eq_false_iff, Bool.or_eq_false_iff, Bool.not_eq_true', Bool.not_eq_false', decide_eq_true_eq, decide_eq_false_iff_not, ne_eq, Decidable.not_not, gt_iff_lt, ge_iff_le, Int.not_lt, Int.not_le, Nat.not_lt, Nat.not_le, Int.ofNat_lt, Int.ofNat_le] at hgc); (first | obtain ⟨⟨⟨⟨_, _⟩, _⟩, _⟩, _⟩ := hgc | obtain ⟨⟨⟨_, _⟩, _⟩, _⟩ := hgc | obtain ⟨⟨_, _⟩, _⟩ := hgc | obtain ⟨_, _⟩ := hgc | skip); (first | assumption | omega | (simp; done) | (simp only [List.mem_cons, List.not_mem_nil, or_false, forall_eq_or_imp, forall_eq, str_size, ByteArray.size_append, size1, size0, D_length, List.length_cons, List.length_nil] at *; omega))) (by (try simp only [Bool.and_eq_true, Bool.or_eq_true, Bool.and_eq_false_iff, Bool.or_eq_false_iff, Bool.not_eq_true', Bool.not_eq_false', decide_eq_true_eq, decide_eq_false_iff_not, ne_eq, Decidable.not_not, gt_iff_lt, ge_iff_le, Int.not_lt, Int.not_le, Nat.not_lt, Nat.not_le, Int.ofNat_lt, Int.ofNat_le] at hgc); (first | obtain ⟨⟨⟨⟨_, _⟩, _⟩, _⟩, _⟩ := hgc | obtain ⟨⟨⟨_, _⟩, _⟩, _⟩ := hgc | obtain ⟨⟨_, _⟩, _⟩ := hgc | obtain ⟨_, _⟩ := hgc | skip); (first | assumption | omega | (simp; done) | (simp only [List.mem_cons, List.not_mem_nil, or_false, forall_eq_or_imp, forall_eq, str_size, ByteArray.size_append, size1, size0, D_length, List.length_cons, List.length_nil] at *; omega))))
      case z12_19 =>
        intro a' w' hE hK hg
        have x0 := ksv (hK 81 rfl) rfl rfl hg
        have x1 := ksv (hK 84 rfl) rfl rfl hg
        exact ok_eqlS x0 x1
      case z12_20 =>
        intro a' w' hE hK hg
        have x0 := ksv (hK 78 rfl) rfl rfl rfl
        exact ok_or x0 (fun hb => ksv (hK 85 rfl) rfl rfl (act_g1 rfl rfl hb))
      case zok12 => kernel_rfl
      case zgd12 => kernel_rfl
      intro a9 w9 hA' hE HF
      replace r0 := kn (HF 0) rfl r0
      replace r3 := kn (HF 3) rfl r3
      replace r9 := kn (HF 9) rfl r9
      replace r10 := kn (HF 10) rfl r10
      replace r11 := kn (HF 11) rfl r11
      have r86 := ksv (HF 86) rfl rfl rfl
      clear hA HF
      have hA := hA'
      clear hA'
      have hLt := hB.size
      replace hB := hB.trans hE
      clear hE hLt
      refine (li_nil (nx_then ?_))
      refine wp_cond_b r86 (fun hc => ?_) (fun hc => ?_)
      ·
        try simp only [Bool.and_eq_true, Bool.or_eq_true, Bool.and_eq_false_iff, Bool.or_eq_false_iff, Bool.not_eq_true', Bool.not_eq_false', decide_eq_true_eq, decide_eq_false_iff_not, ne_eq, Decidable.not_not, gt_iff_lt, ge_iff_le, Int.not_lt, Int.not_le, Nat.not_lt, Nat.not_le, Int.ofNat_lt, Int.ofNat_le] at hc
        exact absurd hc (differ_a hd_ _)
      ·
        try simp only [Bool.and_eq_true, Bool.or_eq_true, Bool.and_eq_false_iff, Bool.or_eq_false_iff, Bool.not_eq_true', Bool.not_eq_false', decide_eq_true_eq, decide_eq_false_iff_not, ne_eq, Decidable.not_not, gt_iff_lt, ge_iff_le, Int.not_lt, Int.not_le, Nat.not_lt, Nat.not_le, Int.ofNat_lt, Int.ofNat_le] at hc
        refine wp_skip ?_
        refine (nx_then ?_)
        refine wp_seq ?_
        refine' region [_, _, _, _, _, _, _, _, _, _, _, _, _, _, _, _, _, _, _, _, _, _, _, _, _, _, _, _, _, _, _, _, _, _, _] mixed hA (.cons ?z14_0 (.cons ?z14_1 (.cons ?z14_2 (.cons ?z14_3 (.cons ?z14_4 (.cons ?z14_5 (.cons ?z14_6 (.cons ?z14_7 (.cons ?z14_8 (.cons ?z14_9 (.cons ?z14_10 (.cons ?z14_11 (.cons ?z14_12 (.cons ?z14_13 (.cons ?z14_14 (.cons ?z14_15 (.cons ?z14_16 (.cons ?z14_17 (.cons ?z14_18 (.cons ?z14_19 (.cons ?z14_20 (.cons ?z14_21 (.cons ?z14_22 (.cons ?z14_23 (.cons ?z14_24 (.cons ?z14_25 (.cons ?z14_26 (.cons ?z14_27 (.cons ?z14_28 (.cons ?z14_29 (.cons ?z14_30 (.cons ?z14_31 (.cons ?z14_32 (.cons ?z14_33 (.cons ?z14_34 .nil))))))))))))))))))))))))))))))))))) ?zok14 ?zgd14 ?zk14
        case z14_0 =>
          intro a' w' hE hK hg
          have x0 := kn (hK 9 rfl) rfl r9
          exact ok_move x0
        case z14_1 =>
          intro a' w' hE hK hg
          have x0 := ksv (hK 87 rfl) rfl rfl rfl
          exact ok_move x0
        case z14_2 =>
          intro a' w' hE hK hg
          have x0 := kn (hK 0 rfl) rfl r0
          exact ok_move x0
        case z14_3 =>
          intro a' w' hE hK hg
          have x0 := kn (hK 3 rfl) rfl r3
          exact ok_move x0
        case z14_4 =>
          intro a' w' hE hK hg
          have x0 := ksv (hK 89 rfl) rfl rfl hg
          have x1 := ksv (hK 90 rfl) rfl rfl hg
          have hgc := agv rfl hg rfl; revert hgc; intro hgc
          exact ok_call2 fn15 x0 x1 (dChain _ _ _ (by (try simp only [Bool.and_eq_true, Bool.or_eq_true, Bool.and_eq_false_iff, Bool.or_eq_false_iff, Bool.not_eq_true', Bool.not_eq_false', decide_eq_true_eq, decide_eq_false_iff_not, ne_eq, Decidable.not_not, gt_iff_lt, ge_iff_le, Int.not_lt, Int.not_le, Nat.not_lt, Nat.not_le, Int.ofNat_lt, Int.ofNat_le] at hgc); (first | obtain ⟨⟨⟨⟨_, _⟩, _⟩, _⟩, _⟩ := hgc | obtain ⟨⟨⟨_, _⟩, _⟩, _⟩ := hgc | obtain ⟨⟨_, _⟩, _⟩ := hgc | obtain ⟨_, _⟩ := hgc | skip); (first | assumption | omega | (simp; done) | (simp only [List.mem_cons, List.not_mem_nil, or_false, forall_eq_or_imp, forall_eq, str_size, ByteArray.size_append, size1, size0, D_length, List.length_cons, List.length_nil] at *; omega))) (by (try simp only [Bool.and_eq_true, Bool.or_eq_true, Bool.and_eq_false_iff, Bool.or_eq_false_iff, Bool.not_eq_true', Bool.not_eq_false', decide_eq_true_eq, decide_eq_false_iff_not, ne_eq, Decidable.not_not, gt_iff_lt, ge_iff_le, Int.not_lt, Int.not_le, Nat.not_lt, Nat.not_le, Int.ofNat_lt, Int.ofNat_le] at hgc); (first | obtain ⟨⟨⟨⟨_, _⟩, _⟩, _⟩, _⟩ := hgc | obtain ⟨⟨⟨_, _⟩, _⟩, _⟩ := hgc | obtain ⟨⟨_, _⟩, _⟩ := hgc | obtain ⟨_, _⟩ := hgc | skip); (first | assumption | omega | (simp; done) | (simp only [List.mem_cons, List.not_mem_nil, or_false, forall_eq_or_imp, forall_eq, str_size, ByteArray.size_append, size1, size0, D_length, List.length_cons, List.length_nil] at *; omega))))
        case z14_5 =>
          intro a' w' hE hK hg
          have x0 := kn (hK 10 rfl) rfl r10
          exact ok_move x0
        case z14_6 =>
          intro a' w' hE hK hg
          have x0 := kn (hK 3 rfl) rfl r3
          exact ok_move x0
        case z14_7 =>
          intro a' w' hE hK hg
          have x0 := ksv (hK 92 rfl) rfl rfl hg
          have x1 := ksv (hK 93 rfl) rfl rfl hg
          have hgc := agv rfl hg rfl; revert hgc; intro hgc
          exact ok_call2 fn15 x0 x1 (dChain _ _ _ (by (try simp only [Bool.and_eq_true, Bool.or_eq_true, Bool.and_eq_false_iff, Bool.or_eq_false_iff, Bool.not_eq_true', Bool.not_eq_false', decide_eq_true_eq, decide_eq_false_iff_not, ne_eq, Decidable.not_not, gt_iff_lt, ge_iff_le, Int.not_lt, Int.not_le, Nat.not_lt, Nat.not_le, Int.ofNat_lt, Int.ofNat_le] at hgc); (first | obtain ⟨⟨⟨⟨_, _⟩, _⟩, _⟩, _⟩ := hgc | obtain ⟨⟨⟨_, _⟩, _⟩, _⟩ := hgc | obtain ⟨⟨_, _⟩, _⟩ := hgc | obtain ⟨_, _⟩ := hgc | skip); (first | assumption | omega | (simp; done) | (simp only [List.mem_cons, List.not_mem_nil, or_false, forall_eq_or_imp, forall_eq, str_size, ByteArray.size_append, size1, size0, D_length, List.length_cons, List.length_nil] at *; omega))) (by (try simp only [Bool.and_eq_true, Bool.or_eq_true, Bool.and_eq_false_iff, Bool.or_eq_false_iff, Bool.not_eq_true', Bool.not_eq_false', decide_eq_true_eq, decide_eq_false_iff_not, ne_eq, Decidable.not_not, gt_iff_lt, ge_iff_le, Int.not_lt, Int.not_le, Nat.not_lt, Nat.not_le, Int.ofNat_lt, Int.ofNat_le] at hgc); (first | obtain ⟨⟨⟨⟨_, _⟩, _⟩, _⟩, _⟩ := hgc | obtain ⟨⟨⟨_, _⟩, _⟩, _⟩ := hgc | obtain ⟨⟨_, _⟩, _⟩ := hgc | obtain ⟨_, _⟩ := hgc | skip); (first | assumption | omega | (simp; done) | (simp only [List.mem_cons, List.not_mem_nil, or_false, forall_eq_or_imp, forall_eq, str_size, ByteArray.size_append, size1, size0, D_length, List.length_cons, List.length_nil] at *; omega))))
        case z14_8 =>
          intro a' w' hE hK hg
          have x0 := ksv (hK 91 rfl) rfl rfl hg
          have x1 := ksv (hK 94 rfl) rfl rfl hg
          exact ok_neqS x0 x1
        case z14_9 =>
          intro a' w' hE hK hg
          have x0 := ksv (hK 88 rfl) rfl rfl rfl
          exact ok_and x0 (fun hb => ksv (hK 95 rfl) rfl rfl (act_g1 rfl rfl hb))
        case z14_10 =>
          intro a' w' hE hK hg
          have x0 := ksv (hK 96 rfl) rfl rfl rfl
          exact ok_move x0
        case z14_11 =>
          intro a' w' hE hK hg
          have x0 := kn (hK 3 rfl) rfl r3
          exact ok_move x0
        case z14_12 =>
          intro a' w' hE hK hg
          have x0 := kn (hK 0 rfl) rfl r0
          exact ok_move x0
        case z14_13 =>
          intro a' w' hE hK hg
          have x0 := ksv (hK 98 rfl) rfl rfl hg
          have x1 := ksv (hK 99 rfl) rfl rfl hg
          have hgc := agv rfl hg rfl; revert hgc; intro hgc
          exact ok_call2 fn15 x0 x1 (dChain _ _ _ (by (try simp only [Bool.and_eq_true, Bool.or_eq_true, Bool.and_eq_false_iff, Bool.or_eq_false_iff, Bool.not_eq_true', Bool.not_eq_false', decide_eq_true_eq, decide_eq_false_iff_not, ne_eq, Decidable.not_not, gt_iff_lt, ge_iff_le, Int.not_lt, Int.not_le, Nat.not_lt, Nat.not_le, Int.ofNat_lt, Int.ofNat_le] at hgc); (first | obtain ⟨⟨⟨⟨_, _⟩, _⟩, _⟩, _⟩ := hgc | obtain ⟨⟨⟨_, _⟩, _⟩, _⟩ := hgc | obtain ⟨⟨_, _⟩, _⟩ := hgc | obtain ⟨_, _⟩ := hgc | skip); (first | assumption | omega | (simp; done) | (simp only [List.mem_cons, List.not_mem_nil, or_false, forall_eq_or_imp, forall_eq, str_size, ByteArray.size_append, size1, size0, D_length, List.length_cons, List.length_nil] at *; omega))) (by (try simp only [Bool.and_eq_true, Bool.or_eq_true, Bool.and_eq_false_iff, Bool.or_eq_false_iff, Bool.not_eq_true', Bool.not_eq_false', decide_eq_true_eq, decide_eq_false_iff_not, ne_eq, Decidable.not_not, gt_iff_lt, ge_iff_le, Int.not_lt, Int.not_le, Nat.not_lt, Nat.not_le, Int.ofNat_lt, Int.ofNat_le] at hgc); (first | obtain ⟨⟨⟨⟨_, _⟩, _⟩, _⟩, _⟩ := hgc | obtain ⟨⟨⟨_, _⟩, _⟩, _⟩ := hgc | obtain ⟨⟨_, _⟩, _⟩ := hgc | obtain ⟨_, _⟩ := hgc | skip); (first | assumption | omega | (simp; done) | (simp only [List.mem_cons, List.not_mem_nil, or_false, forall_eq_or_imp, forall_eq, str_size, ByteArray.size_append, size1, size0, D_length, List.length_cons, List.length_nil] at *; omega))))
        case z14_14 =>
          intro a' w' hE hK hg
          have x0 := kn (hK 3 rfl) rfl r3
          exact ok_move x0
        case z14_15 =>
          intro a' w' hE hK hg
          have x0 := kn (hK 10 rfl) rfl r10
          exact ok_move x0
        case z14_16 =>
          intro a' w' hE hK hg
          have x0 := ksv (hK 101 rfl) rfl rfl hg
          have x1 := ksv (hK 102 rfl) rfl rfl hg
          have hgc := agv rfl hg rfl; revert hgc; intro hgc
          exact ok_call2 fn15 x0 x1 (dChain _ _ _ (by (try simp only [Bool.and_eq_true, Bool.or_eq_true, Bool.and_eq_false_iff, Bool.or_eq_false_iff, Bool.not_eq_true', Bool.not_eq_false', decide_eq_true_eq, decide_eq_false_iff_not, ne_eq, Decidable.not_not, gt_iff_lt, ge_iff_le, Int.not_lt, Int.not_le, Nat.not_lt, Nat.not_le, Int.ofNat_lt, Int.ofNat_le] at hgc); (first | obtain ⟨⟨⟨⟨_, _⟩, _⟩, _⟩, _⟩ := hgc | obtain ⟨⟨⟨_, _⟩, _⟩, _⟩ := hgc | obtain ⟨⟨_, _⟩, _⟩ := hgc | obtain ⟨_, _⟩ := hgc | skip); (first | assumption | omega | (simp; done) | (simp only [List.mem_cons, List.not_mem_nil, or_false, forall_eq_or_imp, forall_eq, str_size, ByteArray.size_append, size1, size0, D_length, List.length_cons, List.length_nil] at *; omega))) (by (try simp only [Bool.and_eq_true, Bool.or_eq_true, Bool.and_eq_false_iff, Bool.or_eq_false_iff, Bool.not_eq_true', Bool.not_eq_false', decide_eq_true_eq, decide_eq_false_iff_not, ne_eq, Decidable.not_not, gt_iff_lt, ge_iff_le, Int.not_lt, Int.not_le, Nat.not_lt, Nat.not_le, Int.ofNat_lt, Int.ofNat_le] at hgc); (first | obtain ⟨⟨⟨⟨_, _⟩, _⟩, _⟩, _⟩ := hgc | obtain ⟨⟨⟨_, _⟩, _⟩, _⟩ := hgc | obtain ⟨⟨_, _⟩, _⟩ := hgc | obtain ⟨_, _⟩ := hgc | skip); (first | assumption | omega | (simp; done) | (simp only [List.mem_cons, List.not_mem_nil, or_false, forall_eq_or_imp, forall_eq, str_size, ByteArray.size_append, size1, size0, D_length, List.length_cons, List.length_nil] at *; omega))))
        case z14_17 =>
          intro a' w' hE hK hg
          have x0 := ksv (hK 100 rfl) rfl rfl hg
          have x1 := ksv (hK 103 rfl) rfl rfl hg
          exact ok_neqS x0 x1
        case z14_18 =>
          intro a' w' hE hK hg
          have x0 := ksv (hK 97 rfl) rfl rfl rfl
          exact ok_and x0 (fun hb => ksv (hK 104 rfl) rfl rfl (act_g1 rfl rfl hb))
        case z14_19 =>
          intro a' w' hE hK hg
          have x0 := ksv (hK 105 rfl) rfl rfl rfl
          exact ok_move x0
        case z14_20 =>
          intro a' w' hE hK hg
          have x0 := kn (hK 3 rfl) rfl r3
          exact ok_move x0
        case z14_21 =>
          intro a' w' hE hK hg
          have x1 := ksv (hK 107 rfl) rfl rfl hg
          have hgc := agv rfl hg rfl; revert hgc; intro hgc
          exact ok_addS rfl x1 (by (try simp only [Bool.and_eq_true, Bool.or_eq_true, Bool.and_eq_false_iff, Bool.or_eq_false_iff, Bool.not_eq_true', Bool.not_eq_false', decide_eq_true_eq, decide_eq_false_iff_not, ne_eq, Decidable.not_not, gt_iff_lt, ge_iff_le, Int.not_lt, Int.not_le, Nat.not_lt, Nat.not_le, Int.ofNat_lt, Int.ofNat_le] at hgc); (first | obtain ⟨⟨⟨⟨_, _⟩, _⟩, _⟩, _⟩ := hgc | obtain ⟨⟨⟨_, _⟩, _⟩, _⟩ := hgc | obtain ⟨⟨_, _⟩, _⟩ := hgc | obtain ⟨_, _⟩ := hgc | skip); (first | assumption | omega | (simp; done) | (simp only [List.mem_cons, List.not_mem_nil, or_false, forall_eq_or_imp, forall_eq, str_size, ByteArray.size_append, size1, size0, D_length, List.length_cons, List.length_nil] at *; omega)))
        case z14_22 =>
          intro a' w' hE hK hg
          have x0 := kn (hK 0 rfl) rfl r0
          exact ok_move x0
        case z14_23 =>
          intro a' w' hE hK hg
          have x0 := kn (hK 11 rfl) rfl r11
          exact ok_move x0
        case z14_24 =>
          intro a' w' hE hK hg
          have x0 := ksv (hK 108 rfl) rfl rfl hg
          have x1 := ksv (hK 109 rfl) rfl rfl hg
          have x2 := ksv (hK 110 rfl) rfl rfl hg
          have hgc := agv rfl hg rfl; revert hgc; intro hgc
          exact ok_call3 fn18 x0 x1 x2 (dCheck _ _ _ _ (by (try simp only [Bool.and_eq_true, Bool.or_eq_true, Bool.and_eq_false_iff, Bool.or_eq_false_iff, Bool.not_eq_true', Bool.not_eq_false', decide_eq_true_eq, decide_eq_false_iff_not, ne_eq, Decidable.not_not, gt_iff_lt, ge_iff_le, Int.not_lt, Int.not_le, Nat.not_lt, Nat.not_le, Int.ofNat_lt, Int.ofNat_le] at hgc); (first | obtain ⟨⟨⟨⟨_, _⟩, _⟩, _⟩, _⟩ := hgc | obtain ⟨⟨⟨_, _⟩, _⟩, _⟩ := hgc | obtain ⟨⟨_, _⟩, _⟩ := hgc | obtain ⟨_, _⟩ := hgc | skip); (first | assumption | omega | (simp; done) | (simp only [List.mem_cons, List.not_mem_nil, or_false, forall_eq_or_imp, forall_eq, str_size, ByteArray.size_append, size1, size0, D_length, List.length_cons, List.length_nil] at *; omega))) (by (try simp only [Bool.and_eq_true, Bool.or_eq_true, Bool.and_eq_false_iff, Bool.or_eq_false_iff, Bool.not_eq_true', Bool.not_eq_false', decide_eq_true_eq, decide_eq_false_iff_not, ne_eq, Decidable.not_not, gt_iff_lt, ge_iff_le, Int.not_lt, Int.not_le, Nat.not_lt, Nat.not_le, Int.ofNat_lt, Int.ofNat_le] at hgc); (first | obtain ⟨⟨⟨⟨_, _⟩, _⟩, _⟩, _⟩ := hgc | obtain ⟨⟨⟨_, _⟩, _⟩, _⟩ := hgc | obtain ⟨⟨_, _⟩, _⟩ := hgc | obtain ⟨_, _⟩ := hgc | skip); (first | assumption | omega | (simp; done) | (simp only [List.mem_cons, List.not_mem_nil, or_false, forall_eq_or_imp, forall_eq, str_size, ByteArray.size_append, size1, size0, D_length, List.length_cons, List.length_nil] at *; omega))))
        case z14_25 =>
          intro a' w' hE hK hg
          have x0 := ksv (hK 106 rfl) rfl rfl rfl
          exact ok_and x0 (fun hb => ksv (hK 111 rfl) rfl rfl (act_g1 rfl rfl hb))
        case z14_26 =>
          intro a' w' hE hK hg
          have x0 := ksv (hK 112 rfl) rfl rfl rfl
          exact ok_move x0
        case z14_27 =>
          intro a' w' hE hK hg
          have x0 := kn (hK 3 rfl) rfl r3
          exact ok_move x0
        case z14_28 =>
          intro a' w' hE hK hg
          have x1 := ksv (hK 114 rfl) rfl rfl hg
          have hgc := agv rfl hg rfl; revert hgc; intro hgc
          exact ok_addS rfl x1 (by (try simp only [Bool.and_eq_true, Bool.or_eq_true, Bool.and_eq_false_iff, Bool.or_eq_false_iff, Bool.not_eq_true', Bool.not_eq_false', decide_eq_true_eq, decide_eq_false_iff_not, ne_eq, Decidable.not_not, gt_iff_lt, ge_iff_le, Int.not_lt, Int.not_le, Nat.not_lt, Nat.not_le, Int.ofNat_lt, Int.ofNat_le] at hgc); (first | obtain ⟨⟨⟨⟨_, _⟩, _⟩, _⟩, _⟩ := hgc | obtain ⟨⟨⟨_, _⟩, _⟩, _⟩ := hgc | obtain ⟨⟨_, _⟩, _⟩ := hgc | obtain ⟨_, _⟩ := hgc | skip); (first | assumption | omega | (simp; done) | (simp only [List.mem_cons, List.not_mem_nil, or_false, forall_eq_or_imp, forall_eq, str_size, ByteArray.size_append, size1, size0, D_length, List.length_cons, List.length_nil] at *; omega)))
        case z14_29 =>
          intro a' w' hE hK hg
          have x0 := kn (hK 10 rfl) rfl r10
          exact ok_move x0
        case z14_30 =>
          intro a' w' hE hK hg
          have x0 := kn (hK 11 rfl) rfl r11
          exact ok_move x0
        case z14_31 =>
          intro a' w' hE hK hg
          have x0 := ksv (hK 115 rfl) rfl rfl hg
          have x1 := ksv (hK 116 rfl) rfl rfl hg
          have x2 := ksv (hK 117 rfl) rfl rfl hg
          have hgc := agv rfl hg rfl; revert hgc; intro hgc
          exact ok_call3 fn18 x0 x1 x2 (dCheck _ _ _ _ (by (try simp only [Bool.and_eq_true, Bool.or_eq_true, Bool.and_eq_false_iff, Bool.or_eq_false_iff, Bool.not_eq_true', Bool.not_eq_false', decide_eq_true_eq, decide_eq_false_iff_not, ne_eq, Decidable.not_not, gt_iff_lt, ge_iff_le, Int.not_lt, Int.not_le, Nat.not_lt, Nat.not_le, Int.ofNat_lt, Int.ofNat_le] at hgc); (first | obtain ⟨⟨⟨⟨_, _⟩, _⟩, _⟩, _⟩ := hgc | obtain ⟨⟨⟨_, _⟩, _⟩, _⟩ := hgc | obtain ⟨⟨_, _⟩, _⟩ := hgc | obtain ⟨_, _⟩ := hgc | skip); (first | assumption | omega | (simp; done) | (simp only [List.mem_cons, List.not_mem_nil, or_false, forall_eq_or_imp, forall_eq, str_size, ByteArray.size_append, size1, size0, D_length, List.length_cons, List.length_nil] at *; omega))) (by (try simp only [Bool.and_eq_true, Bool.or_eq_true, Bool.and_eq_false_iff, Bool.or_eq_false_iff, Bool.not_eq_true', Bool.not_eq_false', decide_eq_true_eq, decide_eq_false_iff_not, ne_eq, Decidable.not_not, gt_iff_lt, ge_iff_le, Int.not_lt, Int.not_le, Nat.not_lt, Nat.not_le, Int.ofNat_lt, Int.ofNat_le] at hgc); (first | obtain ⟨⟨⟨⟨_, _⟩, _⟩, _⟩, _⟩ := hgc | obtain ⟨⟨⟨_, _⟩, _⟩, _⟩ := hgc | obtain ⟨⟨_, _⟩, _⟩ := hgc | obtain ⟨_, _⟩ := hgc | skip); (first | assumption | omega | (simp; done) | (simp only [List.mem_cons, List.not_mem_nil, or_false, forall_eq_or_imp, forall_eq, str_size, ByteArray.size_append, size1, size0, D_length, List.length_cons, List.length_nil] at *; omega))))
        case z14_32 =>
          intro a' w' hE hK hg
          have x0 := ksv (hK 118 rfl) rfl rfl hg
          exact ok_not x0
        case z14_33 =>
          intro a' w' hE hK hg
          have x0 := ksv (hK 113 rfl) rfl rfl rfl
          exact ok_and x0 (fun hb => ksv (hK 119 rfl) rfl rfl (act_g1 rfl rfl hb))
        case z14_34 =>
          intro a' w' hE hK hg
          have x0 := ksv (hK 120 rfl) rfl rfl rfl
          exact ok_assign x0
        case zok14 => kernel_rfl
        case zgd14 => kernel_rfl
        intro a10 w10 hA' hE HF
        have r8 := ksv (HF 8) rfl rfl rfl
        clear hA HF
        have hA := hA'
        clear hA'
        have hLt := hB.size
        replace hB := hB.trans hE
        clear hE hLt
        refine (li_nil (nx_then ?_))
        refine (wp_ret ?_)
        refine retPure Try.results5 hA r8 hB ?_
        (show _ = _; first | rfl | exact congrArg _ (differ_b hd_ _ _ (key_ne _)))
end Go.Proofs.Ytbkmnghnjajdmaa
