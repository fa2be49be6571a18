/- The digest package and its reference, walked by program (wip/gen). No statement stands here. -/
import Derived.Test.YtbkmnghnjajdmaaDigA
namespace Go.Proofs.Ytbkmnghnjajdmaa
open Go Go.RowKit Go.Eng Go.Dig
set_option linter.unusedVariables false
set_option linter.unusedSimpArgs false
theorem fn24 : FnOk Try.prog 24 := ⟨_, Try.func24, rfl, by kernel_rfl⟩
theorem fn26 : FnOk Try.prog 26 := ⟨_, Try.func26, rfl, by kernel_rfl⟩
theorem fn28 : FnOk Try.prog 28 := ⟨_, Try.func28, rfl, by kernel_rfl⟩
theorem fn36 : FnOk Try.prog 36 := ⟨_, Try.func36, rfl, by kernel_rfl⟩
theorem fn37 : FnOk Try.prog 37 := ⟨_, Try.func37, rfl, by kernel_rfl⟩
theorem rLowest (v : Value) (ss : List ByteArray) (B : Nat) (w0 : World) (hBB : B ≤ w0.heap.size) (h : SlV w0 1 v (ss.map .string)) (hl : ss.length ≤ 32) (hs : ∀ s ∈ ss, s.size ≤ 1099511627776) : Pure Try.prog 36 #[v] w0 (SP.own B 9 1 ((base (bss ss)).map sv)).holds := by
  refine pure_of_wp Try.func36 rfl 35 Try.ntmps36 (by simp) fun a0 hA hs0 => ?_
  have r0 : a0.get 0 = v := hs0 0 _ rfl
  clear hs0
  have hB : Ext w0 w0 := Ext.refl _
  refine wp_seq ?_
  refine' region [_] mixed hA (.cons ?z1_0 .nil) ?zok1 ?zgd1 ?zk1
  case z1_0 =>
    intro a' w' hE hK hg
    exact ok_assign rfl
  case zok1 => kernel_rfl
  case zgd1 => kernel_rfl
  intro a1 w1 hA' hE HF
  replace r0 := kn (HF 0) rfl r0
  clear hA HF
  have hA := hA'
  clear hA'
  have hLt := hB.size
  replace hB := hB.trans hE
  clear hE hLt
  refine (li_nil (nx_then ?_))
  refine wp_seq ?_
  refine' region [_] mixed hA (.cons ?z2_0 .nil) ?zok2 ?zgd2 ?zk2
  case z2_0 =>
    intro a' w' hE hK hg
    exact ok_assign rfl
  case zok2 => kernel_rfl
  case zgd2 => kernel_rfl
  intro a2 w2 hA' hE HF
  replace r0 := kn (HF 0) rfl r0
  have r3 := ksv (HF 3) rfl rfl rfl
  clear hA HF
  have hA := hA'
  clear hA'
  have hLt := hB.size
  replace hB := hB.trans hE
  clear hE hLt
  refine (li_nil (nx_then ?_))
  refine wp_seq ?_
  refine wp_seq ?_
  refine' region [_] mixed hA (.cons ?z3_0 .nil) ?zok3 ?zgd3 ?zk3
  case z3_0 =>
    intro a' w' hE hK hg
    exact ok_assign rfl
  case zok3 => kernel_rfl
  case zgd3 => kernel_rfl
  intro a3 w3 hA' hE HF
  replace r0 := kn (HF 0) rfl r0
  replace r3 := kn (HF 3) rfl r3
  have r4 := ksv (HF 4) rfl rfl rfl
  clear hA HF
  have hA := hA'
  clear hA'
  have hLt := hB.size
  replace hB := hB.trans hE
  clear hE hLt
  refine (li_nil (nx_then ?_))
  refine wp_block ?_
  have q4_0 := r0
  refine loop_m (fun m a w => ∃ k : Nat, ∃ vo : Value, m = ss.length - k ∧ a.fit 35 ∧ Ext w0 w ∧ a.get 0 = a3.get 0 ∧ a.get 3 = vo ∧ a.get 4 = .int .i64 (k : Int) ∧ (OwnS w w0.heap.size 9 1 vo (((bss ss).take k).map fun s => sv (leafD s))) ∧ (k ≤ ss.length)) (m := ss.length - (0)) (?st5) ?_
  case st5 =>
    refine ⟨(0), _, rfl, hA, hB, r0.trans q4_0.symm, r3, r4.trans ?v5_4, ?m5_out, ?p5_0⟩
    case v5_4 => first | rfl | (congr 1; omega)
    case m5_out => exact OwnS.nil _ _ _ _
    case p5_0 => first | omega | assumption
  intro m_ a4 w4 hI
  obtain ⟨k, vo, rfl, hA, hB, z0, r3, r4, m_out, hp4_0⟩ := hI
  have r0 := z0.trans q4_0
  clear z0
  refine wp_seq ?_
  refine wp_seq ?_
  refine' region [_, _, _, _] mixed hA (.cons ?z6_0 (.cons ?z6_1 (.cons ?z6_2 (.cons ?z6_3 .nil)))) ?zok6 ?zgd6 ?zk6
  case z6_0 =>
    intro a' w' hE hK hg
    have x0 := kn (hK 4 rfl) rfl r4
    exact ok_move x0
  case z6_1 =>
    intro a' w' hE hK hg
    have x0 := kn (hK 0 rfl) rfl r0
    exact ok_move x0
  case z6_2 =>
    intro a' w' hE hK hg
    have x0 := ksv (hK 7 rfl) rfl rfl rfl
    exact ok_lenV ty29 x0 (h.ext (hB.trans hE))
  case z6_3 =>
    intro a' w' hE hK hg
    have x0 := ksv (hK 6 rfl) rfl rfl rfl
    have x1 := ksv (hK 8 rfl) rfl rfl rfl
    exact ok_lss x0 x1
  case zok6 => kernel_rfl
  case zgd6 => kernel_rfl
  intro a5 w5 hA' hE HF
  replace r0 := kn (HF 0) rfl r0
  replace r3 := kn (HF 3) rfl r3
  replace r4 := kn (HF 4) rfl r4
  have r9 := ksv (HF 9) rfl rfl rfl
  clear hA HF
  have hA := hA'
  clear hA'
  replace m_out := m_out.ext hE
  have hLt := hB.size
  replace hB := hB.trans hE
  clear hE hLt
  refine (li_nil (nx_then ?_))
  refine wp_cond_b r9 (fun hc => ?_) (fun hc => ?_)
  ·
    try simp only [Bool.and_eq_true, Bool.or_eq_true, Bool.and_eq_false_iff, Bool.or_eq_false_iff, Bool.not_eq_true', Bool.not_eq_false', decide_eq_true_eq, decide_eq_false_iff_not, ne_eq, Decidable.not_not, gt_iff_lt, ge_iff_le, Int.not_lt, Int.not_le, Nat.not_lt, Nat.not_le, Int.ofNat_lt, Int.ofNat_le] at hc
    have hi_ : k < ss.length := (by simpa using hc); have hsi_ := hs ss[k] (by simp)
    refine wp_skip ?_
    refine (nx_then ?_)
    refine wp_seq ?_
    refine wp_block ?_
    refine' region [_, _, _, _, _, _, _] mixed hA (.cons ?z8_0 (.cons ?z8_1 (.cons ?z8_2 (.cons ?z8_3 (.cons ?z8_4 (.cons ?z8_5 (.cons ?z8_6 .nil))))))) ?zok8 ?zgd8 ?zk8
    case z8_0 =>
      intro a' w' hE hK hg
      have x0 := kn (hK 3 rfl) rfl r3
      exact ok_move x0
    case z8_1 =>
      intro a' w' hE hK hg
      have x0 := kn (hK 0 rfl) rfl r0
      exact ok_move x0
    case z8_2 =>
      intro a' w' hE hK hg
      have x0 := kn (hK 4 rfl) rfl r4
      exact ok_move x0
    case z8_3 =>
      intro a' w' hE hK hg
      have x0 := ksv (hK 13 rfl) rfl rfl rfl
      have x1 := ksv (hK 14 rfl) rfl rfl rfl
      exact ok_indexV ty29 ty9 x0 (h.ext (hB.trans hE)) x1 (by simp only [List.length_map, List.length_append, List.length_replicate, List.length_cons, List.length_nil, List.length_take] at *; omega) (by exact get_str ss k hi_)
    case z8_4 =>
      intro a' w' hE hK hg
      have x0 := ksp (hK 15 rfl) rfl rfl rfl
      exact ok_loadPt ty9 rfl rfl x0 rfl
    case z8_5 =>
      intro a' w' hE hK hg
      have x0 := ksv (hK 16 rfl) rfl rfl rfl
      exact ok_call1 fn24 x0 (rLeaf _ _ (by exact hsi_))
    case z8_6 =>
      intro a' w' hE hK hg
      have x0 := ksv (hK 17 rfl) rfl rfl rfl
      exact ok_buildSlice (E := 0) (B := w5.heap.size) ty29 ty9 hE.size (parts_of (parts_cons x0 parts_nil)) (by first | (simp [Value.cells]; done) | (simp [Value.cells, bv, Dig.D_length]; done)) rfl (by omega)
    case zok8 => kernel_rfl
    case zgd8 => kernel_rfl
    intro a6 w6 hA' hE HF
    replace r0 := kn (HF 0) rfl r0
    replace r3 := kn (HF 3) rfl r3
    replace r4 := kn (HF 4) rfl r4
    have r12 := ksv (HF 12) rfl rfl rfl
    have x18 := ksp (HF 18) rfl rfl rfl
    clear hA HF
    have hA := hA'
    clear hA'
    replace m_out := m_out.ext hE
    have hLt := hB.size
    replace hB := hB.trans hE
    have m_t18 := x18; clear x18
    obtain ⟨v18, r18⟩ : ∃ v, a6.get 18 = v := ⟨_, rfl⟩
    rw [r18] at m_t18
    clear hE hLt
    refine t_append (E := 0) ty29 ty9 rfl r12 m_out r18 m_t18.slv (by simp [flat, Value.cells, Value.oneCell']) (by simp only [List.length_map, List.length_append, List.length_replicate, List.length_cons, List.length_nil, List.length_take] at *; omega) (by simp only [List.length_map, List.length_append, List.length_replicate, List.length_cons, List.length_nil, List.length_take] at *; omega) hB.size fun v19_w7 w7 m_ hE => ?_
    replace hB := ext_appd hB hE (m_out.block_ge)
    replace m_out := m_; clear m_ hE
    refine put_cont hA (by decide) fun a8 hA' hv_ hfr => ?_
    clear hA; have hA := hA'; clear hA'
    replace r0 := (hfr 0 rfl).trans r0
    replace r3 := (hfr 3 rfl).trans r3
    replace r4 := (hfr 4 rfl).trans r4
    have r19 := hv_
    clear hfr hv_
    clear m_t18
    refine t_assign r19 ?_
    refine put_cont hA (by decide) fun a9 hA' hv_ hfr => ?_
    clear hA; have hA := hA'; clear hA'
    replace r0 := (hfr 0 rfl).trans r0
    replace r4 := (hfr 4 rfl).trans r4
    have r3 := hv_
    clear hfr hv_
    refine (li_nil (nx_blk (nx_then ?_)))
    refine' region [_, _, _] mixed hA (.cons ?z9_0 (.cons ?z9_1 (.cons ?z9_2 .nil))) ?zok9 ?zgd9 ?zk9
    case z9_0 =>
      intro a' w' hE hK hg
      have x0 := kn (hK 4 rfl) rfl r4
      exact ok_move x0
    case z9_1 =>
      intro a' w' hE hK hg
      have x0 := ksv (hK 10 rfl) rfl rfl rfl
      first | exact ok_add_i x0 rfl (by first | omega | (constructor <;> omega)) | exact ok_add x0 rfl
    case z9_2 =>
      intro a' w' hE hK hg
      have x0 := ksv (hK 11 rfl) rfl rfl rfl
      exact ok_assign x0
    case zok9 => kernel_rfl
    case zgd9 => kernel_rfl
    intro a10 w10 hA' hE HF
    replace r0 := kn (HF 0) rfl r0
    replace r3 := kn (HF 3) rfl r3
    replace r4 := ksv (HF 4) rfl rfl rfl
    clear hA HF
    have hA := hA'
    clear hA'
    replace m_out := m_out.ext hE
    have hLt := hB.size
    replace hB := hB.trans hE
    clear hE hLt
    refine (li_nil (nx_then ?_))
    refine ⟨_, ?lt10, (k + 1), _, rfl, hA, hB, r0.trans q4_0.symm, r3, r4.trans ?v10_4, ?m10_out, ?p10_0⟩
    case v10_4 => first | rfl | (congr 1; omega)
    case m10_out => (have e_ : ((bss ss).take (k + 1)).map (fun s => sv (leafD s)) = ((bss ss).take k).map (fun s => sv (leafD s)) ++ [.string (str (D (leafL (bs ss[k]))))] := (by rw [List.take_succ_eq_append_getElem (by simpa [bss] using hi_)]; simp [bss, sv, leafD]); rw [e_]; exact m_out)
    case p10_0 => first | omega | assumption
    case lt10 => omega
  ·
    try simp only [Bool.and_eq_true, Bool.or_eq_true, Bool.and_eq_false_iff, Bool.or_eq_false_iff, Bool.not_eq_true', Bool.not_eq_false', decide_eq_true_eq, decide_eq_false_iff_not, ne_eq, Decidable.not_not, gt_iff_lt, ge_iff_le, Int.not_lt, Int.not_le, Nat.not_lt, Nat.not_le, Int.ofNat_lt, Int.ofNat_le] at hc
    refine wp_exit ?_
    refine (ex_then (ex_then (ex_same ?_)))
    refine (nx_then ?_)
    refine wp_seq ?_
    refine' region [_] mixed hA (.cons ?z11_0 .nil) ?zok11 ?zgd11 ?zk11
    case z11_0 =>
      intro a' w' hE hK hg
      exact ok_assign rfl
    case zok11 => kernel_rfl
    case zgd11 => kernel_rfl
    intro a11 w11 hA' hE HF
    replace r0 := kn (HF 0) rfl r0
    replace r3 := kn (HF 3) rfl r3
    have r5 := ksv (HF 5) rfl rfl rfl
    clear hA HF
    have hA := hA'
    clear hA'
    replace m_out := m_out.ext hE
    have hLt := hB.size
    replace hB := hB.trans hE
    clear hE hLt
    refine (li_nil (nx_then ?_))
    refine wp_seq ?_
    refine wp_block ?_
    have q12_0 := r0
    have q12_3 := r3
    have hL12 : Ext w11 w11 := Ext.refl _
    have k12_out := m_out
    refine loop_m (fun m a w => ∃ j : Nat, m = 5 - j ∧ a.fit 35 ∧ Ext w0 w ∧ Ext w11 w ∧ a.get 0 = a11.get 0 ∧ a.get 3 = a11.get 3 ∧ a.get 5 = .int .i64 ((2 ^ j : Nat) : Int) ∧ (j ≤ 5) ∧ (j = 0 ∨ 2 ^ (j - 1) < ss.length)) (m := 5 - (0)) (?st13) ?_
    case st13 =>
      refine ⟨(0), rfl, hA, hB, hL12, r0.trans q12_0.symm, r3.trans q12_3.symm, r5.trans ?v13_5, ?p13_0, ?p13_1⟩
      case v13_5 => first | rfl | (congr 1; omega)
      case p13_0 => first | omega | assumption
      case p13_1 => first | omega | assumption
    intro m_ a12 w12 hI
    obtain ⟨j, rfl, hA, hB, hL12, z0, z3, r5, hj, hj2⟩ := hI
    have r0 := z0.trans q12_0
    have r3 := z3.trans q12_3
    clear z0 z3
    have m_out' := k12_out.ext hL12
    have m_out := m_out'
    have hp_ : 2 ^ j ≤ 2 ^ 5 := Nat.pow_le_pow_right (by decide) hj; have hp1_ : 1 ≤ 2 ^ j := Nat.one_le_two_pow
    refine wp_seq ?_
    refine wp_seq ?_
    refine' region [_, _, _, _] mixed hA (.cons ?z14_0 (.cons ?z14_1 (.cons ?z14_2 (.cons ?z14_3 .nil)))) ?zok14 ?zgd14 ?zk14
    case z14_0 =>
      intro a' w' hE hK hg
      have x0 := kn (hK 5 rfl) rfl r5
      exact ok_move x0
    case z14_1 =>
      intro a' w' hE hK hg
      have x0 := kn (hK 0 rfl) rfl r0
      exact ok_move x0
    case z14_2 =>
      intro a' w' hE hK hg
      have x0 := ksv (hK 21 rfl) rfl rfl rfl
      exact ok_lenV ty29 x0 (h.ext (hB.trans hE))
    case z14_3 =>
      intro a' w' hE hK hg
      have x0 := ksv (hK 20 rfl) rfl rfl rfl
      have x1 := ksv (hK 22 rfl) rfl rfl rfl
      exact ok_lss x0 x1
    case zok14 => kernel_rfl
    case zgd14 => kernel_rfl
    intro a13 w13 hA' hE HF
    replace r0 := kn (HF 0) rfl r0
    replace r3 := kn (HF 3) rfl r3
    replace r5 := kn (HF 5) rfl r5
    have r23 := ksv (HF 23) rfl rfl rfl
    clear hA HF
    have hA := hA'
    clear hA'
    replace m_out := m_out.ext hE
    have hLt := hB.size
    replace hB := hB.trans hE
    replace hL12 := hL12.trans hE
    clear hE hLt
    refine (li_nil (nx_then ?_))
    refine wp_cond_b r23 (fun hc => ?_) (fun hc => ?_)
    ·
      try simp only [Bool.and_eq_true, Bool.or_eq_true, Bool.and_eq_false_iff, Bool.or_eq_false_iff, Bool.not_eq_true', Bool.not_eq_false', decide_eq_true_eq, decide_eq_false_iff_not, ne_eq, Decidable.not_not, gt_iff_lt, ge_iff_le, Int.not_lt, Int.not_le, Nat.not_lt, Nat.not_le, Int.ofNat_lt, Int.ofNat_le] at hc
      refine wp_skip ?_
      refine (nx_then ?_)
      refine wp_block ?_
      refine' region [_, _, _] mixed hA (.cons ?z16_0 (.cons ?z16_1 (.cons ?z16_2 .nil))) ?zok16 ?zgd16 ?zk16
      case z16_0 =>
        intro a' w' hE hK hg
        have x0 := kn (hK 5 rfl) rfl r5
        exact ok_move x0
      case z16_1 =>
        intro a' w' hE hK hg
        have x1 := ksv (hK 24 rfl) rfl rfl rfl
        first | exact ok_mul_i rfl x1 (by first | omega | (constructor <;> omega)) | exact ok_mul rfl x1
      case z16_2 =>
        intro a' w' hE hK hg
        have x0 := ksv (hK 25 rfl) rfl rfl rfl
        exact ok_assign x0
      case zok16 => kernel_rfl
      case zgd16 => kernel_rfl
      intro a14 w14 hA' hE HF
      replace r0 := kn (HF 0) rfl r0
      replace r3 := kn (HF 3) rfl r3
      replace r5 := ksv (HF 5) rfl rfl rfl
      clear hA HF
      have hA := hA'
      clear hA'
      replace m_out := m_out.ext hE
      have hLt := hB.size
      replace hB := hB.trans hE
      replace hL12 := hL12.trans hE
      clear hE hLt
      refine (li_nil (nx_blk (nx_then ?_)))
      have hj5 : j < 5 := (by rcases Nat.lt_or_ge j 5 with h5 | h5; exact h5; have := Nat.pow_le_pow_right (n := 2) (by decide) h5; simp only [List.length_map] at hc; omega)
      refine ⟨_, ?lt17, (j + 1), rfl, hA, hB, hL12, r0.trans q12_0.symm, r3.trans q12_3.symm, r5.trans ?v17_5, ?p17_0, ?p17_1⟩
      case v17_5 => (congr 1; rw [Nat.pow_succ]; omega)
      case p17_0 => omega
      case p17_1 => (right; simpa using hc)
      case lt17 => omega
    ·
      try simp only [Bool.and_eq_true, Bool.or_eq_true, Bool.and_eq_false_iff, Bool.or_eq_false_iff, Bool.not_eq_true', Bool.not_eq_false', decide_eq_true_eq, decide_eq_false_iff_not, ne_eq, Decidable.not_not, gt_iff_lt, ge_iff_le, Int.not_lt, Int.not_le, Nat.not_lt, Nat.not_le, Int.ofNat_lt, Int.ofNat_le] at hc
      refine wp_exit ?_
      refine (ex_then (ex_then (ex_same ?_)))
      refine (nx_then ?_)
      refine wp_seq ?_
      refine wp_block ?_
      have hbl : (bss ss).length = ss.length := (by simp [bss])
      have q18_5 := r5
      refine loop_m (fun m a w => ∃ i : Nat, ∃ vo : Value, m = 2 ^ j - i ∧ a.fit 35 ∧ Ext w0 w ∧ a.get 5 = a13.get 5 ∧ a.get 3 = vo ∧ (OwnS w w0.heap.size 9 1 vo ((((bss ss).map leafD) ++ List.replicate i missD).map sv)) ∧ (i + ss.length ≤ 2 ^ j)) (m := 2 ^ j - (0)) (?st19) ?_
      case st19 =>
        refine ⟨(0), _, rfl, hA, hB, r5.trans q18_5.symm, r3, ?m19_out, ?p19_0⟩
        case m19_out => (obtain rfl : k = ss.length := (by simp only [List.length_map] at *; omega); rw [List.take_of_length_le (by omega)] at m_out; have e2_ : (((bss ss).map leafD) ++ List.replicate 0 missD).map sv = (bss ss).map fun s => sv (leafD s) := (by simp [List.map_map, Function.comp_def]); rw [e2_]; exact m_out)
        case p19_0 => (simp only [List.length_map] at *; omega)
      intro m_ a15 w15 hI
      obtain ⟨i, vo, rfl, hA, hB, z5, r3, m_out, hi⟩ := hI
      have r5 := z5.trans q18_5
      clear z5
      have hvl : ((((bss ss).map leafD) ++ List.replicate i missD).map sv).length = ss.length + i := (by simp [bss])
      refine wp_seq ?_
      refine wp_seq ?_
      refine' region [_, _, _, _] mixed hA (.cons ?z20_0 (.cons ?z20_1 (.cons ?z20_2 (.cons ?z20_3 .nil)))) ?zok20 ?zgd20 ?zk20
      case z20_0 =>
        intro a' w' hE hK hg
        have x0 := kn (hK 3 rfl) rfl r3
        exact ok_move x0
      case z20_1 =>
        intro a' w' hE hK hg
        have x0 := ksv (hK 26 rfl) rfl rfl rfl
        exact ok_lenV ty29 x0 (m_out.ext hE).slv
      case z20_2 =>
        intro a' w' hE hK hg
        have x0 := kn (hK 5 rfl) rfl r5
        exact ok_move x0
      case z20_3 =>
        intro a' w' hE hK hg
        have x0 := ksv (hK 27 rfl) rfl rfl rfl
        have x1 := ksv (hK 28 rfl) rfl rfl rfl
        exact ok_lss x0 x1
      case zok20 => kernel_rfl
      case zgd20 => kernel_rfl
      intro a16 w16 hA' hE HF
      replace r3 := kn (HF 3) rfl r3
      replace r5 := kn (HF 5) rfl r5
      have r29 := ksv (HF 29) rfl rfl rfl
      clear hA HF
      have hA := hA'
      clear hA'
      replace m_out := m_out.ext hE
      have hLt := hB.size
      replace hB := hB.trans hE
      clear hE hLt
      refine (li_nil (nx_then ?_))
      refine wp_cond_b r29 (fun hc => ?_) (fun hc => ?_)
      ·
        try simp only [Bool.and_eq_true, Bool.or_eq_true, Bool.and_eq_false_iff, Bool.or_eq_false_iff, Bool.not_eq_true', Bool.not_eq_false', decide_eq_true_eq, decide_eq_false_iff_not, ne_eq, Decidable.not_not, gt_iff_lt, ge_iff_le, Int.not_lt, Int.not_le, Nat.not_lt, Nat.not_le, Int.ofNat_lt, Int.ofNat_le] at hc
        refine wp_skip ?_
        refine (nx_then ?_)
        refine wp_block ?_
        refine' region [_, _, _] mixed hA (.cons ?z22_0 (.cons ?z22_1 (.cons ?z22_2 .nil))) ?zok22 ?zgd22 ?zk22
        case z22_0 =>
          intro a' w' hE hK hg
          have x0 := kn (hK 3 rfl) rfl r3
          exact ok_move x0
        case z22_1 =>
          intro a' w' hE hK hg
          exact ok_call0 fn28  (rMissing _)
        case z22_2 =>
          intro a' w' hE hK hg
          have x0 := ksv (hK 31 rfl) rfl rfl rfl
          exact ok_buildSlice (E := 0) (B := w16.heap.size) ty29 ty9 hE.size (parts_of (parts_cons x0 parts_nil)) (by first | (simp [Value.cells]; done) | (simp [Value.cells, bv, Dig.D_length]; done)) rfl (by omega)
        case zok22 => kernel_rfl
        case zgd22 => kernel_rfl
        intro a17 w17 hA' hE HF
        replace r3 := kn (HF 3) rfl r3
        replace r5 := kn (HF 5) rfl r5
        have r30 := ksv (HF 30) rfl rfl rfl
        have x32 := ksp (HF 32) rfl rfl rfl
        clear hA HF
        have hA := hA'
        clear hA'
        replace m_out := m_out.ext hE
        have hLt := hB.size
        replace hB := hB.trans hE
        have m_t32 := x32; clear x32
        obtain ⟨v32, r32⟩ : ∃ v, a17.get 32 = v := ⟨_, rfl⟩
        rw [r32] at m_t32
        clear hE hLt
        refine t_append (E := 0) ty29 ty9 rfl r30 m_out r32 m_t32.slv (by simp [flat, Value.cells, Value.oneCell']) (by simp only [List.length_map, List.length_append, List.length_replicate, List.length_cons, List.length_nil, List.length_take] at *; omega) (by simp only [List.length_map, List.length_append, List.length_replicate, List.length_cons, List.length_nil, List.length_take] at *; omega) hB.size fun v33_w18 w18 m_ hE => ?_
        replace hB := ext_appd hB hE (m_out.block_ge)
        replace m_out := m_; clear m_ hE
        refine put_cont hA (by decide) fun a19 hA' hv_ hfr => ?_
        clear hA; have hA := hA'; clear hA'
        replace r3 := (hfr 3 rfl).trans r3
        replace r5 := (hfr 5 rfl).trans r5
        have r33 := hv_
        clear hfr hv_
        clear m_t32
        refine t_assign r33 ?_
        refine put_cont hA (by decide) fun a20 hA' hv_ hfr => ?_
        clear hA; have hA := hA'; clear hA'
        replace r5 := (hfr 5 rfl).trans r5
        have r3 := hv_
        clear hfr hv_
        refine (li_nil (nx_blk (nx_then ?_)))
        refine ⟨_, ?lt23, (i + 1), _, rfl, hA, hB, r5.trans q18_5.symm, r3, ?m23_out, ?p23_0⟩
        case m23_out => (rw [List.replicate_succ', ← List.append_assoc, List.map_append]; exact m_out)
        case p23_0 => (rw [hvl] at hc; omega)
        case lt23 => omega
      ·
        try simp only [Bool.and_eq_true, Bool.or_eq_true, Bool.and_eq_false_iff, Bool.or_eq_false_iff, Bool.not_eq_true', Bool.not_eq_false', decide_eq_true_eq, decide_eq_false_iff_not, ne_eq, Decidable.not_not, gt_iff_lt, ge_iff_le, Int.not_lt, Int.not_le, Nat.not_lt, Nat.not_le, Int.ofNat_lt, Int.ofNat_le] at hc
        refine wp_exit ?_
        refine (ex_then (ex_then (ex_same ?_)))
        refine (nx_then ?_)
        refine wp_seq ?_
        refine' region [_, _] mixed hA (.cons ?z24_0 (.cons ?z24_1 .nil)) ?zok24 ?zgd24 ?zk24
        case z24_0 =>
          intro a' w' hE hK hg
          have x0 := kn (hK 3 rfl) rfl r3
          exact ok_move x0
        case z24_1 =>
          intro a' w' hE hK hg
          have x0 := ksv (hK 34 rfl) rfl rfl rfl
          exact ok_assign x0
        case zok24 => kernel_rfl
        case zgd24 => kernel_rfl
        intro a21 w21 hA' hE HF
        have r2 := ksv (HF 2) rfl rfl rfl
        clear hA HF
        have hA := hA'
        clear hA'
        replace m_out := m_out.ext hE
        have hLt := hB.size
        replace hB := hB.trans hE
        clear hE hLt
        refine (li_nil (nx_then ?_))
        refine (wp_ret ?_)
        refine retPure Try.results36 hA r2 hB ?_
        (show OwnS _ _ _ _ _ _; rw [hvl] at hc; have hj3 : j = lg ss.length := lg_uniq hl (by omega) hj2; have hi3 : i = 2 ^ lg (bss ss).length - (bss ss).length := (by rw [hbl, ← hj3]; omega); unfold base; rw [← hi3]; exact m_out.mono hBB)

theorem rAbove (v : Value) (l : List Bytes) (B : Nat) (w0 : World) (hBB : B ≤ w0.heap.size) (h : SlV w0 1 v (l.map sv)) (hl : l.length ≤ 32) (h8 : ∀ d ∈ l, d.length = 8) : Pure Try.prog 37 #[v] w0 (SP.own B 9 1 ((up1 l).map sv)).holds := by
  refine pure_of_wp Try.func37 rfl 26 Try.ntmps37 (by simp) fun a0 hA hs0 => ?_
  have r0 : a0.get 0 = v := hs0 0 _ rfl
  clear hs0
  have hB : Ext w0 w0 := Ext.refl _
  refine wp_seq ?_
  refine' region [_] mixed hA (.cons ?z1_0 .nil) ?zok1 ?zgd1 ?zk1
  case z1_0 =>
    intro a' w' hE hK hg
    exact ok_assign rfl
  case zok1 => kernel_rfl
  case zgd1 => kernel_rfl
  intro a1 w1 hA' hE HF
  replace r0 := kn (HF 0) rfl r0
  clear hA HF
  have hA := hA'
  clear hA'
  have hLt := hB.size
  replace hB := hB.trans hE
  clear hE hLt
  refine (li_nil (nx_then ?_))
  refine wp_seq ?_
  refine' region [_] mixed hA (.cons ?z2_0 .nil) ?zok2 ?zgd2 ?zk2
  case z2_0 =>
    intro a' w' hE hK hg
    exact ok_assign rfl
  case zok2 => kernel_rfl
  case zgd2 => kernel_rfl
  intro a2 w2 hA' hE HF
  replace r0 := kn (HF 0) rfl r0
  have r3 := ksv (HF 3) rfl rfl rfl
  clear hA HF
  have hA := hA'
  clear hA'
  have hLt := hB.size
  replace hB := hB.trans hE
  clear hE hLt
  refine (li_nil (nx_then ?_))
  refine wp_seq ?_
  refine wp_seq ?_
  refine' region [_] mixed hA (.cons ?z3_0 .nil) ?zok3 ?zgd3 ?zk3
  case z3_0 =>
    intro a' w' hE hK hg
    exact ok_assign rfl
  case zok3 => kernel_rfl
  case zgd3 => kernel_rfl
  intro a3 w3 hA' hE HF
  replace r0 := kn (HF 0) rfl r0
  replace r3 := kn (HF 3) rfl r3
  have r4 := ksv (HF 4) rfl rfl rfl
  clear hA HF
  have hA := hA'
  clear hA'
  have hLt := hB.size
  replace hB := hB.trans hE
  clear hE hLt
  refine (li_nil (nx_then ?_))
  refine wp_block ?_
  have q4_0 := r0
  refine loop_m (fun m a w => ∃ k : Nat, ∃ vo : Value, m = l.length - k ∧ a.fit 26 ∧ Ext w0 w ∧ a.get 0 = a3.get 0 ∧ a.get 3 = vo ∧ a.get 4 = .int .i64 ((2 * k : Nat) : Int) ∧ (OwnS w w0.heap.size 9 1 vo (((up1 l).take k).map sv)) ∧ (2 * k ≤ l.length)) (m := l.length - (0)) (?st5) ?_
  case st5 =>
    refine ⟨(0), _, rfl, hA, hB, r0.trans q4_0.symm, r3, r4.trans ?v5_4, ?m5_out, ?p5_0⟩
    case v5_4 => first | rfl | (congr 1; omega)
    case m5_out => exact OwnS.nil _ _ _ _
    case p5_0 => first | omega | assumption
  intro m_ a4 w4 hI
  obtain ⟨k, vo, rfl, hA, hB, z0, r3, r4, m_out, hk⟩ := hI
  have r0 := z0.trans q4_0
  clear z0
  refine wp_seq ?_
  refine wp_seq ?_
  refine' region [_, _, _, _, _] mixed hA (.cons ?z6_0 (.cons ?z6_1 (.cons ?z6_2 (.cons ?z6_3 (.cons ?z6_4 .nil))))) ?zok6 ?zgd6 ?zk6
  case z6_0 =>
    intro a' w' hE hK hg
    have x0 := kn (hK 4 rfl) rfl r4
    exact ok_move x0
  case z6_1 =>
    intro a' w' hE hK hg
    have x0 := ksv (hK 5 rfl) rfl rfl rfl
    first | exact ok_add_i x0 rfl (by first | omega | (constructor <;> omega)) | exact ok_add x0 rfl
  case z6_2 =>
    intro a' w' hE hK hg
    have x0 := kn (hK 0 rfl) rfl r0
    exact ok_move x0
  case z6_3 =>
    intro a' w' hE hK hg
    have x0 := ksv (hK 7 rfl) rfl rfl rfl
    exact ok_lenV ty29 x0 (h.ext (hB.trans hE))
  case z6_4 =>
    intro a' w' hE hK hg
    have x0 := ksv (hK 6 rfl) rfl rfl rfl
    have x1 := ksv (hK 8 rfl) rfl rfl rfl
    exact ok_lss x0 x1
  case zok6 => kernel_rfl
  case zgd6 => kernel_rfl
  intro a5 w5 hA' hE HF
  replace r0 := kn (HF 0) rfl r0
  replace r3 := kn (HF 3) rfl r3
  replace r4 := kn (HF 4) rfl r4
  have r9 := ksv (HF 9) rfl rfl rfl
  clear hA HF
  have hA := hA'
  clear hA'
  replace m_out := m_out.ext hE
  have hLt := hB.size
  replace hB := hB.trans hE
  clear hE hLt
  refine (li_nil (nx_then ?_))
  refine wp_cond_b r9 (fun hc => ?_) (fun hc => ?_)
  ·
    try simp only [Bool.and_eq_true, Bool.or_eq_true, Bool.and_eq_false_iff, Bool.or_eq_false_iff, Bool.not_eq_true', Bool.not_eq_false', decide_eq_true_eq, decide_eq_false_iff_not, ne_eq, Decidable.not_not, gt_iff_lt, ge_iff_le, Int.not_lt, Int.not_le, Nat.not_lt, Nat.not_le, Int.ofNat_lt, Int.ofNat_le] at hc
    have hi_ : 2 * k + 1 < l.length := (by simp only [List.length_map] at hc; omega)
    refine wp_skip ?_
    refine (nx_then ?_)
    refine wp_seq ?_
    refine wp_block ?_
    refine' region [_, _, _, _, _, _, _, _, _, _, _, _] mixed hA (.cons ?z8_0 (.cons ?z8_1 (.cons ?z8_2 (.cons ?z8_3 (.cons ?z8_4 (.cons ?z8_5 (.cons ?z8_6 (.cons ?z8_7 (.cons ?z8_8 (.cons ?z8_9 (.cons ?z8_10 (.cons ?z8_11 .nil)))))))))))) ?zok8 ?zgd8 ?zk8
    case z8_0 =>
      intro a' w' hE hK hg
      have x0 := kn (hK 3 rfl) rfl r3
      exact ok_move x0
    case z8_1 =>
      intro a' w' hE hK hg
      have x0 := kn (hK 0 rfl) rfl r0
      exact ok_move x0
    case z8_2 =>
      intro a' w' hE hK hg
      have x0 := kn (hK 4 rfl) rfl r4
      exact ok_move x0
    case z8_3 =>
      intro a' w' hE hK hg
      have x0 := ksv (hK 13 rfl) rfl rfl rfl
      have x1 := ksv (hK 14 rfl) rfl rfl rfl
      exact ok_indexV ty29 ty9 x0 (h.ext (hB.trans hE)) x1 (by simp only [List.length_map, List.length_append, List.length_replicate, List.length_cons, List.length_nil, List.length_take] at *; omega) (by exact get_sv (l := l) (i := 2 * k) (by omega))
    case z8_4 =>
      intro a' w' hE hK hg
      have x0 := ksp (hK 15 rfl) rfl rfl rfl
      exact ok_loadPt ty9 rfl rfl x0 rfl
    case z8_5 =>
      intro a' w' hE hK hg
      have x0 := kn (hK 0 rfl) rfl r0
      exact ok_move x0
    case z8_6 =>
      intro a' w' hE hK hg
      have x0 := kn (hK 4 rfl) rfl r4
      exact ok_move x0
    case z8_7 =>
      intro a' w' hE hK hg
      have x0 := ksv (hK 18 rfl) rfl rfl rfl
      first | exact ok_add_i x0 rfl (by first | omega | (constructor <;> omega)) | exact ok_add x0 rfl
    case z8_8 =>
      intro a' w' hE hK hg
      have x0 := ksv (hK 17 rfl) rfl rfl rfl
      have x1 := ksv (hK 19 rfl) rfl rfl rfl
      exact ok_indexV ty29 ty9 x0 (h.ext (hB.trans hE)) x1 (by simp only [List.length_map, List.length_append, List.length_replicate, List.length_cons, List.length_nil, List.length_take] at *; omega) (by exact get_sv1 (l := l) (i := 2 * k) (by omega))
    case z8_9 =>
      intro a' w' hE hK hg
      have x0 := ksp (hK 20 rfl) rfl rfl rfl
      exact ok_loadPt ty9 rfl rfl x0 rfl
    case z8_10 =>
      intro a' w' hE hK hg
      have x0 := ksv (hK 16 rfl) rfl rfl rfl
      have x1 := ksv (hK 21 rfl) rfl rfl rfl
      exact ok_call2 fn26 x0 x1 (rInner _ _ _ (by exact sv_len h8 (by omega)) (by exact sv_len h8 (by omega)))
    case z8_11 =>
      intro a' w' hE hK hg
      have x0 := ksv (hK 22 rfl) rfl rfl rfl
      exact ok_buildSlice (E := 0) (B := w5.heap.size) ty29 ty9 hE.size (parts_of (parts_cons x0 parts_nil)) (by first | (simp [Value.cells]; done) | (simp [Value.cells, bv, Dig.D_length]; done)) rfl (by omega)
    case zok8 => kernel_rfl
    case zgd8 => kernel_rfl
    intro a6 w6 hA' hE HF
    replace r0 := kn (HF 0) rfl r0
    replace r3 := kn (HF 3) rfl r3
    replace r4 := kn (HF 4) rfl r4
    have r12 := ksv (HF 12) rfl rfl rfl
    have x23 := ksp (HF 23) rfl rfl rfl
    clear hA HF
    have hA := hA'
    clear hA'
    replace m_out := m_out.ext hE
    have hLt := hB.size
    replace hB := hB.trans hE
    have m_t23 := x23; clear x23
    obtain ⟨v23, r23⟩ : ∃ v, a6.get 23 = v := ⟨_, rfl⟩
    rw [r23] at m_t23
    clear hE hLt
    refine t_append (E := 0) ty29 ty9 rfl r12 m_out r23 m_t23.slv (by simp [flat, Value.cells, Value.oneCell']) (by first | (simp only [List.length_map, List.length_take, List.length_cons, List.length_nil]; omega)) (by first | (simp only [List.length_map, List.length_take, List.length_cons, List.length_nil]; omega)) hB.size fun v24_w7 w7 m_ hE => ?_
    replace hB := ext_appd hB hE (m_out.block_ge)
    replace m_out := m_; clear m_ hE
    refine put_cont hA (by decide) fun a8 hA' hv_ hfr => ?_
    clear hA; have hA := hA'; clear hA'
    replace r0 := (hfr 0 rfl).trans r0
    replace r3 := (hfr 3 rfl).trans r3
    replace r4 := (hfr 4 rfl).trans r4
    have r24 := hv_
    clear hfr hv_
    clear m_t23
    refine t_assign r24 ?_
    refine put_cont hA (by decide) fun a9 hA' hv_ hfr => ?_
    clear hA; have hA := hA'; clear hA'
    replace r0 := (hfr 0 rfl).trans r0
    replace r4 := (hfr 4 rfl).trans r4
    have r3 := hv_
    clear hfr hv_
    refine (li_nil (nx_blk (nx_then ?_)))
    refine' region [_, _, _] mixed hA (.cons ?z9_0 (.cons ?z9_1 (.cons ?z9_2 .nil))) ?zok9 ?zgd9 ?zk9
    case z9_0 =>
      intro a' w' hE hK hg
      have x0 := kn (hK 4 rfl) rfl r4
      exact ok_move x0
    case z9_1 =>
      intro a' w' hE hK hg
      have x0 := ksv (hK 10 rfl) rfl rfl rfl
      first | exact ok_add_i x0 rfl (by first | omega | (constructor <;> omega)) | exact ok_add x0 rfl
    case z9_2 =>
      intro a' w' hE hK hg
      have x0 := ksv (hK 11 rfl) rfl rfl rfl
      exact ok_assign x0
    case zok9 => kernel_rfl
    case zgd9 => kernel_rfl
    intro a10 w10 hA' hE HF
    replace r0 := kn (HF 0) rfl r0
    replace r3 := kn (HF 3) rfl r3
    replace r4 := ksv (HF 4) rfl rfl rfl
    clear hA HF
    have hA := hA'
    clear hA'
    replace m_out := m_out.ext hE
    have hLt := hB.size
    replace hB := hB.trans hE
    clear hE hLt
    refine (li_nil (nx_then ?_))
    refine ⟨_, ?lt10, (k + 1), _, rfl, hA, hB, r0.trans q4_0.symm, r3, r4.trans ?v10_4, ?m10_out, ?p10_0⟩
    case v10_4 => first | rfl | (congr 1; omega)
    case m10_out => (rw [up1_take l k hi_, List.map_append, List.getD_eq_getElem?_getD, List.getElem?_eq_getElem (by omega), List.getD_eq_getElem?_getD, List.getElem?_eq_getElem hi_]; exact m_out)
    case p10_0 => omega
    case lt10 => omega
  ·
    try simp only [Bool.and_eq_true, Bool.or_eq_true, Bool.and_eq_false_iff, Bool.or_eq_false_iff, Bool.not_eq_true', Bool.not_eq_false', decide_eq_true_eq, decide_eq_false_iff_not, ne_eq, Decidable.not_not, gt_iff_lt, ge_iff_le, Int.not_lt, Int.not_le, Nat.not_lt, Nat.not_le, Int.ofNat_lt, Int.ofNat_le] at hc
    refine wp_exit ?_
    refine (ex_then (ex_then (ex_same ?_)))
    refine (nx_then ?_)
    refine wp_seq ?_
    refine' region [_, _] mixed hA (.cons ?z11_0 (.cons ?z11_1 .nil)) ?zok11 ?zgd11 ?zk11
    case z11_0 =>
      intro a' w' hE hK hg
      have x0 := kn (hK 3 rfl) rfl r3
      exact ok_move x0
    case z11_1 =>
      intro a' w' hE hK hg
      have x0 := ksv (hK 25 rfl) rfl rfl rfl
      exact ok_assign x0
    case zok11 => kernel_rfl
    case zgd11 => kernel_rfl
    intro a11 w11 hA' hE HF
    have r2 := ksv (HF 2) rfl rfl rfl
    clear hA HF
    have hA := hA'
    clear hA'
    replace m_out := m_out.ext hE
    have hLt := hB.size
    replace hB := hB.trans hE
    clear hE hLt
    refine (li_nil (nx_then ?_))
    refine (wp_ret ?_)
    refine retPure Try.results37 hA r2 hB ?_
    (show OwnS _ _ _ _ _ _; have e_ : (up1 l).take k = up1 l := List.take_of_length_le (by rw [up1_length]; simp only [List.length_map] at hc; omega); rw [e_] at m_out; exact m_out.mono hBB)

theorem rRoot (v : Value) (ss : List ByteArray) (w0 : World) (h : SlV w0 1 v (ss.map .string)) (hl : ss.length ≤ 32) (hs : ∀ s ∈ ss, s.size ≤ 1099511627776) : Pure Try.prog 22 #[v] w0 (SP.isv (.string (str (rootD (bss ss))))).holds := by
  refine pure_of_wp Try.func22 rfl 14 Try.ntmps22 (by simp) fun a0 hA hs0 => ?_
  have r0 : a0.get 0 = v := hs0 0 _ rfl
  clear hs0
  have hB : Ext w0 w0 := Ext.refl _
  refine wp_seq ?_
  refine' region [_] mixed hA (.cons ?z1_0 .nil) ?zok1 ?zgd1 ?zk1
  case z1_0 =>
    intro a' w' hE hK hg
    exact ok_assign rfl
  case zok1 => kernel_rfl
  case zgd1 => kernel_rfl
  intro a1 w1 hA' hE HF
  replace r0 := kn (HF 0) rfl r0
  clear hA HF
  have hA := hA'
  clear hA'
  have hLt := hB.size
  replace hB := hB.trans hE
  clear hE hLt
  refine (li_nil (nx_then ?_))
  refine wp_seq ?_
  refine' region [_, _, _] mixed hA (.cons ?z2_0 (.cons ?z2_1 (.cons ?z2_2 .nil))) ?zok2 ?zgd2 ?zk2
  case z2_0 =>
    intro a' w' hE hK hg
    have x0 := kn (hK 0 rfl) rfl r0
    exact ok_move x0
  case z2_1 =>
    intro a' w' hE hK hg
    have x0 := ksv (hK 4 rfl) rfl rfl rfl
    exact ok_call1 fn36 x0 (rLowest _ _ w1.heap.size _ hE.size (h.ext (hB.trans hE)) (by assumption) (by assumption))
  case z2_2 =>
    intro a' w' hE hK hg
    have x0 := ksp (hK 5 rfl) rfl rfl rfl
    exact ok_assign_own x0
  case zok2 => kernel_rfl
  case zgd2 => kernel_rfl
  intro a2 w2 hA' hE HF
  have x3 := ksp (HF 3) rfl rfl rfl
  clear hA HF
  have hA := hA'
  clear hA'
  have hLt := hB.size
  replace hB := hB.trans hE
  have m_t3 := x3; clear x3
  obtain ⟨v3, r3⟩ : ∃ v, a2.get 3 = v := ⟨_, rfl⟩
  rw [r3] at m_t3
  clear hE hLt
  refine (li_nil (nx_then ?_))
  refine wp_seq ?_
  refine wp_block ?_
  have hbl : (base (bss ss)).length = 2 ^ lg (bss ss).length := base_length _ (by simpa [bss] using hl); have hlg := lg_le (bss ss).length; have hp5 : 2 ^ lg (bss ss).length ≤ 2 ^ 5 := Nat.pow_le_pow_right (by decide) hlg; have hp1 : 1 ≤ 2 ^ lg (bss ss).length := Nat.one_le_two_pow
  refine loop_m (fun m a w => ∃ l : List Bytes, ∃ vo : Value, m = l.length ∧ a.fit 14 ∧ Ext w0 w ∧ a.get 3 = vo ∧ (SlV w 1 vo (l.map sv)) ∧ (rt l = rootD (bss ss)) ∧ (∀ d ∈ l, d.length = 8) ∧ (l.length ≤ 32) ∧ (1 ≤ l.length)) (m := (base (bss ss)).length) (?st4) ?_
  case st4 =>
    refine ⟨(base (bss ss)), _, rfl, hA, hB, r3, ?m4_out, ?p4_0, ?p4_1, ?p4_2, ?p4_3⟩
    case m4_out => exact m_t3.slv
    case p4_0 => rfl
    case p4_1 => exact base_len8 _
    case p4_2 => (rw [hbl]; omega)
    case p4_3 => (rw [hbl]; omega)
  intro m_ a3 w3 hI
  obtain ⟨l, vo, rfl, hA, hB, r3, m_out, hr, h8, hll, hpos⟩ := hI
  refine wp_seq ?_
  refine wp_seq ?_
  refine' region [_, _, _] mixed hA (.cons ?z5_0 (.cons ?z5_1 (.cons ?z5_2 .nil))) ?zok5 ?zgd5 ?zk5
  case z5_0 =>
    intro a' w' hE hK hg
    have x0 := kn (hK 3 rfl) rfl r3
    exact ok_move x0
  case z5_1 =>
    intro a' w' hE hK hg
    have x0 := ksv (hK 6 rfl) rfl rfl rfl
    exact ok_lenV ty29 x0 (m_out.ext hE)
  case z5_2 =>
    intro a' w' hE hK hg
    have x0 := ksv (hK 7 rfl) rfl rfl rfl
    exact ok_gtr x0 rfl
  case zok5 => kernel_rfl
  case zgd5 => kernel_rfl
  intro a4 w4 hA' hE HF
  replace r3 := kn (HF 3) rfl r3
  have r8 := ksv (HF 8) rfl rfl rfl
  clear hA HF
  have hA := hA'
  clear hA'
  replace m_out := m_out.ext hE
  have hLt := hB.size
  replace hB := hB.trans hE
  clear hE hLt
  refine (li_nil (nx_then ?_))
  refine wp_cond_b r8 (fun hc => ?_) (fun hc => ?_)
  ·
    try simp only [Bool.and_eq_true, Bool.or_eq_true, Bool.and_eq_false_iff, Bool.or_eq_false_iff, Bool.not_eq_true', Bool.not_eq_false', decide_eq_true_eq, decide_eq_false_iff_not, ne_eq, Decidable.not_not, gt_iff_lt, ge_iff_le, Int.not_lt, Int.not_le, Nat.not_lt, Nat.not_le, Int.ofNat_lt, Int.ofNat_le] at hc
    have hgt : 1 < l.length := (by simp only [List.length_map] at hc; omega)
    refine wp_skip ?_
    refine (nx_then ?_)
    refine wp_block ?_
    refine' region [_, _, _] mixed hA (.cons ?z7_0 (.cons ?z7_1 (.cons ?z7_2 .nil))) ?zok7 ?zgd7 ?zk7
    case z7_0 =>
      intro a' w' hE hK hg
      have x0 := kn (hK 3 rfl) rfl r3
      exact ok_move x0
    case z7_1 =>
      intro a' w' hE hK hg
      have x0 := ksv (hK 9 rfl) rfl rfl rfl
      exact ok_call1 fn37 x0 (rAbove _ _ w4.heap.size _ hE.size (m_out.ext hE) (by assumption) (by assumption))
    case z7_2 =>
      intro a' w' hE hK hg
      have x0 := ksp (hK 10 rfl) rfl rfl rfl
      exact ok_assign_own x0
    case zok7 => kernel_rfl
    case zgd7 => kernel_rfl
    intro a5 w5 hA' hE HF
    have x3 := ksp (HF 3) rfl rfl rfl
    clear hA HF
    have hA := hA'
    clear hA'
    replace m_out := m_out.ext hE
    have hLt := hB.size
    replace hB := hB.trans hE
    have m_t3 := x3; clear x3
    obtain ⟨v3, r3⟩ : ∃ v, a5.get 3 = v := ⟨_, rfl⟩
    rw [r3] at m_t3
    clear hE hLt
    refine (li_nil (nx_blk (nx_then ?_)))
    refine ⟨_, ?lt8, (up1 l), _, rfl, hA, hB, r3, ?m8_out, ?p8_0, ?p8_1, ?p8_2, ?p8_3⟩
    case m8_out => exact m_t3.slv
    case p8_0 => (rw [← rt_up hgt]; exact hr)
    case p8_1 => exact up1_len8 _
    case p8_2 => (rw [up1_length]; omega)
    case p8_3 => (rw [up1_length]; omega)
    case lt8 => (rw [up1_length]; omega)
  ·
    try simp only [Bool.and_eq_true, Bool.or_eq_true, Bool.and_eq_false_iff, Bool.or_eq_false_iff, Bool.not_eq_true', Bool.not_eq_false', decide_eq_true_eq, decide_eq_false_iff_not, ne_eq, Decidable.not_not, gt_iff_lt, ge_iff_le, Int.not_lt, Int.not_le, Nat.not_lt, Nat.not_le, Int.ofNat_lt, Int.ofNat_le] at hc
    refine wp_exit ?_
    refine (ex_then (ex_then (ex_same ?_)))
    refine (nx_then ?_)
    refine wp_seq ?_
    refine' region [_, _, _, _] mixed hA (.cons ?z9_0 (.cons ?z9_1 (.cons ?z9_2 (.cons ?z9_3 .nil)))) ?zok9 ?zgd9 ?zk9
    case z9_0 =>
      intro a' w' hE hK hg
      have x0 := kn (hK 3 rfl) rfl r3
      exact ok_move x0
    case z9_1 =>
      intro a' w' hE hK hg
      have x0 := ksv (hK 11 rfl) rfl rfl rfl
      exact ok_indexV ty29 ty9 x0 (m_out.ext hE) rfl (by decide) (by exact get_sv (l := l) (i := 0) (by omega))
    case z9_2 =>
      intro a' w' hE hK hg
      have x0 := ksp (hK 12 rfl) rfl rfl rfl
      exact ok_loadPt ty9 rfl rfl x0 rfl
    case z9_3 =>
      intro a' w' hE hK hg
      have x0 := ksv (hK 13 rfl) rfl rfl rfl
      exact ok_assign x0
    case zok9 => kernel_rfl
    case zgd9 => kernel_rfl
    intro a6 w6 hA' hE HF
    have r2 := ksv (HF 2) rfl rfl rfl
    clear hA HF
    have hA := hA'
    clear hA'
    replace m_out := m_out.ext hE
    have hLt := hB.size
    replace hB := hB.trans hE
    clear hE hLt
    refine (li_nil (nx_then ?_))
    refine (wp_ret ?_)
    refine retPure Try.results22 hA r2 hB ?_
    (show _ = _; have h1 : l.length = 1 := (by simp only [List.length_map] at hc; omega); rw [← hr, rt_one h1]; obtain ⟨d, rfl⟩ := List.length_eq_one_iff.1 h1; rfl)
end Go.Proofs.Ytbkmnghnjajdmaa
