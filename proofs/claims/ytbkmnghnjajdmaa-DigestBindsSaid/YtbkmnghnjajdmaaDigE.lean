/- The digest package and its reference, walked by program (wip/gen). No statement stands here. -/
import Derived.Test.YtbkmnghnjajdmaaDigD
import Derived.Test.YtbkmnghnjajdmaaLaw
namespace Go.Proofs.Ytbkmnghnjajdmaa
open Go Go.RowKit Go.Eng Go.Dig
set_option linter.unusedVariables false
set_option linter.unusedSimpArgs false
theorem fn13 : FnOk Try.prog 13 := ⟨_, Try.func13, rfl, by kernel_rfl⟩
theorem fn15 : FnOk Try.prog 15 := ⟨_, Try.func15, rfl, by kernel_rfl⟩
theorem fn17 : FnOk Try.prog 17 := ⟨_, Try.func17, rfl, by kernel_rfl⟩
theorem fn18 : FnOk Try.prog 18 := ⟨_, Try.func18, rfl, by kernel_rfl⟩
theorem fn21 : FnOk Try.prog 21 := ⟨_, Try.func21, rfl, by kernel_rfl⟩
theorem fn23 : FnOk Try.prog 23 := ⟨_, Try.func23, rfl, by kernel_rfl⟩
theorem fn25 : FnOk Try.prog 25 := ⟨_, Try.func25, rfl, by kernel_rfl⟩
theorem fn27 : FnOk Try.prog 27 := ⟨_, Try.func27, rfl, by kernel_rfl⟩
theorem dRootS (v : Value) (xs : List Value) (ss : List ByteArray) (hx : Strs xs ss) (w0 : World) (h : SlV w0 1 v xs) (hl : ss.length ≤ 32) (hs : ∀ s ∈ ss, s.size ≤ 1099511627776) : Pure Try.prog 21 #[v] w0 (SP.isv (.string (str (rootD (bss ss))))).holds := by
  obtain rfl := hx.map
  exact dRoot v ss w0 h hl hs
theorem lShort (s : ByteArray) (w0 : World) : Pure Try.prog 10 #[.string s] w0 (SP.isv (.string (cut 60 s))).holds := by
  refine pure_of_wp Try.func10 rfl 8 Try.ntmps10 (by simp) fun a0 hA hs0 => ?_
  have r0 : a0.get 0 = .string s := hs0 0 _ rfl
  clear hs0
  have hB : Ext w0 w0 := Ext.refl _
  refine wp_seq ?_
  refine' region [_] mixed hA (.cons ?z1_0 .nil) ?zok1 ?zgd1 ?zk1
  case z1_0 =>
    intro a' w' hE hK hg
    exact ok_assign rfl
  case zok1 => kernel_rfl
  case zgd1 => kernel_rfl
  intro a1 w1 hA' hE HF
  replace r0 := kn (HF 0) rfl r0
  clear hA HF
  have hA := hA'
  clear hA'
  have hLt := hB.size
  replace hB := hB.trans hE
  clear hE hLt
  refine (li_nil (nx_then ?_))
  refine wp_seq ?_
  refine' region [_, _, _, _, _, _] mixed hA (.cons ?z2_0 (.cons ?z2_1 (.cons ?z2_2 (.cons ?z2_3 (.cons ?z2_4 (.cons ?z2_5 .nil)))))) ?zok2 ?zgd2 ?zk2
  case z2_0 =>
    intro a' w' hE hK hg
    have x0 := kn (hK 0 rfl) rfl r0
    exact ok_move x0
  case z2_1 =>
    intro a' w' hE hK hg
    have x0 := kn (hK 0 rfl) rfl r0
    exact ok_move x0
  case z2_2 =>
    intro a' w' hE hK hg
    have x0 := ksv (hK 4 rfl) rfl rfl rfl
    exact ok_lenS ty9 x0
  case z2_3 =>
    intro a' w' hE hK hg
    have x0 := ksv (hK 5 rfl) rfl rfl rfl
    exact ok_min x0 rfl
  case z2_4 =>
    intro a' w' hE hK hg
    have x0 := ksv (hK 3 rfl) rfl rfl rfl
    have x2 := ksv (hK 6 rfl) rfl rfl rfl
    exact ok_sliceS_h ty9 x0 x2 (by first | omega | (simp; done) | (simp; omega)) (by first | omega | (simp; done) | (simp; omega))
  case z2_5 =>
    intro a' w' hE hK hg
    have x0 := ksv (hK 7 rfl) rfl rfl rfl
    exact ok_assign x0
  case zok2 => kernel_rfl
  case zgd2 => kernel_rfl
  intro a2 w2 hA' hE HF
  have r2 := ksv (HF 2) rfl rfl rfl
  clear hA HF
  have hA := hA'
  clear hA'
  have hLt := hB.size
  replace hB := hB.trans hE
  clear hE hLt
  refine (li_nil (nx_then ?_))
  refine (wp_ret ?_)
  refine retPure Try.results10 hA r2 hB ?_
  (show _ = _; exact congrArg _ (extract_cut s 60))

theorem lList (v : Value) (ss : List ByteArray) (B : Nat) (w0 : World) (hBB : B ≤ w0.heap.size) (h : SlV w0 1 v (ss.map .string)) : Pure Try.prog 20 #[v] w0 (SP.own B 9 1 ((list20 ss).map .string)).holds := by
  refine pure_of_wp Try.func20 rfl 30 Try.ntmps20 (by simp) fun a0 hA hs0 => ?_
  have r0 : a0.get 0 = v := hs0 0 _ rfl
  clear hs0
  have hB : Ext w0 w0 := Ext.refl _
  refine wp_seq ?_
  refine' region [_] mixed hA (.cons ?z1_0 .nil) ?zok1 ?zgd1 ?zk1
  case z1_0 =>
    intro a' w' hE hK hg
    exact ok_assign rfl
  case zok1 => kernel_rfl
  case zgd1 => kernel_rfl
  intro a1 w1 hA' hE HF
  replace r0 := kn (HF 0) rfl r0
  clear hA HF
  have hA := hA'
  clear hA'
  have hLt := hB.size
  replace hB := hB.trans hE
  clear hE hLt
  refine (li_nil (nx_then ?_))
  refine wp_seq ?_
  refine' region [_] mixed hA (.cons ?z2_0 .nil) ?zok2 ?zgd2 ?zk2
  case z2_0 =>
    intro a' w' hE hK hg
    exact ok_assign rfl
  case zok2 => kernel_rfl
  case zgd2 => kernel_rfl
  intro a2 w2 hA' hE HF
  replace r0 := kn (HF 0) rfl r0
  have r3 := ksv (HF 3) rfl rfl rfl
  clear hA HF
  have hA := hA'
  clear hA'
  have hLt := hB.size
  replace hB := hB.trans hE
  clear hE hLt
  refine (li_nil (nx_then ?_))
  refine wp_seq ?_
  refine wp_seq ?_
  refine' region [_] mixed hA (.cons ?z3_0 .nil) ?zok3 ?zgd3 ?zk3
  case z3_0 =>
    intro a' w' hE hK hg
    exact ok_assign rfl
  case zok3 => kernel_rfl
  case zgd3 => kernel_rfl
  intro a3 w3 hA' hE HF
  replace r0 := kn (HF 0) rfl r0
  replace r3 := kn (HF 3) rfl r3
  have r4 := ksv (HF 4) rfl rfl rfl
  clear hA HF
  have hA := hA'
  clear hA'
  have hLt := hB.size
  replace hB := hB.trans hE
  clear hE hLt
  refine (li_nil (nx_then ?_))
  refine wp_block ?_
  have q4_0 := r0
  refine loop_m (fun m a w => ∃ k : Nat, ∃ vo : Value, m = ss.length - k ∧ a.fit 30 ∧ Ext w0 w ∧ a.get 0 = a3.get 0 ∧ a.get 3 = vo ∧ a.get 4 = .int .i64 (k : Int) ∧ (OwnS w w0.heap.size 9 1 vo (((ss.take k).map (cut 30)).map .string)) ∧ (k ≤ ss.length) ∧ (k ≤ 20)) (m := ss.length - (0)) (?st5) ?_
  case st5 =>
    refine ⟨(0), _, rfl, hA, hB, r0.trans q4_0.symm, r3, r4.trans ?v5_4, ?m5_out, ?p5_0, ?p5_1⟩
    case v5_4 => first | rfl | (congr 1; omega)
    case m5_out => exact OwnS.nil _ _ _ _
    case p5_0 => first | omega | assumption
    case p5_1 => first | omega | assumption
  intro m_ a4 w4 hI
  obtain ⟨k, vo, rfl, hA, hB, z0, r3, r4, m_out, hk, hk20⟩ := hI
  have r0 := z0.trans q4_0
  clear z0
  refine wp_seq ?_
  refine wp_seq ?_
  refine' region [_, _, _, _, _, _, _, _] mixed hA (.cons ?z6_0 (.cons ?z6_1 (.cons ?z6_2 (.cons ?z6_3 (.cons ?z6_4 (.cons ?z6_5 (.cons ?z6_6 (.cons ?z6_7 .nil)))))))) ?zok6 ?zgd6 ?zk6
  case z6_0 =>
    intro a' w' hE hK hg
    have x0 := kn (hK 4 rfl) rfl r4
    exact ok_move x0
  case z6_1 =>
    intro a' w' hE hK hg
    have x0 := kn (hK 0 rfl) rfl r0
    exact ok_move x0
  case z6_2 =>
    intro a' w' hE hK hg
    have x0 := ksv (hK 6 rfl) rfl rfl rfl
    exact ok_lenV ty29 x0 (h.ext (hB.trans hE))
  case z6_3 =>
    intro a' w' hE hK hg
    have x0 := ksv (hK 5 rfl) rfl rfl rfl
    have x1 := ksv (hK 7 rfl) rfl rfl rfl
    exact ok_lss x0 x1
  case z6_4 =>
    intro a' w' hE hK hg
    have x0 := ksv (hK 8 rfl) rfl rfl rfl
    exact ok_move x0
  case z6_5 =>
    intro a' w' hE hK hg
    have x0 := kn (hK 4 rfl) rfl r4
    exact ok_move x0
  case z6_6 =>
    intro a' w' hE hK hg
    have x0 := ksv (hK 10 rfl) rfl rfl hg
    exact ok_lss x0 rfl
  case z6_7 =>
    intro a' w' hE hK hg
    have x0 := ksv (hK 9 rfl) rfl rfl rfl
    exact ok_and x0 (fun hb => ksv (hK 11 rfl) rfl rfl (act_g1 rfl rfl hb))
  case zok6 => kernel_rfl
  case zgd6 => kernel_rfl
  intro a5 w5 hA' hE HF
  replace r0 := kn (HF 0) rfl r0
  replace r3 := kn (HF 3) rfl r3
  replace r4 := kn (HF 4) rfl r4
  have r12 := ksv (HF 12) rfl rfl rfl
  clear hA HF
  have hA := hA'
  clear hA'
  replace m_out := m_out.ext hE
  have hLt := hB.size
  replace hB := hB.trans hE
  clear hE hLt
  refine (li_nil (nx_then ?_))
  refine wp_cond_b r12 (fun hc => ?_) (fun hc => ?_)
  ·
    try simp only [Bool.and_eq_true, Bool.or_eq_true, Bool.and_eq_false_iff, Bool.or_eq_false_iff, Bool.not_eq_true', Bool.not_eq_false', decide_eq_true_eq, decide_eq_false_iff_not, ne_eq, Decidable.not_not, gt_iff_lt, ge_iff_le, Int.not_lt, Int.not_le, Nat.not_lt, Nat.not_le, Int.ofNat_lt, Int.ofNat_le] at hc
    have hi_ : k < ss.length := (by simpa using hc.1); have h20 : k < 20 := (by omega)
    refine wp_skip ?_
    refine (nx_then ?_)
    refine wp_seq ?_
    refine wp_block ?_
    refine' region [_, _, _, _, _, _, _, _, _, _, _, _, _] mixed hA (.cons ?z8_0 (.cons ?z8_1 (.cons ?z8_2 (.cons ?z8_3 (.cons ?z8_4 (.cons ?z8_5 (.cons ?z8_6 (.cons ?z8_7 (.cons ?z8_8 (.cons ?z8_9 (.cons ?z8_10 (.cons ?z8_11 (.cons ?z8_12 .nil))))))))))))) ?zok8 ?zgd8 ?zk8
    case z8_0 =>
      intro a' w' hE hK hg
      have x0 := kn (hK 3 rfl) rfl r3
      exact ok_move x0
    case z8_1 =>
      intro a' w' hE hK hg
      have x0 := kn (hK 0 rfl) rfl r0
      exact ok_move x0
    case z8_2 =>
      intro a' w' hE hK hg
      have x0 := kn (hK 4 rfl) rfl r4
      exact ok_move x0
    case z8_3 =>
      intro a' w' hE hK hg
      have x0 := ksv (hK 16 rfl) rfl rfl rfl
      have x1 := ksv (hK 17 rfl) rfl rfl rfl
      exact ok_indexV ty29 ty9 x0 (h.ext (hB.trans hE)) x1 (by first | omega | (simp only [List.length_map, List.length_append, List.length_cons, List.length_nil, List.length_take] at *; omega)) (by exact get_str ss k hi_)
    case z8_4 =>
      intro a' w' hE hK hg
      have x0 := ksp (hK 18 rfl) rfl rfl rfl
      exact ok_loadPt ty9 rfl rfl x0 rfl
    case z8_5 =>
      intro a' w' hE hK hg
      have x0 := kn (hK 0 rfl) rfl r0
      exact ok_move x0
    case z8_6 =>
      intro a' w' hE hK hg
      have x0 := kn (hK 4 rfl) rfl r4
      exact ok_move x0
    case z8_7 =>
      intro a' w' hE hK hg
      have x0 := ksv (hK 20 rfl) rfl rfl rfl
      have x1 := ksv (hK 21 rfl) rfl rfl rfl
      exact ok_indexV ty29 ty9 x0 (h.ext (hB.trans hE)) x1 (by first | omega | (simp only [List.length_map, List.length_append, List.length_cons, List.length_nil, List.length_take] at *; omega)) (by exact get_str ss k hi_)
    case z8_8 =>
      intro a' w' hE hK hg
      have x0 := ksp (hK 22 rfl) rfl rfl rfl
      exact ok_loadPt ty9 rfl rfl x0 rfl
    case z8_9 =>
      intro a' w' hE hK hg
      have x0 := ksv (hK 23 rfl) rfl rfl rfl
      exact ok_lenS ty9 x0
    case z8_10 =>
      intro a' w' hE hK hg
      have x0 := ksv (hK 24 rfl) rfl rfl rfl
      exact ok_min x0 rfl
    case z8_11 =>
      intro a' w' hE hK hg
      have x0 := ksv (hK 19 rfl) rfl rfl rfl
      have x2 := ksv (hK 25 rfl) rfl rfl rfl
      exact ok_sliceS_h ty9 x0 x2 (by first | omega | (simp only [List.length_map, List.length_append, List.length_cons, List.length_nil, List.length_take] at *; omega)) (by first | omega | (simp only [List.length_map, List.length_append, List.length_cons, List.length_nil, List.length_take] at *; omega))
    case z8_12 =>
      intro a' w' hE hK hg
      have x0 := ksv (hK 26 rfl) rfl rfl rfl
      exact ok_buildSlice (E := 0) (B := w5.heap.size) ty29 ty9 hE.size (parts_of (parts_cons x0 parts_nil)) (by first | (simp [Value.cells]; done) | (simp [Value.cells, bv, Dig.D_length]; done)) rfl (by omega)
    case zok8 => kernel_rfl
    case zgd8 => kernel_rfl
    intro a6 w6 hA' hE HF
    replace r0 := kn (HF 0) rfl r0
    replace r3 := kn (HF 3) rfl r3
    replace r4 := kn (HF 4) rfl r4
    have r15 := ksv (HF 15) rfl rfl rfl
    have x27 := ksp (HF 27) rfl rfl rfl
    clear hA HF
    have hA := hA'
    clear hA'
    replace m_out := m_out.ext hE
    have hLt := hB.size
    replace hB := hB.trans hE
    have m_t27 := x27; clear x27
    obtain ⟨v27, r27⟩ : ∃ v, a6.get 27 = v := ⟨_, rfl⟩
    rw [r27] at m_t27
    clear hE hLt
    refine t_append (E := 0) ty29 ty9 rfl r15 m_out r27 m_t27.slv (by simp [flat, Value.cells, Value.oneCell']) (by first | omega | (simp only [List.length_map, List.length_append, List.length_cons, List.length_nil, List.length_take] at *; omega)) (by first | omega | (simp only [List.length_map, List.length_append, List.length_cons, List.length_nil, List.length_take] at *; omega)) hB.size fun v28_w7 w7 m_ hE => ?_
    replace hB := ext_appd hB hE (m_out.block_ge)
    replace m_out := m_; clear m_ hE
    refine put_cont hA (by decide) fun a8 hA' hv_ hfr => ?_
    clear hA; have hA := hA'; clear hA'
    replace r0 := (hfr 0 rfl).trans r0
    replace r3 := (hfr 3 rfl).trans r3
    replace r4 := (hfr 4 rfl).trans r4
    have r28 := hv_
    clear hfr hv_
    clear m_t27
    refine t_assign r28 ?_
    refine put_cont hA (by decide) fun a9 hA' hv_ hfr => ?_
    clear hA; have hA := hA'; clear hA'
    replace r0 := (hfr 0 rfl).trans r0
    replace r4 := (hfr 4 rfl).trans r4
    have r3 := hv_
    clear hfr hv_
    refine (li_nil (nx_blk (nx_then ?_)))
    refine' region [_, _, _] mixed hA (.cons ?z9_0 (.cons ?z9_1 (.cons ?z9_2 .nil))) ?zok9 ?zgd9 ?zk9
    case z9_0 =>
      intro a' w' hE hK hg
      have x0 := kn (hK 4 rfl) rfl r4
      exact ok_move x0
    case z9_1 =>
      intro a' w' hE hK hg
      have x0 := ksv (hK 13 rfl) rfl rfl rfl
      first | exact ok_add_i x0 rfl (by first | omega | (constructor <;> omega)) | exact ok_add x0 rfl
    case z9_2 =>
      intro a' w' hE hK hg
      have x0 := ksv (hK 14 rfl) rfl rfl rfl
      exact ok_assign x0
    case zok9 => kernel_rfl
    case zgd9 => kernel_rfl
    intro a10 w10 hA' hE HF
    replace r0 := kn (HF 0) rfl r0
    replace r3 := kn (HF 3) rfl r3
    replace r4 := ksv (HF 4) rfl rfl rfl
    clear hA HF
    have hA := hA'
    clear hA'
    replace m_out := m_out.ext hE
    have hLt := hB.size
    replace hB := hB.trans hE
    clear hE hLt
    refine (li_nil (nx_then ?_))
    refine ⟨_, ?lt10, (k + 1), _, rfl, hA, hB, r0.trans q4_0.symm, r3, r4.trans ?v10_4, ?m10_out, ?p10_0, ?p10_1⟩
    case v10_4 => first | rfl | (congr 1; omega)
    case m10_out => (rw [List.take_succ_eq_append_getElem hi_, List.map_append, List.map_append]; rw [show ss[k].extract 0 (min (ss[k].size : Int) 30).toNat = cut 30 ss[k] from extract_cut ss[k] 30] at m_out; exact m_out)
    case p10_0 => first | omega | assumption
    case p10_1 => first | omega | assumption
    case lt10 => omega
  ·
    try simp only [Bool.and_eq_true, Bool.or_eq_true, Bool.and_eq_false_iff, Bool.or_eq_false_iff, Bool.not_eq_true', Bool.not_eq_false', decide_eq_true_eq, decide_eq_false_iff_not, ne_eq, Decidable.not_not, gt_iff_lt, ge_iff_le, Int.not_lt, Int.not_le, Nat.not_lt, Nat.not_le, Int.ofNat_lt, Int.ofNat_le] at hc
    refine wp_exit ?_
    refine (ex_then (ex_then (ex_same ?_)))
    refine (nx_then ?_)
    refine wp_seq ?_
    refine' region [_, _] mixed hA (.cons ?z11_0 (.cons ?z11_1 .nil)) ?zok11 ?zgd11 ?zk11
    case z11_0 =>
      intro a' w' hE hK hg
      have x0 := kn (hK 3 rfl) rfl r3
      exact ok_move x0
    case z11_1 =>
      intro a' w' hE hK hg
      have x0 := ksv (hK 29 rfl) rfl rfl rfl
      exact ok_assign x0
    case zok11 => kernel_rfl
    case zgd11 => kernel_rfl
    intro a11 w11 hA' hE HF
    have r2 := ksv (HF 2) rfl rfl rfl
    clear hA HF
    have hA := hA'
    clear hA'
    replace m_out := m_out.ext hE
    have hLt := hB.size
    replace hB := hB.trans hE
    clear hE hLt
    refine (li_nil (nx_then ?_))
    refine (wp_ret ?_)
    refine retPure Try.results20 hA r2 hB ?_
    (show OwnS _ _ _ _ _ _; have e1_ : ss.take k = ss.take 20 := (if h20 : k = 20 then congrArg (fun n => ss.take n) h20 else (by have : k = ss.length := (by simp only [List.length_map] at hc; omega); rw [List.take_of_length_le (by omega), List.take_of_length_le (by omega)])); have e_ : (ss.take k).map (cut 30) = list20 ss := (by unfold list20; rw [e1_]); rw [e_] at m_out; exact m_out.mono hBB)

theorem lSanity  (w0 : World) : Pure Try.prog 9 #[] w0 (SP.isv (.bool true)).holds := by
  refine pure_of_wp Try.func9 rfl 86 Try.ntmps9 (by simp) fun a0 hA hs0 => ?_
  clear hs0
  have hB : Ext w0 w0 := Ext.refl _
  refine wp_seq ?_
  refine' region [_] mixed hA (.cons ?z1_0 .nil) ?zok1 ?zgd1 ?zk1
  case z1_0 =>
    intro a' w' hE hK hg
    exact ok_assign rfl
  case zok1 => kernel_rfl
  case zgd1 => kernel_rfl
  intro a1 w1 hA' hE HF
  clear hA HF
  have hA := hA'
  clear hA'
  have hLt := hB.size
  replace hB := hB.trans hE
  clear hE hLt
  refine (li_nil (nx_then ?_))
  refine wp_seq ?_
  refine' region [_, _, _, _, _, _, _, _] mixed hA (.cons ?z2_0 (.cons ?z2_1 (.cons ?z2_2 (.cons ?z2_3 (.cons ?z2_4 (.cons ?z2_5 (.cons ?z2_6 (.cons ?z2_7 .nil)))))))) ?zok2 ?zgd2 ?zk2
  case z2_0 =>
    intro a' w' hE hK hg
    exact ok_call1 fn13 rfl (dOf1 _ _ (by first | (simp; done) | decide | omega | (simp only [str_size, ByteArray.size_append, size1, size0, D_length, List.length_cons, List.length_nil] at *; omega)))
  case z2_1 =>
    intro a' w' hE hK hg
    exact ok_call1 fn13 rfl (dOf1 _ _ (by first | (simp; done) | decide | omega | (simp only [str_size, ByteArray.size_append, size1, size0, D_length, List.length_cons, List.length_nil] at *; omega)))
  case z2_2 =>
    intro a' w' hE hK hg
    exact ok_call1 fn13 rfl (dOf1 _ _ (by first | (simp; done) | decide | omega | (simp only [str_size, ByteArray.size_append, size1, size0, D_length, List.length_cons, List.length_nil] at *; omega)))
  case z2_3 =>
    intro a' w' hE hK hg
    exact ok_call1 fn13 rfl (dOf1 _ _ (by first | (simp; done) | decide | omega | (simp only [str_size, ByteArray.size_append, size1, size0, D_length, List.length_cons, List.length_nil] at *; omega)))
  case z2_4 =>
    intro a' w' hE hK hg
    have x0 := ksv (hK 9 rfl) rfl rfl rfl
    exact ok_assign x0
  case z2_5 =>
    intro a' w' hE hK hg
    have x0 := ksv (hK 10 rfl) rfl rfl rfl
    exact ok_assign x0
  case z2_6 =>
    intro a' w' hE hK hg
    have x0 := ksv (hK 11 rfl) rfl rfl rfl
    exact ok_assign x0
  case z2_7 =>
    intro a' w' hE hK hg
    have x0 := ksv (hK 12 rfl) rfl rfl rfl
    exact ok_assign x0
  case zok2 => kernel_rfl
  case zgd2 => kernel_rfl
  intro a2 w2 hA' hE HF
  have r1 := ksv (HF 1) rfl rfl rfl
  have r2 := ksv (HF 2) rfl rfl rfl
  have r3 := ksv (HF 3) rfl rfl rfl
  have r4 := ksv (HF 4) rfl rfl rfl
  clear hA HF
  have hA := hA'
  clear hA'
  have hLt := hB.size
  replace hB := hB.trans hE
  clear hE hLt
  refine (li_nil (nx_then ?_))
  refine wp_seq ?_
  refine' region [_, _] mixed hA (.cons ?z3_0 (.cons ?z3_1 .nil)) ?zok3 ?zgd3 ?zk3
  case z3_0 =>
    intro a' w' hE hK hg
    exact ok_call2 fn17 rfl rfl (dMark _ _ _ (by first | (simp; done) | decide | omega | (simp only [str_size, ByteArray.size_append, size1, size0, D_length, List.length_cons, List.length_nil] at *; omega)) (by first | (simp; done) | decide | omega | (simp only [str_size, ByteArray.size_append, size1, size0, D_length, List.length_cons, List.length_nil] at *; omega)))
  case z3_1 =>
    intro a' w' hE hK hg
    have x0 := ksv (hK 13 rfl) rfl rfl rfl
    exact ok_assign x0
  case zok3 => kernel_rfl
  case zgd3 => kernel_rfl
  intro a3 w3 hA' hE HF
  replace r1 := kn (HF 1) rfl r1
  replace r2 := kn (HF 2) rfl r2
  replace r3 := kn (HF 3) rfl r3
  replace r4 := kn (HF 4) rfl r4
  have r5 := ksv (HF 5) rfl rfl rfl
  clear hA HF
  have hA := hA'
  clear hA'
  have hLt := hB.size
  replace hB := hB.trans hE
  clear hE hLt
  refine (li_nil (nx_then ?_))
  refine wp_seq ?_
  refine' region [_, _, _, _, _, _, _, _, _, _, _, _] mixed hA (.cons ?z4_0 (.cons ?z4_1 (.cons ?z4_2 (.cons ?z4_3 (.cons ?z4_4 (.cons ?z4_5 (.cons ?z4_6 (.cons ?z4_7 (.cons ?z4_8 (.cons ?z4_9 (.cons ?z4_10 (.cons ?z4_11 .nil)))))))))))) ?zok4 ?zgd4 ?zk4
  case z4_0 =>
    intro a' w' hE hK hg
    exact ok_call1 fn13 rfl (dOf1 _ _ (by first | (simp; done) | decide | omega | (simp only [str_size, ByteArray.size_append, size1, size0, D_length, List.length_cons, List.length_nil] at *; omega)))
  case z4_1 =>
    intro a' w' hE hK hg
    have x0 := ksv (hK 14 rfl) rfl rfl rfl
    exact ok_eqlS x0 rfl
  case z4_2 =>
    intro a' w' hE hK hg
    have x0 := ksv (hK 15 rfl) rfl rfl rfl
    exact ok_move x0
  case z4_3 =>
    intro a' w' hE hK hg
    have hgc := agv rfl hg rfl; revert hgc; intro hgc
    exact ok_call1 fn13 rfl (dOf1 _ _ (by (try simp only [Bool.and_eq_true, Bool.or_eq_true, Bool.and_eq_false_iff, Bool.or_eq_false_iff, Bool.not_eq_true', Bool.not_eq_false', decide_eq_true_eq, decide_eq_false_iff_not, ne_eq, Decidable.not_not, gt_iff_lt, ge_iff_le, Int.not_lt, Int.not_le, Nat.not_lt, Nat.not_le, Int.ofNat_lt, Int.ofNat_le] at hgc); (first | obtain ⟨⟨⟨⟨_, _⟩, _⟩, _⟩, _⟩ := hgc | obtain ⟨⟨⟨_, _⟩, _⟩, _⟩ := hgc | obtain ⟨⟨_, _⟩, _⟩ := hgc | obtain ⟨_, _⟩ := hgc | skip); (first | (simp; done) | decide | omega | (simp only [str_size, ByteArray.size_append, size1, size0, D_length, List.length_cons, List.length_nil] at *; omega))))
  case z4_4 =>
    intro a' w' hE hK hg
    have x0 := ksv (hK 17 rfl) rfl rfl hg
    exact ok_eqlS x0 rfl
  case z4_5 =>
    intro a' w' hE hK hg
    have x0 := ksv (hK 16 rfl) rfl rfl rfl
    exact ok_and x0 (fun hb => ksv (hK 18 rfl) rfl rfl (act_g1 rfl rfl hb))
  case z4_6 =>
    intro a' w' hE hK hg
    have x0 := ksv (hK 19 rfl) rfl rfl rfl
    exact ok_move x0
  case z4_7 =>
    intro a' w' hE hK hg
    have hgc := agv rfl hg rfl; revert hgc; intro hgc
    exact ok_call2 fn15 rfl rfl (dChain _ _ _ (by (try simp only [Bool.and_eq_true, Bool.or_eq_true, Bool.and_eq_false_iff, Bool.or_eq_false_iff, Bool.not_eq_true', Bool.not_eq_false', decide_eq_true_eq, decide_eq_false_iff_not, ne_eq, Decidable.not_not, gt_iff_lt, ge_iff_le, Int.not_lt, Int.not_le, Nat.not_lt, Nat.not_le, Int.ofNat_lt, Int.ofNat_le] at hgc); (first | obtain ⟨⟨⟨⟨_, _⟩, _⟩, _⟩, _⟩ := hgc | obtain ⟨⟨⟨_, _⟩, _⟩, _⟩ := hgc | obtain ⟨⟨_, _⟩, _⟩ := hgc | obtain ⟨_, _⟩ := hgc | skip); (first | (simp; done) | decide | omega | (simp only [str_size, ByteArray.size_append, size1, size0, D_length, List.length_cons, List.length_nil] at *; omega))) (by (try simp only [Bool.and_eq_true, Bool.or_eq_true, Bool.and_eq_false_iff, Bool.or_eq_false_iff, Bool.not_eq_true', Bool.not_eq_false', decide_eq_true_eq, decide_eq_false_iff_not, ne_eq, Decidable.not_not, gt_iff_lt, ge_iff_le, Int.not_lt, Int.not_le, Nat.not_lt, Nat.not_le, Int.ofNat_lt, Int.ofNat_le] at hgc); (first | obtain ⟨⟨⟨⟨_, _⟩, _⟩, _⟩, _⟩ := hgc | obtain ⟨⟨⟨_, _⟩, _⟩, _⟩ := hgc | obtain ⟨⟨_, _⟩, _⟩ := hgc | obtain ⟨_, _⟩ := hgc | skip); (first | (simp; done) | decide | omega | (simp only [str_size, ByteArray.size_append, size1, size0, D_length, List.length_cons, List.length_nil] at *; omega))))
  case z4_8 =>
    intro a' w' hE hK hg
    have hgc := agv rfl hg rfl; revert hgc; intro hgc
    exact ok_call1 fn13 rfl (dOf1 _ _ (by (try simp only [Bool.and_eq_true, Bool.or_eq_true, Bool.and_eq_false_iff, Bool.or_eq_false_iff, Bool.not_eq_true', Bool.not_eq_false', decide_eq_true_eq, decide_eq_false_iff_not, ne_eq, Decidable.not_not, gt_iff_lt, ge_iff_le, Int.not_lt, Int.not_le, Nat.not_lt, Nat.not_le, Int.ofNat_lt, Int.ofNat_le] at hgc); (first | obtain ⟨⟨⟨⟨_, _⟩, _⟩, _⟩, _⟩ := hgc | obtain ⟨⟨⟨_, _⟩, _⟩, _⟩ := hgc | obtain ⟨⟨_, _⟩, _⟩ := hgc | obtain ⟨_, _⟩ := hgc | skip); (first | (simp; done) | decide | omega | (simp only [str_size, ByteArray.size_append, size1, size0, D_length, List.length_cons, List.length_nil] at *; omega))))
  case z4_9 =>
    intro a' w' hE hK hg
    have x0 := ksv (hK 21 rfl) rfl rfl hg
    have x1 := ksv (hK 22 rfl) rfl rfl hg
    exact ok_eqlS x0 x1
  case z4_10 =>
    intro a' w' hE hK hg
    have x0 := ksv (hK 20 rfl) rfl rfl rfl
    exact ok_and x0 (fun hb => ksv (hK 23 rfl) rfl rfl (act_g1 rfl rfl hb))
  case z4_11 =>
    intro a' w' hE hK hg
    have x0 := ksv (hK 24 rfl) rfl rfl rfl
    exact ok_assign x0
  case zok4 => kernel_rfl
  case zgd4 => kernel_rfl
  intro a4 w4 hA' hE HF
  replace r1 := kn (HF 1) rfl r1
  replace r2 := kn (HF 2) rfl r2
  replace r3 := kn (HF 3) rfl r3
  replace r4 := kn (HF 4) rfl r4
  replace r5 := kn (HF 5) rfl r5
  have r6 := ksv (HF 6) rfl rfl rfl
  clear hA HF
  have hA := hA'
  clear hA'
  have hLt := hB.size
  replace hB := hB.trans hE
  clear hE hLt
  refine (li_nil (nx_then ?_))
  refine wp_seq ?_
  refine' region [_, _, _, _, _, _, _, _, _, _, _, _, _] mixed hA (.cons ?z5_0 (.cons ?z5_1 (.cons ?z5_2 (.cons ?z5_3 (.cons ?z5_4 (.cons ?z5_5 (.cons ?z5_6 (.cons ?z5_7 (.cons ?z5_8 (.cons ?z5_9 (.cons ?z5_10 (.cons ?z5_11 (.cons ?z5_12 .nil))))))))))))) ?zok5 ?zgd5 ?zk5
  case z5_0 =>
    intro a' w' hE hK hg
    have x0 := kn (hK 5 rfl) rfl r5
    exact ok_move x0
  case z5_1 =>
    intro a' w' hE hK hg
    exact ok_call1 fn13 rfl (dOf1 _ _ (by first | (simp; done) | decide | omega | (simp only [str_size, ByteArray.size_append, size1, size0, D_length, List.length_cons, List.length_nil] at *; omega)))
  case z5_2 =>
    intro a' w' hE hK hg
    have x0 := ksv (hK 25 rfl) rfl rfl rfl
    have x1 := ksv (hK 26 rfl) rfl rfl rfl
    exact ok_eqlS x0 x1
  case z5_3 =>
    intro a' w' hE hK hg
    have x0 := ksv (hK 27 rfl) rfl rfl rfl
    exact ok_move x0
  case z5_4 =>
    intro a' w' hE hK hg
    have x0 := kn (hK 5 rfl) rfl r5
    exact ok_move x0
  case z5_5 =>
    intro a' w' hE hK hg
    have x2 := ksv (hK 29 rfl) rfl rfl hg
    have hgc := agv rfl hg rfl; revert hgc; intro hgc
    exact ok_call3 fn18 rfl rfl x2 (dCheck _ _ _ _ (by (try simp only [Bool.and_eq_true, Bool.or_eq_true, Bool.and_eq_false_iff, Bool.or_eq_false_iff, Bool.not_eq_true', Bool.not_eq_false', decide_eq_true_eq, decide_eq_false_iff_not, ne_eq, Decidable.not_not, gt_iff_lt, ge_iff_le, Int.not_lt, Int.not_le, Nat.not_lt, Nat.not_le, Int.ofNat_lt, Int.ofNat_le] at hgc); (first | obtain ⟨⟨⟨⟨_, _⟩, _⟩, _⟩, _⟩ := hgc | obtain ⟨⟨⟨_, _⟩, _⟩, _⟩ := hgc | obtain ⟨⟨_, _⟩, _⟩ := hgc | obtain ⟨_, _⟩ := hgc | skip); (first | (simp; done) | decide | omega | (simp only [str_size, ByteArray.size_append, size1, size0, D_length, List.length_cons, List.length_nil] at *; omega))) (by (try simp only [Bool.and_eq_true, Bool.or_eq_true, Bool.and_eq_false_iff, Bool.or_eq_false_iff, Bool.not_eq_true', Bool.not_eq_false', decide_eq_true_eq, decide_eq_false_iff_not, ne_eq, Decidable.not_not, gt_iff_lt, ge_iff_le, Int.not_lt, Int.not_le, Nat.not_lt, Nat.not_le, Int.ofNat_lt, Int.ofNat_le] at hgc); (first | obtain ⟨⟨⟨⟨_, _⟩, _⟩, _⟩, _⟩ := hgc | obtain ⟨⟨⟨_, _⟩, _⟩, _⟩ := hgc | obtain ⟨⟨_, _⟩, _⟩ := hgc | obtain ⟨_, _⟩ := hgc | skip); (first | (simp; done) | decide | omega | (simp only [str_size, ByteArray.size_append, size1, size0, D_length, List.length_cons, List.length_nil] at *; omega))))
  case z5_6 =>
    intro a' w' hE hK hg
    have x0 := ksv (hK 28 rfl) rfl rfl rfl
    exact ok_and x0 (fun hb => ksv (hK 30 rfl) rfl rfl (act_g1 rfl rfl hb))
  case z5_7 =>
    intro a' w' hE hK hg
    have x0 := ksv (hK 31 rfl) rfl rfl rfl
    exact ok_move x0
  case z5_8 =>
    intro a' w' hE hK hg
    have hgc := agv rfl hg rfl; revert hgc; intro hgc
    exact ok_call2 fn17 rfl rfl (dMark _ _ _ (by (try simp only [Bool.and_eq_true, Bool.or_eq_true, Bool.and_eq_false_iff, Bool.or_eq_false_iff, Bool.not_eq_true', Bool.not_eq_false', decide_eq_true_eq, decide_eq_false_iff_not, ne_eq, Decidable.not_not, gt_iff_lt, ge_iff_le, Int.not_lt, Int.not_le, Nat.not_lt, Nat.not_le, Int.ofNat_lt, Int.ofNat_le] at hgc); (first | obtain ⟨⟨⟨⟨_, _⟩, _⟩, _⟩, _⟩ := hgc | obtain ⟨⟨⟨_, _⟩, _⟩, _⟩ := hgc | obtain ⟨⟨_, _⟩, _⟩ := hgc | obtain ⟨_, _⟩ := hgc | skip); (first | (simp; done) | decide | omega | (simp only [str_size, ByteArray.size_append, size1, size0, D_length, List.length_cons, List.length_nil] at *; omega))) (by (try simp only [Bool.and_eq_true, Bool.or_eq_true, Bool.and_eq_false_iff, Bool.or_eq_false_iff, Bool.not_eq_true', Bool.not_eq_false', decide_eq_true_eq, decide_eq_false_iff_not, ne_eq, Decidable.not_not, gt_iff_lt, ge_iff_le, Int.not_lt, Int.not_le, Nat.not_lt, Nat.not_le, Int.ofNat_lt, Int.ofNat_le] at hgc); (first | obtain ⟨⟨⟨⟨_, _⟩, _⟩, _⟩, _⟩ := hgc | obtain ⟨⟨⟨_, _⟩, _⟩, _⟩ := hgc | obtain ⟨⟨_, _⟩, _⟩ := hgc | obtain ⟨_, _⟩ := hgc | skip); (first | (simp; done) | decide | omega | (simp only [str_size, ByteArray.size_append, size1, size0, D_length, List.length_cons, List.length_nil] at *; omega))))
  case z5_9 =>
    intro a' w' hE hK hg
    have x2 := ksv (hK 33 rfl) rfl rfl hg
    have hgc := agv rfl hg rfl; revert hgc; intro hgc
    exact ok_call3 fn18 rfl rfl x2 (dCheck _ _ _ _ (by (try simp only [Bool.and_eq_true, Bool.or_eq_true, Bool.and_eq_false_iff, Bool.or_eq_false_iff, Bool.not_eq_true', Bool.not_eq_false', decide_eq_true_eq, decide_eq_false_iff_not, ne_eq, Decidable.not_not, gt_iff_lt, ge_iff_le, Int.not_lt, Int.not_le, Nat.not_lt, Nat.not_le, Int.ofNat_lt, Int.ofNat_le] at hgc); (first | obtain ⟨⟨⟨⟨_, _⟩, _⟩, _⟩, _⟩ := hgc | obtain ⟨⟨⟨_, _⟩, _⟩, _⟩ := hgc | obtain ⟨⟨_, _⟩, _⟩ := hgc | obtain ⟨_, _⟩ := hgc | skip); (first | (simp; done) | decide | omega | (simp only [str_size, ByteArray.size_append, size1, size0, D_length, List.length_cons, List.length_nil] at *; omega))) (by (try simp only [Bool.and_eq_true, Bool.or_eq_true, Bool.and_eq_false_iff, Bool.or_eq_false_iff, Bool.not_eq_true', Bool.not_eq_false', decide_eq_true_eq, decide_eq_false_iff_not, ne_eq, Decidable.not_not, gt_iff_lt, ge_iff_le, Int.not_lt, Int.not_le, Nat.not_lt, Nat.not_le, Int.ofNat_lt, Int.ofNat_le] at hgc); (first | obtain ⟨⟨⟨⟨_, _⟩, _⟩, _⟩, _⟩ := hgc | obtain ⟨⟨⟨_, _⟩, _⟩, _⟩ := hgc | obtain ⟨⟨_, _⟩, _⟩ := hgc | obtain ⟨_, _⟩ := hgc | skip); (first | (simp; done) | decide | omega | (simp only [str_size, ByteArray.size_append, size1, size0, D_length, List.length_cons, List.length_nil] at *; omega))))
  case z5_10 =>
    intro a' w' hE hK hg
    have x0 := ksv (hK 34 rfl) rfl rfl hg
    exact ok_not x0
  case z5_11 =>
    intro a' w' hE hK hg
    have x0 := ksv (hK 32 rfl) rfl rfl rfl
    exact ok_and x0 (fun hb => ksv (hK 35 rfl) rfl rfl (act_g1 rfl rfl hb))
  case z5_12 =>
    intro a' w' hE hK hg
    have x0 := ksv (hK 36 rfl) rfl rfl rfl
    exact ok_assign x0
  case zok5 => kernel_rfl
  case zgd5 => kernel_rfl
  intro a5 w5 hA' hE HF
  replace r1 := kn (HF 1) rfl r1
  replace r2 := kn (HF 2) rfl r2
  replace r3 := kn (HF 3) rfl r3
  replace r4 := kn (HF 4) rfl r4
  replace r6 := kn (HF 6) rfl r6
  have r7 := ksv (HF 7) rfl rfl rfl
  clear hA HF
  have hA := hA'
  clear hA'
  have hLt := hB.size
  replace hB := hB.trans hE
  clear hE hLt
  refine (li_nil (nx_then ?_))
  refine wp_seq ?_
  refine' region [_, _, _, _, _, _, _, _, _, _, _, _, _, _, _, _, _, _, _, _, _, _, _, _, _] mixed hA (.cons ?z6_0 (.cons ?z6_1 (.cons ?z6_2 (.cons ?z6_3 (.cons ?z6_4 (.cons ?z6_5 (.cons ?z6_6 (.cons ?z6_7 (.cons ?z6_8 (.cons ?z6_9 (.cons ?z6_10 (.cons ?z6_11 (.cons ?z6_12 (.cons ?z6_13 (.cons ?z6_14 (.cons ?z6_15 (.cons ?z6_16 (.cons ?z6_17 (.cons ?z6_18 (.cons ?z6_19 (.cons ?z6_20 (.cons ?z6_21 (.cons ?z6_22 (.cons ?z6_23 (.cons ?z6_24 .nil))))))))))))))))))))))))) ?zok6 ?zgd6 ?zk6
  case z6_0 =>
    intro a' w' hE hK hg
    exact ok_call1 fn23 rfl (dLeaf _ _ (by first | (simp; done) | decide | omega | (simp only [str_size, ByteArray.size_append, size1, size0, D_length, List.length_cons, List.length_nil] at *; omega)))
  case z6_1 =>
    intro a' w' hE hK hg
    have x0 := kn (hK 1 rfl) rfl r1
    exact ok_move x0
  case z6_2 =>
    intro a' w' hE hK hg
    have x0 := ksv (hK 37 rfl) rfl rfl rfl
    have x1 := ksv (hK 38 rfl) rfl rfl rfl
    exact ok_eqlS x0 x1
  case z6_3 =>
    intro a' w' hE hK hg
    have x0 := ksv (hK 39 rfl) rfl rfl rfl
    exact ok_move x0
  case z6_4 =>
    intro a' w' hE hK hg
    have hgc := agv rfl hg rfl; revert hgc; intro hgc
    exact ok_call2 fn25 rfl rfl (dInner _ _ _ (by (try simp only [Bool.and_eq_true, Bool.or_eq_true, Bool.and_eq_false_iff, Bool.or_eq_false_iff, Bool.not_eq_true', Bool.not_eq_false', decide_eq_true_eq, decide_eq_false_iff_not, ne_eq, Decidable.not_not, gt_iff_lt, ge_iff_le, Int.not_lt, Int.not_le, Nat.not_lt, Nat.not_le, Int.ofNat_lt, Int.ofNat_le] at hgc); (first | obtain ⟨⟨⟨⟨_, _⟩, _⟩, _⟩, _⟩ := hgc | obtain ⟨⟨⟨_, _⟩, _⟩, _⟩ := hgc | obtain ⟨⟨_, _⟩, _⟩ := hgc | obtain ⟨_, _⟩ := hgc | skip); (first | (simp; done) | decide | omega | (simp only [str_size, ByteArray.size_append, size1, size0, D_length, List.length_cons, List.length_nil] at *; omega))) (by (try simp only [Bool.and_eq_true, Bool.or_eq_true, Bool.and_eq_false_iff, Bool.or_eq_false_iff, Bool.not_eq_true', Bool.not_eq_false', decide_eq_true_eq, decide_eq_false_iff_not, ne_eq, Decidable.not_not, gt_iff_lt, ge_iff_le, Int.not_lt, Int.not_le, Nat.not_lt, Nat.not_le, Int.ofNat_lt, Int.ofNat_le] at hgc); (first | obtain ⟨⟨⟨⟨_, _⟩, _⟩, _⟩, _⟩ := hgc | obtain ⟨⟨⟨_, _⟩, _⟩, _⟩ := hgc | obtain ⟨⟨_, _⟩, _⟩ := hgc | obtain ⟨_, _⟩ := hgc | skip); (first | (simp; done) | decide | omega | (simp only [str_size, ByteArray.size_append, size1, size0, D_length, List.length_cons, List.length_nil] at *; omega))))
  case z6_5 =>
    intro a' w' hE hK hg
    have hgc := agv rfl hg rfl; revert hgc; intro hgc
    exact ok_call1 fn13 rfl (dOf1 _ _ (by (try simp only [Bool.and_eq_true, Bool.or_eq_true, Bool.and_eq_false_iff, Bool.or_eq_false_iff, Bool.not_eq_true', Bool.not_eq_false', decide_eq_true_eq, decide_eq_false_iff_not, ne_eq, Decidable.not_not, gt_iff_lt, ge_iff_le, Int.not_lt, Int.not_le, Nat.not_lt, Nat.not_le, Int.ofNat_lt, Int.ofNat_le] at hgc); (first | obtain ⟨⟨⟨⟨_, _⟩, _⟩, _⟩, _⟩ := hgc | obtain ⟨⟨⟨_, _⟩, _⟩, _⟩ := hgc | obtain ⟨⟨_, _⟩, _⟩ := hgc | obtain ⟨_, _⟩ := hgc | skip); (first | (simp; done) | decide | omega | (simp only [str_size, ByteArray.size_append, size1, size0, D_length, List.length_cons, List.length_nil] at *; omega))))
  case z6_6 =>
    intro a' w' hE hK hg
    have x0 := ksv (hK 41 rfl) rfl rfl hg
    have x1 := ksv (hK 42 rfl) rfl rfl hg
    exact ok_eqlS x0 x1
  case z6_7 =>
    intro a' w' hE hK hg
    have x0 := ksv (hK 40 rfl) rfl rfl rfl
    exact ok_and x0 (fun hb => ksv (hK 43 rfl) rfl rfl (act_g1 rfl rfl hb))
  case z6_8 =>
    intro a' w' hE hK hg
    have x0 := ksv (hK 44 rfl) rfl rfl rfl
    exact ok_move x0
  case z6_9 =>
    intro a' w' hE hK hg
    have hgc := agv rfl hg rfl; revert hgc; intro hgc
    exact ok_call0 fn27  (dMissing _)
  case z6_10 =>
    intro a' w' hE hK hg
    have x0 := kn (hK 4 rfl) rfl r4
    exact ok_move x0
  case z6_11 =>
    intro a' w' hE hK hg
    have x0 := ksv (hK 46 rfl) rfl rfl hg
    have x1 := ksv (hK 47 rfl) rfl rfl hg
    exact ok_eqlS x0 x1
  case z6_12 =>
    intro a' w' hE hK hg
    have x0 := ksv (hK 45 rfl) rfl rfl rfl
    exact ok_and x0 (fun hb => ksv (hK 48 rfl) rfl rfl (act_g1 rfl rfl hb))
  case z6_13 =>
    intro a' w' hE hK hg
    have x0 := ksv (hK 49 rfl) rfl rfl rfl
    exact ok_move x0
  case z6_14 =>
    intro a' w' hE hK hg
    have hgc := agv rfl hg rfl; revert hgc; intro hgc
    exact ok_call1 fn21 rfl (dRoot _ [] _ (slv_nil _ _) (by (try simp only [Bool.and_eq_true, Bool.or_eq_true, Bool.and_eq_false_iff, Bool.or_eq_false_iff, Bool.not_eq_true', Bool.not_eq_false', decide_eq_true_eq, decide_eq_false_iff_not, ne_eq, Decidable.not_not, gt_iff_lt, ge_iff_le, Int.not_lt, Int.not_le, Nat.not_lt, Nat.not_le, Int.ofNat_lt, Int.ofNat_le] at hgc); (first | obtain ⟨⟨⟨⟨_, _⟩, _⟩, _⟩, _⟩ := hgc | obtain ⟨⟨⟨_, _⟩, _⟩, _⟩ := hgc | obtain ⟨⟨_, _⟩, _⟩ := hgc | obtain ⟨_, _⟩ := hgc | skip); (first | (simp; done) | decide | omega | (simp only [str_size, ByteArray.size_append, size1, size0, D_length, List.length_cons, List.length_nil] at *; omega))) (by (try simp only [Bool.and_eq_true, Bool.or_eq_true, Bool.and_eq_false_iff, Bool.or_eq_false_iff, Bool.not_eq_true', Bool.not_eq_false', decide_eq_true_eq, decide_eq_false_iff_not, ne_eq, Decidable.not_not, gt_iff_lt, ge_iff_le, Int.not_lt, Int.not_le, Nat.not_lt, Nat.not_le, Int.ofNat_lt, Int.ofNat_le] at hgc); (first | obtain ⟨⟨⟨⟨_, _⟩, _⟩, _⟩, _⟩ := hgc | obtain ⟨⟨⟨_, _⟩, _⟩, _⟩ := hgc | obtain ⟨⟨_, _⟩, _⟩ := hgc | obtain ⟨_, _⟩ := hgc | skip); (first | (simp; done) | decide | omega | (simp only [str_size, ByteArray.size_append, size1, size0, D_length, List.length_cons, List.length_nil] at *; omega))))
  case z6_15 =>
    intro a' w' hE hK hg
    have x0 := kn (hK 4 rfl) rfl r4
    exact ok_move x0
  case z6_16 =>
    intro a' w' hE hK hg
    have x0 := ksv (hK 51 rfl) rfl rfl hg
    have x1 := ksv (hK 52 rfl) rfl rfl hg
    exact ok_eqlS x0 x1
  case z6_17 =>
    intro a' w' hE hK hg
    have x0 := ksv (hK 50 rfl) rfl rfl rfl
    exact ok_and x0 (fun hb => ksv (hK 53 rfl) rfl rfl (act_g1 rfl rfl hb))
  case z6_18 =>
    intro a' w' hE hK hg
    have x0 := ksv (hK 54 rfl) rfl rfl rfl
    exact ok_move x0
  case z6_19 =>
    intro a' w' hE hK hg
    exact ok_buildSlice (E := 0) (B := w5.heap.size) ty29 ty9 hE.size (parts_of (parts_cons rfl parts_nil)) (by first | (simp [Value.cells]; done) | (simp [Value.cells, bv, Dig.D_length]; done)) rfl (by omega)
  case z6_20 =>
    intro a' w' hE hK hg
    have x0 := ksp (hK 56 rfl) rfl rfl hg
    have hgc := agv rfl hg rfl; revert hgc; intro hgc
    exact ok_call1 fn21 rfl (dRootS _ _ _ (.cons _ .nil) _ x0.slv (by (try simp only [Bool.and_eq_true, Bool.or_eq_true, Bool.and_eq_false_iff, Bool.or_eq_false_iff, Bool.not_eq_true', Bool.not_eq_false', decide_eq_true_eq, decide_eq_false_iff_not, ne_eq, Decidable.not_not, gt_iff_lt, ge_iff_le, Int.not_lt, Int.not_le, Nat.not_lt, Nat.not_le, Int.ofNat_lt, Int.ofNat_le] at hgc); (first | obtain ⟨⟨⟨⟨_, _⟩, _⟩, _⟩, _⟩ := hgc | obtain ⟨⟨⟨_, _⟩, _⟩, _⟩ := hgc | obtain ⟨⟨_, _⟩, _⟩ := hgc | obtain ⟨_, _⟩ := hgc | skip); (first | (simp; done) | decide | omega | (simp only [str_size, ByteArray.size_append, size1, size0, D_length, List.length_cons, List.length_nil] at *; omega))) (by (try simp only [Bool.and_eq_true, Bool.or_eq_true, Bool.and_eq_false_iff, Bool.or_eq_false_iff, Bool.not_eq_true', Bool.not_eq_false', decide_eq_true_eq, decide_eq_false_iff_not, ne_eq, Decidable.not_not, gt_iff_lt, ge_iff_le, Int.not_lt, Int.not_le, Nat.not_lt, Nat.not_le, Int.ofNat_lt, Int.ofNat_le] at hgc); (first | obtain ⟨⟨⟨⟨_, _⟩, _⟩, _⟩, _⟩ := hgc | obtain ⟨⟨⟨_, _⟩, _⟩, _⟩ := hgc | obtain ⟨⟨_, _⟩, _⟩ := hgc | obtain ⟨_, _⟩ := hgc | skip); (first | (simp; done) | decide | omega | (simp only [str_size, ByteArray.size_append, size1, size0, D_length, List.length_cons, List.length_nil] at *; omega))))
  case z6_21 =>
    intro a' w' hE hK hg
    have x0 := kn (hK 1 rfl) rfl r1
    exact ok_move x0
  case z6_22 =>
    intro a' w' hE hK hg
    have x0 := ksv (hK 57 rfl) rfl rfl hg
    have x1 := ksv (hK 58 rfl) rfl rfl hg
    exact ok_eqlS x0 x1
  case z6_23 =>
    intro a' w' hE hK hg
    have x0 := ksv (hK 55 rfl) rfl rfl rfl
    exact ok_and x0 (fun hb => ksv (hK 59 rfl) rfl rfl (act_g1 rfl rfl hb))
  case z6_24 =>
    intro a' w' hE hK hg
    have x0 := ksv (hK 60 rfl) rfl rfl rfl
    exact ok_assign x0
  case zok6 => kernel_rfl
  case zgd6 => kernel_rfl
  intro a6 w6 hA' hE HF
  replace r1 := kn (HF 1) rfl r1
  replace r2 := kn (HF 2) rfl r2
  replace r3 := kn (HF 3) rfl r3
  replace r4 := kn (HF 4) rfl r4
  replace r6 := kn (HF 6) rfl r6
  replace r7 := kn (HF 7) rfl r7
  have r8 := ksv (HF 8) rfl rfl rfl
  clear hA HF
  have hA := hA'
  clear hA'
  have hLt := hB.size
  replace hB := hB.trans hE
  clear hE hLt
  refine (li_nil (nx_then ?_))
  refine wp_seq ?_
  refine' region [_, _, _, _, _, _, _, _, _, _, _, _, _, _, _, _, _, _, _, _, _, _, _, _, _, _] mixed hA (.cons ?z7_0 (.cons ?z7_1 (.cons ?z7_2 (.cons ?z7_3 (.cons ?z7_4 (.cons ?z7_5 (.cons ?z7_6 (.cons ?z7_7 (.cons ?z7_8 (.cons ?z7_9 (.cons ?z7_10 (.cons ?z7_11 (.cons ?z7_12 (.cons ?z7_13 (.cons ?z7_14 (.cons ?z7_15 (.cons ?z7_16 (.cons ?z7_17 (.cons ?z7_18 (.cons ?z7_19 (.cons ?z7_20 (.cons ?z7_21 (.cons ?z7_22 (.cons ?z7_23 (.cons ?z7_24 (.cons ?z7_25 .nil)))))))))))))))))))))))))) ?zok7 ?zgd7 ?zk7
  case z7_0 =>
    intro a' w' hE hK hg
    have x0 := kn (hK 6 rfl) rfl r6
    exact ok_move x0
  case z7_1 =>
    intro a' w' hE hK hg
    have x0 := ksv (hK 61 rfl) rfl rfl rfl
    exact ok_move x0
  case z7_2 =>
    intro a' w' hE hK hg
    have x0 := kn (hK 7 rfl) rfl r7
    exact ok_move x0
  case z7_3 =>
    intro a' w' hE hK hg
    have x0 := ksv (hK 62 rfl) rfl rfl rfl
    exact ok_and x0 (fun hb => ksv (hK 63 rfl) rfl rfl (act_g1 rfl rfl hb))
  case z7_4 =>
    intro a' w' hE hK hg
    have x0 := ksv (hK 64 rfl) rfl rfl rfl
    exact ok_move x0
  case z7_5 =>
    intro a' w' hE hK hg
    have x0 := kn (hK 8 rfl) rfl r8
    exact ok_move x0
  case z7_6 =>
    intro a' w' hE hK hg
    have x0 := ksv (hK 65 rfl) rfl rfl rfl
    exact ok_and x0 (fun hb => ksv (hK 66 rfl) rfl rfl (act_g1 rfl rfl hb))
  case z7_7 =>
    intro a' w' hE hK hg
    have x0 := ksv (hK 67 rfl) rfl rfl rfl
    exact ok_move x0
  case z7_8 =>
    intro a' w' hE hK hg
    exact ok_buildSlice (E := 0) (B := w6.heap.size) ty29 ty9 hE.size (parts_of (parts_cons rfl (parts_cons rfl (parts_cons rfl parts_nil)))) (by first | (simp [Value.cells]; done) | (simp [Value.cells, bv, Dig.D_length]; done)) rfl (by omega)
  case z7_9 =>
    intro a' w' hE hK hg
    have x0 := ksp (hK 69 rfl) rfl rfl hg
    have hgc := agv rfl hg rfl; revert hgc; intro hgc
    exact ok_call1 fn21 rfl (dRootS _ _ _ (.cons _ (.cons _ (.cons _ .nil))) _ x0.slv (by (try simp only [Bool.and_eq_true, Bool.or_eq_true, Bool.and_eq_false_iff, Bool.or_eq_false_iff, Bool.not_eq_true', Bool.not_eq_false', decide_eq_true_eq, decide_eq_false_iff_not, ne_eq, Decidable.not_not, gt_iff_lt, ge_iff_le, Int.not_lt, Int.not_le, Nat.not_lt, Nat.not_le, Int.ofNat_lt, Int.ofNat_le] at hgc); (first | obtain ⟨⟨⟨⟨_, _⟩, _⟩, _⟩, _⟩ := hgc | obtain ⟨⟨⟨_, _⟩, _⟩, _⟩ := hgc | obtain ⟨⟨_, _⟩, _⟩ := hgc | obtain ⟨_, _⟩ := hgc | skip); (first | (simp; done) | decide | omega | (simp only [str_size, ByteArray.size_append, size1, size0, D_length, List.length_cons, List.length_nil] at *; omega))) (by (try simp only [Bool.and_eq_true, Bool.or_eq_true, Bool.and_eq_false_iff, Bool.or_eq_false_iff, Bool.not_eq_true', Bool.not_eq_false', decide_eq_true_eq, decide_eq_false_iff_not, ne_eq, Decidable.not_not, gt_iff_lt, ge_iff_le, Int.not_lt, Int.not_le, Nat.not_lt, Nat.not_le, Int.ofNat_lt, Int.ofNat_le] at hgc); (first | obtain ⟨⟨⟨⟨_, _⟩, _⟩, _⟩, _⟩ := hgc | obtain ⟨⟨⟨_, _⟩, _⟩, _⟩ := hgc | obtain ⟨⟨_, _⟩, _⟩ := hgc | obtain ⟨_, _⟩ := hgc | skip); (first | (simp; done) | decide | omega | (simp only [str_size, ByteArray.size_append, size1, size0, D_length, List.length_cons, List.length_nil] at *; omega))))
  case z7_10 =>
    intro a' w' hE hK hg
    have x0 := kn (hK 1 rfl) rfl r1
    exact ok_move x0
  case z7_11 =>
    intro a' w' hE hK hg
    have x1 := ksv (hK 71 rfl) rfl rfl hg
    have hgc := agv rfl hg rfl; revert hgc; intro hgc
    exact ok_addS rfl x1 (by (try simp only [Bool.and_eq_true, Bool.or_eq_true, Bool.and_eq_false_iff, Bool.or_eq_false_iff, Bool.not_eq_true', Bool.not_eq_false', decide_eq_true_eq, decide_eq_false_iff_not, ne_eq, Decidable.not_not, gt_iff_lt, ge_iff_le, Int.not_lt, Int.not_le, Nat.not_lt, Nat.not_le, Int.ofNat_lt, Int.ofNat_le] at hgc); (first | obtain ⟨⟨⟨⟨_, _⟩, _⟩, _⟩, _⟩ := hgc | obtain ⟨⟨⟨_, _⟩, _⟩, _⟩ := hgc | obtain ⟨⟨_, _⟩, _⟩ := hgc | obtain ⟨_, _⟩ := hgc | skip); (first | (simp; done) | decide | omega | (simp only [str_size, ByteArray.size_append, size1, size0, D_length, List.length_cons, List.length_nil] at *; omega)))
  case z7_12 =>
    intro a' w' hE hK hg
    have x0 := kn (hK 2 rfl) rfl r2
    exact ok_move x0
  case z7_13 =>
    intro a' w' hE hK hg
    have x0 := ksv (hK 72 rfl) rfl rfl hg
    have x1 := ksv (hK 73 rfl) rfl rfl hg
    have hgc := agv rfl hg rfl; revert hgc; intro hgc
    exact ok_addS x0 x1 (by (try simp only [Bool.and_eq_true, Bool.or_eq_true, Bool.and_eq_false_iff, Bool.or_eq_false_iff, Bool.not_eq_true', Bool.not_eq_false', decide_eq_true_eq, decide_eq_false_iff_not, ne_eq, Decidable.not_not, gt_iff_lt, ge_iff_le, Int.not_lt, Int.not_le, Nat.not_lt, Nat.not_le, Int.ofNat_lt, Int.ofNat_le] at hgc); (first | obtain ⟨⟨⟨⟨_, _⟩, _⟩, _⟩, _⟩ := hgc | obtain ⟨⟨⟨_, _⟩, _⟩, _⟩ := hgc | obtain ⟨⟨_, _⟩, _⟩ := hgc | obtain ⟨_, _⟩ := hgc | skip); (first | (simp; done) | decide | omega | (simp only [str_size, ByteArray.size_append, size1, size0, D_length, List.length_cons, List.length_nil] at *; omega)))
  case z7_14 =>
    intro a' w' hE hK hg
    have x0 := ksv (hK 74 rfl) rfl rfl hg
    have hgc := agv rfl hg rfl; revert hgc; intro hgc
    exact ok_call1 fn13 x0 (dOf1 _ _ (by (try simp only [Bool.and_eq_true, Bool.or_eq_true, Bool.and_eq_false_iff, Bool.or_eq_false_iff, Bool.not_eq_true', Bool.not_eq_false', decide_eq_true_eq, decide_eq_false_iff_not, ne_eq, Decidable.not_not, gt_iff_lt, ge_iff_le, Int.not_lt, Int.not_le, Nat.not_lt, Nat.not_le, Int.ofNat_lt, Int.ofNat_le] at hgc); (first | obtain ⟨⟨⟨⟨_, _⟩, _⟩, _⟩, _⟩ := hgc | obtain ⟨⟨⟨_, _⟩, _⟩, _⟩ := hgc | obtain ⟨⟨_, _⟩, _⟩ := hgc | obtain ⟨_, _⟩ := hgc | skip); (first | (simp; done) | decide | omega | (simp only [str_size, ByteArray.size_append, size1, size0, D_length, List.length_cons, List.length_nil] at *; omega))))
  case z7_15 =>
    intro a' w' hE hK hg
    have x1 := ksv (hK 75 rfl) rfl rfl hg
    have hgc := agv rfl hg rfl; revert hgc; intro hgc
    exact ok_addS rfl x1 (by (try simp only [Bool.and_eq_true, Bool.or_eq_true, Bool.and_eq_false_iff, Bool.or_eq_false_iff, Bool.not_eq_true', Bool.not_eq_false', decide_eq_true_eq, decide_eq_false_iff_not, ne_eq, Decidable.not_not, gt_iff_lt, ge_iff_le, Int.not_lt, Int.not_le, Nat.not_lt, Nat.not_le, Int.ofNat_lt, Int.ofNat_le] at hgc); (first | obtain ⟨⟨⟨⟨_, _⟩, _⟩, _⟩, _⟩ := hgc | obtain ⟨⟨⟨_, _⟩, _⟩, _⟩ := hgc | obtain ⟨⟨_, _⟩, _⟩ := hgc | obtain ⟨_, _⟩ := hgc | skip); (first | (simp; done) | decide | omega | (simp only [str_size, ByteArray.size_append, size1, size0, D_length, List.length_cons, List.length_nil] at *; omega)))
  case z7_16 =>
    intro a' w' hE hK hg
    have x0 := kn (hK 3 rfl) rfl r3
    exact ok_move x0
  case z7_17 =>
    intro a' w' hE hK hg
    have x1 := ksv (hK 77 rfl) rfl rfl hg
    have hgc := agv rfl hg rfl; revert hgc; intro hgc
    exact ok_addS rfl x1 (by (try simp only [Bool.and_eq_true, Bool.or_eq_true, Bool.and_eq_false_iff, Bool.or_eq_false_iff, Bool.not_eq_true', Bool.not_eq_false', decide_eq_true_eq, decide_eq_false_iff_not, ne_eq, Decidable.not_not, gt_iff_lt, ge_iff_le, Int.not_lt, Int.not_le, Nat.not_lt, Nat.not_le, Int.ofNat_lt, Int.ofNat_le] at hgc); (first | obtain ⟨⟨⟨⟨_, _⟩, _⟩, _⟩, _⟩ := hgc | obtain ⟨⟨⟨_, _⟩, _⟩, _⟩ := hgc | obtain ⟨⟨_, _⟩, _⟩ := hgc | obtain ⟨_, _⟩ := hgc | skip); (first | (simp; done) | decide | omega | (simp only [str_size, ByteArray.size_append, size1, size0, D_length, List.length_cons, List.length_nil] at *; omega)))
  case z7_18 =>
    intro a' w' hE hK hg
    have x0 := kn (hK 4 rfl) rfl r4
    exact ok_move x0
  case z7_19 =>
    intro a' w' hE hK hg
    have x0 := ksv (hK 78 rfl) rfl rfl hg
    have x1 := ksv (hK 79 rfl) rfl rfl hg
    have hgc := agv rfl hg rfl; revert hgc; intro hgc
    exact ok_addS x0 x1 (by (try simp only [Bool.and_eq_true, Bool.or_eq_true, Bool.and_eq_false_iff, Bool.or_eq_false_iff, Bool.not_eq_true', Bool.not_eq_false', decide_eq_true_eq, decide_eq_false_iff_not, ne_eq, Decidable.not_not, gt_iff_lt, ge_iff_le, Int.not_lt, Int.not_le, Nat.not_lt, Nat.not_le, Int.ofNat_lt, Int.ofNat_le] at hgc); (first | obtain ⟨⟨⟨⟨_, _⟩, _⟩, _⟩, _⟩ := hgc | obtain ⟨⟨⟨_, _⟩, _⟩, _⟩ := hgc | obtain ⟨⟨_, _⟩, _⟩ := hgc | obtain ⟨_, _⟩ := hgc | skip); (first | (simp; done) | decide | omega | (simp only [str_size, ByteArray.size_append, size1, size0, D_length, List.length_cons, List.length_nil] at *; omega)))
  case z7_20 =>
    intro a' w' hE hK hg
    have x0 := ksv (hK 80 rfl) rfl rfl hg
    have hgc := agv rfl hg rfl; revert hgc; intro hgc
    exact ok_call1 fn13 x0 (dOf1 _ _ (by (try simp only [Bool.and_eq_true, Bool.or_eq_true, Bool.and_eq_false_iff, Bool.or_eq_false_iff, Bool.not_eq_true', Bool.not_eq_false', decide_eq_true_eq, decide_eq_false_iff_not, ne_eq, Decidable.not_not, gt_iff_lt, ge_iff_le, Int.not_lt, Int.not_le, Nat.not_lt, Nat.not_le, Int.ofNat_lt, Int.ofNat_le] at hgc); (first | obtain ⟨⟨⟨⟨_, _⟩, _⟩, _⟩, _⟩ := hgc | obtain ⟨⟨⟨_, _⟩, _⟩, _⟩ := hgc | obtain ⟨⟨_, _⟩, _⟩ := hgc | obtain ⟨_, _⟩ := hgc | skip); (first | (simp; done) | decide | omega | (simp only [str_size, ByteArray.size_append, size1, size0, D_length, List.length_cons, List.length_nil] at *; omega))))
  case z7_21 =>
    intro a' w' hE hK hg
    have x0 := ksv (hK 76 rfl) rfl rfl hg
    have x1 := ksv (hK 81 rfl) rfl rfl hg
    have hgc := agv rfl hg rfl; revert hgc; intro hgc
    exact ok_addS x0 x1 (by (try simp only [Bool.and_eq_true, Bool.or_eq_true, Bool.and_eq_false_iff, Bool.or_eq_false_iff, Bool.not_eq_true', Bool.not_eq_false', decide_eq_true_eq, decide_eq_false_iff_not, ne_eq, Decidable.not_not, gt_iff_lt, ge_iff_le, Int.not_lt, Int.not_le, Nat.not_lt, Nat.not_le, Int.ofNat_lt, Int.ofNat_le] at hgc); (first | obtain ⟨⟨⟨⟨_, _⟩, _⟩, _⟩, _⟩ := hgc | obtain ⟨⟨⟨_, _⟩, _⟩, _⟩ := hgc | obtain ⟨⟨_, _⟩, _⟩ := hgc | obtain ⟨_, _⟩ := hgc | skip); (first | (simp; done) | decide | omega | (simp only [str_size, ByteArray.size_append, size1, size0, D_length, List.length_cons, List.length_nil] at *; omega)))
  case z7_22 =>
    intro a' w' hE hK hg
    have x0 := ksv (hK 82 rfl) rfl rfl hg
    have hgc := agv rfl hg rfl; revert hgc; intro hgc
    exact ok_call1 fn13 x0 (dOf1 _ _ (by (try simp only [Bool.and_eq_true, Bool.or_eq_true, Bool.and_eq_false_iff, Bool.or_eq_false_iff, Bool.not_eq_true', Bool.not_eq_false', decide_eq_true_eq, decide_eq_false_iff_not, ne_eq, Decidable.not_not, gt_iff_lt, ge_iff_le, Int.not_lt, Int.not_le, Nat.not_lt, Nat.not_le, Int.ofNat_lt, Int.ofNat_le] at hgc); (first | obtain ⟨⟨⟨⟨_, _⟩, _⟩, _⟩, _⟩ := hgc | obtain ⟨⟨⟨_, _⟩, _⟩, _⟩ := hgc | obtain ⟨⟨_, _⟩, _⟩ := hgc | obtain ⟨_, _⟩ := hgc | skip); (first | (simp; done) | decide | omega | (simp only [str_size, ByteArray.size_append, size1, size0, D_length, List.length_cons, List.length_nil] at *; omega))))
  case z7_23 =>
    intro a' w' hE hK hg
    have x0 := ksv (hK 70 rfl) rfl rfl hg
    have x1 := ksv (hK 83 rfl) rfl rfl hg
    exact ok_eqlS x0 x1
  case z7_24 =>
    intro a' w' hE hK hg
    have x0 := ksv (hK 68 rfl) rfl rfl rfl
    exact ok_and x0 (fun hb => ksv (hK 84 rfl) rfl rfl (act_g1 rfl rfl hb))
  case z7_25 =>
    intro a' w' hE hK hg
    have x0 := ksv (hK 85 rfl) rfl rfl rfl
    exact ok_assign x0
  case zok7 => kernel_rfl
  case zgd7 => kernel_rfl
  intro a7 w7 hA' hE HF
  have r0 := ksv (HF 0) rfl rfl rfl
  clear hA HF
  have hA := hA'
  clear hA'
  have hLt := hB.size
  replace hB := hB.trans hE
  clear hE hLt
  refine (li_nil (nx_then ?_))
  refine (wp_ret ?_)
  refine retPure Try.results9 hA r0 hB ?_
  (show _ = _; kernel_rfl)
end Go.Proofs.Ytbkmnghnjajdmaa
