/- The digest package and its reference, walked by program (wip/gen). No statement stands here. -/
import Derived.Test.YtbkmnghnjajdmaaDigB
import Derived.Test.YtbkmnghnjajdmaaYld
namespace Go.Proofs.Ytbkmnghnjajdmaa
open Go Go.RowKit Go.Eng Go.Dig
set_option linter.unusedVariables false
set_option linter.unusedSimpArgs false
theorem ty49 : Ty Try.prog 49 (.slice 43) (.slice none 0 0) 1 24 := ⟨by kernel_rfl, by kernel_rfl⟩
theorem dLevels1 (L bl : Nat) (v : Value) (ss : List ByteArray) (J : Value → World → Prop) (c0 : Value) (B0 : Nat) (w0 : World) (hB0 : B0 = w0.heap.size) (hbx : Own w0 bl #[v] 29) (h : SlV w0 1 v (ss.map .string)) (hl : ss.length ≤ 32) (hs : ∀ s ∈ ss, s.size ≤ 1099511627776) (hJ0 : J c0 w0) (hJs : ∀ c W W', J c W → Below B0 W W' → J c W')
    (hY : ∀ c W u d r, J c W → SlV W 8 u ((d :: r).map av) → Yld Try.prog L #[u] W fun W' => J (av d) W' ∧ Keep B0 W W') : Calls Try.prog 39 #[.func (.yield L) #[] #[], .pointer (some ⟨bl, 0, none⟩)] w0 (fun e w' => e = .returned (.tuple #[]) ∧ J (av (rootD (bss ss))) w') := by
  refine callsE Try.func39 rfl 78 Try.ntmps39 (by simp) fun a0 hA hs0 => ?_
  have r0 : a0.get 0 = .func (.yield L) #[] #[] := hs0 0 _ rfl
  have r1 : a0.get 1 = .pointer (some ⟨bl, 0, none⟩) := hs0 1 _ rfl
  clear hs0
  have hB : Ext w0 w0 := Ext.refl _
  refine wp_seq ?_
  refine' region [_, _, _, _] mixed hA (.cons ?z1_0 (.cons ?z1_1 (.cons ?z1_2 (.cons ?z1_3 .nil)))) ?zok1 ?zgd1 ?zk1
  case z1_0 =>
    intro a' w' hE hK hg
    have x0 := kn (hK 1 rfl) rfl r1
    exact ok_loadOwn ty29 rfl x0 (hbx.ext (hB.trans hE)) (by rfl)
  case z1_1 =>
    intro a' w' hE hK hg
    have x0 := ksv (hK 8 rfl) rfl rfl rfl
    exact ok_lenV ty29 x0 (h.ext (hB.trans hE))
  case z1_2 =>
    intro a' w' hE hK hg
    have x1 := ksv (hK 9 rfl) rfl rfl rfl
    exact ok_make0 (E := 7) (B := w0.heap.size) ty49 ty43 hE.size rfl x1 (by simp only [List.length_map, List.length_append, List.length_replicate, List.length_cons, List.length_nil, List.length_take] at *; omega) (by simp only [List.length_map, List.length_append, List.length_replicate, List.length_cons, List.length_nil, List.length_take] at *; omega)
  case z1_3 =>
    intro a' w' hE hK hg
    have x0 := ksp (hK 10 rfl) rfl rfl rfl
    exact ok_assign_own x0
  case zok1 => kernel_rfl
  case zgd1 => kernel_rfl
  intro a1 w1 hA' hE HF
  replace r0 := kn (HF 0) rfl r0
  replace r1 := kn (HF 1) rfl r1
  have x3 := ksp (HF 3) rfl rfl rfl
  clear hA HF
  have hA := hA'
  clear hA'
  have hLt := hB.size
  replace hB := hB.trans hE
  have m_t3 := x3; clear x3
  obtain ⟨v3, r3⟩ : ∃ v, a1.get 3 = v := ⟨_, rfl⟩
  rw [r3] at m_t3
  clear hE hLt
  refine (li_nil (nx_then ?_))
  refine wp_seq ?_
  refine wp_seq ?_
  refine' region [_, _, _] mixed hA (.cons ?z2_0 (.cons ?z2_1 (.cons ?z2_2 .nil))) ?zok2 ?zgd2 ?zk2
  case z2_0 =>
    intro a' w' hE hK hg
    have x0 := kn (hK 1 rfl) rfl r1
    exact ok_loadOwn ty29 rfl x0 (hbx.ext (hB.trans hE)) (by rfl)
  case z2_1 =>
    intro a' w' hE hK hg
    have x0 := ksv (hK 11 rfl) rfl rfl rfl
    exact ok_lenV ty29 x0 (h.ext (hB.trans hE))
  case z2_2 =>
    intro a' w' hE hK hg
    exact ok_move rfl
  case zok2 => kernel_rfl
  case zgd2 => kernel_rfl
  intro a2 w2 hA' hE HF
  replace r0 := kn (HF 0) rfl r0
  replace r3 := kn (HF 3) rfl r3
  have r11 := ksv (HF 11) rfl rfl rfl
  have r12 := ksv (HF 12) rfl rfl rfl
  have r13 := ksv (HF 13) rfl rfl rfl
  clear hA HF
  have hA := hA'
  clear hA'
  replace m_t3 := m_t3.ext hE
  have hLt := hB.size
  replace hB := hB.trans hE
  clear hE hLt
  refine (li_nil (nx_then ?_))
  refine wp_block ?_
  have q3_0 := r0
  have q3_11 := r11
  have q3_12 := r12
  refine loop_m (fun m a w => ∃ k : Nat, ∃ vo : Value, m = ss.length - k ∧ a.fit 78 ∧ Ext w0 w ∧ a.get 0 = a2.get 0 ∧ a.get 11 = a2.get 11 ∧ a.get 12 = a2.get 12 ∧ a.get 3 = vo ∧ a.get 13 = .int .i64 (k : Int) ∧ (OwnS w w0.heap.size 43 8 vo (((bss ss).take k).map fun s => av (leafD s))) ∧ (k ≤ ss.length)) (m := ss.length - (0)) (?st4) ?_
  case st4 =>
    refine ⟨(0), _, rfl, hA, hB, r0.trans q3_0.symm, r11.trans q3_11.symm, r12.trans q3_12.symm, r3, r13.trans ?v4_13, ?m4_out, ?p4_0⟩
    case v4_13 => first | rfl | (congr 1; omega)
    case m4_out => exact m_t3
    case p4_0 => first | omega | assumption
  intro m_ a3 w3 hI
  obtain ⟨k, vo, rfl, hA, hB, z0, z11, z12, r3, r13, m_out, hk⟩ := hI
  have r0 := z0.trans q3_0
  have r11 := z11.trans q3_11
  have r12 := z12.trans q3_12
  clear z0 z11 z12
  refine wp_seq ?_
  refine' region [_] mixed hA (.cons ?z5_0 .nil) ?zok5 ?zgd5 ?zk5
  case z5_0 =>
    intro a' w' hE hK hg
    have x0 := kn (hK 13 rfl) rfl r13
    have x1 := kn (hK 12 rfl) rfl r12
    exact ok_lss x0 x1
  case zok5 => kernel_rfl
  case zgd5 => kernel_rfl
  intro a4 w4 hA' hE HF
  replace r0 := kn (HF 0) rfl r0
  replace r3 := kn (HF 3) rfl r3
  replace r11 := kn (HF 11) rfl r11
  replace r12 := kn (HF 12) rfl r12
  replace r13 := kn (HF 13) rfl r13
  have r14 := ksv (HF 14) rfl rfl rfl
  clear hA HF
  have hA := hA'
  clear hA'
  replace m_out := m_out.ext hE
  have hLt := hB.size
  replace hB := hB.trans hE
  clear hE hLt
  refine (li_nil (nx_then ?_))
  refine wp_seq ?_
  refine wp_cond_b r14 (fun hc => ?_) (fun hc => ?_)
  ·
    try simp only [Bool.and_eq_true, Bool.or_eq_true, Bool.and_eq_false_iff, Bool.or_eq_false_iff, Bool.not_eq_true', Bool.not_eq_false', decide_eq_true_eq, decide_eq_false_iff_not, ne_eq, Decidable.not_not, gt_iff_lt, ge_iff_le, Int.not_lt, Int.not_le, Nat.not_lt, Nat.not_le, Int.ofNat_lt, Int.ofNat_le] at hc
    have hi_ : k < ss.length := (by simpa using hc); have hsi_ := hs ss[k] (by simp)
    refine wp_skip ?_
    refine (nx_then ?_)
    refine wp_seq ?_
    refine wp_block ?_
    refine wp_seq ?_
    refine' region [_, _, _] mixed hA (.cons ?z7_0 (.cons ?z7_1 (.cons ?z7_2 .nil))) ?zok7 ?zgd7 ?zk7
    case z7_0 =>
      intro a' w' hE hK hg
      have x0 := kn (hK 11 rfl) rfl r11
      have x1 := kn (hK 13 rfl) rfl r13
      exact ok_indexV ty29 ty9 x0 (h.ext (hB.trans hE)) x1 (by simp only [List.length_map, List.length_append, List.length_replicate, List.length_cons, List.length_nil, List.length_take] at *; omega) (by exact get_str ss k hi_)
    case z7_1 =>
      intro a' w' hE hK hg
      have x0 := ksp (hK 15 rfl) rfl rfl rfl
      exact ok_loadPt ty9 rfl rfl x0 rfl
    case z7_2 =>
      intro a' w' hE hK hg
      have x0 := ksv (hK 16 rfl) rfl rfl rfl
      exact ok_assign x0
    case zok7 => kernel_rfl
    case zgd7 => kernel_rfl
    intro a5 w5 hA' hE HF
    replace r0 := kn (HF 0) rfl r0
    replace r3 := kn (HF 3) rfl r3
    have r5 := ksv (HF 5) rfl rfl rfl
    replace r11 := kn (HF 11) rfl r11
    replace r12 := kn (HF 12) rfl r12
    replace r13 := kn (HF 13) rfl r13
    clear hA HF
    have hA := hA'
    clear hA'
    replace m_out := m_out.ext hE
    have hLt := hB.size
    replace hB := hB.trans hE
    clear hE hLt
    refine (li_nil (nx_then ?_))
    refine' region [_, _, _, _, _] mixed hA (.cons ?z8_0 (.cons ?z8_1 (.cons ?z8_2 (.cons ?z8_3 (.cons ?z8_4 .nil))))) ?zok8 ?zgd8 ?zk8
    case z8_0 =>
      intro a' w' hE hK hg
      have x0 := kn (hK 3 rfl) rfl r3
      exact ok_move x0
    case z8_1 =>
      intro a' w' hE hK hg
      have x0 := kn (hK 5 rfl) rfl r5
      exact ok_move x0
    case z8_2 =>
      intro a' w' hE hK hg
      have x1 := ksv (hK 18 rfl) rfl rfl rfl
      exact ok_buildSlice (E := 0) (B := w5.heap.size) ty29 ty9 hE.size (parts_of (parts_cons rfl (parts_cons x1 parts_nil))) (by first | (simp [Value.cells]; done) | (simp [Value.cells, bv, Dig.D_length]; done)) rfl (by omega)
    case z8_3 =>
      intro a' w' hE hK hg
      have x0 := ksp (hK 19 rfl) rfl rfl rfl
      exact ok_call1 fn30 rfl (dOf _ _ _ (.cons _ (.cons _ .nil)) _ x0.slv (by first | (simp; done) | (simp only [List.mem_cons, List.not_mem_nil, or_false, forall_eq_or_imp, forall_eq, str_size, size1, size0, List.length_cons, List.length_nil] at *; omega) | omega) (by first | (simp; done) | (simp only [List.mem_cons, List.not_mem_nil, or_false, forall_eq_or_imp, forall_eq, str_size, size1, size0, List.length_cons, List.length_nil] at *; omega) | omega))
    case z8_4 =>
      intro a' w' hE hK hg
      have x0 := ksv (hK 20 rfl) rfl rfl rfl
      exact ok_buildSlice (E := 7) (B := w5.heap.size) ty49 ty43 hE.size (parts_of (parts_cons x0 parts_nil)) (by first | (simp [Value.cells]; done) | (simp [Value.cells, bv, Dig.D_length]; done)) rfl (by omega)
    case zok8 => kernel_rfl
    case zgd8 => kernel_rfl
    intro a6 w6 hA' hE HF
    replace r0 := kn (HF 0) rfl r0
    replace r3 := kn (HF 3) rfl r3
    replace r11 := kn (HF 11) rfl r11
    replace r12 := kn (HF 12) rfl r12
    replace r13 := kn (HF 13) rfl r13
    have r17 := ksv (HF 17) rfl rfl rfl
    have x21 := ksp (HF 21) rfl rfl rfl
    clear hA HF
    have hA := hA'
    clear hA'
    replace m_out := m_out.ext hE
    have hLt := hB.size
    replace hB := hB.trans hE
    have m_t21 := x21; clear x21
    obtain ⟨v21, r21⟩ : ∃ v, a6.get 21 = v := ⟨_, rfl⟩
    rw [r21] at m_t21
    clear hE hLt
    refine t_append (E := 7) ty49 ty43 rfl r17 m_out r21 m_t21.slv (by exact flat_av1 _ (D_length _)) (by simp only [List.length_map, List.length_append, List.length_replicate, List.length_cons, List.length_nil, List.length_take] at *; omega) (by simp only [List.length_map, List.length_append, List.length_replicate, List.length_cons, List.length_nil, List.length_take] at *; omega) hB.size fun v22_w7 w7 m_ hE => ?_
    replace hB := ext_appd hB hE (m_out.block_ge)
    replace m_out := m_; clear m_ hE
    refine put_cont hA (by decide) fun a8 hA' hv_ hfr => ?_
    clear hA; have hA := hA'; clear hA'
    replace r0 := (hfr 0 rfl).trans r0
    replace r3 := (hfr 3 rfl).trans r3
    replace r11 := (hfr 11 rfl).trans r11
    replace r12 := (hfr 12 rfl).trans r12
    replace r13 := (hfr 13 rfl).trans r13
    have r22 := hv_
    clear hfr hv_
    clear m_t21
    refine t_assign r22 ?_
    refine put_cont hA (by decide) fun a9 hA' hv_ hfr => ?_
    clear hA; have hA := hA'; clear hA'
    replace r0 := (hfr 0 rfl).trans r0
    replace r11 := (hfr 11 rfl).trans r11
    replace r12 := (hfr 12 rfl).trans r12
    replace r13 := (hfr 13 rfl).trans r13
    have r3 := hv_
    clear hfr hv_
    refine (li_nil (nx_blk (nx_then ?_)))
    refine' region [_, _] mixed hA (.cons ?z9_0 (.cons ?z9_1 .nil)) ?zok9 ?zgd9 ?zk9
    case z9_0 =>
      intro a' w' hE hK hg
      have x0 := kn (hK 13 rfl) rfl r13
      first | exact ok_add_i x0 rfl (by first | omega | (constructor <;> omega)) | exact ok_add x0 rfl
    case z9_1 =>
      intro a' w' hE hK hg
      have x0 := ksv (hK 23 rfl) rfl rfl rfl
      exact ok_move x0
    case zok9 => kernel_rfl
    case zgd9 => kernel_rfl
    intro a10 w10 hA' hE HF
    replace r0 := kn (HF 0) rfl r0
    replace r3 := kn (HF 3) rfl r3
    replace r11 := kn (HF 11) rfl r11
    replace r12 := kn (HF 12) rfl r12
    replace r13 := ksv (HF 13) rfl rfl rfl
    clear hA HF
    have hA := hA'
    clear hA'
    replace m_out := m_out.ext hE
    have hLt := hB.size
    replace hB := hB.trans hE
    clear hE hLt
    refine (li_nil (nx_then ?_))
    refine ⟨_, ?lt10, (k + 1), _, rfl, hA, hB, r0.trans q3_0.symm, r11.trans q3_11.symm, r12.trans q3_12.symm, r3, r13.trans ?v10_13, ?m10_out, ?p10_0⟩
    case v10_13 => first | rfl | (congr 1; omega)
    case m10_out => (have e_ : ((bss ss).take (k + 1)).map (fun s => av (leafD s)) = ((bss ss).take k).map (fun s => av (leafD s)) ++ [av (leafD (bs ss[k]))] := (by rw [List.take_succ_eq_append_getElem (by simpa [bss] using hi_)]; simp [bss]); rw [e_]; rw [cat_leaf] at m_out; exact m_out)
    case p10_0 => first | omega | assumption
    case lt10 => omega
  ·
    try simp only [Bool.and_eq_true, Bool.or_eq_true, Bool.and_eq_false_iff, Bool.or_eq_false_iff, Bool.not_eq_true', Bool.not_eq_false', decide_eq_true_eq, decide_eq_false_iff_not, ne_eq, Decidable.not_not, gt_iff_lt, ge_iff_le, Int.not_lt, Int.not_le, Nat.not_lt, Nat.not_le, Int.ofNat_lt, Int.ofNat_le] at hc
    refine wp_exit ?_
    refine (ex_then (ex_then (ex_same ?_)))
    refine (nx_then ?_)
    refine wp_seq ?_
    refine wp_block ?_
    have hp5 : 2 ^ lg ss.length ≤ 2 ^ 5 := Nat.pow_le_pow_right (by decide) (lg_le _); have hlg := (lg_spec ss.length hl).1
    have q11_0 := r0
    refine loop_m (fun m a w => ∃ i : Nat, ∃ vo : Value, m = 2 ^ lg ss.length - i ∧ a.fit 78 ∧ Ext w0 w ∧ a.get 0 = a4.get 0 ∧ a.get 3 = vo ∧ (OwnS w w0.heap.size 43 8 vo ((((bss ss).map leafD) ++ List.replicate i missD).map av)) ∧ (i + ss.length ≤ 2 ^ lg ss.length)) (m := 2 ^ lg ss.length - (0)) (?st12) ?_
    case st12 =>
      refine ⟨(0), _, rfl, hA, hB, r0.trans q11_0.symm, r3, ?m12_out, ?p12_0⟩
      case m12_out => (obtain rfl : k = ss.length := (by simp only [List.length_map] at *; omega); rw [List.take_of_length_le (by simp [bss])] at m_out; have e2_ : (((bss ss).map leafD) ++ List.replicate 0 missD).map av = (bss ss).map fun s => av (leafD s) := (by simp [List.map_map, Function.comp_def]); rw [e2_]; exact m_out)
      case p12_0 => omega
    intro m_ a11 w11 hI
    obtain ⟨i, vo, rfl, hA, hB, z0, r3, m_out, hi⟩ := hI
    have r0 := z0.trans q11_0
    clear z0
    have hvl : ((((bss ss).map leafD) ++ List.replicate i missD).map av).length = ss.length + i := (by simp [bss])
    refine wp_seq ?_
    refine wp_seq ?_
    refine' region [_, _, _, _, _, _, _, _, _, _, _, _] mixed hA (.cons ?z13_0 (.cons ?z13_1 (.cons ?z13_2 (.cons ?z13_3 (.cons ?z13_4 (.cons ?z13_5 (.cons ?z13_6 (.cons ?z13_7 (.cons ?z13_8 (.cons ?z13_9 (.cons ?z13_10 (.cons ?z13_11 .nil)))))))))))) ?zok13 ?zgd13 ?zk13
    case z13_0 =>
      intro a' w' hE hK hg
      have x0 := kn (hK 3 rfl) rfl r3
      exact ok_move x0
    case z13_1 =>
      intro a' w' hE hK hg
      have x0 := ksv (hK 24 rfl) rfl rfl rfl
      exact ok_lenV ty49 x0 (m_out.ext hE).slv
    case z13_2 =>
      intro a' w' hE hK hg
      have x0 := ksv (hK 25 rfl) rfl rfl rfl
      exact ok_eqlI x0 rfl
    case z13_3 =>
      intro a' w' hE hK hg
      have x0 := ksv (hK 26 rfl) rfl rfl rfl
      exact ok_move x0
    case z13_4 =>
      intro a' w' hE hK hg
      have x0 := kn (hK 3 rfl) rfl r3
      exact ok_move x0
    case z13_5 =>
      intro a' w' hE hK hg
      have x0 := ksv (hK 28 rfl) rfl rfl hg
      exact ok_lenV ty49 x0 (m_out.ext hE).slv
    case z13_6 =>
      intro a' w' hE hK hg
      have x0 := kn (hK 3 rfl) rfl r3
      exact ok_move x0
    case z13_7 =>
      intro a' w' hE hK hg
      have x0 := ksv (hK 30 rfl) rfl rfl hg
      exact ok_lenV ty49 x0 (m_out.ext hE).slv
    case z13_8 =>
      intro a' w' hE hK hg
      have x0 := ksv (hK 31 rfl) rfl rfl hg
      have hgc := agv rfl hg rfl; revert hgc; intro hgc
      first | exact ok_sub_i x0 rfl (by first | omega | (constructor <;> omega)) | exact ok_sub x0 rfl
    case z13_9 =>
      intro a' w' hE hK hg
      have x0 := ksv (hK 29 rfl) rfl rfl hg
      have x1 := ksv (hK 32 rfl) rfl rfl hg
      have hgc := agv rfl hg rfl; revert hgc; intro hgc
      exact ok_and_i (m' := ss.length + i) (n' := ss.length + i - 1) x0 x1 (by (try simp only [Bool.and_eq_true, Bool.or_eq_true, Bool.and_eq_false_iff, Bool.or_eq_false_iff, Bool.not_eq_true', Bool.not_eq_false', decide_eq_true_eq, decide_eq_false_iff_not, ne_eq, Decidable.not_not, gt_iff_lt, ge_iff_le, Int.not_lt, Int.not_le, Nat.not_lt, Nat.not_le, Int.ofNat_lt, Int.ofNat_le] at hgc); (first | obtain ⟨⟨⟨⟨_, _⟩, _⟩, _⟩, _⟩ := hgc | obtain ⟨⟨⟨_, _⟩, _⟩, _⟩ := hgc | obtain ⟨⟨_, _⟩, _⟩ := hgc | obtain ⟨_, _⟩ := hgc | skip); (omega)) (by (try simp only [Bool.and_eq_true, Bool.or_eq_true, Bool.and_eq_false_iff, Bool.or_eq_false_iff, Bool.not_eq_true', Bool.not_eq_false', decide_eq_true_eq, decide_eq_false_iff_not, ne_eq, Decidable.not_not, gt_iff_lt, ge_iff_le, Int.not_lt, Int.not_le, Nat.not_lt, Nat.not_le, Int.ofNat_lt, Int.ofNat_le] at hgc); (first | obtain ⟨⟨⟨⟨_, _⟩, _⟩, _⟩, _⟩ := hgc | obtain ⟨⟨⟨_, _⟩, _⟩, _⟩ := hgc | obtain ⟨⟨_, _⟩, _⟩ := hgc | obtain ⟨_, _⟩ := hgc | skip); (omega)) (by (try simp only [Bool.and_eq_true, Bool.or_eq_true, Bool.and_eq_false_iff, Bool.or_eq_false_iff, Bool.not_eq_true', Bool.not_eq_false', decide_eq_true_eq, decide_eq_false_iff_not, ne_eq, Decidable.not_not, gt_iff_lt, ge_iff_le, Int.not_lt, Int.not_le, Nat.not_lt, Nat.not_le, Int.ofNat_lt, Int.ofNat_le] at hgc); (first | obtain ⟨⟨⟨⟨_, _⟩, _⟩, _⟩, _⟩ := hgc | obtain ⟨⟨⟨_, _⟩, _⟩, _⟩ := hgc | obtain ⟨⟨_, _⟩, _⟩ := hgc | obtain ⟨_, _⟩ := hgc | skip); (omega)) (by (try simp only [Bool.and_eq_true, Bool.or_eq_true, Bool.and_eq_false_iff, Bool.or_eq_false_iff, Bool.not_eq_true', Bool.not_eq_false', decide_eq_true_eq, decide_eq_false_iff_not, ne_eq, Decidable.not_not, gt_iff_lt, ge_iff_le, Int.not_lt, Int.not_le, Nat.not_lt, Nat.not_le, Int.ofNat_lt, Int.ofNat_le] at hgc); (first | obtain ⟨⟨⟨⟨_, _⟩, _⟩, _⟩, _⟩ := hgc | obtain ⟨⟨⟨_, _⟩, _⟩, _⟩ := hgc | obtain ⟨⟨_, _⟩, _⟩ := hgc | obtain ⟨_, _⟩ := hgc | skip); (omega))
    case z13_10 =>
      intro a' w' hE hK hg
      have x0 := ksv (hK 33 rfl) rfl rfl hg
      exact ok_neqI x0 rfl
    case z13_11 =>
      intro a' w' hE hK hg
      have x0 := ksv (hK 27 rfl) rfl rfl rfl
      exact ok_or x0 (fun hb => ksv (hK 34 rfl) rfl rfl (act_g1 rfl rfl hb))
    case zok13 => kernel_rfl
    case zgd13 => kernel_rfl
    intro a12 w12 hA' hE HF
    replace r0 := kn (HF 0) rfl r0
    replace r3 := kn (HF 3) rfl r3
    have r35 := ksv (HF 35) rfl rfl rfl
    clear hA HF
    have hA := hA'
    clear hA'
    replace m_out := m_out.ext hE
    have hLt := hB.size
    replace hB := hB.trans hE
    clear hE hLt
    refine (li_nil (nx_then ?_))
    refine wp_cond_b r35 (fun hc => ?_) (fun hc => ?_)
    ·
      try simp only [Bool.and_eq_true, Bool.or_eq_true, Bool.and_eq_false_iff, Bool.or_eq_false_iff, Bool.not_eq_true', Bool.not_eq_false', decide_eq_true_eq, decide_eq_false_iff_not, ne_eq, Decidable.not_not, gt_iff_lt, ge_iff_le, Int.not_lt, Int.not_le, Nat.not_lt, Nat.not_le, Int.ofNat_lt, Int.ofNat_le] at hc
      refine wp_skip ?_
      refine (nx_then ?_)
      refine wp_block ?_
      refine' region [_, _, _, _] mixed hA (.cons ?z15_0 (.cons ?z15_1 (.cons ?z15_2 (.cons ?z15_3 .nil)))) ?zok15 ?zgd15 ?zk15
      case z15_0 =>
        intro a' w' hE hK hg
        have x0 := kn (hK 3 rfl) rfl r3
        exact ok_move x0
      case z15_1 =>
        intro a' w' hE hK hg
        exact ok_buildSlice (E := 0) (B := w12.heap.size) ty29 ty9 hE.size (parts_of (parts_cons rfl parts_nil)) (by first | (simp [Value.cells]; done) | (simp [Value.cells, bv, Dig.D_length]; done)) rfl (by omega)
      case z15_2 =>
        intro a' w' hE hK hg
        have x0 := ksp (hK 37 rfl) rfl rfl rfl
        exact ok_call1 fn30 rfl (dOf _ _ _ (.cons _ .nil) _ x0.slv (by first | (simp; done) | (simp only [List.mem_cons, List.not_mem_nil, or_false, forall_eq_or_imp, forall_eq, str_size, size1, size0, List.length_cons, List.length_nil] at *; omega) | omega) (by first | (simp; done) | (simp only [List.mem_cons, List.not_mem_nil, or_false, forall_eq_or_imp, forall_eq, str_size, size1, size0, List.length_cons, List.length_nil] at *; omega) | omega))
      case z15_3 =>
        intro a' w' hE hK hg
        have x0 := ksv (hK 38 rfl) rfl rfl rfl
        exact ok_buildSlice (E := 7) (B := w12.heap.size) ty49 ty43 hE.size (parts_of (parts_cons x0 parts_nil)) (by first | (simp [Value.cells]; done) | (simp [Value.cells, bv, Dig.D_length]; done)) rfl (by omega)
      case zok15 => kernel_rfl
      case zgd15 => kernel_rfl
      intro a13 w13 hA' hE HF
      replace r0 := kn (HF 0) rfl r0
      replace r3 := kn (HF 3) rfl r3
      have r36 := ksv (HF 36) rfl rfl rfl
      have x39 := ksp (HF 39) rfl rfl rfl
      clear hA HF
      have hA := hA'
      clear hA'
      replace m_out := m_out.ext hE
      have hLt := hB.size
      replace hB := hB.trans hE
      have m_t39 := x39; clear x39
      obtain ⟨v39, r39⟩ : ∃ v, a13.get 39 = v := ⟨_, rfl⟩
      rw [r39] at m_t39
      clear hE hLt
      refine t_append (E := 7) ty49 ty43 rfl r36 m_out r39 m_t39.slv (by exact flat_av1 _ (D_length _)) (by simp only [List.length_map, List.length_append, List.length_replicate, List.length_cons, List.length_nil, List.length_take] at *; omega) (by simp only [List.length_map, List.length_append, List.length_replicate, List.length_cons, List.length_nil, List.length_take] at *; omega) hB.size fun v40_w14 w14 m_ hE => ?_
      replace hB := ext_appd hB hE (m_out.block_ge)
      replace m_out := m_; clear m_ hE
      refine put_cont hA (by decide) fun a15 hA' hv_ hfr => ?_
      clear hA; have hA := hA'; clear hA'
      replace r0 := (hfr 0 rfl).trans r0
      replace r3 := (hfr 3 rfl).trans r3
      have r40 := hv_
      clear hfr hv_
      clear m_t39
      refine t_assign r40 ?_
      refine put_cont hA (by decide) fun a16 hA' hv_ hfr => ?_
      clear hA; have hA := hA'; clear hA'
      replace r0 := (hfr 0 rfl).trans r0
      have r3 := hv_
      clear hfr hv_
      refine (li_nil (nx_blk (nx_then ?_)))
      have hgo : ss.length + i < 2 ^ lg ss.length := pow2_go hl (by omega) (by rw [hvl] at hc; rcases hc with hc | hc; exact .inl (by omega); exact .inr (by omega))
      refine ⟨_, ?lt16, (i + 1), _, rfl, hA, hB, r0.trans q11_0.symm, r3, ?m16_out, ?p16_0⟩
      case m16_out => (rw [List.replicate_succ', ← List.append_assoc, List.map_append]; rw [cat_miss] at m_out; exact m_out)
      case p16_0 => omega
      case lt16 => omega
    ·
      try simp only [Bool.and_eq_true, Bool.or_eq_true, Bool.and_eq_false_iff, Bool.or_eq_false_iff, Bool.not_eq_true', Bool.not_eq_false', decide_eq_true_eq, decide_eq_false_iff_not, ne_eq, Decidable.not_not, gt_iff_lt, ge_iff_le, Int.not_lt, Int.not_le, Nat.not_lt, Nat.not_le, Int.ofNat_lt, Int.ofNat_le] at hc
      refine wp_exit ?_
      refine (ex_then (ex_then (ex_same ?_)))
      refine (nx_then ?_)
      refine wp_block ?_
      have hstop : ss.length + i = 2 ^ lg ss.length := pow2_stop hl (by omega) (by omega) (by rw [hvl] at hc; omega) (by rw [hvl] at hc; omega)
      have hbase : ((bss ss).map leafD) ++ List.replicate i missD = base (bss ss) := (by unfold base; congr 2; simp [bss]; omega)
      have hbl : (base (bss ss)).length = 2 ^ lg ss.length := (by rw [base_length _ (by simpa [bss] using hl)]; simp [bss])
      have hp1 : 1 ≤ 2 ^ lg ss.length := Nat.one_le_two_pow
      have q17_0 := r0
      refine loop_m (fun m a w => ∃ w0 : World, ∃ c : Value, ∃ l : List Bytes, ∃ vo : Value, m = l.length ∧ a.fit 78 ∧ Ext w0 w ∧ a.get 0 = a12.get 0 ∧ a.get 3 = vo ∧ (OwnS w B0 43 8 vo (l.map av)) ∧ (J c w0) ∧ (B0 ≤ w0.heap.size) ∧ (rt l = rootD (bss ss)) ∧ (∀ d ∈ l, d.length = 8) ∧ (l.length ≤ 32) ∧ (1 ≤ l.length)) (m := (base (bss ss)).length) (?st18) ?_
      case st18 =>
        refine ⟨(w0), (c0), (base (bss ss)), _, rfl, hA, hB, r0.trans q17_0.symm, r3, ?m18_out, ?p18_0, ?p18_1, ?p18_2, ?p18_3, ?p18_4, ?p18_5⟩
        case m18_out => (rw [hbase] at m_out; exact m_out.mono (Nat.le_of_eq hB0))
        case p18_0 => exact hJ0
        case p18_1 => exact Nat.le_of_eq hB0
        case p18_2 => rfl
        case p18_3 => exact base_len8 _
        case p18_4 => (rw [hbl]; omega)
        case p18_5 => (rw [hbl]; omega)
      intro m_ a17 w17 hI
      obtain ⟨w0, c, l, vo, rfl, hA, hB, z0, r3, m_out, hJ, hB0le, hr, h8, hll, hpos⟩ := hI
      have r0 := z0.trans q17_0
      clear z0
      have hlm : (l.map av).length = l.length := List.length_map _
      refine wp_seq ?_
      refine wp_seq ?_
      obtain ⟨d, r, hdr⟩ : ∃ d r, l = d :: r := (by cases l with | nil => simp at hpos | cons d r => exact ⟨d, r, rfl⟩)
      have hJw := hJs c w0 w17 hJ (hB.below hB0le)
      have hy := hY c w17 vo d r hJw (by rw [← hdr]; exact m_out.slv)
      obtain ⟨p_, cap_, hvo_, _⟩ := m_out.slv
      rw [hvo_] at hy
      have hsz_ := hB.size
      refine yield_region (D := []) hA (by decide) ty49 (by decide) r0 (r3.trans hvo_) hy fun a18 w1_ hA hR r48 hfr => ?_
      obtain ⟨hJ, hkeep⟩ := hR
      replace m_out := ownS_keep m_out hkeep (Nat.le_refl _)
      have hB0le : B0 ≤ w1_.heap.size := (by rw [hkeep.size]; omega)
      have hB : Ext w1_ w1_ := Ext.refl _
      revert m_out hJ hB0le hB
      generalize w1_ = w0
      intro hJ m_out hB0le hB
      replace r0 := (hfr 0 (by decide) (by decide) (by decide) (by decide) (by decide) (by decide) (by decide) (by decide)).trans r0
      replace r3 := (hfr 3 (by decide) (by decide) (by decide) (by decide) (by decide) (by decide) (by decide) (by decide)).trans r3
      clear hfr
      refine (nx_then ?_)
      refine wp_cond_b r48 (fun hc => ?_) (fun hc => ?_)
      ·
        try simp only [Bool.and_eq_true, Bool.or_eq_true, Bool.and_eq_false_iff, Bool.or_eq_false_iff, Bool.not_eq_true', Bool.not_eq_false', decide_eq_true_eq, decide_eq_false_iff_not, ne_eq, Decidable.not_not, gt_iff_lt, ge_iff_le, Int.not_lt, Int.not_le, Nat.not_lt, Nat.not_le, Int.ofNat_lt, Int.ofNat_le] at hc
        refine wp_skip ?_
        refine (nx_then ?_)
        refine wp_block ?_
        refine wp_seq ?_
        have hgt : 1 < l.length := (by simp only [List.length_map] at hc; omega)
        have hblk := m_out.block_lt
        have hszw : w0.heap.size ≤ w0.heap.size := Nat.le_refl _
        refine' region [_, _, _, _, _] mixed hA (.cons ?z20_0 (.cons ?z20_1 (.cons ?z20_2 (.cons ?z20_3 (.cons ?z20_4 .nil))))) ?zok20 ?zgd20 ?zk20
        case z20_0 =>
          intro a' w' hE hK hg
          have x0 := kn (hK 3 rfl) rfl r3
          exact ok_move x0
        case z20_1 =>
          intro a' w' hE hK hg
          have x0 := ksv (hK 49 rfl) rfl rfl rfl
          exact ok_lenV ty49 x0 (m_out.ext hE).slv
        case z20_2 =>
          intro a' w' hE hK hg
          have x0 := ksv (hK 50 rfl) rfl rfl rfl
          first | exact ok_quo_n x0 rfl (by omega) (by omega) (by omega) | exact ok_quo x0 rfl (by omega)
        case z20_3 =>
          intro a' w' hE hK hg
          have x0 := ksv (hK 51 rfl) rfl rfl rfl
          have x1 := ksv (hK 51 rfl) rfl rfl rfl
          exact ok_makeN (E := 7) (n := l.length / 2) (B := w0.heap.size) ty49 ty43 rfl hE.size x0 x1 (by simp) (by simp only [List.length_map, List.length_append, List.length_replicate, List.length_cons, List.length_nil, List.length_take] at *; omega) (by simp only [List.length_map, List.length_append, List.length_replicate, List.length_cons, List.length_nil, List.length_take] at *; omega)
        case z20_4 =>
          intro a' w' hE hK hg
          have x0 := ksp (hK 52 rfl) rfl rfl rfl
          exact ok_assign_own x0
        case zok20 => kernel_rfl
        case zgd20 => kernel_rfl
        intro a19 w19 hA' hE HF
        replace r0 := kn (HF 0) rfl r0
        replace r3 := kn (HF 3) rfl r3
        have x6 := ksp (HF 6) rfl rfl rfl
        clear hA HF
        have hA := hA'
        clear hA'
        replace m_out := m_out.ext hE
        have hLt := hB.size
        replace hB := hB.trans hE
        have m_t6 := x6; clear x6
        obtain ⟨v6, r6⟩ : ∃ v, a19.get 6 = v := ⟨_, rfl⟩
        rw [r6] at m_t6
        clear hE hLt
        have hap : Apart v6 vo := fun g hg hv => (by have := hblk g hv; have := m_t6.block_ge g hg; omega)
        refine (li_nil (nx_then ?_))
        refine wp_seq ?_
        refine wp_seq ?_
        refine' region [_, _, _] mixed hA (.cons ?z21_0 (.cons ?z21_1 (.cons ?z21_2 .nil))) ?zok21 ?zgd21 ?zk21
        case z21_0 =>
          intro a' w' hE hK hg
          have x0 := kn (hK 6 rfl) rfl r6
          exact ok_move x0
        case z21_1 =>
          intro a' w' hE hK hg
          have x0 := ksv (hK 53 rfl) rfl rfl rfl
          exact ok_lenV ty49 x0 (m_t6.ext hE).slv
        case z21_2 =>
          intro a' w' hE hK hg
          exact ok_move rfl
        case zok21 => kernel_rfl
        case zgd21 => kernel_rfl
        intro a20 w20 hA' hE HF
        replace r0 := kn (HF 0) rfl r0
        replace r3 := kn (HF 3) rfl r3
        replace r6 := kn (HF 6) rfl r6
        have r54 := ksv (HF 54) rfl rfl rfl
        have r55 := ksv (HF 55) rfl rfl rfl
        clear hA HF
        have hA := hA'
        clear hA'
        replace m_out := m_out.ext hE
        replace m_t6 := m_t6.ext hE
        have hLt := hB.size
        replace hB := hB.trans hE
        clear hE hLt
        refine (li_nil (nx_then ?_))
        refine wp_block ?_
        have q22_0 := r0
        have q22_3 := r3
        have q22_6 := r6
        have q22_54 := r54
        refine loop_m (fun m a w => ∃ k : Nat, m = l.length / 2 - k ∧ a.fit 78 ∧ Ext w0 w ∧ a.get 0 = a20.get 0 ∧ a.get 3 = a20.get 3 ∧ a.get 6 = a20.get 6 ∧ a.get 54 = a20.get 54 ∧ a.get 55 = .int .i64 (k : Int) ∧ (OwnS w B0 43 8 vo (l.map av)) ∧ (OwnS w w0.heap.size 43 8 v6 (mix l k)) ∧ (k ≤ l.length / 2)) (m := l.length / 2 - (0)) (?st23) ?_
        case st23 =>
          refine ⟨(0), rfl, hA, hB, r0.trans q22_0.symm, r3.trans q22_3.symm, r6.trans q22_6.symm, r54.trans q22_54.symm, r55.trans ?v23_55, ?m23_out, ?m23_t6, ?p23_0⟩
          case v23_55 => first | rfl | (congr 1; omega)
          case m23_out => exact m_out
          case m23_t6 => (rw [mix_zero]; exact m_t6.mono hszw)
          case p23_0 => first | omega | assumption
        intro m_ a21 w21 hI
        obtain ⟨k, rfl, hA, hB, z0, z3, z6, z54, r55, m_out, m_t6, hk⟩ := hI
        have r0 := z0.trans q22_0
        have r3 := z3.trans q22_3
        have r6 := z6.trans q22_6
        have r54 := z54.trans q22_54
        clear z0 z3 z6 z54
        refine wp_seq ?_
        refine' region [_] mixed hA (.cons ?z24_0 .nil) ?zok24 ?zgd24 ?zk24
        case z24_0 =>
          intro a' w' hE hK hg
          have x0 := kn (hK 55 rfl) rfl r55
          have x1 := kn (hK 54 rfl) rfl r54
          exact ok_lss x0 x1
        case zok24 => kernel_rfl
        case zgd24 => kernel_rfl
        intro a22 w22 hA' hE HF
        replace r0 := kn (HF 0) rfl r0
        replace r3 := kn (HF 3) rfl r3
        replace r6 := kn (HF 6) rfl r6
        replace r54 := kn (HF 54) rfl r54
        replace r55 := kn (HF 55) rfl r55
        have r56 := ksv (HF 56) rfl rfl rfl
        clear hA HF
        have hA := hA'
        clear hA'
        replace m_out := m_out.ext hE
        replace m_t6 := m_t6.ext hE
        have hLt := hB.size
        replace hB := hB.trans hE
        clear hE hLt
        refine (li_nil (nx_then ?_))
        refine wp_seq ?_
        refine wp_cond_b r56 (fun hc => ?_) (fun hc => ?_)
        ·
          try simp only [Bool.and_eq_true, Bool.or_eq_true, Bool.and_eq_false_iff, Bool.or_eq_false_iff, Bool.not_eq_true', Bool.not_eq_false', decide_eq_true_eq, decide_eq_false_iff_not, ne_eq, Decidable.not_not, gt_iff_lt, ge_iff_le, Int.not_lt, Int.not_le, Nat.not_lt, Nat.not_le, Int.ofNat_lt, Int.ofNat_le] at hc
          have hi_ : k < l.length / 2 := (by simp only [List.length_replicate] at hc; omega); have hx_ : 2 * k < l.length := (by omega); have hx1_ : 2 * k + 1 < l.length := (by omega); have h8a := h8 (l[2 * k]'hx_) (List.getElem_mem _); have h8b := h8 (l[2 * k + 1]'hx1_) (List.getElem_mem _); have hsa : (⟨(l[2 * k]'hx_).toArray⟩ : ByteArray).size = 8 := (str_size _).trans h8a; have hsb : (⟨(l[2 * k + 1]'hx1_).toArray⟩ : ByteArray).size = 8 := (str_size _).trans h8b
          refine wp_skip ?_
          refine (nx_then ?_)
          refine wp_seq ?_
          refine wp_block ?_
          refine wp_seq ?_
          refine' region [_, _] mixed hA (.cons ?z26_0 (.cons ?z26_1 .nil)) ?zok26 ?zgd26 ?zk26
          case z26_0 =>
            intro a' w' hE hK hg
            have x0 := kn (hK 55 rfl) rfl r55
            exact ok_move x0
          case z26_1 =>
            intro a' w' hE hK hg
            have x0 := ksv (hK 57 rfl) rfl rfl rfl
            exact ok_assign x0
          case zok26 => kernel_rfl
          case zgd26 => kernel_rfl
          intro a23 w23 hA' hE HF
          replace r0 := kn (HF 0) rfl r0
          replace r3 := kn (HF 3) rfl r3
          replace r6 := kn (HF 6) rfl r6
          have r7 := ksv (HF 7) rfl rfl rfl
          replace r54 := kn (HF 54) rfl r54
          replace r55 := kn (HF 55) rfl r55
          clear hA HF
          have hA := hA'
          clear hA'
          replace m_out := m_out.ext hE
          replace m_t6 := m_t6.ext hE
          have hLt := hB.size
          replace hB := hB.trans hE
          clear hE hLt
          refine (li_nil (nx_then ?_))
          refine' region [_, _, _, _, _, _, _, _, _, _, _, _, _, _, _, _, _, _] mixed hA (.cons ?z27_0 (.cons ?z27_1 (.cons ?z27_2 (.cons ?z27_3 (.cons ?z27_4 (.cons ?z27_5 (.cons ?z27_6 (.cons ?z27_7 (.cons ?z27_8 (.cons ?z27_9 (.cons ?z27_10 (.cons ?z27_11 (.cons ?z27_12 (.cons ?z27_13 (.cons ?z27_14 (.cons ?z27_15 (.cons ?z27_16 (.cons ?z27_17 .nil)))))))))))))))))) ?zok27 ?zgd27 ?zk27
          case z27_0 =>
            intro a' w' hE hK hg
            have x0 := kn (hK 6 rfl) rfl r6
            exact ok_move x0
          case z27_1 =>
            intro a' w' hE hK hg
            have x0 := kn (hK 7 rfl) rfl r7
            exact ok_move x0
          case z27_2 =>
            intro a' w' hE hK hg
            have x0 := kn (hK 3 rfl) rfl r3
            exact ok_move x0
          case z27_3 =>
            intro a' w' hE hK hg
            have x0 := kn (hK 7 rfl) rfl r7
            exact ok_move x0
          case z27_4 =>
            intro a' w' hE hK hg
            have x1 := ksv (hK 61 rfl) rfl rfl rfl
            first | exact ok_mul_i rfl x1 (by first | omega | (constructor <;> omega)) | exact ok_mul rfl x1
          case z27_5 =>
            intro a' w' hE hK hg
            have x0 := ksv (hK 60 rfl) rfl rfl rfl
            have x1 := ksv (hK 62 rfl) rfl rfl rfl
            exact ok_indexV ty49 ty43 x0 (m_out.ext hE).slv x1 (by simp only [List.length_map, List.length_append, List.length_replicate, List.length_cons, List.length_nil, List.length_take] at *; omega) (by exact get_av (l := l) (i := 2 * k) (by omega) hx_)
          case z27_6 =>
            intro a' w' hE hK hg
            have x0 := ksp (hK 63 rfl) rfl rfl rfl
            exact ok_sliceArrPt ty43 ty5 rfl x0 (by simp only [bv, List.size_toArray, List.length_map, h8a]) (by intro v hv; exact bv_scalar v (by simpa using hv))
          case z27_7 =>
            intro a' w' hE hK hg
            have x0 := ksp (hK 64 rfl) rfl rfl rfl
            exact ok_bytesToStr (l := l[2 * k]'hx_) ty40 ty5 ty9 rfl (slv_cast (ys := bv (l[2 * k]'hx_)) rfl x0)
          case z27_8 =>
            intro a' w' hE hK hg
            have x0 := kn (hK 3 rfl) rfl r3
            exact ok_move x0
          case z27_9 =>
            intro a' w' hE hK hg
            have x0 := kn (hK 7 rfl) rfl r7
            exact ok_move x0
          case z27_10 =>
            intro a' w' hE hK hg
            have x1 := ksv (hK 67 rfl) rfl rfl rfl
            first | exact ok_mul_i rfl x1 (by first | omega | (constructor <;> omega)) | exact ok_mul rfl x1
          case z27_11 =>
            intro a' w' hE hK hg
            have x0 := ksv (hK 68 rfl) rfl rfl rfl
            first | exact ok_add_i x0 rfl (by first | omega | (constructor <;> omega)) | exact ok_add x0 rfl
          case z27_12 =>
            intro a' w' hE hK hg
            have x0 := ksv (hK 66 rfl) rfl rfl rfl
            have x1 := ksv (hK 69 rfl) rfl rfl rfl
            exact ok_indexV ty49 ty43 x0 (m_out.ext hE).slv x1 (by simp only [List.length_map, List.length_append, List.length_replicate, List.length_cons, List.length_nil, List.length_take] at *; omega) (by exact get_av (l := l) (i := 2 * k + 1) (by omega) hx1_)
          case z27_13 =>
            intro a' w' hE hK hg
            have x0 := ksp (hK 70 rfl) rfl rfl rfl
            exact ok_sliceArrPt ty43 ty5 rfl x0 (by simp only [bv, List.size_toArray, List.length_map, h8b]) (by intro v hv; exact bv_scalar v (by simpa using hv))
          case z27_14 =>
            intro a' w' hE hK hg
            have x0 := ksp (hK 71 rfl) rfl rfl rfl
            exact ok_bytesToStr (l := l[2 * k + 1]'hx1_) ty40 ty5 ty9 rfl (slv_cast (ys := bv (l[2 * k + 1]'hx1_)) rfl x0)
          case z27_15 =>
            intro a' w' hE hK hg
            have x1 := ksv (hK 65 rfl) rfl rfl rfl
            have x2 := ksv (hK 72 rfl) rfl rfl rfl
            exact ok_buildSlice (E := 0) (B := w23.heap.size) ty29 ty9 hE.size (parts_of (parts_cons rfl (parts_cons x1 (parts_cons x2 parts_nil)))) (by first | (simp [Value.cells]; done) | (simp [Value.cells, bv, Dig.D_length]; done)) rfl (by omega)
          case z27_16 =>
            intro a' w' hE hK hg
            have x0 := ksp (hK 73 rfl) rfl rfl rfl
            exact ok_call1 fn30 rfl (dOf _ _ _ (.cons _ (.cons _ (.cons _ .nil))) _ x0.slv (by simp only [List.mem_cons, List.not_mem_nil, or_false, forall_eq_or_imp, forall_eq, str_size, size1, size0, List.length_cons, List.length_nil, hsa, hsb]; omega) (by simp only [List.mem_cons, List.not_mem_nil, or_false, forall_eq_or_imp, forall_eq, str_size, size1, size0, List.length_cons, List.length_nil, hsa, hsb]; omega))
          case z27_17 =>
            intro a' w' hE hK hg
            have x0 := ksv (hK 58 rfl) rfl rfl rfl
            have x1 := ksv (hK 59 rfl) rfl rfl rfl
            exact ok_indexElt (n := k) ty49 ty43 x0 (m_t6.ext hE) x1 (by first | rfl | omega | (rw [mix_len l k hk]; omega)) (by first | rfl | omega | (rw [mix_len l k hk]; omega))
          case zok27 => kernel_rfl
          case zgd27 => kernel_rfl
          intro a24 w24 hA' hE HF
          replace r0 := kn (HF 0) rfl r0
          replace r3 := kn (HF 3) rfl r3
          replace r6 := kn (HF 6) rfl r6
          replace r54 := kn (HF 54) rfl r54
          replace r55 := kn (HF 55) rfl r55
          have r74 := ksv (HF 74) rfl rfl rfl
          have x75 := ksp (HF 75) rfl rfl rfl
          clear hA HF
          have hA := hA'
          clear hA'
          replace m_out := m_out.ext hE
          replace m_t6 := m_t6.ext hE
          have hLt := hB.size
          replace hB := hB.trans hE
          have m_t75 := x75; clear x75
          obtain ⟨v75, r75⟩ : ∃ v, a24.get 75 = v := ⟨_, rfl⟩
          rw [r75] at m_t75
          clear hE hLt
          refine t_storeElt (n := k) ty43 r75 m_t75 m_t6 r74 (by exact av_cells _ (D_length _)) (by exact av_one _) (by rw [mix_len l k hk]; omega) fun w25 m_ hE => ?_
          replace m_out := ownS_appd m_out hE hap
          replace hB := ext_appd hB hE (m_t6.block_ge)
          replace m_t6 := m_; clear m_ hE
          refine (li_nil (nx_blk (nx_then ?_)))
          refine' region [_, _] mixed hA (.cons ?z28_0 (.cons ?z28_1 .nil)) ?zok28 ?zgd28 ?zk28
          case z28_0 =>
            intro a' w' hE hK hg
            have x0 := kn (hK 55 rfl) rfl r55
            first | exact ok_add_i x0 rfl (by first | omega | (constructor <;> omega)) | exact ok_add x0 rfl
          case z28_1 =>
            intro a' w' hE hK hg
            have x0 := ksv (hK 76 rfl) rfl rfl rfl
            exact ok_move x0
          case zok28 => kernel_rfl
          case zgd28 => kernel_rfl
          intro a26 w26 hA' hE HF
          replace r0 := kn (HF 0) rfl r0
          replace r3 := kn (HF 3) rfl r3
          replace r6 := kn (HF 6) rfl r6
          replace r54 := kn (HF 54) rfl r54
          replace r55 := ksv (HF 55) rfl rfl rfl
          clear hA HF
          have hA := hA'
          clear hA'
          replace m_out := m_out.ext hE
          replace m_t6 := m_t6.ext hE
          have hLt := hB.size
          replace hB := hB.trans hE
          clear hE hLt
          refine (li_nil (nx_then ?_))
          refine ⟨_, ?lt29, (k + 1), rfl, hA, hB, r0.trans q22_0.symm, r3.trans q22_3.symm, r6.trans q22_6.symm, r54.trans q22_54.symm, r55.trans ?v29_55, ?m29_out, ?m29_t6, ?p29_0⟩
          case v29_55 => first | rfl | (congr 1; omega)
          case m29_out => exact m_out
          case m29_t6 => (rw [← mix_set l k (by omega)]; rw [cat_inner] at m_t6; exact m_t6)
          case p29_0 => first | omega | assumption
          case lt29 => omega
        ·
          try simp only [Bool.and_eq_true, Bool.or_eq_true, Bool.and_eq_false_iff, Bool.or_eq_false_iff, Bool.not_eq_true', Bool.not_eq_false', decide_eq_true_eq, decide_eq_false_iff_not, ne_eq, Decidable.not_not, gt_iff_lt, ge_iff_le, Int.not_lt, Int.not_le, Nat.not_lt, Nat.not_le, Int.ofNat_lt, Int.ofNat_le] at hc
          refine wp_exit ?_
          refine (ex_then (ex_then (ex_same ?_)))
          refine (nx_then ?_)
          refine' region [_, _] mixed hA (.cons ?z30_0 (.cons ?z30_1 .nil)) ?zok30 ?zgd30 ?zk30
          case z30_0 =>
            intro a' w' hE hK hg
            have x0 := kn (hK 6 rfl) rfl r6
            exact ok_move x0
          case z30_1 =>
            intro a' w' hE hK hg
            have x0 := ksv (hK 77 rfl) rfl rfl rfl
            exact ok_assign x0
          case zok30 => kernel_rfl
          case zgd30 => kernel_rfl
          intro a27 w27 hA' hE HF
          replace r0 := kn (HF 0) rfl r0
          replace r3 := ksv (HF 3) rfl rfl rfl
          clear hA HF
          have hA := hA'
          clear hA'
          replace m_out := m_out.ext hE
          replace m_t6 := m_t6.ext hE
          have hLt := hB.size
          replace hB := hB.trans hE
          clear hE hLt
          refine (li_nil (nx_blk (nx_then ?_)))
          obtain rfl : k = l.length / 2 := (by simp only [List.length_replicate] at hc; omega)
          rw [mix_all] at m_t6
          refine ⟨_, ?lt31, (w0), (av d), (up1 l), (v6), rfl, hA, hB, r0.trans q17_0.symm, r3, ?m31_out, ?p31_0, ?p31_1, ?p31_2, ?p31_3, ?p31_4, ?p31_5⟩
          case m31_out => exact m_t6.mono hB0le
          case p31_0 => exact hJ
          case p31_1 => exact hB0le
          case p31_2 => (rw [← rt_up hgt]; exact hr)
          case p31_3 => exact up1_len8 _
          case p31_4 => (rw [up1_length]; omega)
          case p31_5 => (rw [up1_length]; omega)
          case lt31 => (rw [up1_length]; omega)
      ·
        try simp only [Bool.and_eq_true, Bool.or_eq_true, Bool.and_eq_false_iff, Bool.or_eq_false_iff, Bool.not_eq_true', Bool.not_eq_false', decide_eq_true_eq, decide_eq_false_iff_not, ne_eq, Decidable.not_not, gt_iff_lt, ge_iff_le, Int.not_lt, Int.not_le, Nat.not_lt, Nat.not_le, Int.ofNat_lt, Int.ofNat_le] at hc
        refine wp_exit ?_
        refine (ex_then (ex_then (ex_same ?_)))
        exact ret0 Try.results39 hA ⟨rfl, by have h1 : l.length = 1 := (by simp only [List.length_map] at hc; omega); have e_ : rootD (bss ss) = d := (by rw [← hr, rt_one h1, hdr]; rfl); rw [e_]; exact hJ⟩
end Go.Proofs.Ytbkmnghnjajdmaa
