/- The digest package and its reference, walked by program (wip/gen). No statement stands here. -/
import Derived.Test.YtbkmnghnjajdmaaDigE
import Derived.Test.YtbkmnghnjajdmaaChg
namespace Go.Proofs.Ytbkmnghnjajdmaa
open Go Go.RowKit Go.Eng Go.Dig
set_option linter.unusedVariables false
set_option linter.unusedSimpArgs false
theorem fl23_0 : Fld Try.prog 23 0 5 0 0 := ⟨by kernel_rfl, by kernel_rfl, by kernel_rfl⟩
theorem fl23_1 : Fld Try.prog 23 1 5 1 0 := ⟨by kernel_rfl, by kernel_rfl, by kernel_rfl⟩
theorem fl23_2 : Fld Try.prog 23 2 9 2 0 := ⟨by kernel_rfl, by kernel_rfl, by kernel_rfl⟩
theorem lChange (x y : UInt8) (u s : ByteArray) (w0 : World) (hs : s.size ≤ 1099511627776) (hu : u.size ≤ 9223372036854775807) : Pure Try.prog 11 #[.agg #[.int .u8 (x.toNat : Int), .int .u8 (y.toNat : Int), .string u], .string s] w0 (SP.isv (.string (chg x y u s))).holds := by
  refine pure_of_wp Try.func11 rfl 34 Try.ntmps11 (by simp) fun a0 hA hs0 => ?_
  have r0 : a0.get 0 = .agg #[.int .u8 (x.toNat : Int), .int .u8 (y.toNat : Int), .string u] := hs0 0 _ rfl
  have r1 : a0.get 1 = .string s := hs0 1 _ rfl
  clear hs0
  have hB : Ext w0 w0 := Ext.refl _
  refine wp_seq ?_
  refine' region [_, _] mixed hA (.cons ?z1_0 (.cons ?z1_1 .nil)) ?zok1 ?zgd1 ?zk1
  case z1_0 =>
    intro a' w' hE hK hg
    have x0 := kn (hK 0 rfl) rfl r0
    exact ok_box (L := w0.heap.size) hE.size x0
  case z1_1 =>
    intro a' w' hE hK hg
    exact ok_assign rfl
  case zok1 => kernel_rfl
  case zgd1 => kernel_rfl
  intro a1 w1 hA' hE HF
  replace r1 := kn (HF 1) rfl r1
  have x2 := ksp (HF 2) rfl rfl rfl
  clear hA HF
  have hA := hA'
  clear hA'
  have hLt := hB.size
  replace hB := hB.trans hE
  obtain ⟨b2, hb2, r2, m_t2⟩ := x2
  have hb0_t2 : w0.heap.size ≤ b2 := Nat.le_trans hLt hb2
  clear hE hLt
  refine (li_nil (nx_then ?_))
  refine wp_seq ?_
  refine' region [_, _, _] mixed hA (.cons ?z2_0 (.cons ?z2_1 (.cons ?z2_2 .nil))) ?zok2 ?zgd2 ?zk2
  case z2_0 =>
    intro a' w' hE hK hg
    have x0 := kn (hK 1 rfl) rfl r1
    exact ok_move x0
  case z2_1 =>
    intro a' w' hE hK hg
    have x0 := ksv (hK 6 rfl) rfl rfl rfl
    exact ok_strToBytes (B := w1.heap.size) ty9 ty40 ty5 hE.size x0
  case z2_2 =>
    intro a' w' hE hK hg
    have x0 := ksp (hK 7 rfl) rfl rfl rfl
    exact ok_assign_pr (φ := SP.bytes _ _ _) x0
  case zok2 => kernel_rfl
  case zgd2 => kernel_rfl
  intro a2 w2 hA' hE HF
  replace r2 := kn (HF 2) rfl r2
  have x5 := ksp (HF 5) rfl rfl rfl
  clear hA HF
  have hA := hA'
  clear hA'
  have hl_t2 := m_t2.lt
  replace m_t2 := m_t2.ext hE
  have hLt := hB.size
  replace hB := hB.trans hE
  obtain ⟨b5, c5, hb5, r5, m_t5⟩ := x5
  have hb0_t5 : w0.heap.size ≤ b5 := Nat.le_trans hLt hb5
  have hne_t2_t5 : b2 ≠ b5 := by omega
  clear hE hLt
  refine (li_nil (nx_then ?_))
  have q3_2 := r2
  have q3_5 := r5
  refine seq_join (fun a w => a.fit 34 ∧ Ext w0 w ∧ a.get 2 = a2.get 2 ∧ a.get 5 = a2.get 5 ∧ (Own w b2 (Value.agg #[.int .u8 (x.toNat : Int), .int .u8 (y.toNat : Int), .string u]).cells 23) ∧ (BytesRow w 5 b5 c5 (bump x y (bs s)))) ?_ ?_
  ·
    refine wp_seq ?_
    have hlen : s.data.toList.length = s.size := bs_length s
    refine' region [_, _, _] mixed hA (.cons ?z4_0 (.cons ?z4_1 (.cons ?z4_2 .nil))) ?zok4 ?zgd4 ?zk4
    case z4_0 =>
      intro a' w' hE hK hg
      have x0 := kn (hK 5 rfl) rfl r5
      exact ok_move x0
    case z4_1 =>
      intro a' w' hE hK hg
      have x0 := ksv (hK 8 rfl) rfl rfl rfl
      exact ok_lenSl ty40 x0
    case z4_2 =>
      intro a' w' hE hK hg
      have x0 := ksv (hK 9 rfl) rfl rfl rfl
      exact ok_gtr x0 rfl
    case zok4 => kernel_rfl
    case zgd4 => kernel_rfl
    intro a3 w3 hA' hE HF
    replace r2 := kn (HF 2) rfl r2
    replace r5 := kn (HF 5) rfl r5
    have r10 := ksv (HF 10) rfl rfl rfl
    clear hA HF
    have hA := hA'
    clear hA'
    replace m_t2 := m_t2.ext hE
    replace m_t5 := m_t5.ext hE
    have hLt := hB.size
    replace hB := hB.trans hE
    clear hE hLt
    refine (li_nil (nx_then ?_))
    refine wp_cond_b r10 (fun hc => ?_) (fun hc => ?_)
    ·
      try simp only [Bool.and_eq_true, Bool.or_eq_true, Bool.and_eq_false_iff, Bool.or_eq_false_iff, Bool.not_eq_true', Bool.not_eq_false', decide_eq_true_eq, decide_eq_false_iff_not, ne_eq, Decidable.not_not, gt_iff_lt, ge_iff_le, Int.not_lt, Int.not_le, Nat.not_lt, Nat.not_le, Int.ofNat_lt, Int.ofNat_le] at hc
      have hpos : 0 < s.data.toList.length := (by omega)
      have hmod : x.toNat % s.data.toList.length < s.data.toList.length := Nat.mod_lt _ hpos
      have hidx : 0 + ((x.toNat : Int) % (s.data.toList.length : Int)).toNat * 1 = x.toNat % s.data.toList.length := idx_eq _ _
      have hmi : ((x.toNat : Int) % (s.data.toList.length : Int)) < (s.data.toList.length : Int) := Int.emod_lt_of_pos _ (by omega)
      have hmn : 0 ≤ ((x.toNat : Int) % (s.data.toList.length : Int)) := Int.emod_nonneg _ (by omega)
      refine' region [_, _, _, _, _, _, _, _, _, _, _, _, _] mixed hA (.cons ?z6_0 (.cons ?z6_1 (.cons ?z6_2 (.cons ?z6_3 (.cons ?z6_4 (.cons ?z6_5 (.cons ?z6_6 (.cons ?z6_7 (.cons ?z6_8 (.cons ?z6_9 (.cons ?z6_10 (.cons ?z6_11 (.cons ?z6_12 .nil))))))))))))) ?zok6 ?zgd6 ?zk6
      case z6_0 =>
        intro a' w' hE hK hg
        have x0 := kn (hK 5 rfl) rfl r5
        exact ok_move x0
      case z6_1 =>
        intro a' w' hE hK hg
        have x0 := kn (hK 2 rfl) rfl r2
        exact ok_fieldAddr fl23_0 x0
      case z6_2 =>
        intro a' w' hE hK hg
        have x0 := ksv (hK 12 rfl) rfl rfl rfl
        exact ok_loadOwn ty5 rfl x0 (m_t2.ext hE) (by rfl)
      case z6_3 =>
        intro a' w' hE hK hg
        have x0 := ksv (hK 13 rfl) rfl rfl rfl
        first | exact ok_conv_b ty5 ty3 x0 (by simp) | exact ok_conv_id ty5 ty3 x0 (by first | rfl | (rw [IntKind.wrap_i64]; omega)) | exact ok_convI ty5 ty3 x0
      case z6_4 =>
        intro a' w' hE hK hg
        have x0 := kn (hK 5 rfl) rfl r5
        exact ok_move x0
      case z6_5 =>
        intro a' w' hE hK hg
        have x0 := ksv (hK 15 rfl) rfl rfl rfl
        exact ok_lenSl ty40 x0
      case z6_6 =>
        intro a' w' hE hK hg
        have x0 := ksv (hK 14 rfl) rfl rfl rfl
        have x1 := ksv (hK 16 rfl) rfl rfl rfl
        first | exact ok_rem_n x0 x1 (by omega) (by omega) | exact ok_rem x0 x1 (by omega)
      case z6_7 =>
        intro a' w' hE hK hg
        have x0 := ksv (hK 11 rfl) rfl rfl rfl
        have x1 := ksv (hK 17 rfl) rfl rfl rfl
        exact ok_indexSl ty40 ty5 x0 x1 (by first | omega | (simp only [str_size, ByteArray.size_append, bump_length, List.length_take, bs_length] at *; omega)) (by first | omega | (simp only [str_size, ByteArray.size_append, bump_length, List.length_take, bs_length] at *; omega))
      case z6_8 =>
        intro a' w' hE hK hg
        have x0 := ksv (hK 18 rfl) rfl rfl rfl
        exact ok_loadB ty5 rfl x0 (m_t5.ext hE) hidx hmod
      case z6_9 =>
        intro a' w' hE hK hg
        have x0 := kn (hK 2 rfl) rfl r2
        exact ok_fieldAddr fl23_1 x0
      case z6_10 =>
        intro a' w' hE hK hg
        have x0 := ksv (hK 20 rfl) rfl rfl rfl
        exact ok_loadOwn ty5 rfl x0 (m_t2.ext hE) (by rfl)
      case z6_11 =>
        intro a' w' hE hK hg
        have x0 := ksv (hK 19 rfl) rfl rfl rfl
        have x1 := ksv (hK 21 rfl) rfl rfl rfl
        exact ok_add x0 x1
      case z6_12 =>
        intro a' w' hE hK hg
        have x0 := ksv (hK 11 rfl) rfl rfl rfl
        have x1 := ksv (hK 17 rfl) rfl rfl rfl
        exact ok_indexSl ty40 ty5 x0 x1 (by first | omega | (simp only [str_size, ByteArray.size_append, bump_length, List.length_take, bs_length] at *; omega)) (by first | omega | (simp only [str_size, ByteArray.size_append, bump_length, List.length_take, bs_length] at *; omega))
      case zok6 => kernel_rfl
      case zgd6 => kernel_rfl
      intro a4 w4 hA' hE HF
      replace r2 := kn (HF 2) rfl r2
      replace r5 := kn (HF 5) rfl r5
      have r22 := ksv (HF 22) rfl rfl rfl
      have r23 := ksv (HF 23) rfl rfl rfl
      clear hA HF
      have hA := hA'
      clear hA'
      replace m_t2 := m_t2.ext hE
      replace m_t5 := m_t5.ext hE
      have hLt := hB.size
      replace hB := hB.trans hE
      clear hE hLt
      refine t_storeB (v := (bs s).getD (x.toNat % (bs s).length) 0 + y) ty5 r23 hidx r22 (wrap_add_u8 _ _) m_t5 hmod fun w5 hE m_ => ?_
      replace m_t2 := own_but m_t2 hne_t2_t5 hE
      replace m_t5 := m_; clear m_
      replace hB := ext_but hB hb0_t5 hE
      clear hE
      refine (li_nil (nx_then ?_))
      refine ⟨hA, hB, r2.trans q3_2.symm, r5.trans q3_5.symm, ?m7_t2, ?m7_t5⟩
      case m7_t2 => exact m_t2
      case m7_t5 => first | exact m_t5 | (rw [bump_nil x y (bs s) (by rw [bs_length]; omega)]; exact m_t5)
    ·
      try simp only [Bool.and_eq_true, Bool.or_eq_true, Bool.and_eq_false_iff, Bool.or_eq_false_iff, Bool.not_eq_true', Bool.not_eq_false', decide_eq_true_eq, decide_eq_false_iff_not, ne_eq, Decidable.not_not, gt_iff_lt, ge_iff_le, Int.not_lt, Int.not_le, Nat.not_lt, Nat.not_le, Int.ofNat_lt, Int.ofNat_le] at hc
      refine wp_skip ?_
      refine (nx_then ?_)
      refine ⟨hA, hB, r2.trans q3_2.symm, r5.trans q3_5.symm, ?m8_t2, ?m8_t5⟩
      case m8_t2 => exact m_t2
      case m8_t5 => first | exact m_t5 | (rw [bump_nil x y (bs s) (by rw [bs_length]; omega)]; exact m_t5)
  intro a6 w6 hI
  obtain ⟨hA, hB, z2, z5, m_t2, m_t5⟩ := hI
  have r2 := z2.trans q3_2
  have r5 := z5.trans q3_5
  clear z2 z5
  have hz1 : (⟨(bump x y (bs s)).toArray⟩ : ByteArray).size = s.size := (str_size _).trans (by rw [bump_length, bs_length])
  have hz2 : (u.extract 0 (min (u.size : Int) 4).toNat).size ≤ 4 := (by rw [show u.extract 0 (min (u.size : Int) 4).toNat = cut 4 u from extract_cut u 4]; exact cut_size _ _)
  refine wp_seq ?_
  refine' region [_, _, _, _, _, _, _, _, _, _, _] mixed hA (.cons ?z9_0 (.cons ?z9_1 (.cons ?z9_2 (.cons ?z9_3 (.cons ?z9_4 (.cons ?z9_5 (.cons ?z9_6 (.cons ?z9_7 (.cons ?z9_8 (.cons ?z9_9 (.cons ?z9_10 .nil))))))))))) ?zok9 ?zgd9 ?zk9
  case z9_0 =>
    intro a' w' hE hK hg
    have x0 := kn (hK 5 rfl) rfl r5
    exact ok_move x0
  case z9_1 =>
    intro a' w' hE hK hg
    have x0 := ksv (hK 24 rfl) rfl rfl rfl
    have x1 := (m_t5.ext hE).slv
    rw [bump_length] at x1
    exact ok_bytesToStr ty40 ty5 ty9 x0 x1
  case z9_2 =>
    intro a' w' hE hK hg
    have x0 := kn (hK 2 rfl) rfl r2
    exact ok_fieldAddr fl23_2 x0
  case z9_3 =>
    intro a' w' hE hK hg
    have x0 := ksv (hK 26 rfl) rfl rfl rfl
    exact ok_loadOwn ty9 rfl x0 (m_t2.ext hE) (by rfl)
  case z9_4 =>
    intro a' w' hE hK hg
    have x0 := kn (hK 2 rfl) rfl r2
    exact ok_fieldAddr fl23_2 x0
  case z9_5 =>
    intro a' w' hE hK hg
    have x0 := ksv (hK 28 rfl) rfl rfl rfl
    exact ok_loadOwn ty9 rfl x0 (m_t2.ext hE) (by rfl)
  case z9_6 =>
    intro a' w' hE hK hg
    have x0 := ksv (hK 29 rfl) rfl rfl rfl
    exact ok_lenS ty9 x0
  case z9_7 =>
    intro a' w' hE hK hg
    have x0 := ksv (hK 30 rfl) rfl rfl rfl
    exact ok_min x0 rfl
  case z9_8 =>
    intro a' w' hE hK hg
    have x0 := ksv (hK 27 rfl) rfl rfl rfl
    have x2 := ksv (hK 31 rfl) rfl rfl rfl
    exact ok_sliceS_h ty9 x0 x2 (by first | omega | (simp only [str_size, ByteArray.size_append, bump_length, List.length_take, bs_length] at *; omega)) (by first | omega | (simp only [str_size, ByteArray.size_append, bump_length, List.length_take, bs_length] at *; omega))
  case z9_9 =>
    intro a' w' hE hK hg
    have x0 := ksv (hK 25 rfl) rfl rfl rfl
    have x1 := ksv (hK 32 rfl) rfl rfl rfl
    exact ok_addS x0 x1 (by first | omega | (simp only [str_size, ByteArray.size_append, bump_length, List.length_take, bs_length] at *; omega))
  case z9_10 =>
    intro a' w' hE hK hg
    have x0 := ksv (hK 33 rfl) rfl rfl rfl
    exact ok_assign x0
  case zok9 => kernel_rfl
  case zgd9 => kernel_rfl
  intro a7 w7 hA' hE HF
  have r4 := ksv (HF 4) rfl rfl rfl
  clear hA HF
  have hA := hA'
  clear hA'
  replace m_t2 := m_t2.ext hE
  replace m_t5 := m_t5.ext hE
  have hLt := hB.size
  replace hB := hB.trans hE
  clear hE hLt
  clear m_t2
  clear m_t5
  refine (li_nil (nx_then ?_))
  refine (wp_ret ?_)
  refine retPure Try.results11 hA r4 hB ?_
  (show _ = _; exact congrArg _ (chg_eq x y u s))
end Go.Proofs.Ytbkmnghnjajdmaa
