/- The digest package and its reference, walked by program (wip/gen). No statement stands here. -/
import Derived.Test.YtbkmnghnjajdmaaDigC
import Derived.Test.YtbkmnghnjajdmaaRng
namespace Go.Proofs.Ytbkmnghnjajdmaa
open Go Go.RowKit Go.Eng Go.Dig
set_option linter.unusedVariables false
set_option linter.unusedSimpArgs false
theorem fn35 : FnOk Try.prog 35 := ⟨_, Try.func35, rfl, by kernel_rfl⟩
theorem fn39 : FnOk Try.prog 39 := ⟨_, Try.func39, rfl, by kernel_rfl⟩
theorem dLevels (v : Value) (xs : List Value) (B : Nat) (w0 : World) (hBB : B ≤ w0.heap.size) (h : SlV w0 1 v xs) : Pure Try.prog 35 #[v] w0 (SP.fbox B 39 v 29).holds := by
  refine pure_of_wp Try.func35 rfl 4 Try.ntmps35 (by simp) fun a0 hA hs0 => ?_
  have r0 : a0.get 0 = v := hs0 0 _ rfl
  clear hs0
  have hB : Ext w0 w0 := Ext.refl _
  refine wp_seq ?_
  refine' region [_, _] mixed hA (.cons ?z1_0 (.cons ?z1_1 .nil)) ?zok1 ?zgd1 ?zk1
  case z1_0 =>
    intro a' w' hE hK hg
    have x0 := kn (hK 0 rfl) rfl r0
    exact ok_box (L := w0.heap.size) hE.size x0
  case z1_1 =>
    intro a' w' hE hK hg
    exact ok_assign rfl
  case zok1 => kernel_rfl
  case zgd1 => kernel_rfl
  intro a1 w1 hA' hE HF
  have x1 := ksp (HF 1) rfl rfl rfl
  clear hA HF
  have hA := hA'
  clear hA'
  have hLt := hB.size
  replace hB := hB.trans hE
  obtain ⟨b1, hb1, r1, m_t1⟩ := x1
  have hb0_t1 : w0.heap.size ≤ b1 := Nat.le_trans hLt hb1
  clear hE hLt
  refine (li_nil (nx_then ?_))
  refine wp_seq ?_
  refine' region [_, _] mixed hA (.cons ?z2_0 (.cons ?z2_1 .nil)) ?zok2 ?zgd2 ?zk2
  case z2_0 =>
    intro a' w' hE hK hg
    have x0 := kn (hK 1 rfl) rfl r1
    exact ok_makeFunc (v1 := #[]) (v2 := #[.pointer (some ⟨b1, 0, none⟩)]) (by simp) (by simp [eval_tmp, x0])
  case z2_1 =>
    intro a' w' hE hK hg
    have x0 := ksv (hK 3 rfl) rfl rfl rfl
    exact ok_assign x0
  case zok2 => kernel_rfl
  case zgd2 => kernel_rfl
  intro a2 w2 hA' hE HF
  have r2 := ksv (HF 2) rfl rfl rfl
  clear hA HF
  have hA := hA'
  clear hA'
  replace m_t1 := m_t1.ext hE
  have hLt := hB.size
  replace hB := hB.trans hE
  clear hE hLt
  refine (li_nil (nx_then ?_))
  refine (wp_ret ?_)
  refine retPure Try.results35 hA r2 hB ?_
  exact ⟨b1, Nat.le_trans hBB hb0_t1, rfl, h.cells_eq ▸ m_t1⟩

theorem dRoot (v : Value) (ss : List ByteArray) (w0 : World) (h : SlV w0 1 v (ss.map .string)) (hl : ss.length ≤ 32) (hs : ∀ s ∈ ss, s.size ≤ 1099511627776) : Pure Try.prog 21 #[v] w0 (SP.isv (.string (str (rootD (bss ss))))).holds := by
  refine pureM_of_wp Try.func21 rfl 13 Try.ntmps21 (by simp) fun a0 hA hs0 => ?_
  have r0 : a0.get 0 = v := hs0 0 _ rfl
  clear hs0
  have hB : Ext w0 w0 := Ext.refl _
  refine wp_seq ?_
  refine' region [_] mixed hA (.cons ?z1_0 .nil) ?zok1 ?zgd1 ?zk1
  case z1_0 =>
    intro a' w' hE hK hg
    exact ok_assign rfl
  case zok1 => kernel_rfl
  case zgd1 => kernel_rfl
  intro a1 w1 hA' hE HF
  replace r0 := kn (HF 0) rfl r0
  clear hA HF
  have hA := hA'
  clear hA'
  have hLt := hB.size
  replace hB := hB.trans hE
  clear hE hLt
  refine (li_nil (nx_then ?_))
  refine wp_seq ?_
  refine' region [_] mixed hA (.cons ?z2_0 .nil) ?zok2 ?zgd2 ?zk2
  case z2_0 =>
    intro a' w' hE hK hg
    exact ok_alloc (L := w1.heap.size) hE.size ty43
  case zok2 => kernel_rfl
  case zgd2 => kernel_rfl
  intro a2 w2 hA' hE HF
  replace r0 := kn (HF 0) rfl r0
  have x3 := ksp (HF 3) rfl rfl rfl
  clear hA HF
  have hA := hA'
  clear hA'
  have hLt := hB.size
  replace hB := hB.trans hE
  obtain ⟨b3, hb3, r3, m_t3⟩ := x3
  have hb0_t3 : w0.heap.size ≤ b3 := Nat.le_trans hLt hb3
  clear hE hLt
  refine (li_nil (nx_then ?_))
  refine wp_seq ?_
  refine wp_seq ?_
  refine' region [_, _] mixed hA (.cons ?z3_0 (.cons ?z3_1 .nil)) ?zok3 ?zgd3 ?zk3
  case z3_0 =>
    intro a' w' hE hK hg
    have x0 := kn (hK 0 rfl) rfl r0
    exact ok_move x0
  case z3_1 =>
    intro a' w' hE hK hg
    have x0 := ksv (hK 5 rfl) rfl rfl rfl
    exact ok_call1 fn35 x0 (dLevels _ _ w2.heap.size _ hE.size (h.ext (hB.trans hE)))
  case zok3 => kernel_rfl
  case zgd3 => kernel_rfl
  intro a3 w3 hA' hE HF
  replace r3 := kn (HF 3) rfl r3
  have x6 := ksp (HF 6) rfl rfl rfl
  clear hA HF
  have hA := hA'
  clear hA'
  have hl_t3 := m_t3.lt
  replace m_t3 := m_t3.ext hE
  have hLt := hB.size
  replace hB := hB.trans hE
  obtain ⟨bf6, hbf6, r6, m_t6⟩ := x6
  clear hE hLt
  refine (li_nil (nx_then ?_))
  refine wp_block ?_
  refine range_cell (res := rootD (bss ss)) hA (by decide) (by decide) ty49 ty43 fn39 r6 r3 m_t3 rfl (fun L J w1 hE1 hJ0 hJs hY => dLevels1 L bf6 v ss J _ _ w1 rfl (m_t6.ext hE1) ((h.ext hB).ext hE1) hl hs hJ0 hJs hY) fun a4 w4 hA hfr hBut m_t3 hdf => ?_
  replace hdf : HeapAt _ _ _ := hdf
  have hsz_ := hB.size
  replace hB := ext_but hB hb0_t3 hBut
  clear hBut
  replace r3 := (hfr 3).trans r3
  clear hfr
  refine (nx_blk (nx_then ?_))
  refine wp_seq ?_
  refine' region [_, _, _] mixed hA (.cons ?z4_0 (.cons ?z4_1 (.cons ?z4_2 .nil))) ?zok4 ?zgd4 ?zk4
  case z4_0 =>
    intro a' w' hE hK hg
    have x0 := kn (hK 3 rfl) rfl r3
    exact ok_loadOwnAgg ty43 rfl x0 (m_t3.ext hE) (by first | rfl | (simp [bv, rootD_len]))
  case z4_1 =>
    intro a' w' hE hK hg
    have x0 := ksv (hK 11 rfl) rfl rfl rfl
    exact ok_call1 fn31 x0 (dText _ _ (rootD_len _))
  case z4_2 =>
    intro a' w' hE hK hg
    have x0 := ksv (hK 12 rfl) rfl rfl rfl
    exact ok_assign x0
  case zok4 => kernel_rfl
  case zgd4 => kernel_rfl
  intro a5 w5 hA' hE HF
  have r2 := ksv (HF 2) rfl rfl rfl
  clear hA HF
  have hA := hA'
  clear hA'
  replace m_t3 := m_t3.ext hE
  replace hdf := hdf.ext hE
  have hLt := hB.size
  replace hB := hB.trans hE
  clear hE hLt
  refine (li_nil (nx_then ?_))
  refine (wp_ret ?_)
  exact retM Try.results21 hA r2 hdf hsz_ hB fun _ => rfl
end Go.Proofs.Ytbkmnghnjajdmaa
