/- The lifting of the program's functions (printed by wip/lift). No statement of the program stands here. -/
import Derived.Test.YtbkmnghnjajdmaaDgFa
import Derived.Test.YtbkmnghnjajdmaaProg
import Derived.Test.YtbkmnghnjajdmaaShelf
import Derived.Test.YtbkmnghnjajdmaaDigG
namespace Go.Proofs.Ytbkmnghnjajdmaa.Lf
open Go Go.RowKit Go.Eng Go.Lift Go.F
set_option linter.unusedVariables false
set_option linter.unusedSimpArgs false
set_option maxRecDepth 100000
theorem mixed : Try.prog.follows .mixedOrders = true := by kernel_rfl
theorem ty3 : Ty Try.prog 3 (.int .i64) (.int .i64 0) 1 8 := ⟨by kernel_rfl, by kernel_rfl⟩
theorem ty4 : Ty Try.prog 4 .bool (.bool false) 1 1 := ⟨by kernel_rfl, by kernel_rfl⟩
theorem ty5 : Ty Try.prog 5 (.int .u8) (.int .u8 0) 1 1 := ⟨by kernel_rfl, by kernel_rfl⟩
theorem ty9 : Ty Try.prog 9 .string (.string ⟨#[]⟩) 1 16 := ⟨by kernel_rfl, by kernel_rfl⟩
theorem ty23 : Ty Try.prog 23 (.struct (Try.prog.fieldsOf 23)) (.agg #[.int .u8 0, .int .u8 0, .string ⟨#[]⟩]) 3 24 := ⟨by kernel_rfl, by kernel_rfl⟩
theorem ty26 : Ty Try.prog 26 (.array 2 9) (.agg #[.string ⟨#[]⟩, .string ⟨#[]⟩]) 2 32 := ⟨by kernel_rfl, by kernel_rfl⟩
theorem ty27 : Ty Try.prog 27 (.slice 26) (.slice none 0 0) 1 24 := ⟨by kernel_rfl, by kernel_rfl⟩
theorem ty29 : Ty Try.prog 29 (.slice 9) (.slice none 0 0) 1 24 := ⟨by kernel_rfl, by kernel_rfl⟩
theorem ty40 : Ty Try.prog 40 (.slice 5) (.slice none 0 0) 1 24 := ⟨by kernel_rfl, by kernel_rfl⟩
theorem ty43 : Ty Try.prog 43 (.array 8 5) (.agg #[.int .u8 0, .int .u8 0, .int .u8 0, .int .u8 0, .int .u8 0, .int .u8 0, .int .u8 0, .int .u8 0]) 8 8 := ⟨by kernel_rfl, by kernel_rfl⟩
theorem ty51 : Ty Try.prog 51 (.int .u64) (.int .u64 0) 1 8 := ⟨by kernel_rfl, by kernel_rfl⟩
theorem fn9 : FnOk Try.prog 9 := ⟨_, Try.func9, rfl, by kernel_rfl⟩
theorem fn10 : FnOk Try.prog 10 := ⟨_, Try.func10, rfl, by kernel_rfl⟩
theorem fn11 : FnOk Try.prog 11 := ⟨_, Try.func11, rfl, by kernel_rfl⟩
theorem fn12 : FnOk Try.prog 12 := ⟨_, Try.func12, rfl, by kernel_rfl⟩
theorem fn13 : FnOk Try.prog 13 := ⟨_, Try.func13, rfl, by kernel_rfl⟩
theorem fn14 : FnOk Try.prog 14 := ⟨_, Try.func14, rfl, by kernel_rfl⟩
theorem fn15 : FnOk Try.prog 15 := ⟨_, Try.func15, rfl, by kernel_rfl⟩
theorem fn16 : FnOk Try.prog 16 := ⟨_, Try.func16, rfl, by kernel_rfl⟩
theorem fn17 : FnOk Try.prog 17 := ⟨_, Try.func17, rfl, by kernel_rfl⟩
theorem fn18 : FnOk Try.prog 18 := ⟨_, Try.func18, rfl, by kernel_rfl⟩
theorem fn19 : FnOk Try.prog 19 := ⟨_, Try.func19, rfl, by kernel_rfl⟩
theorem fn20 : FnOk Try.prog 20 := ⟨_, Try.func20, rfl, by kernel_rfl⟩
theorem fn21 : FnOk Try.prog 21 := ⟨_, Try.func21, rfl, by kernel_rfl⟩
theorem fn23 : FnOk Try.prog 23 := ⟨_, Try.func23, rfl, by kernel_rfl⟩
theorem fn25 : FnOk Try.prog 25 := ⟨_, Try.func25, rfl, by kernel_rfl⟩
theorem fn27 : FnOk Try.prog 27 := ⟨_, Try.func27, rfl, by kernel_rfl⟩
theorem fn29 : FnOk Try.prog 29 := ⟨_, Try.func29, rfl, by kernel_rfl⟩
theorem fn30 : FnOk Try.prog 30 := ⟨_, Try.func30, rfl, by kernel_rfl⟩
theorem fn31 : FnOk Try.prog 31 := ⟨_, Try.func31, rfl, by kernel_rfl⟩
theorem fn32 : FnOk Try.prog 32 := ⟨_, Try.func32, rfl, by kernel_rfl⟩
theorem fn33 : FnOk Try.prog 33 := ⟨_, Try.func33, rfl, by kernel_rfl⟩
theorem fn34 : FnOk Try.prog 34 := ⟨_, Try.func34, rfl, by kernel_rfl⟩
theorem fn38 : FnOk Try.prog 38 := ⟨_, Try.func38, rfl, by kernel_rfl⟩
theorem fn40 : FnOk Try.prog 40 := ⟨_, Try.func40, rfl, by kernel_rfl⟩
def r_colletlaw02_Change : GR colletlaw02_Change := rC true 3 (fun x => [.int .u8 x.At, .int .u8 x.Byte, .string (str x.Tail)]) (fun _ => rfl) (fun _ => by simp [Value.oneCell'])
theorem fit_colletlaw02_Change : r_colletlaw02_Change.fits := fun h => by cases h
theorem sb_colletlaw02_Change_0 : SubR r_colletlaw02_Change 0 (rInt .u8) (·.At) := @fun O w cs x h => ⟨[], [.int .u8 x.At], [.int .u8 x.Byte, .string (str x.Tail)], h.trans (by first | rfl | simp), by first | rfl | simp, rfl⟩
theorem sb_colletlaw02_Change_1 : SubR r_colletlaw02_Change 1 (rInt .u8) (·.Byte) := @fun O w cs x h => ⟨[.int .u8 x.At], [.int .u8 x.Byte], [.string (str x.Tail)], h.trans (by first | rfl | simp), by first | rfl | simp, rfl⟩
theorem sb_colletlaw02_Change_2 : SubR r_colletlaw02_Change 2 rStr (·.Tail) := @fun O w cs x h => ⟨[.int .u8 x.At, .int .u8 x.Byte], [.string (str x.Tail)], [], h.trans (by first | rfl | simp), by first | rfl | simp, rfl⟩
theorem ok_digest_of {O : Tags} {w0 : World} (hO : OkO O w0) {v_0 : Value} {x_0 : List Bytes} (h_0 : (rSl rStr).v O w0 v_0 x_0) {n : Nat} {y : (Vector Int 8)} (h : (digest_of x_0).run n = some y) : Pure Try.prog 30 #[v_0] w0 (SP.isv (.agg (cellsA (fun x => [.int .u8 x]) y).toArray)).holds := by
  unfold digest_of at h
  refine pure_of_wp Try.func30 rfl 62 Try.ntmps30 (by simp) fun a0 hA hs0 => ?_
  have q0 := hs0 0 _ rfl
  clear hs0
  have hB : Base (Fr w0) O w0 O w0 := Base.start hO
  refine wp_seq ?_
  refine' region [SP.box w0.heap.size (cellsA (fun x => [.int .u8 x]) (Vector.replicate 8 0)).toArray 43] mixed hA (.cons ?z1_0 .nil) ?zok1 ?zgd1 ?zk1
  case z1_0 => intro a' w' hE hK hg; exact ok_alloc hE.size ty43
  case zok1 => kernel_rfl
  case zgd1 => kernel_rfl
  intro a1 w1 hA' hE HF
  replace q0 := kn (HF 0) rfl q0
  have f2 := ksp (HF 2) rfl rfl rfl
  obtain ⟨u1, q2'⟩ : ∃ u, a1.get 2 = u := ⟨_, rfl⟩
  rw [q2'] at f2
  have q2 := q2'; clear q2'
  clear hA HF; have hA := hA'; clear hA'
  obtain ⟨O3, b4, hB', hX, e_, f5⟩ := boxNew hO hB hE f2 1 (by decide)
  subst e_
  clear hB f2; have hB := hB'; clear hB'
  replace h_0 := GR.kx _ h_0 hX (by decide)
  clear hX hE
  refine (li_nil ?_)
  refine (nx_then ?_)
  refine wp_seq ?_
  refine' region [_, _] mixed hA (.cons ?z2_0 (.cons ?z2_1 .nil)) ?zok2 ?zgd2 ?zk2
  case z2_0 => intro a' w' hE hK hg; exact ok_assign rfl
  case z2_1 => intro a' w' hE hK hg; exact ok_assign rfl
  case zok2 => kernel_rfl
  case zgd2 => kernel_rfl
  intro a2 w2 hA' hE HF
  replace q0 := kn (HF 0) rfl q0
  replace q2 := kn (HF 2) rfl q2
  have q3 := ksv (HF 3) rfl rfl rfl
  have q4 := ksv (HF 4) rfl rfl rfl
  clear hA HF; have hA := hA'; clear hA'
  replace h_0 := GR.v_ext _ h_0 hE
  replace f5 := f5.ext hE
  replace hB := Base.step hB hE hO; clear hE
  refine (li_nil ?_)
  refine (nx_then ?_)
  refine seq_join (fun a w => ∃ (O31 : Tags) (x29 : Int) (x30 : Int), a.fit 62 ∧ Base (Fr w0) O w0 O31 w ∧ a.get 2 = .pointer (some ⟨b4, 0, none⟩) ∧ a.get 3 = .int .u64 x29 ∧ a.get 4 = .int .u64 x30 ∧ OwnB 1 (Fr w0) O31 w b4 (cellsA (fun x => [.int .u8 x]) (Vector.replicate 8 0)).toArray 43 ∧ (digest_of_j1 x29 x30).run n = some y) ?_ ?_
  ·
    refine wp_seq ?_
    refine' region [_, _, _] mixed hA (.cons ?z3_0 (.cons ?z3_1 (.cons ?z3_2 .nil))) ?zok3 ?zgd3 ?zk3
    case z3_0 => intro a' w' hE hK hg; exact ok_move (kn (hK 0 rfl) rfl q0)
    case z3_1 => intro a' w' hE hK hg; exact okl_len (r := rStr) ty29 (ksv (j := 0) (hK 11 rfl) rfl rfl rfl) (rd_of (GR.v_ext _ h_0 hE))
    case z3_2 => intro a' w' hE hK hg; exact ok_move rfl
    case zok3 => kernel_rfl
    case zgd3 => kernel_rfl
    intro a3 w3 hA' hE HF
    replace q2 := kn (HF 2) rfl q2
    replace q3 := kn (HF 3) rfl q3
    replace q4 := kn (HF 4) rfl q4
    have q11 := ksv (HF 11) rfl rfl rfl
    have q12 := ksv (HF 12) rfl rfl rfl
    have q13 := ksv (HF 13) rfl rfl rfl
    clear q0
    clear hA HF; have hA := hA'; clear hA'
    replace h_0 := GR.v_ext _ h_0 hE
    replace f5 := f5.ext hE
    replace hB := Base.step hB hE hO; clear hE
    refine (li_nil ?_)
    refine (nx_then ?_)
    refine wp_block ?_
    obtain ⟨e2, he2, hk2⟩ := Comp.run_bind h; clear h
    refine loop_m (fun m a w => ∃ (O9 : Tags) (x6 : Int) (x7 : Int) (x8 : Int), a.fit 62 ∧ Base (Fr w0) O w0 O9 w ∧ a.get 2 = .pointer (some ⟨b4, 0, none⟩) ∧ a.get 3 = .int .u64 x6 ∧ a.get 4 = .int .u64 x7 ∧ a.get 11 = v_0 ∧ (rSl rStr).v O9 w v_0 x_0 ∧ a.get 12 = .int .i64 (x_0.length : Int) ∧ a.get 13 = .int .i64 x8 ∧ OwnB 1 (Fr w0) O9 w b4 (cellsA (fun x => [.int .u8 x]) (Vector.replicate 8 0)).toArray 43 ∧ Comp.loopN (fun s => digest_of_l2 x_0 s.1 s.2.1 s.2.2) n m (x6, x7, x8) = some e2) (m := n) ?st2 ?_
    case st2 =>
      exact ⟨_, _, _, _, hA, hB, q2, q3, q4, q11, h_0, q12, q13, f5, Comp.run_loop he2⟩
    intro m_ a4 w4 hI
    clear hA hB he2 q2 q3 q4 q11 q12 q13 f5 h_0
    obtain ⟨O9, x6, x7, x8, hA, hB, q2, q3, q4, q11, h_0, q12, q13, f5, hl⟩ := hI
    obtain ⟨m2, hlt2, st2, h, hnext2, hdone2⟩ := Comp.loopN_succ hl; clear hl
    replace h : (digest_of_l2 x_0 x6 x7 x8).run n = some st2 := h
    unfold digest_of_l2 at h
    refine wp_seq ?_
    refine' region [_] mixed hA (.cons ?z4_0 .nil) ?zok4 ?zgd4 ?zk4
    case z4_0 => intro a' w' hE hK hg; exact ok_lss (kn (hK 13 rfl) rfl q13) (kn (hK 12 rfl) rfl q12)
    case zok4 => kernel_rfl
    case zgd4 => kernel_rfl
    intro a5 w5 hA' hE HF
    replace q2 := kn (HF 2) rfl q2
    replace q3 := kn (HF 3) rfl q3
    replace q4 := kn (HF 4) rfl q4
    replace q11 := kn (HF 11) rfl q11
    replace q12 := kn (HF 12) rfl q12
    replace q13 := kn (HF 13) rfl q13
    have q14 := ksv (HF 14) rfl rfl rfl
    clear hA HF; have hA := hA'; clear hA'
    replace h_0 := GR.v_ext _ h_0 hE
    replace f5 := f5.ext hE
    replace hB := Base.step hB hE hO; clear hE
    refine (li_nil ?_)
    refine (nx_then ?_)
    refine wp_seq ?_
    refine wp_cond_b q14 (fun hc => ?_) (fun hc => ?_)
    ·
      replace h := Comp.run_b_t hc h; clear hc
      refine wp_skip ?_
      refine (nx_then ?_)
      refine wp_seq ?_
      refine wp_block ?_
      refine wp_seq ?_
      obtain ⟨x10, hx10, h⟩ := Comp.run_bind h
      refine' region [SP.ptr rStr O9 x10, SP.isv (.string (str x10)), _] mixed hA (.cons ?z5_0 (.cons ?z5_1 (.cons ?z5_2 .nil))) ?zok5 ?zgd5 ?zk5
      case z5_0 => intro a' w' hE hK hg; exact okl_idx (r := rStr) (O := O9) ty29 ty9 rfl (kn (hK 11 rfl) rfl q11) (rd_of (GR.v_ext _ h_0 hE)) (kn (hK 13 rfl) rfl q13) hx10
      case z5_1 => intro a' w' hE hK hg; exact okl_ldr rStr (fun _ => rfl) ty9 rfl rfl rfl (kspS (φ := SP.ptr rStr O9 x10) (j := 0) (hK 15 rfl) rfl rfl rfl) (fun _ _ _ h => rStr_v.1 h)
      case z5_2 => intro a' w' hE hK hg; exact ok_assign (ksv (j := 1) (hK 16 rfl) rfl rfl rfl)
      case zok5 => kernel_rfl
      case zgd5 => kernel_rfl
      intro a6 w6 hA' hE HF
      replace q2 := kn (HF 2) rfl q2
      replace q3 := kn (HF 3) rfl q3
      replace q4 := kn (HF 4) rfl q4
      have q6 := ksv (HF 6) rfl rfl rfl
      replace q11 := kn (HF 11) rfl q11
      replace q12 := kn (HF 12) rfl q12
      replace q13 := kn (HF 13) rfl q13
      clear q14
      clear hA HF; have hA := hA'; clear hA'
      replace h_0 := GR.v_ext _ h_0 hE
      replace f5 := f5.ext hE
      replace hB := Base.step hB hE hO; clear hE
      refine (li_nil ?_)
      refine (nx_then ?_)
      refine wp_seq ?_
      refine' region [_, SP.vl (rSl (rInt .u8)) O9 (ofStr x10), _, _] mixed hA (.cons ?z6_0 (.cons ?z6_1 (.cons ?z6_2 (.cons ?z6_3 .nil)))) ?zok6 ?zgd6 ?zk6
      case z6_0 => intro a' w' hE hK hg; exact ok_move (kn (hK 6 rfl) rfl q6)
      case z6_1 => intro a' w' hE hK hg; exact okl_strToBytes (OkO.ext hB.ok hE) ty9 ty40 ty5 (ksv (j := 0) (hK 17 rfl) rfl rfl rfl)
      case z6_2 => intro a' w' hE hK hg; exact okl_len (r := (rInt .u8)) ty40 rfl (rd_of (kspS (φ := SP.vl (rSl (rInt .u8)) O9 (ofStr x10)) (j := 1) (hK 18 rfl) rfl rfl rfl))
      case z6_3 => intro a' w' hE hK hg; exact ok_move rfl
      case zok6 => kernel_rfl
      case zgd6 => kernel_rfl
      intro a7 w7 hA' hE HF
      replace q2 := kn (HF 2) rfl q2
      replace q3 := kn (HF 3) rfl q3
      replace q4 := kn (HF 4) rfl q4
      replace q11 := kn (HF 11) rfl q11
      replace q12 := kn (HF 12) rfl q12
      replace q13 := kn (HF 13) rfl q13
      have f12 := ksp (HF 18) rfl rfl rfl
      obtain ⟨u11, q18'⟩ : ∃ u, a7.get 18 = u := ⟨_, rfl⟩
      rw [q18'] at f12
      have q18 := q18'; clear q18'
      have q19 := ksv (HF 19) rfl rfl rfl
      have q20 := ksv (HF 20) rfl rfl rfl
      clear q6
      clear hA HF; have hA := hA'; clear hA'
      replace h_0 := GR.v_ext _ h_0 hE
      replace f5 := f5.ext hE
      replace hB := Base.step hB hE hO; clear hE
      refine (li_nil ?_)
      refine (nx_then ?_)
      refine wp_block ?_
      obtain ⟨e3, he3, hk3⟩ := Comp.run_bind h; clear h
      refine loop_m (fun m a w => ∃ (O16 : Tags) (x13 : Int) (x14 : Int) (x15 : Int), a.fit 62 ∧ Base (Fr w0) O w0 O16 w ∧ a.get 2 = .pointer (some ⟨b4, 0, none⟩) ∧ a.get 3 = .int .u64 x13 ∧ a.get 4 = .int .u64 x14 ∧ a.get 11 = v_0 ∧ (rSl rStr).v O16 w v_0 x_0 ∧ a.get 12 = .int .i64 (x_0.length : Int) ∧ a.get 13 = .int .i64 x8 ∧ a.get 18 = u11 ∧ (rSl (rInt .u8)).v O16 w u11 (ofStr x10) ∧ a.get 19 = .int .i64 ((ofStr x10).length : Int) ∧ a.get 20 = .int .i64 x15 ∧ OwnB 1 (Fr w0) O16 w b4 (cellsA (fun x => [.int .u8 x]) (Vector.replicate 8 0)).toArray 43 ∧ Comp.loopN (fun s => digest_of_l3 x10 s.1 s.2.1 s.2.2) n m (x13, x14, x15) = some e3) (m := n) ?st3 ?_
      case st3 =>
        exact ⟨_, _, _, _, hA, hB, q2, q3, q4, q11, h_0, q12, q13, q18, f12, q19, q20, f5, Comp.run_loop he3⟩
      intro m_ a8 w8 hI
      clear hA hB he3 q2 q3 q4 q11 q12 q13 q18 q19 q20 f12 f5 h_0
      obtain ⟨O16, x13, x14, x15, hA, hB, q2, q3, q4, q11, h_0, q12, q13, q18, f12, q19, q20, f5, hl⟩ := hI
      obtain ⟨m3, hlt3, st3, h, hnext3, hdone3⟩ := Comp.loopN_succ hl; clear hl
      replace h : (digest_of_l3 x10 x13 x14 x15).run n = some st3 := h
      unfold digest_of_l3 at h
      refine wp_seq ?_
      refine' region [_] mixed hA (.cons ?z7_0 .nil) ?zok7 ?zgd7 ?zk7
      case z7_0 => intro a' w' hE hK hg; exact ok_lss (kn (hK 20 rfl) rfl q20) (kn (hK 19 rfl) rfl q19)
      case zok7 => kernel_rfl
      case zgd7 => kernel_rfl
      intro a9 w9 hA' hE HF
      replace q2 := kn (HF 2) rfl q2
      replace q3 := kn (HF 3) rfl q3
      replace q4 := kn (HF 4) rfl q4
      replace q11 := kn (HF 11) rfl q11
      replace q12 := kn (HF 12) rfl q12
      replace q13 := kn (HF 13) rfl q13
      replace q18 := kn (HF 18) rfl q18
      replace q19 := kn (HF 19) rfl q19
      replace q20 := kn (HF 20) rfl q20
      have q21 := ksv (HF 21) rfl rfl rfl
      clear hA HF; have hA := hA'; clear hA'
      replace h_0 := GR.v_ext _ h_0 hE
      replace f12 := GR.v_ext _ f12 hE
      replace f5 := f5.ext hE
      replace hB := Base.step hB hE hO; clear hE
      obtain ⟨x17, hx_, h⟩ := Comp.run_bind h; replace hx_ := Comp.run_pure hx_; rw [hx_] at q21; clear hx_
      refine (li_nil ?_)
      refine (nx_then ?_)
      refine wp_seq ?_
      refine wp_cond_b q21 (fun hc => ?_) (fun hc => ?_)
      ·
        replace h := Comp.run_b_t hc h; clear hc
        refine wp_skip ?_
        refine (nx_then ?_)
        refine wp_seq ?_
        refine wp_block ?_
        refine wp_seq ?_
        obtain ⟨x18, hx18, h⟩ := Comp.run_bind h
        refine' region [SP.ptr (rInt .u8) O16 x18, SP.isv (.int .u8 x18), _] mixed hA (.cons ?z8_0 (.cons ?z8_1 (.cons ?z8_2 .nil))) ?zok8 ?zgd8 ?zk8
        case z8_0 => intro a' w' hE hK hg; exact okl_idx (r := (rInt .u8)) (O := O16) ty40 ty5 rfl (kn (hK 18 rfl) rfl q18) (rd_of (GR.v_ext _ f12 hE)) (kn (hK 20 rfl) rfl q20) hx18
        case z8_1 => intro a' w' hE hK hg; exact okl_ldr (rInt .u8) (fun _ => rfl) ty5 rfl rfl rfl (kspS (φ := SP.ptr (rInt .u8) O16 x18) (j := 0) (hK 22 rfl) rfl rfl rfl) (fun _ _ _ h => rInt_v.1 h)
        case z8_2 => intro a' w' hE hK hg; exact ok_assign (ksv (j := 1) (hK 23 rfl) rfl rfl rfl)
        case zok8 => kernel_rfl
        case zgd8 => kernel_rfl
        intro a10 w10 hA' hE HF
        replace q2 := kn (HF 2) rfl q2
        replace q3 := kn (HF 3) rfl q3
        replace q4 := kn (HF 4) rfl q4
        have q8 := ksv (HF 8) rfl rfl rfl
        replace q11 := kn (HF 11) rfl q11
        replace q12 := kn (HF 12) rfl q12
        replace q13 := kn (HF 13) rfl q13
        replace q18 := kn (HF 18) rfl q18
        replace q19 := kn (HF 19) rfl q19
        replace q20 := kn (HF 20) rfl q20
        clear q21
        clear hA HF; have hA := hA'; clear hA'
        replace h_0 := GR.v_ext _ h_0 hE
        replace f12 := GR.v_ext _ f12 hE
        replace f5 := f5.ext hE
        replace hB := Base.step hB hE hO; clear hE
        refine (li_nil ?_)
        refine (nx_then ?_)
        refine wp_seq ?_
        refine' region [_, _, _, _, _, _, _, _] mixed hA (.cons ?z9_0 (.cons ?z9_1 (.cons ?z9_2 (.cons ?z9_3 (.cons ?z9_4 (.cons ?z9_5 (.cons ?z9_6 (.cons ?z9_7 .nil)))))))) ?zok9 ?zgd9 ?zk9
        case z9_0 => intro a' w' hE hK hg; exact ok_move (kn (hK 3 rfl) rfl q3)
        case z9_1 => intro a' w' hE hK hg; exact ok_mul rfl (ksv (j := 0) (hK 24 rfl) rfl rfl rfl)
        case z9_2 => intro a' w' hE hK hg; exact ok_move (kn (hK 8 rfl) rfl q8)
        case z9_3 => intro a' w' hE hK hg; exact ok_convI ty5 ty51 (ksv (j := 2) (hK 26 rfl) rfl rfl rfl)
        case z9_4 => intro a' w' hE hK hg; exact ok_add (ksv (j := 1) (hK 25 rfl) rfl rfl rfl) (ksv (j := 3) (hK 27 rfl) rfl rfl rfl)
        case z9_5 => intro a' w' hE hK hg; exact ok_add (ksv (j := 4) (hK 28 rfl) rfl rfl rfl) rfl
        case z9_6 => intro a' w' hE hK hg; exact ok_rem (ksv (j := 5) (hK 29 rfl) rfl rfl rfl) rfl (by decide)
        case z9_7 => intro a' w' hE hK hg; exact ok_assign (ksv (j := 6) (hK 30 rfl) rfl rfl rfl)
        case zok9 => kernel_rfl
        case zgd9 => kernel_rfl
        intro a11 w11 hA' hE HF
        replace q2 := kn (HF 2) rfl q2
        have q3' := ksv (HF 3) rfl rfl rfl
        replace q3 := q3'; clear q3'
        replace q4 := kn (HF 4) rfl q4
        replace q8 := kn (HF 8) rfl q8
        replace q11 := kn (HF 11) rfl q11
        replace q12 := kn (HF 12) rfl q12
        replace q13 := kn (HF 13) rfl q13
        replace q18 := kn (HF 18) rfl q18
        replace q19 := kn (HF 19) rfl q19
        replace q20 := kn (HF 20) rfl q20
        clear hA HF; have hA := hA'; clear hA'
        replace h_0 := GR.v_ext _ h_0 hE
        replace f12 := GR.v_ext _ f12 hE
        replace f5 := f5.ext hE
        replace hB := Base.step hB hE hO; clear hE
        obtain ⟨x19, hx_, h⟩ := Comp.run_bind h; replace hx_ := Comp.run_pure hx_; rw [hx_] at q3; clear hx_
        refine (li_nil ?_)
        refine (nx_then ?_)
        refine' region [_, _, _, _, _, _, _, _] mixed hA (.cons ?z10_0 (.cons ?z10_1 (.cons ?z10_2 (.cons ?z10_3 (.cons ?z10_4 (.cons ?z10_5 (.cons ?z10_6 (.cons ?z10_7 .nil)))))))) ?zok10 ?zgd10 ?zk10
        case z10_0 => intro a' w' hE hK hg; exact ok_move (kn (hK 4 rfl) rfl q4)
        case z10_1 => intro a' w' hE hK hg; exact ok_mul rfl (ksv (j := 0) (hK 31 rfl) rfl rfl rfl)
        case z10_2 => intro a' w' hE hK hg; exact ok_move (kn (hK 8 rfl) rfl q8)
        case z10_3 => intro a' w' hE hK hg; exact ok_convI ty5 ty51 (ksv (j := 2) (hK 33 rfl) rfl rfl rfl)
        case z10_4 => intro a' w' hE hK hg; exact ok_add (ksv (j := 1) (hK 32 rfl) rfl rfl rfl) (ksv (j := 3) (hK 34 rfl) rfl rfl rfl)
        case z10_5 => intro a' w' hE hK hg; exact ok_add (ksv (j := 4) (hK 35 rfl) rfl rfl rfl) rfl
        case z10_6 => intro a' w' hE hK hg; exact ok_rem (ksv (j := 5) (hK 36 rfl) rfl rfl rfl) rfl (by decide)
        case z10_7 => intro a' w' hE hK hg; exact ok_assign (ksv (j := 6) (hK 37 rfl) rfl rfl rfl)
        case zok10 => kernel_rfl
        case zgd10 => kernel_rfl
        intro a12 w12 hA' hE HF
        replace q2 := kn (HF 2) rfl q2
        replace q3 := kn (HF 3) rfl q3
        have q4' := ksv (HF 4) rfl rfl rfl
        replace q4 := q4'; clear q4'
        replace q11 := kn (HF 11) rfl q11
        replace q12 := kn (HF 12) rfl q12
        replace q13 := kn (HF 13) rfl q13
        replace q18 := kn (HF 18) rfl q18
        replace q19 := kn (HF 19) rfl q19
        replace q20 := kn (HF 20) rfl q20
        clear q8
        clear hA HF; have hA := hA'; clear hA'
        replace h_0 := GR.v_ext _ h_0 hE
        replace f12 := GR.v_ext _ f12 hE
        replace f5 := f5.ext hE
        replace hB := Base.step hB hE hO; clear hE
        obtain ⟨x20, hx_, h⟩ := Comp.run_bind h; replace hx_ := Comp.run_pure hx_; rw [hx_] at q4; clear hx_
        refine (li_nil ?_)
        refine (nx_blk (nx_then ?_))
        refine' region [_, _] mixed hA (.cons ?z11_0 (.cons ?z11_1 .nil)) ?zok11 ?zgd11 ?zk11
        case z11_0 => intro a' w' hE hK hg; exact ok_add (kn (hK 20 rfl) rfl q20) rfl
        case z11_1 => intro a' w' hE hK hg; exact ok_move (ksv (j := 0) (hK 38 rfl) rfl rfl rfl)
        case zok11 => kernel_rfl
        case zgd11 => kernel_rfl
        intro a13 w13 hA' hE HF
        replace q2 := kn (HF 2) rfl q2
        replace q3 := kn (HF 3) rfl q3
        replace q4 := kn (HF 4) rfl q4
        replace q11 := kn (HF 11) rfl q11
        replace q12 := kn (HF 12) rfl q12
        replace q13 := kn (HF 13) rfl q13
        replace q18 := kn (HF 18) rfl q18
        replace q19 := kn (HF 19) rfl q19
        have q20' := ksv (HF 20) rfl rfl rfl
        replace q20 := q20'; clear q20'
        clear hA HF; have hA := hA'; clear hA'
        replace h_0 := GR.v_ext _ h_0 hE
        replace f12 := GR.v_ext _ f12 hE
        replace f5 := f5.ext hE
        replace hB := Base.step hB hE hO; clear hE
        refine (li_nil ?_)
        refine (nx_then ?_)
        have h := hnext3 _ (Comp.run_pure h).symm
        refine ⟨m3, hlt3, ?_⟩
        exact ⟨_, _, _, _, hA, hB, q2, q3, q4, q11, h_0, q12, q13, q18, f12, q19, q20, f5, h⟩
      ·
        replace h := Comp.run_b_f hc h; clear hc
        refine wp_exit ?_
        refine (ex_then (ex_then (ex_same ?_)))
        have hd_ := hdone3 _ (Comp.run_pure h).symm; clear h
        subst hd_; have h := hk3; clear hk3; try dsimp only at h
        refine (nx_blk (nx_then ?_))
        refine' region [_, _] mixed hA (.cons ?z12_0 (.cons ?z12_1 .nil)) ?zok12 ?zgd12 ?zk12
        case z12_0 => intro a' w' hE hK hg; exact ok_add (kn (hK 13 rfl) rfl q13) rfl
        case z12_1 => intro a' w' hE hK hg; exact ok_move (ksv (j := 0) (hK 39 rfl) rfl rfl rfl)
        case zok12 => kernel_rfl
        case zgd12 => kernel_rfl
        intro a14 w14 hA' hE HF
        replace q2 := kn (HF 2) rfl q2
        replace q3 := kn (HF 3) rfl q3
        replace q4 := kn (HF 4) rfl q4
        replace q11 := kn (HF 11) rfl q11
        replace q12 := kn (HF 12) rfl q12
        have q13' := ksv (HF 13) rfl rfl rfl
        replace q13 := q13'; clear q13'
        clear q18
        clear q19
        clear q20
        clear q21
        clear hA HF; have hA := hA'; clear hA'
        replace h_0 := GR.v_ext _ h_0 hE
        replace f12 := GR.v_ext _ f12 hE
        replace f5 := f5.ext hE
        replace hB := Base.step hB hE hO; clear hE
        refine (li_nil ?_)
        refine (nx_then ?_)
        have h := hnext2 _ (Comp.run_pure h).symm
        refine ⟨m2, hlt2, ?_⟩
        exact ⟨_, _, _, _, hA, hB, q2, q3, q4, q11, h_0, q12, q13, f5, h⟩
    ·
      replace h := Comp.run_b_f hc h; clear hc
      refine wp_exit ?_
      refine (ex_then (ex_then (ex_same ?_)))
      have hd_ := hdone2 _ (Comp.run_pure h).symm; clear h
      subst hd_; have h := hk2; clear hk2; try dsimp only at h
      refine (nx_then ?_)
      exact ⟨_, _, _, hA, hB, q2, q3, q4, f5, h⟩
  intro a15 w15 hI
  clear hA hB h q0 q2 q3 q4 f5 h_0
  obtain ⟨O31, x29, x30, hA, hB, q2, q3, q4, f5, h⟩ := hI
  unfold digest_of_j1 at h
  refine wp_seq ?_
  refine' region [SP.box w15.heap.size (cellsA (fun x => [.int .u8 x]) (Vector.replicate 8 0)).toArray 43] mixed hA (.cons ?z13_0 .nil) ?zok13 ?zgd13 ?zk13
  case z13_0 => intro a' w' hE hK hg; exact ok_alloc hE.size ty43
  case zok13 => kernel_rfl
  case zgd13 => kernel_rfl
  intro a16 w16 hA' hE HF
  replace q2 := kn (HF 2) rfl q2
  replace q3 := kn (HF 3) rfl q3
  replace q4 := kn (HF 4) rfl q4
  have f33 := ksp (HF 9) rfl rfl rfl
  obtain ⟨u32, q9'⟩ : ∃ u, a16.get 9 = u := ⟨_, rfl⟩
  rw [q9'] at f33
  have q9 := q9'; clear q9'
  clear hA HF; have hA := hA'; clear hA'
  obtain ⟨O34, b35, hB', hX, e_, f36⟩ := boxNew hO hB hE f33 2 (by decide)
  subst e_
  clear hB f33; have hB := hB'; clear hB'
  replace f5 := f5.kx hX (by decide)
  clear hX hE
  refine (li_nil ?_)
  refine (nx_then ?_)
  refine seq_join (fun a w => ∃ (O50 : Tags) (x49 : Vector Int 8), a.fit 62 ∧ Base (Fr w0) O w0 O50 w ∧ a.get 2 = .pointer (some ⟨b4, 0, none⟩) ∧ a.get 9 = .pointer (some ⟨b35, 0, none⟩) ∧ OwnB 2 (Fr w0) O50 w b35 (cellsA (fun x => [.int .u8 x]) x49).toArray 43 ∧ OwnB 1 (Fr w0) O50 w b4 (cellsA (fun x => [.int .u8 x]) (Vector.replicate 8 0)).toArray 43 ∧ (digest_of_j4 x49).run n = some y) ?_ ?_
  ·
    refine wp_seq ?_
    refine' region [_] mixed hA (.cons ?z14_0 .nil) ?zok14 ?zgd14 ?zk14
    case z14_0 => intro a' w' hE hK hg; exact ok_move rfl
    case zok14 => kernel_rfl
    case zgd14 => kernel_rfl
    intro a17 w17 hA' hE HF
    replace q2 := kn (HF 2) rfl q2
    replace q3 := kn (HF 3) rfl q3
    replace q4 := kn (HF 4) rfl q4
    replace q9 := kn (HF 9) rfl q9
    have q40 := ksv (HF 40) rfl rfl rfl
    clear hA HF; have hA := hA'; clear hA'
    replace f5 := f5.ext hE
    replace f36 := f36.ext hE
    replace hB := Base.step hB hE hO; clear hE
    refine (li_nil ?_)
    refine (nx_then ?_)
    refine wp_block ?_
    obtain ⟨e5, he5, hk5⟩ := Comp.run_bind h; clear h
    refine loop_m (fun m a w => ∃ (O39 : Tags) (x37 : Int) (x38 : Vector Int 8), a.fit 62 ∧ Base (Fr w0) O w0 O39 w ∧ a.get 2 = .pointer (some ⟨b4, 0, none⟩) ∧ a.get 3 = .int .u64 x29 ∧ a.get 4 = .int .u64 x30 ∧ a.get 9 = .pointer (some ⟨b35, 0, none⟩) ∧ a.get 40 = .int .i64 x37 ∧ OwnB 2 (Fr w0) O39 w b35 (cellsA (fun x => [.int .u8 x]) x38).toArray 43 ∧ OwnB 1 (Fr w0) O39 w b4 (cellsA (fun x => [.int .u8 x]) (Vector.replicate 8 0)).toArray 43 ∧ Comp.loopN (fun s => digest_of_l5 x29 x30 s.1 s.2) n m (x37, x38) = some e5) (m := n) ?st5 ?_
    case st5 =>
      exact ⟨_, _, _, hA, hB, q2, q3, q4, q9, q40, f36, f5, Comp.run_loop he5⟩
    intro m_ a18 w18 hI
    clear hA hB he5 q2 q3 q4 q9 q40 f36 f5
    obtain ⟨O39, x37, x38, hA, hB, q2, q3, q4, q9, q40, f36, f5, hl⟩ := hI
    obtain ⟨m5, hlt5, st5, h, hnext5, hdone5⟩ := Comp.loopN_succ hl; clear hl
    replace h : (digest_of_l5 x29 x30 x37 x38).run n = some st5 := h
    unfold digest_of_l5 at h
    refine wp_seq ?_
    refine' region [_] mixed hA (.cons ?z15_0 .nil) ?zok15 ?zgd15 ?zk15
    case z15_0 => intro a' w' hE hK hg; exact ok_lss (kn (hK 40 rfl) rfl q40) rfl
    case zok15 => kernel_rfl
    case zgd15 => kernel_rfl
    intro a19 w19 hA' hE HF
    replace q2 := kn (HF 2) rfl q2
    replace q3 := kn (HF 3) rfl q3
    replace q4 := kn (HF 4) rfl q4
    replace q9 := kn (HF 9) rfl q9
    replace q40 := kn (HF 40) rfl q40
    have q41 := ksv (HF 41) rfl rfl rfl
    clear hA HF; have hA := hA'; clear hA'
    replace f5 := f5.ext hE
    replace f36 := f36.ext hE
    replace hB := Base.step hB hE hO; clear hE
    refine (li_nil ?_)
    refine (nx_then ?_)
    refine wp_seq ?_
    refine wp_cond_b q41 (fun hc => ?_) (fun hc => ?_)
    ·
      replace h := Comp.run_b_t hc h; clear hc
      refine wp_skip ?_
      refine (nx_then ?_)
      refine wp_seq ?_
      refine wp_block ?_
      refine wp_seq ?_
      refine' region [_, _] mixed hA (.cons ?z16_0 (.cons ?z16_1 .nil)) ?zok16 ?zgd16 ?zk16
      case z16_0 => intro a' w' hE hK hg; exact ok_move (kn (hK 40 rfl) rfl q40)
      case z16_1 => intro a' w' hE hK hg; exact ok_assign (ksv (j := 0) (hK 42 rfl) rfl rfl rfl)
      case zok16 => kernel_rfl
      case zgd16 => kernel_rfl
      intro a20 w20 hA' hE HF
      replace q2 := kn (HF 2) rfl q2
      replace q3 := kn (HF 3) rfl q3
      replace q4 := kn (HF 4) rfl q4
      replace q9 := kn (HF 9) rfl q9
      have q10 := ksv (HF 10) rfl rfl rfl
      replace q40 := kn (HF 40) rfl q40
      clear q41
      clear hA HF; have hA := hA'; clear hA'
      replace f5 := f5.ext hE
      replace f36 := f36.ext hE
      replace hB := Base.step hB hE hO; clear hE
      refine (li_nil ?_)
      refine (nx_then ?_)
      obtain ⟨x40, hx40, h⟩ := Comp.run_bind h
      obtain ⟨x41, hx41, h⟩ := Comp.run_bind h
      obtain ⟨x42, hx42, h⟩ := Comp.run_bind h
      obtain ⟨x43, hx43, h⟩ := Comp.run_bind h
      obtain ⟨x44, hx44, h⟩ := Comp.run_bind h
      obtain ⟨x45, hx45, h⟩ := Comp.run_bind h
      refine' regionX (draw := true) (fun S_ a_ w_ => ∃ O_ : Tags, Base (Fr w0) O w0 O_ w_ ∧ Keep 0 O39 w20 O_ w_ ∧ Keep 1 O39 w20 O_ w_ ∧ (S_ 16 = false → OwnB 2 (Fr w0) O_ w_ b35 (cellsA (fun x => [.int .u8 x]) x38).toArray 43) ∧ (S_ 16 = true → S_ 18 = false → OwnB 2 (Fr w0) O_ w_ b35 (cellsA (fun x => [.int .u8 x]) x43).toArray 43) ∧ (S_ 18 = true → OwnB 2 (Fr w0) O_ w_ b35 (cellsA (fun x => [.int .u8 x]) x45).toArray 43)) [SP.isv (.int .i64 x37), SP.isv (.int .i64 x37), SP.isv (.int .i64 (IntKind.wrap .i64 (4 + x37))), SP.isv (.int .u64 x29), SP.isv (.int .i64 x37), SP.isv (.int .i64 (IntKind.wrap .i64 (8 * x37))), SP.isv (.int .i64 (IntKind.wrap .i64 (24 - (IntKind.wrap .i64 (8 * x37))))), SP.isv (.int .u64 (shrF .u64 x29 (IntKind.wrap .i64 (24 - (IntKind.wrap .i64 (8 * x37)))))), SP.isv (.int .u8 (IntKind.wrap .u8 (shrF .u64 x29 (IntKind.wrap .i64 (24 - (IntKind.wrap .i64 (8 * x37))))))), SP.isv (.int .u64 x30), SP.isv (.int .i64 x37), SP.isv (.int .i64 (IntKind.wrap .i64 (8 * x37))), SP.isv (.int .i64 (IntKind.wrap .i64 (24 - (IntKind.wrap .i64 (8 * x37))))), SP.isv (.int .u64 (shrF .u64 x30 (IntKind.wrap .i64 (24 - (IntKind.wrap .i64 (8 * x37)))))), SP.isv (.int .u8 (IntKind.wrap .u8 (shrF .u64 x30 (IntKind.wrap .i64 (24 - (IntKind.wrap .i64 (8 * x37))))))), SP.isv (.pointer (some ⟨b35, 0 + Int.toNat (x37) * 1, none⟩)), SP.tt, SP.isv (.pointer (some ⟨b35, 0 + Int.toNat ((IntKind.wrap .i64 (4 + x37))) * 1, none⟩)), SP.tt] mixed hA (.cons (stE_isv _) (.cons (stE_isv _) (.cons (stE_isv _) (.cons (stE_isv _) (.cons (stE_isv _) (.cons (stE_isv _) (.cons (stE_isv _) (.cons (stE_isv _) (.cons (stE_isv _) (.cons (stE_isv _) (.cons (stE_isv _) (.cons (stE_isv _) (.cons (stE_isv _) (.cons (stE_isv _) (.cons (stE_isv _) (.cons (stE_isv _) (.cons (stE_tt _) (.cons (stE_isv _) (.cons (stE_tt _) .nil))))))))))))))))))) (.cons ?z17_0 (.cons ?z17_1 (.cons ?z17_2 (.cons ?z17_3 (.cons ?z17_4 (.cons ?z17_5 (.cons ?z17_6 (.cons ?z17_7 (.cons ?z17_8 (.cons ?z17_9 (.cons ?z17_10 (.cons ?z17_11 (.cons ?z17_12 (.cons ?z17_13 (.cons ?z17_14 (.cons ?z17_15 (.cons ?z17_16 (.cons ?z17_17 (.cons ?z17_18 .nil))))))))))))))))))) ?zsk17 ?zst17 ?zok17 ?zgd17 ?zk17
      case z17_0 =>
        intro S_ a' w' hA_ hJ_ hS_ hafter_ hbef_ hK hg K_ Q_ hK_
        obtain ⟨O_, hB_, k0_, kk0_, v1_0_, v1_1_, v1_2_⟩ := hJ_
        refine x_ok (φ := SP.isv (.int .i64 x37)) (by exact ok_move (kn (hK 10 rfl) rfl q10)) fun v_ w2 hE hv_ => ?_
        have hB2_ := Base.step hB_ hE hO
        exact hK_ v_ w2 ⟨O_, hB2_, (k0_.trans (KX.keep (KX.ext hE) (by decide))), (kk0_.trans (KX.keep (KX.ext hE) (by decide))), fun hq_ => OwnB.kx (v1_0_ (addS_no hq_)) (KX.ext hE) (by decide), fun hp_ hq_ => OwnB.kx (v1_1_ (addS_off rfl hp_) (addS_no hq_)) (KX.ext hE) (by decide), fun hp_ => OwnB.kx (v1_2_ (addS_off rfl hp_)) (KX.ext hE) (by decide)⟩ hv_
      case z17_1 =>
        intro S_ a' w' hA_ hJ_ hS_ hafter_ hbef_ hK hg K_ Q_ hK_
        obtain ⟨O_, hB_, k0_, kk0_, v1_0_, v1_1_, v1_2_⟩ := hJ_
        refine x_ok (φ := SP.isv (.int .i64 x37)) (by exact ok_move (kn (hK 10 rfl) rfl q10)) fun v_ w2 hE hv_ => ?_
        have hB2_ := Base.step hB_ hE hO
        exact hK_ v_ w2 ⟨O_, hB2_, (k0_.trans (KX.keep (KX.ext hE) (by decide))), (kk0_.trans (KX.keep (KX.ext hE) (by decide))), fun hq_ => OwnB.kx (v1_0_ (addS_no hq_)) (KX.ext hE) (by decide), fun hp_ hq_ => OwnB.kx (v1_1_ (addS_off rfl hp_) (addS_no hq_)) (KX.ext hE) (by decide), fun hp_ => OwnB.kx (v1_2_ (addS_off rfl hp_)) (KX.ext hE) (by decide)⟩ hv_
      case z17_2 =>
        intro S_ a' w' hA_ hJ_ hS_ hafter_ hbef_ hK hg K_ Q_ hK_
        obtain ⟨O_, hB_, k0_, kk0_, v1_0_, v1_1_, v1_2_⟩ := hJ_
        refine x_ok (φ := SP.isv (.int .i64 (IntKind.wrap .i64 (4 + x37)))) (by exact ok_add rfl (ksv (j := 1) (hK 44 rfl) rfl rfl rfl)) fun v_ w2 hE hv_ => ?_
        have hB2_ := Base.step hB_ hE hO
        exact hK_ v_ w2 ⟨O_, hB2_, (k0_.trans (KX.keep (KX.ext hE) (by decide))), (kk0_.trans (KX.keep (KX.ext hE) (by decide))), fun hq_ => OwnB.kx (v1_0_ (addS_no hq_)) (KX.ext hE) (by decide), fun hp_ hq_ => OwnB.kx (v1_1_ (addS_off rfl hp_) (addS_no hq_)) (KX.ext hE) (by decide), fun hp_ => OwnB.kx (v1_2_ (addS_off rfl hp_)) (KX.ext hE) (by decide)⟩ hv_
      case z17_3 =>
        intro S_ a' w' hA_ hJ_ hS_ hafter_ hbef_ hK hg K_ Q_ hK_
        obtain ⟨O_, hB_, k0_, kk0_, v1_0_, v1_1_, v1_2_⟩ := hJ_
        refine x_ok (φ := SP.isv (.int .u64 x29)) (by exact ok_move (kn (hK 3 rfl) rfl q3)) fun v_ w2 hE hv_ => ?_
        have hB2_ := Base.step hB_ hE hO
        exact hK_ v_ w2 ⟨O_, hB2_, (k0_.trans (KX.keep (KX.ext hE) (by decide))), (kk0_.trans (KX.keep (KX.ext hE) (by decide))), fun hq_ => OwnB.kx (v1_0_ (addS_no hq_)) (KX.ext hE) (by decide), fun hp_ hq_ => OwnB.kx (v1_1_ (addS_off rfl hp_) (addS_no hq_)) (KX.ext hE) (by decide), fun hp_ => OwnB.kx (v1_2_ (addS_off rfl hp_)) (KX.ext hE) (by decide)⟩ hv_
      case z17_4 =>
        intro S_ a' w' hA_ hJ_ hS_ hafter_ hbef_ hK hg K_ Q_ hK_
        obtain ⟨O_, hB_, k0_, kk0_, v1_0_, v1_1_, v1_2_⟩ := hJ_
        refine x_ok (φ := SP.isv (.int .i64 x37)) (by exact ok_move (kn (hK 10 rfl) rfl q10)) fun v_ w2 hE hv_ => ?_
        have hB2_ := Base.step hB_ hE hO
        exact hK_ v_ w2 ⟨O_, hB2_, (k0_.trans (KX.keep (KX.ext hE) (by decide))), (kk0_.trans (KX.keep (KX.ext hE) (by decide))), fun hq_ => OwnB.kx (v1_0_ (addS_no hq_)) (KX.ext hE) (by decide), fun hp_ hq_ => OwnB.kx (v1_1_ (addS_off rfl hp_) (addS_no hq_)) (KX.ext hE) (by decide), fun hp_ => OwnB.kx (v1_2_ (addS_off rfl hp_)) (KX.ext hE) (by decide)⟩ hv_
      case z17_5 =>
        intro S_ a' w' hA_ hJ_ hS_ hafter_ hbef_ hK hg K_ Q_ hK_
        obtain ⟨O_, hB_, k0_, kk0_, v1_0_, v1_1_, v1_2_⟩ := hJ_
        refine x_ok (φ := SP.isv (.int .i64 (IntKind.wrap .i64 (8 * x37)))) (by exact ok_mul rfl (ksv (j := 4) (hK 47 rfl) rfl rfl rfl)) fun v_ w2 hE hv_ => ?_
        have hB2_ := Base.step hB_ hE hO
        exact hK_ v_ w2 ⟨O_, hB2_, (k0_.trans (KX.keep (KX.ext hE) (by decide))), (kk0_.trans (KX.keep (KX.ext hE) (by decide))), fun hq_ => OwnB.kx (v1_0_ (addS_no hq_)) (KX.ext hE) (by decide), fun hp_ hq_ => OwnB.kx (v1_1_ (addS_off rfl hp_) (addS_no hq_)) (KX.ext hE) (by decide), fun hp_ => OwnB.kx (v1_2_ (addS_off rfl hp_)) (KX.ext hE) (by decide)⟩ hv_
      case z17_6 =>
        intro S_ a' w' hA_ hJ_ hS_ hafter_ hbef_ hK hg K_ Q_ hK_
        obtain ⟨O_, hB_, k0_, kk0_, v1_0_, v1_1_, v1_2_⟩ := hJ_
        refine x_ok (φ := SP.isv (.int .i64 (IntKind.wrap .i64 (24 - (IntKind.wrap .i64 (8 * x37)))))) (by exact ok_sub rfl (ksv (j := 5) (hK 48 rfl) rfl rfl rfl)) fun v_ w2 hE hv_ => ?_
        have hB2_ := Base.step hB_ hE hO
        exact hK_ v_ w2 ⟨O_, hB2_, (k0_.trans (KX.keep (KX.ext hE) (by decide))), (kk0_.trans (KX.keep (KX.ext hE) (by decide))), fun hq_ => OwnB.kx (v1_0_ (addS_no hq_)) (KX.ext hE) (by decide), fun hp_ hq_ => OwnB.kx (v1_1_ (addS_off rfl hp_) (addS_no hq_)) (KX.ext hE) (by decide), fun hp_ => OwnB.kx (v1_2_ (addS_off rfl hp_)) (KX.ext hE) (by decide)⟩ hv_
      case z17_7 =>
        intro S_ a' w' hA_ hJ_ hS_ hafter_ hbef_ hK hg K_ Q_ hK_
        obtain ⟨O_, hB_, k0_, kk0_, v1_0_, v1_1_, v1_2_⟩ := hJ_
        refine x_ok (φ := SP.isv (.int .u64 (shrF .u64 x29 (IntKind.wrap .i64 (24 - (IntKind.wrap .i64 (8 * x37))))))) (by exact okl_shr (ksv (j := 3) (hK 46 rfl) rfl rfl rfl) (ksv (j := 6) (hK 49 rfl) rfl rfl rfl) (run_nonneg hx40)) fun v_ w2 hE hv_ => ?_
        have hB2_ := Base.step hB_ hE hO
        exact hK_ v_ w2 ⟨O_, hB2_, (k0_.trans (KX.keep (KX.ext hE) (by decide))), (kk0_.trans (KX.keep (KX.ext hE) (by decide))), fun hq_ => OwnB.kx (v1_0_ (addS_no hq_)) (KX.ext hE) (by decide), fun hp_ hq_ => OwnB.kx (v1_1_ (addS_off rfl hp_) (addS_no hq_)) (KX.ext hE) (by decide), fun hp_ => OwnB.kx (v1_2_ (addS_off rfl hp_)) (KX.ext hE) (by decide)⟩ hv_
      case z17_8 =>
        intro S_ a' w' hA_ hJ_ hS_ hafter_ hbef_ hK hg K_ Q_ hK_
        obtain ⟨O_, hB_, k0_, kk0_, v1_0_, v1_1_, v1_2_⟩ := hJ_
        refine x_ok (φ := SP.isv (.int .u8 (IntKind.wrap .u8 (shrF .u64 x29 (IntKind.wrap .i64 (24 - (IntKind.wrap .i64 (8 * x37)))))))) (by exact ok_convI ty51 ty5 (ksv (j := 7) (hK 50 rfl) rfl rfl rfl)) fun v_ w2 hE hv_ => ?_
        have hB2_ := Base.step hB_ hE hO
        exact hK_ v_ w2 ⟨O_, hB2_, (k0_.trans (KX.keep (KX.ext hE) (by decide))), (kk0_.trans (KX.keep (KX.ext hE) (by decide))), fun hq_ => OwnB.kx (v1_0_ (addS_no hq_)) (KX.ext hE) (by decide), fun hp_ hq_ => OwnB.kx (v1_1_ (addS_off rfl hp_) (addS_no hq_)) (KX.ext hE) (by decide), fun hp_ => OwnB.kx (v1_2_ (addS_off rfl hp_)) (KX.ext hE) (by decide)⟩ hv_
      case z17_9 =>
        intro S_ a' w' hA_ hJ_ hS_ hafter_ hbef_ hK hg K_ Q_ hK_
        obtain ⟨O_, hB_, k0_, kk0_, v1_0_, v1_1_, v1_2_⟩ := hJ_
        refine x_ok (φ := SP.isv (.int .u64 x30)) (by exact ok_move (kn (hK 4 rfl) rfl q4)) fun v_ w2 hE hv_ => ?_
        have hB2_ := Base.step hB_ hE hO
        exact hK_ v_ w2 ⟨O_, hB2_, (k0_.trans (KX.keep (KX.ext hE) (by decide))), (kk0_.trans (KX.keep (KX.ext hE) (by decide))), fun hq_ => OwnB.kx (v1_0_ (addS_no hq_)) (KX.ext hE) (by decide), fun hp_ hq_ => OwnB.kx (v1_1_ (addS_off rfl hp_) (addS_no hq_)) (KX.ext hE) (by decide), fun hp_ => OwnB.kx (v1_2_ (addS_off rfl hp_)) (KX.ext hE) (by decide)⟩ hv_
      case z17_10 =>
        intro S_ a' w' hA_ hJ_ hS_ hafter_ hbef_ hK hg K_ Q_ hK_
        obtain ⟨O_, hB_, k0_, kk0_, v1_0_, v1_1_, v1_2_⟩ := hJ_
        refine x_ok (φ := SP.isv (.int .i64 x37)) (by exact ok_move (kn (hK 10 rfl) rfl q10)) fun v_ w2 hE hv_ => ?_
        have hB2_ := Base.step hB_ hE hO
        exact hK_ v_ w2 ⟨O_, hB2_, (k0_.trans (KX.keep (KX.ext hE) (by decide))), (kk0_.trans (KX.keep (KX.ext hE) (by decide))), fun hq_ => OwnB.kx (v1_0_ (addS_no hq_)) (KX.ext hE) (by decide), fun hp_ hq_ => OwnB.kx (v1_1_ (addS_off rfl hp_) (addS_no hq_)) (KX.ext hE) (by decide), fun hp_ => OwnB.kx (v1_2_ (addS_off rfl hp_)) (KX.ext hE) (by decide)⟩ hv_
      case z17_11 =>
        intro S_ a' w' hA_ hJ_ hS_ hafter_ hbef_ hK hg K_ Q_ hK_
        obtain ⟨O_, hB_, k0_, kk0_, v1_0_, v1_1_, v1_2_⟩ := hJ_
        refine x_ok (φ := SP.isv (.int .i64 (IntKind.wrap .i64 (8 * x37)))) (by exact ok_mul rfl (ksv (j := 10) (hK 53 rfl) rfl rfl rfl)) fun v_ w2 hE hv_ => ?_
        have hB2_ := Base.step hB_ hE hO
        exact hK_ v_ w2 ⟨O_, hB2_, (k0_.trans (KX.keep (KX.ext hE) (by decide))), (kk0_.trans (KX.keep (KX.ext hE) (by decide))), fun hq_ => OwnB.kx (v1_0_ (addS_no hq_)) (KX.ext hE) (by decide), fun hp_ hq_ => OwnB.kx (v1_1_ (addS_off rfl hp_) (addS_no hq_)) (KX.ext hE) (by decide), fun hp_ => OwnB.kx (v1_2_ (addS_off rfl hp_)) (KX.ext hE) (by decide)⟩ hv_
      case z17_12 =>
        intro S_ a' w' hA_ hJ_ hS_ hafter_ hbef_ hK hg K_ Q_ hK_
        obtain ⟨O_, hB_, k0_, kk0_, v1_0_, v1_1_, v1_2_⟩ := hJ_
        refine x_ok (φ := SP.isv (.int .i64 (IntKind.wrap .i64 (24 - (IntKind.wrap .i64 (8 * x37)))))) (by exact ok_sub rfl (ksv (j := 11) (hK 54 rfl) rfl rfl rfl)) fun v_ w2 hE hv_ => ?_
        have hB2_ := Base.step hB_ hE hO
        exact hK_ v_ w2 ⟨O_, hB2_, (k0_.trans (KX.keep (KX.ext hE) (by decide))), (kk0_.trans (KX.keep (KX.ext hE) (by decide))), fun hq_ => OwnB.kx (v1_0_ (addS_no hq_)) (KX.ext hE) (by decide), fun hp_ hq_ => OwnB.kx (v1_1_ (addS_off rfl hp_) (addS_no hq_)) (KX.ext hE) (by decide), fun hp_ => OwnB.kx (v1_2_ (addS_off rfl hp_)) (KX.ext hE) (by decide)⟩ hv_
      case z17_13 =>
        intro S_ a' w' hA_ hJ_ hS_ hafter_ hbef_ hK hg K_ Q_ hK_
        obtain ⟨O_, hB_, k0_, kk0_, v1_0_, v1_1_, v1_2_⟩ := hJ_
        refine x_ok (φ := SP.isv (.int .u64 (shrF .u64 x30 (IntKind.wrap .i64 (24 - (IntKind.wrap .i64 (8 * x37))))))) (by exact okl_shr (ksv (j := 9) (hK 52 rfl) rfl rfl rfl) (ksv (j := 12) (hK 55 rfl) rfl rfl rfl) (run_nonneg hx41)) fun v_ w2 hE hv_ => ?_
        have hB2_ := Base.step hB_ hE hO
        exact hK_ v_ w2 ⟨O_, hB2_, (k0_.trans (KX.keep (KX.ext hE) (by decide))), (kk0_.trans (KX.keep (KX.ext hE) (by decide))), fun hq_ => OwnB.kx (v1_0_ (addS_no hq_)) (KX.ext hE) (by decide), fun hp_ hq_ => OwnB.kx (v1_1_ (addS_off rfl hp_) (addS_no hq_)) (KX.ext hE) (by decide), fun hp_ => OwnB.kx (v1_2_ (addS_off rfl hp_)) (KX.ext hE) (by decide)⟩ hv_
      case z17_14 =>
        intro S_ a' w' hA_ hJ_ hS_ hafter_ hbef_ hK hg K_ Q_ hK_
        obtain ⟨O_, hB_, k0_, kk0_, v1_0_, v1_1_, v1_2_⟩ := hJ_
        refine x_ok (φ := SP.isv (.int .u8 (IntKind.wrap .u8 (shrF .u64 x30 (IntKind.wrap .i64 (24 - (IntKind.wrap .i64 (8 * x37)))))))) (by exact ok_convI ty51 ty5 (ksv (j := 13) (hK 56 rfl) rfl rfl rfl)) fun v_ w2 hE hv_ => ?_
        have hB2_ := Base.step hB_ hE hO
        exact hK_ v_ w2 ⟨O_, hB2_, (k0_.trans (KX.keep (KX.ext hE) (by decide))), (kk0_.trans (KX.keep (KX.ext hE) (by decide))), fun hq_ => OwnB.kx (v1_0_ (addS_no hq_)) (KX.ext hE) (by decide), fun hp_ hq_ => OwnB.kx (v1_1_ (addS_off rfl hp_) (addS_no hq_)) (KX.ext hE) (by decide), fun hp_ => OwnB.kx (v1_2_ (addS_off rfl hp_)) (KX.ext hE) (by decide)⟩ hv_
      case z17_15 =>
        intro S_ a' w' hA_ hJ_ hS_ hafter_ hbef_ hK hg K_ Q_ hK_
        obtain ⟨O_, hB_, k0_, kk0_, v1_0_, v1_1_, v1_2_⟩ := hJ_
        refine x_ok (φ := SP.isv (.pointer (some ⟨b35, 0 + Int.toNat (x37) * 1, none⟩))) (by exact ok_idxOwnArr ty43 ty5 (kn (hK 9 rfl) rfl q9) (ksv (j := 0) (hK 43 rfl) rfl rfl rfl) (vidx_lt hx42)) fun v_ w2 hE hv_ => ?_
        have hB2_ := Base.step hB_ hE hO
        exact hK_ v_ w2 ⟨O_, hB2_, (k0_.trans (KX.keep (KX.ext hE) (by decide))), (kk0_.trans (KX.keep (KX.ext hE) (by decide))), fun hq_ => OwnB.kx (v1_0_ (addS_no hq_)) (KX.ext hE) (by decide), fun hp_ hq_ => OwnB.kx (v1_1_ (addS_off rfl hp_) (addS_no hq_)) (KX.ext hE) (by decide), fun hp_ => OwnB.kx (v1_2_ (addS_off rfl hp_)) (KX.ext hE) (by decide)⟩ hv_
      case z17_16 =>
        intro S_ a' w' hA_ hJ_ hS_ hafter_ hbef_ hK hg K_ Q_ hK_
        obtain ⟨O_, hB_, k0_, kk0_, v1_0_, v1_1_, v1_2_⟩ := hJ_
        refine x_storeSub (vs := [.int .u8 (IntKind.wrap .u8 (shrF .u64 x29 (IntKind.wrap .i64 (24 - (IntKind.wrap .i64 (8 * x37))))))]) (cs' := (cellsA (fun x => [.int .u8 x]) x43).toArray) hO hB_ (okB_fr hB_) ty5 (ksv (j := 15) (hK 58 rfl) rfl rfl rfl) (ksv (j := 8) (hK 51 rfl) rfl rfl rfl) rfl (by simp [Value.oneCell']) (v1_0_ hS_) (arr_bnd (f := (fun x => [.int .u8 x])) (k := 1) (off := 0) (y := (IntKind.wrap .u8 (shrF .u64 x29 (IntKind.wrap .i64 (24 - (IntKind.wrap .i64 (8 * x37))))))) (x := x38) (l1 := []) (l2 := []) (fun _ => rfl) (run_vupd hx43).1 rfl (by simp)) (arr_spl (f := (fun x => [.int .u8 x])) (k := 1) (off := 0) (y := (IntKind.wrap .u8 (shrF .u64 x29 (IntKind.wrap .i64 (24 - (IntKind.wrap .i64 (8 * x37))))))) (l1 := []) (l2 := []) (fun _ => rfl) hx43 rfl (by simp) (by simp)) fun w2 f_ hB2_ hX_ => ?_
        exact hK_ undef w2 ⟨O_, hB2_, (k0_.trans (KX.keep hX_ (by decide))), (kk0_.trans (KX.keep hX_ (by decide))), fun hq_ => addS_me hq_, fun hp_ hq_ => f_, fun hp_ => no_tf (addS_off rfl hp_) (hafter_ 18 (by kernel_rfl))⟩ trivial
      case z17_17 =>
        intro S_ a' w' hA_ hJ_ hS_ hafter_ hbef_ hK hg K_ Q_ hK_
        obtain ⟨O_, hB_, k0_, kk0_, v1_0_, v1_1_, v1_2_⟩ := hJ_
        refine x_ok (φ := SP.isv (.pointer (some ⟨b35, 0 + Int.toNat ((IntKind.wrap .i64 (4 + x37))) * 1, none⟩))) (by exact ok_idxOwnArr ty43 ty5 (kn (hK 9 rfl) rfl q9) (ksv (j := 2) (hK 45 rfl) rfl rfl rfl) (vidx_lt hx44)) fun v_ w2 hE hv_ => ?_
        have hB2_ := Base.step hB_ hE hO
        exact hK_ v_ w2 ⟨O_, hB2_, (k0_.trans (KX.keep (KX.ext hE) (by decide))), (kk0_.trans (KX.keep (KX.ext hE) (by decide))), fun hq_ => OwnB.kx (v1_0_ (addS_no hq_)) (KX.ext hE) (by decide), fun hp_ hq_ => OwnB.kx (v1_1_ (addS_off rfl hp_) (addS_no hq_)) (KX.ext hE) (by decide), fun hp_ => OwnB.kx (v1_2_ (addS_off rfl hp_)) (KX.ext hE) (by decide)⟩ hv_
      case z17_18 =>
        intro S_ a' w' hA_ hJ_ hS_ hafter_ hbef_ hK hg K_ Q_ hK_
        obtain ⟨O_, hB_, k0_, kk0_, v1_0_, v1_1_, v1_2_⟩ := hJ_
        refine x_storeSub (vs := [.int .u8 (IntKind.wrap .u8 (shrF .u64 x30 (IntKind.wrap .i64 (24 - (IntKind.wrap .i64 (8 * x37))))))]) (cs' := (cellsA (fun x => [.int .u8 x]) x45).toArray) hO hB_ (okB_fr hB_) ty5 (ksv (j := 17) (hK 59 rfl) rfl rfl rfl) (ksv (j := 14) (hK 57 rfl) rfl rfl rfl) rfl (by simp [Value.oneCell']) (v1_1_ (addS_off rfl (hbef_ 16 (by kernel_rfl))) hS_) (arr_bnd (f := (fun x => [.int .u8 x])) (k := 1) (off := 0) (y := (IntKind.wrap .u8 (shrF .u64 x30 (IntKind.wrap .i64 (24 - (IntKind.wrap .i64 (8 * x37))))))) (x := x43) (l1 := []) (l2 := []) (fun _ => rfl) (run_vupd hx45).1 rfl (by simp)) (arr_spl (f := (fun x => [.int .u8 x])) (k := 1) (off := 0) (y := (IntKind.wrap .u8 (shrF .u64 x30 (IntKind.wrap .i64 (24 - (IntKind.wrap .i64 (8 * x37))))))) (l1 := []) (l2 := []) (fun _ => rfl) hx45 rfl (by simp) (by simp)) fun w2 f_ hB2_ hX_ => ?_
        exact hK_ undef w2 ⟨O_, hB2_, (k0_.trans (KX.keep hX_ (by decide))), (kk0_.trans (KX.keep hX_ (by decide))), fun hq_ => no_tf (hbef_ 16 (by kernel_rfl)) hq_, fun hp_ hq_ => addS_me hq_, fun hp_ => f_⟩ trivial
      case zsk17 =>
        intro i_ o_ S_ a_ w_ ho_ hact_ hA_ hS_ hbef_ hJ_
        obtain ⟨O_, hB_, k0_, kk0_, v1_0_, v1_1_, v1_2_⟩ := hJ_
        exact ⟨O_, hB_, k0_, kk0_, fun hq_ => (v1_0_ (addS_no hq_)), fun hp_ hq_ => by obtain ⟨h1_, h2_⟩ := skip_off (j := 16) hact_ rfl hp_; exact (v1_1_ h1_ (addS_no hq_)), fun hp_ => by obtain ⟨h1_, h2_⟩ := skip_off (j := 18) hact_ rfl hp_; exact (v1_2_ h1_)⟩
      case zst17 => exact fun w1_ hE_ => ⟨O39, (Base.step hB hE_ hO), (Keep.ext hE_), (Keep.ext hE_), fun _ => OwnB.ext f36 hE_, fun hp_ => no_ft hp_, fun hp_ => no_ft hp_⟩
      case zok17 => kernel_rfl
      case zgd17 => kernel_rfl
      intro a21 w21 hA' HF hJ_
      obtain ⟨O46, hB_, k0_, kk0_, v1_0_, v1_1_, v1_2_⟩ := hJ_
      replace q2 := kn (HF 2) rfl q2
      replace q3 := kn (HF 3) rfl q3
      replace q4 := kn (HF 4) rfl q4
      replace q9 := kn (HF 9) rfl q9
      replace q40 := kn (HF 40) rfl q40
      clear q10
      clear hA HF; have hA := hA'; clear hA'
      replace f5 := OwnB.keep f5 kk0_
      have f47 := (v1_2_ rfl)
      clear f36
      clear hB; have hB := hB_; clear hB_
      clear k0_ kk0_ v1_0_ v1_1_ v1_2_
      refine (nx_blk (nx_then ?_))
      refine' region [_, _] mixed hA (.cons ?z18_0 (.cons ?z18_1 .nil)) ?zok18 ?zgd18 ?zk18
      case z18_0 => intro a' w' hE hK hg; exact ok_add (kn (hK 40 rfl) rfl q40) rfl
      case z18_1 => intro a' w' hE hK hg; exact ok_move (ksv (j := 0) (hK 60 rfl) rfl rfl rfl)
      case zok18 => kernel_rfl
      case zgd18 => kernel_rfl
      intro a22 w22 hA' hE HF
      replace q2 := kn (HF 2) rfl q2
      replace q3 := kn (HF 3) rfl q3
      replace q4 := kn (HF 4) rfl q4
      replace q9 := kn (HF 9) rfl q9
      have q40' := ksv (HF 40) rfl rfl rfl
      replace q40 := q40'; clear q40'
      clear hA HF; have hA := hA'; clear hA'
      replace f5 := f5.ext hE
      replace f47 := f47.ext hE
      replace hB := Base.step hB hE hO; clear hE
      refine (li_nil ?_)
      refine (nx_then ?_)
      have h := hnext5 _ (Comp.run_pure h).symm
      refine ⟨m5, hlt5, ?_⟩
      exact ⟨_, _, _, hA, hB, q2, q3, q4, q9, q40, f47, f5, h⟩
    ·
      replace h := Comp.run_b_f hc h; clear hc
      refine wp_exit ?_
      refine (ex_then (ex_then (ex_same ?_)))
      have hd_ := hdone5 _ (Comp.run_pure h).symm; clear h
      subst hd_; have h := hk5; clear hk5; try dsimp only at h
      refine (nx_then ?_)
      exact ⟨_, _, hA, hB, q2, q9, f36, f5, h⟩
  intro a23 w23 hI
  clear hA hB h q2 q3 q4 q9 f36 f5
  obtain ⟨O50, x49, hA, hB, q2, q9, f36, f5, h⟩ := hI
  unfold digest_of_j4 at h
  refine wp_seq ?_
  refine' regionT [SP.isv (.agg (cellsA (fun x => [.int .u8 x]) x49).toArray)] hA (.cons ?z19_0 .nil) ?zok19 ?zgd19 ?zk19
  case z19_0 => intro a' w' hE hK hg; exact ok_loadOwnAgg ty43 rfl (kn (hK 9 rfl) rfl q9) (OwnB.ext f36 hE).own (by simp [cellsA_len (f := (fun x => [.int .u8 x])) (k := 1) (fun _ => rfl)])
  case zok19 => kernel_rfl
  case zgd19 => kernel_rfl
  intro a24 w24 hA' hE HF
  replace q2 := kn (HF 2) rfl q2
  have q61 := ksv (HF 61) rfl rfl rfl
  clear q9
  clear hA HF; have hA := hA'; clear hA'
  replace f5 := f5.ext hE
  replace f36 := f36.ext hE
  replace hB := Base.step hB hE hO; clear hE
  refine l_storeSub (vs := (cellsA (fun x => [.int .u8 x]) x49)) (cs' := (cellsA (fun x => [.int .u8 x]) x49).toArray) hO hB (okB_fr hB) (ty43.szr (by simp [cellsA_len (f := (fun x => [.int .u8 x])) (k := 1) (fun _ => rfl)])) q2 q61 rfl ((show ∀ x_ : Vector Int 8, ∀ c_ ∈ (cellsA (fun x => [.int .u8 x]) x_), c_.oneCell' = true from (fun _ => (cellsA_one (fun _ => by simp [Value.oneCell']) _))) x49) f5 (by simp [cellsA_len (f := (fun x => [.int .u8 x])) (k := 1) (fun _ => rfl)]) (splice_all (by simp [cellsA_len (f := (fun x => [.int .u8 x])) (k := 1) (fun _ => rfl)])) fun w25 f51 hB' hX => ?_
  clear hB f5; have hB := hB'; clear hB'
  clear hX
  refine (li_nil ?_)
  refine (nx_then ?_)
  refine (wp_ret ?_)
  have h := Comp.run_pure h; subst h
  exact retG1 Try.results30 hA (.agg q2 ty43 rfl (by simp [cellsA_len (f := (fun x => [.int .u8 x])) (k := 1) (fun _ => rfl)]) f51.own) ⟨_, rfl, hB.ext, rfl⟩

theorem ok_strings_Clone {O : Tags} {w0 : World} (hO : OkO O w0) {x_0 : Bytes} {n : Nat} {y : Bytes} (h : (strings_Clone x_0).run n = some y) : Pure Try.prog 38 #[.string (str x_0)] w0 (SP.isv (.string (str y))).holds := by
  unfold strings_Clone at h
  refine pure_of_wp Try.func38 rfl 5 Try.ntmps38 (by simp) fun a0 hA hs0 => ?_
  have q0 := hs0 0 _ rfl
  clear hs0
  have hB : Base (Fr w0) O w0 O w0 := Base.start hO
  refine wp_seq ?_
  refine' region [_] mixed hA (.cons ?z1_0 .nil) ?zok1 ?zgd1 ?zk1
  case z1_0 => intro a' w' hE hK hg; exact ok_assign rfl
  case zok1 => kernel_rfl
  case zgd1 => kernel_rfl
  intro a1 w1 hA' hE HF
  replace q0 := kn (HF 0) rfl q0
  clear hA HF; have hA := hA'; clear hA'
  replace hB := Base.step hB hE hO; clear hE
  refine (li_nil ?_)
  refine (nx_then ?_)
  refine wp_seq ?_
  obtain ⟨x1, hx1, h⟩ := Comp.run_bind h
  refine' region [_, SP.isv (.string (str x1)), _] mixed hA (.cons ?z2_0 (.cons ?z2_1 (.cons ?z2_2 .nil))) ?zok2 ?zgd2 ?zk2
  case z2_0 => intro a' w' hE hK hg; exact ok_move (kn (hK 0 rfl) rfl q0)
  case z2_1 => intro a' w' hE hK hg; have c_ := m_clone Try.stringslite_Clone (OkO.ext hB.ok hE)  hx1; exact ok_call1 fn40 (ksv (j := 0) (hK 3 rfl) rfl rfl rfl) c_
  case z2_2 => intro a' w' hE hK hg; exact ok_assign (ksv (j := 1) (hK 4 rfl) rfl rfl rfl)
  case zok2 => kernel_rfl
  case zgd2 => kernel_rfl
  intro a2 w2 hA' hE HF
  have q2 := ksv (HF 2) rfl rfl rfl
  clear q0
  clear hA HF; have hA := hA'; clear hA'
  replace hB := Base.step hB hE hO; clear hE
  refine (li_nil ?_)
  refine (nx_then ?_)
  refine (wp_ret ?_)
  have h := Comp.run_pure h; subst h
  exact retPure Try.results38 hA q2 hB.ext rfl

theorem ok_digest_digest_text {O : Tags} {w0 : World} (hO : OkO O w0) {x_0 : Vector Int 8} {n : Nat} {y : Bytes} (h : (digest_digest_text x_0).run n = some y) : Pure Try.prog 31 #[.agg (cellsA (fun x => [.int .u8 x]) x_0).toArray] w0 (SP.isv (.string (str y))).holds := by
  unfold digest_digest_text at h
  refine pure_of_wp Try.func31 rfl 6 Try.ntmps31 (by simp) fun a0 hA hs0 => ?_
  have q0 := hs0 0 _ rfl
  clear hs0
  have hB : Base (Fr w0) O w0 O w0 := Base.start hO
  refine wp_seq ?_
  refine' region [SP.vl (rBox (rVec 8 1 (fun x => [.int .u8 x]) (fun _ => rfl) (fun _ => by simp [Value.oneCell']))) O x_0, _] mixed hA (.cons ?z1_0 (.cons ?z1_1 .nil)) ?zok1 ?zgd1 ?zk1
  case z1_0 => intro a' w' hE hK hg; exact okl_boxV (r := (rVec 8 1 (fun x => [.int .u8 x]) (fun _ => rfl) (fun _ => by simp [Value.oneCell']))) (by intro h; cases h) (OkO.ext hB.ok hE) (kn (hK 0 rfl) rfl q0) (by first | exact rInt_v.2 rfl | exact rBool_v.2 rfl | exact rStr_v.2 rfl | exact rC_v.2 rfl | exact ⟨_, rfl, rfl⟩)
  case z1_1 => intro a' w' hE hK hg; exact ok_assign rfl
  case zok1 => kernel_rfl
  case zgd1 => kernel_rfl
  intro a1 w1 hA' hE HF
  have f2 := ksp (HF 1) rfl rfl rfl
  obtain ⟨u1, q1'⟩ : ∃ u, a1.get 1 = u := ⟨_, rfl⟩
  rw [q1'] at f2
  have q1 := q1'; clear q1'
  clear q0
  clear hA HF; have hA := hA'; clear hA'
  replace hB := Base.step hB hE hO; clear hE
  refine (li_nil ?_)
  refine (nx_then ?_)
  refine wp_seq ?_
  obtain ⟨x3, hx3, h⟩ := Comp.run_bind h
  obtain ⟨x4, hx4, h⟩ := Comp.run_bind h
  refine' region [SP.vl (rSl (rInt .u8)) O x_0.toList, SP.isv (.string (str x3)), SP.isv (.string (str x4)), _] mixed hA (.cons ?z2_0 (.cons ?z2_1 (.cons ?z2_2 (.cons ?z2_3 .nil)))) ?zok2 ?zgd2 ?zk2
  case z2_0 => intro a' w' hE hK hg; exact okl_sliceArr (r := (rInt .u8)) (f := (fun x => [.int .u8 x])) (hl := (fun _ => rfl)) (ho := (fun _ => by simp [Value.oneCell'])) (fun _ => rfl) rfl (fun _ _ _ => rfl) ty43 ty5 (kn (hK 1 rfl) rfl q1) (GR.v_ext _ f2 hE)
  case z2_1 => intro a' w' hE hK hg; exact okl_bytesToStr ty40 ty5 ty9 rfl (rd_of (kspS (φ := SP.vl (rSl (rInt .u8)) O x_0.toList) (j := 0) (hK 3 rfl) rfl rfl rfl)) hx3
  case z2_2 => intro a' w' hE hK hg; have c_ := ok_strings_Clone (OkO.ext hB.ok hE)  hx4; exact ok_call1 fn38 (ksv (j := 1) (hK 4 rfl) rfl rfl rfl) c_
  case z2_3 => intro a' w' hE hK hg; exact ok_assign (ksv (j := 2) (hK 5 rfl) rfl rfl rfl)
  case zok2 => kernel_rfl
  case zgd2 => kernel_rfl
  intro a2 w2 hA' hE HF
  have q2 := ksv (HF 2) rfl rfl rfl
  clear q1
  clear hA HF; have hA := hA'; clear hA'
  replace f2 := GR.v_ext _ f2 hE
  replace hB := Base.step hB hE hO; clear hE
  refine (li_nil ?_)
  refine (nx_then ?_)
  refine (wp_ret ?_)
  have h := Comp.run_pure h; subst h
  exact retPure Try.results31 hA q2 hB.ext rfl

theorem ok_digest_Of {O : Tags} {w0 : World} (hO : OkO O w0) {x_0 : Bytes} {n : Nat} {y : Bytes} (h : (digest_Of x_0).run n = some y) : Pure Try.prog 13 #[.string (str x_0)] w0 (SP.isv (.string (str y))).holds := by
  unfold digest_Of at h
  refine pure_of_wp Try.func13 rfl 7 Try.ntmps13 (by simp) fun a0 hA hs0 => ?_
  have q0 := hs0 0 _ rfl
  clear hs0
  have hB : Base (Fr w0) O w0 O w0 := Base.start hO
  refine wp_seq ?_
  refine' region [_] mixed hA (.cons ?z1_0 .nil) ?zok1 ?zgd1 ?zk1
  case z1_0 => intro a' w' hE hK hg; exact ok_assign rfl
  case zok1 => kernel_rfl
  case zgd1 => kernel_rfl
  intro a1 w1 hA' hE HF
  replace q0 := kn (HF 0) rfl q0
  clear hA HF; have hA := hA'; clear hA'
  replace hB := Base.step hB hE hO; clear hE
  refine (li_nil ?_)
  refine (nx_then ?_)
  refine wp_seq ?_
  obtain ⟨x1, hx1, h⟩ := Comp.run_bind h
  obtain ⟨x2, hx2, h⟩ := Comp.run_bind h
  refine' region [_, SP.vl (rSl rStr) O [x_0], SP.isv (.agg (cellsA (fun x => [.int .u8 x]) x1).toArray), SP.isv (.string (str x2)), _] mixed hA (.cons ?z2_0 (.cons ?z2_1 (.cons ?z2_2 (.cons ?z2_3 (.cons ?z2_4 .nil))))) ?zok2 ?zgd2 ?zk2
  case z2_0 => intro a' w' hE hK hg; exact ok_move (kn (hK 0 rfl) rfl q0)
  case z2_1 => intro a' w' hE hK hg; exact okl_buildSliceV (r := rStr) (fun _ => rfl) rfl (OkO.ext hB.ok hE) ty29 ty9 (parts_cons (ksv (j := 0) (hK 3 rfl) rfl rfl rfl) parts_nil) ⟨(by first | exact rInt_v.2 rfl | exact rBool_v.2 rfl | exact rStr_v.2 rfl | exact rC_v.2 rfl | exact ⟨_, rfl, rfl⟩), trivial⟩ rfl (by decide)
  case z2_2 => intro a' w' hE hK hg; have c_ := ok_digest_of (OkO.ext hB.ok hE) (kspS (φ := SP.vl (rSl rStr) O [x_0]) (j := 1) (hK 4 rfl) rfl rfl rfl) hx1; exact ok_call1 fn30 rfl c_
  case z2_3 => intro a' w' hE hK hg; have c_ := ok_digest_digest_text (OkO.ext hB.ok hE)  hx2; exact ok_call1 fn31 (ksv (j := 2) (hK 5 rfl) rfl rfl rfl) c_
  case z2_4 => intro a' w' hE hK hg; exact ok_assign (ksv (j := 3) (hK 6 rfl) rfl rfl rfl)
  case zok2 => kernel_rfl
  case zgd2 => kernel_rfl
  intro a2 w2 hA' hE HF
  have q2 := ksv (HF 2) rfl rfl rfl
  clear q0
  clear hA HF; have hA := hA'; clear hA'
  replace hB := Base.step hB hE hO; clear hE
  refine (li_nil ?_)
  refine (nx_then ?_)
  refine (wp_ret ?_)
  have h := Comp.run_pure h; subst h
  exact retPure Try.results13 hA q2 hB.ext rfl

theorem ok_digest_length {O : Tags} {w0 : World} (hO : OkO O w0) {x_0 : Bytes} {n : Nat} {y : Bytes} (h : (digest_length x_0).run n = some y) : Pure Try.prog 33 #[.string (str x_0)] w0 (SP.isv (.string (str y))).holds := by
  unfold digest_length at h
  refine pure_of_wp Try.func33 rfl 19 Try.ntmps33 (by simp) fun a0 hA hs0 => ?_
  have q0 := hs0 0 _ rfl
  clear hs0
  have hB : Base (Fr w0) O w0 O w0 := Base.start hO
  refine wp_seq ?_
  refine' region [_] mixed hA (.cons ?z1_0 .nil) ?zok1 ?zgd1 ?zk1
  case z1_0 => intro a' w' hE hK hg; exact ok_assign rfl
  case zok1 => kernel_rfl
  case zgd1 => kernel_rfl
  intro a1 w1 hA' hE HF
  replace q0 := kn (HF 0) rfl q0
  clear hA HF; have hA := hA'; clear hA'
  replace hB := Base.step hB hE hO; clear hE
  refine (li_nil ?_)
  refine (nx_then ?_)
  refine wp_seq ?_
  refine' region [_, _, _] mixed hA (.cons ?z2_0 (.cons ?z2_1 (.cons ?z2_2 .nil))) ?zok2 ?zgd2 ?zk2
  case z2_0 => intro a' w' hE hK hg; exact ok_move (kn (hK 0 rfl) rfl q0)
  case z2_1 => intro a' w' hE hK hg; exact okl_lenS ty9 (ksv (j := 0) (hK 4 rfl) rfl rfl rfl)
  case z2_2 => intro a' w' hE hK hg; exact ok_assign (ksv (j := 1) (hK 5 rfl) rfl rfl rfl)
  case zok2 => kernel_rfl
  case zgd2 => kernel_rfl
  intro a2 w2 hA' hE HF
  have q3 := ksv (HF 3) rfl rfl rfl
  clear q0
  clear hA HF; have hA := hA'; clear hA'
  replace hB := Base.step hB hE hO; clear hE
  refine (li_nil ?_)
  refine (nx_then ?_)
  refine wp_seq ?_
  obtain ⟨x1, hx1, h⟩ := Comp.run_bind h
  refine' region [_, _, _, _, _, _, _, _, _, _, _, SP.vl (rSl (rInt .u8)) O [(IntKind.wrap .u8 (x_0.length : Int)), (IntKind.wrap .u8 (shrF .i64 (x_0.length : Int) 8)), (IntKind.wrap .u8 (shrF .i64 (x_0.length : Int) 16)), (IntKind.wrap .u8 (shrF .i64 (x_0.length : Int) 24))], SP.isv (.string (str x1)), _] mixed hA (.cons ?z3_0 (.cons ?z3_1 (.cons ?z3_2 (.cons ?z3_3 (.cons ?z3_4 (.cons ?z3_5 (.cons ?z3_6 (.cons ?z3_7 (.cons ?z3_8 (.cons ?z3_9 (.cons ?z3_10 (.cons ?z3_11 (.cons ?z3_12 (.cons ?z3_13 .nil)))))))))))))) ?zok3 ?zgd3 ?zk3
  case z3_0 => intro a' w' hE hK hg; exact ok_move (kn (hK 3 rfl) rfl q3)
  case z3_1 => intro a' w' hE hK hg; exact ok_convI ty3 ty5 (ksv (j := 0) (hK 6 rfl) rfl rfl rfl)
  case z3_2 => intro a' w' hE hK hg; exact ok_move (kn (hK 3 rfl) rfl q3)
  case z3_3 => intro a' w' hE hK hg; exact okl_shr (ksv (j := 2) (hK 8 rfl) rfl rfl rfl) rfl (by decide)
  case z3_4 => intro a' w' hE hK hg; exact ok_convI ty3 ty5 (ksv (j := 3) (hK 9 rfl) rfl rfl rfl)
  case z3_5 => intro a' w' hE hK hg; exact ok_move (kn (hK 3 rfl) rfl q3)
  case z3_6 => intro a' w' hE hK hg; exact okl_shr (ksv (j := 5) (hK 11 rfl) rfl rfl rfl) rfl (by decide)
  case z3_7 => intro a' w' hE hK hg; exact ok_convI ty3 ty5 (ksv (j := 6) (hK 12 rfl) rfl rfl rfl)
  case z3_8 => intro a' w' hE hK hg; exact ok_move (kn (hK 3 rfl) rfl q3)
  case z3_9 => intro a' w' hE hK hg; exact okl_shr (ksv (j := 8) (hK 14 rfl) rfl rfl rfl) rfl (by decide)
  case z3_10 => intro a' w' hE hK hg; exact ok_convI ty3 ty5 (ksv (j := 9) (hK 15 rfl) rfl rfl rfl)
  case z3_11 => intro a' w' hE hK hg; exact okl_buildSliceV (r := (rInt .u8)) (fun _ => rfl) rfl (OkO.ext hB.ok hE) ty40 ty5 (parts_cons (ksv (j := 1) (hK 7 rfl) rfl rfl rfl) (parts_cons (ksv (j := 4) (hK 10 rfl) rfl rfl rfl) (parts_cons (ksv (j := 7) (hK 13 rfl) rfl rfl rfl) (parts_cons (ksv (j := 10) (hK 16 rfl) rfl rfl rfl) parts_nil)))) ⟨(by first | exact rInt_v.2 rfl | exact rBool_v.2 rfl | exact rStr_v.2 rfl | exact rC_v.2 rfl | exact ⟨_, rfl, rfl⟩), ⟨(by first | exact rInt_v.2 rfl | exact rBool_v.2 rfl | exact rStr_v.2 rfl | exact rC_v.2 rfl | exact ⟨_, rfl, rfl⟩), ⟨(by first | exact rInt_v.2 rfl | exact rBool_v.2 rfl | exact rStr_v.2 rfl | exact rC_v.2 rfl | exact ⟨_, rfl, rfl⟩), ⟨(by first | exact rInt_v.2 rfl | exact rBool_v.2 rfl | exact rStr_v.2 rfl | exact rC_v.2 rfl | exact ⟨_, rfl, rfl⟩), trivial⟩⟩⟩⟩ rfl (by decide)
  case z3_12 => intro a' w' hE hK hg; exact okl_bytesToStr ty40 ty5 ty9 rfl (rd_of (kspS (φ := SP.vl (rSl (rInt .u8)) O [(IntKind.wrap .u8 (x_0.length : Int)), (IntKind.wrap .u8 (shrF .i64 (x_0.length : Int) 8)), (IntKind.wrap .u8 (shrF .i64 (x_0.length : Int) 16)), (IntKind.wrap .u8 (shrF .i64 (x_0.length : Int) 24))]) (j := 11) (hK 17 rfl) rfl rfl rfl)) hx1
  case z3_13 => intro a' w' hE hK hg; exact ok_assign (ksv (j := 12) (hK 18 rfl) rfl rfl rfl)
  case zok3 => kernel_rfl
  case zgd3 => kernel_rfl
  intro a3 w3 hA' hE HF
  have q2 := ksv (HF 2) rfl rfl rfl
  clear q3
  clear hA HF; have hA := hA'; clear hA'
  replace hB := Base.step hB hE hO; clear hE
  refine (li_nil ?_)
  refine (nx_then ?_)
  refine (wp_ret ?_)
  have h := Comp.run_pure h; subst h
  exact retPure Try.results33 hA q2 hB.ext rfl

theorem ok_digest_marked {O : Tags} {w0 : World} (hO : OkO O w0) {x_0 : Bytes} {x_1 : Bytes} {n : Nat} {y : (Vector Int 8)} (h : (digest_marked x_0 x_1).run n = some y) : Pure Try.prog 34 #[.string (str x_0), .string (str x_1)] w0 (SP.isv (.agg (cellsA (fun x => [.int .u8 x]) y).toArray)).holds := by
  unfold digest_marked at h
  refine pure_of_wp Try.func34 rfl 14 Try.ntmps34 (by simp) fun a0 hA hs0 => ?_
  have q0 := hs0 0 _ rfl
  have q1 := hs0 1 _ rfl
  clear hs0
  have hB : Base (Fr w0) O w0 O w0 := Base.start hO
  refine wp_seq ?_
  refine' region [SP.box w0.heap.size (cellsA (fun x => [.int .u8 x]) (Vector.replicate 8 0)).toArray 43] mixed hA (.cons ?z1_0 .nil) ?zok1 ?zgd1 ?zk1
  case z1_0 => intro a' w' hE hK hg; exact ok_alloc hE.size ty43
  case zok1 => kernel_rfl
  case zgd1 => kernel_rfl
  intro a1 w1 hA' hE HF
  replace q0 := kn (HF 0) rfl q0
  replace q1 := kn (HF 1) rfl q1
  have f2 := ksp (HF 4) rfl rfl rfl
  obtain ⟨u1, q4'⟩ : ∃ u, a1.get 4 = u := ⟨_, rfl⟩
  rw [q4'] at f2
  have q4 := q4'; clear q4'
  clear hA HF; have hA := hA'; clear hA'
  obtain ⟨O3, b4, hB', hX, e_, f5⟩ := boxNew hO hB hE f2 1 (by decide)
  subst e_
  clear hB f2; have hB := hB'; clear hB'
  clear hX hE
  refine (li_nil ?_)
  refine (nx_then ?_)
  refine wp_seq ?_
  obtain ⟨x6, hx6, h⟩ := Comp.run_bind h
  obtain ⟨x7, hx7, h⟩ := Comp.run_bind h
  obtain ⟨x8, hx8, h⟩ := Comp.run_bind h
  refine' regionT [_, SP.isv (.string (str x6)), _, _, SP.isv (.string (str x7)), _, _, SP.vl (rSl rStr) O3 [[5], x6, x_0, x7, x_1, x_0], SP.isv (.agg (cellsA (fun x => [.int .u8 x]) x8).toArray)] hA (.cons ?z2_0 (.cons ?z2_1 (.cons ?z2_2 (.cons ?z2_3 (.cons ?z2_4 (.cons ?z2_5 (.cons ?z2_6 (.cons ?z2_7 (.cons ?z2_8 .nil))))))))) ?zok2 ?zgd2 ?zk2
  case z2_0 => intro a' w' hE hK hg; exact ok_move (kn (hK 0 rfl) rfl q0)
  case z2_1 => intro a' w' hE hK hg; have c_ := ok_digest_length (OkO.ext hB.ok hE)  hx6; exact ok_call1 fn33 (ksv (j := 0) (hK 5 rfl) rfl rfl rfl) c_
  case z2_2 => intro a' w' hE hK hg; exact ok_move (kn (hK 0 rfl) rfl q0)
  case z2_3 => intro a' w' hE hK hg; exact ok_move (kn (hK 1 rfl) rfl q1)
  case z2_4 => intro a' w' hE hK hg; have c_ := ok_digest_length (OkO.ext hB.ok hE)  hx7; exact ok_call1 fn33 (ksv (j := 3) (hK 8 rfl) rfl rfl rfl) c_
  case z2_5 => intro a' w' hE hK hg; exact ok_move (kn (hK 1 rfl) rfl q1)
  case z2_6 => intro a' w' hE hK hg; exact ok_move (kn (hK 0 rfl) rfl q0)
  case z2_7 => intro a' w' hE hK hg; exact okl_buildSliceV (r := rStr) (fun _ => rfl) rfl (OkO.ext hB.ok hE) ty29 ty9 (parts_cons rfl (parts_cons (ksv (j := 1) (hK 6 rfl) rfl rfl rfl) (parts_cons (ksv (j := 2) (hK 7 rfl) rfl rfl rfl) (parts_cons (ksv (j := 4) (hK 9 rfl) rfl rfl rfl) (parts_cons (ksv (j := 5) (hK 10 rfl) rfl rfl rfl) (parts_cons (ksv (j := 6) (hK 11 rfl) rfl rfl rfl) parts_nil)))))) ⟨(by first | exact rInt_v.2 rfl | exact rBool_v.2 rfl | exact rStr_v.2 rfl | exact rC_v.2 rfl | exact ⟨_, rfl, rfl⟩), ⟨(by first | exact rInt_v.2 rfl | exact rBool_v.2 rfl | exact rStr_v.2 rfl | exact rC_v.2 rfl | exact ⟨_, rfl, rfl⟩), ⟨(by first | exact rInt_v.2 rfl | exact rBool_v.2 rfl | exact rStr_v.2 rfl | exact rC_v.2 rfl | exact ⟨_, rfl, rfl⟩), ⟨(by first | exact rInt_v.2 rfl | exact rBool_v.2 rfl | exact rStr_v.2 rfl | exact rC_v.2 rfl | exact ⟨_, rfl, rfl⟩), ⟨(by first | exact rInt_v.2 rfl | exact rBool_v.2 rfl | exact rStr_v.2 rfl | exact rC_v.2 rfl | exact ⟨_, rfl, rfl⟩), ⟨(by first | exact rInt_v.2 rfl | exact rBool_v.2 rfl | exact rStr_v.2 rfl | exact rC_v.2 rfl | exact ⟨_, rfl, rfl⟩), trivial⟩⟩⟩⟩⟩⟩ rfl (by decide)
  case z2_8 => intro a' w' hE hK hg; have c_ := ok_digest_of (OkO.ext hB.ok hE) (kspS (φ := SP.vl (rSl rStr) O3 [[5], x6, x_0, x7, x_1, x_0]) (j := 7) (hK 12 rfl) rfl rfl rfl) hx8; exact ok_call1 fn30 rfl c_
  case zok2 => kernel_rfl
  case zgd2 => kernel_rfl
  intro a2 w2 hA' hE HF
  replace q4 := kn (HF 4) rfl q4
  have q13 := ksv (HF 13) rfl rfl rfl
  clear q0
  clear q1
  clear hA HF; have hA := hA'; clear hA'
  replace f5 := f5.ext hE
  replace hB := Base.step hB hE hO; clear hE
  refine l_storeSub (vs := (cellsA (fun x => [.int .u8 x]) x8)) (cs' := (cellsA (fun x => [.int .u8 x]) x8).toArray) hO hB (okB_fr hB) (ty43.szr (by simp [cellsA_len (f := (fun x => [.int .u8 x])) (k := 1) (fun _ => rfl)])) q4 q13 rfl ((show ∀ x_ : Vector Int 8, ∀ c_ ∈ (cellsA (fun x => [.int .u8 x]) x_), c_.oneCell' = true from (fun _ => (cellsA_one (fun _ => by simp [Value.oneCell']) _))) x8) f5 (by simp [cellsA_len (f := (fun x => [.int .u8 x])) (k := 1) (fun _ => rfl)]) (splice_all (by simp [cellsA_len (f := (fun x => [.int .u8 x])) (k := 1) (fun _ => rfl)])) fun w3 f9 hB' hX => ?_
  clear hB f5; have hB := hB'; clear hB'
  clear hX
  refine (li_nil ?_)
  refine (nx_then ?_)
  refine (wp_ret ?_)
  have h := Comp.run_pure h; subst h
  exact retG1 Try.results34 hA (.agg q4 ty43 rfl (by simp [cellsA_len (f := (fun x => [.int .u8 x])) (k := 1) (fun _ => rfl)]) f9.own) ⟨_, rfl, hB.ext, rfl⟩

theorem ok_digest_Mark {O : Tags} {w0 : World} (hO : OkO O w0) {x_0 : Bytes} {x_1 : Bytes} {n : Nat} {y : Bytes} (h : (digest_Mark x_0 x_1).run n = some y) : Pure Try.prog 17 #[.string (str x_0), .string (str x_1)] w0 (SP.isv (.string (str y))).holds := by
  unfold digest_Mark at h
  refine pure_of_wp Try.func17 rfl 9 Try.ntmps17 (by simp) fun a0 hA hs0 => ?_
  have q0 := hs0 0 _ rfl
  have q1 := hs0 1 _ rfl
  clear hs0
  have hB : Base (Fr w0) O w0 O w0 := Base.start hO
  refine wp_seq ?_
  refine' region [_] mixed hA (.cons ?z1_0 .nil) ?zok1 ?zgd1 ?zk1
  case z1_0 => intro a' w' hE hK hg; exact ok_assign rfl
  case zok1 => kernel_rfl
  case zgd1 => kernel_rfl
  intro a1 w1 hA' hE HF
  replace q0 := kn (HF 0) rfl q0
  replace q1 := kn (HF 1) rfl q1
  clear hA HF; have hA := hA'; clear hA'
  replace hB := Base.step hB hE hO; clear hE
  refine (li_nil ?_)
  refine (nx_then ?_)
  refine wp_seq ?_
  obtain ⟨x1, hx1, h⟩ := Comp.run_bind h
  obtain ⟨x2, hx2, h⟩ := Comp.run_bind h
  refine' region [_, _, SP.isv (.agg (cellsA (fun x => [.int .u8 x]) x1).toArray), SP.isv (.string (str x2)), _] mixed hA (.cons ?z2_0 (.cons ?z2_1 (.cons ?z2_2 (.cons ?z2_3 (.cons ?z2_4 .nil))))) ?zok2 ?zgd2 ?zk2
  case z2_0 => intro a' w' hE hK hg; exact ok_move (kn (hK 0 rfl) rfl q0)
  case z2_1 => intro a' w' hE hK hg; exact ok_move (kn (hK 1 rfl) rfl q1)
  case z2_2 => intro a' w' hE hK hg; have c_ := ok_digest_marked (OkO.ext hB.ok hE)  hx1; exact ok_call2 fn34 (ksv (j := 0) (hK 5 rfl) rfl rfl rfl) (ksv (j := 1) (hK 6 rfl) rfl rfl rfl) c_
  case z2_3 => intro a' w' hE hK hg; have c_ := ok_digest_digest_text (OkO.ext hB.ok hE)  hx2; exact ok_call1 fn31 (ksv (j := 2) (hK 7 rfl) rfl rfl rfl) c_
  case z2_4 => intro a' w' hE hK hg; exact ok_assign (ksv (j := 3) (hK 8 rfl) rfl rfl rfl)
  case zok2 => kernel_rfl
  case zgd2 => kernel_rfl
  intro a2 w2 hA' hE HF
  have q4 := ksv (HF 4) rfl rfl rfl
  clear q0
  clear q1
  clear hA HF; have hA := hA'; clear hA'
  replace hB := Base.step hB hE hO; clear hE
  refine (li_nil ?_)
  refine (nx_then ?_)
  refine (wp_ret ?_)
  have h := Comp.run_pure h; subst h
  exact retPure Try.results17 hA q4 hB.ext rfl

theorem ok_digest_Chain {O : Tags} {w0 : World} (hO : OkO O w0) {x_0 : Bytes} {x_1 : Bytes} {n : Nat} {y : Bytes} (h : (digest_Chain x_0 x_1).run n = some y) : Pure Try.prog 15 #[.string (str x_0), .string (str x_1)] w0 (SP.isv (.string (str y))).holds := by
  unfold digest_Chain at h
  refine pure_of_wp Try.func15 rfl 12 Try.ntmps15 (by simp) fun a0 hA hs0 => ?_
  have q0 := hs0 0 _ rfl
  have q1 := hs0 1 _ rfl
  clear hs0
  have hB : Base (Fr w0) O w0 O w0 := Base.start hO
  refine wp_seq ?_
  refine' region [_] mixed hA (.cons ?z1_0 .nil) ?zok1 ?zgd1 ?zk1
  case z1_0 => intro a' w' hE hK hg; exact ok_assign rfl
  case zok1 => kernel_rfl
  case zgd1 => kernel_rfl
  intro a1 w1 hA' hE HF
  replace q0 := kn (HF 0) rfl q0
  replace q1 := kn (HF 1) rfl q1
  clear hA HF; have hA := hA'; clear hA'
  replace hB := Base.step hB hE hO; clear hE
  refine (li_nil ?_)
  refine (nx_then ?_)
  refine wp_seq ?_
  obtain ⟨x1, hx1, h⟩ := Comp.run_bind h
  obtain ⟨x2, hx2, h⟩ := Comp.run_bind h
  obtain ⟨x3, hx3, h⟩ := Comp.run_bind h
  refine' region [_, SP.isv (.string (str x1)), _, _, SP.vl (rSl rStr) O [[4], x1, x_0, x_1], SP.isv (.agg (cellsA (fun x => [.int .u8 x]) x2).toArray), SP.isv (.string (str x3)), _] mixed hA (.cons ?z2_0 (.cons ?z2_1 (.cons ?z2_2 (.cons ?z2_3 (.cons ?z2_4 (.cons ?z2_5 (.cons ?z2_6 (.cons ?z2_7 .nil)))))))) ?zok2 ?zgd2 ?zk2
  case z2_0 => intro a' w' hE hK hg; exact ok_move (kn (hK 0 rfl) rfl q0)
  case z2_1 => intro a' w' hE hK hg; have c_ := ok_digest_length (OkO.ext hB.ok hE)  hx1; exact ok_call1 fn33 (ksv (j := 0) (hK 5 rfl) rfl rfl rfl) c_
  case z2_2 => intro a' w' hE hK hg; exact ok_move (kn (hK 0 rfl) rfl q0)
  case z2_3 => intro a' w' hE hK hg; exact ok_move (kn (hK 1 rfl) rfl q1)
  case z2_4 => intro a' w' hE hK hg; exact okl_buildSliceV (r := rStr) (fun _ => rfl) rfl (OkO.ext hB.ok hE) ty29 ty9 (parts_cons rfl (parts_cons (ksv (j := 1) (hK 6 rfl) rfl rfl rfl) (parts_cons (ksv (j := 2) (hK 7 rfl) rfl rfl rfl) (parts_cons (ksv (j := 3) (hK 8 rfl) rfl rfl rfl) parts_nil)))) ⟨(by first | exact rInt_v.2 rfl | exact rBool_v.2 rfl | exact rStr_v.2 rfl | exact rC_v.2 rfl | exact ⟨_, rfl, rfl⟩), ⟨(by first | exact rInt_v.2 rfl | exact rBool_v.2 rfl | exact rStr_v.2 rfl | exact rC_v.2 rfl | exact ⟨_, rfl, rfl⟩), ⟨(by first | exact rInt_v.2 rfl | exact rBool_v.2 rfl | exact rStr_v.2 rfl | exact rC_v.2 rfl | exact ⟨_, rfl, rfl⟩), ⟨(by first | exact rInt_v.2 rfl | exact rBool_v.2 rfl | exact rStr_v.2 rfl | exact rC_v.2 rfl | exact ⟨_, rfl, rfl⟩), trivial⟩⟩⟩⟩ rfl (by decide)
  case z2_5 => intro a' w' hE hK hg; have c_ := ok_digest_of (OkO.ext hB.ok hE) (kspS (φ := SP.vl (rSl rStr) O [[4], x1, x_0, x_1]) (j := 4) (hK 9 rfl) rfl rfl rfl) hx2; exact ok_call1 fn30 rfl c_
  case z2_6 => intro a' w' hE hK hg; have c_ := ok_digest_digest_text (OkO.ext hB.ok hE)  hx3; exact ok_call1 fn31 (ksv (j := 5) (hK 10 rfl) rfl rfl rfl) c_
  case z2_7 => intro a' w' hE hK hg; exact ok_assign (ksv (j := 6) (hK 11 rfl) rfl rfl rfl)
  case zok2 => kernel_rfl
  case zgd2 => kernel_rfl
  intro a2 w2 hA' hE HF
  have q4 := ksv (HF 4) rfl rfl rfl
  clear q0
  clear q1
  clear hA HF; have hA := hA'; clear hA'
  replace hB := Base.step hB hE hO; clear hE
  refine (li_nil ?_)
  refine (nx_then ?_)
  refine (wp_ret ?_)
  have h := Comp.run_pure h; subst h
  exact retPure Try.results15 hA q4 hB.ext rfl

theorem ok_digest_Check {O : Tags} {w0 : World} (hO : OkO O w0) {x_0 : Bytes} {x_1 : Bytes} {x_2 : Bytes} {n : Nat} {y : Bool} (h : (digest_Check x_0 x_1 x_2).run n = some y) : Pure Try.prog 18 #[.string (str x_0), .string (str x_1), .string (str x_2)] w0 (SP.isv (.bool y)).holds := by
  unfold digest_Check at h
  refine pure_of_wp Try.func18 rfl 24 Try.ntmps18 (by simp) fun a0 hA hs0 => ?_
  have q0 := hs0 0 _ rfl
  have q1 := hs0 1 _ rfl
  have q2 := hs0 2 _ rfl
  clear hs0
  have hB : Base (Fr w0) O w0 O w0 := Base.start hO
  refine wp_seq ?_
  refine' region [_] mixed hA (.cons ?z1_0 .nil) ?zok1 ?zgd1 ?zk1
  case z1_0 => intro a' w' hE hK hg; exact ok_assign rfl
  case zok1 => kernel_rfl
  case zgd1 => kernel_rfl
  intro a1 w1 hA' hE HF
  replace q0 := kn (HF 0) rfl q0
  replace q1 := kn (HF 1) rfl q1
  replace q2 := kn (HF 2) rfl q2
  clear hA HF; have hA := hA'; clear hA'
  replace hB := Base.step hB hE hO; clear hE
  refine (li_nil ?_)
  refine (nx_then ?_)
  refine wp_seq ?_
  obtain ⟨x1, hx1, h⟩ := Comp.run_bind h
  obtain ⟨x2, hx2, h⟩ := Comp.run_bind h
  refine' region [_, _, _, _, _, _, _, _, _, SP.vl (rSl (rInt .u8)) O (ofStr x_2), SP.ptrz (rVec 8 1 (fun x => [.int .u8 x]) (fun _ => rfl) (fun _ => by simp [Value.oneCell'])) O x1 (by decide) (by intro h; cases h), SP.isv (.agg (cellsA (fun x => [.int .u8 x]) x1).toArray), _, _, SP.isv (.agg (cellsA (fun x => [.int .u8 x]) x2).toArray), _, _, _] mixed hA (.cons ?z2_0 (.cons ?z2_1 (.cons ?z2_2 (.cons ?z2_3 (.cons ?z2_4 (.cons ?z2_5 (.cons ?z2_6 (.cons ?z2_7 (.cons ?z2_8 (.cons ?z2_9 (.cons ?z2_10 (.cons ?z2_11 (.cons ?z2_12 (.cons ?z2_13 (.cons ?z2_14 (.cons ?z2_15 (.cons ?z2_16 (.cons ?z2_17 .nil)))))))))))))))))) ?zok2 ?zgd2 ?zk2
  case z2_0 => intro a' w' hE hK hg; exact ok_move (kn (hK 0 rfl) rfl q0)
  case z2_1 => intro a' w' hE hK hg; exact okl_neqS (ksv (j := 0) (hK 7 rfl) rfl rfl rfl) rfl
  case z2_2 => intro a' w' hE hK hg; exact ok_move (ksv (j := 1) (hK 8 rfl) rfl rfl rfl)
  case z2_3 => intro a' w' hE hK hg; exact ok_move (kn (hK 2 rfl) rfl q2)
  case z2_4 => intro a' w' hE hK hg; exact okl_lenS ty9 (ksv (j := 3) (hK 10 rfl) rfl rfl hg)
  case z2_5 => intro a' w' hE hK hg; exact ok_eqlI (ksv (j := 4) (hK 11 rfl) rfl rfl hg) rfl
  case z2_6 => intro a' w' hE hK hg; exact ok_pick (ksv (j := 2) (hK 9 rfl) rfl rfl rfl) (fun hb => ksv (j := 5) (hK 12 rfl) rfl rfl (act_g1 rfl rfl hb)) (fun _ => rfl)
  case z2_7 => intro a' w' hE hK hg; exact ok_move (ksv (j := 6) (hK 13 rfl) rfl rfl rfl)
  case z2_8 => intro a' w' hE hK hg; exact ok_move (kn (hK 2 rfl) rfl q2)
  case z2_9 => intro a' w' hE hK hg; exact okl_strToBytes (OkO.ext hB.ok hE) ty9 ty40 ty5 (ksv (j := 8) (hK 15 rfl) rfl rfl hg)
  case z2_10 => intro a' w' hE hK hg; exact okl_arrAt (r := (rInt .u8)) (f := (fun x => [.int .u8 x])) (hl := (fun _ => rfl)) (ho := (fun _ => by simp [Value.oneCell'])) (fun _ => rfl) rfl (fun _ _ _ _ h => rInt_v.1 h) (fun _ _ _ => rfl) (by decide) (by decide) ty43 rfl (kspS (φ := SP.vl (rSl (rInt .u8)) O (ofStr x_2)) (j := 9) (hK 16 rfl) rfl rfl hg) (run_gdb hx1 hg)
  case z2_11 => intro a' w' hE hK hg; exact okl_ldr (rVec 8 1 (fun x => [.int .u8 x]) (fun _ => rfl) (fun _ => by simp [Value.oneCell'])) (by intro h; cases h) ty43 rfl rfl rfl (PtrZ.ptr (kspS (φ := SP.ptrz (rVec 8 1 (fun x => [.int .u8 x]) (fun _ => rfl) (fun _ => by simp [Value.oneCell'])) O x1 (by decide) (by intro h; cases h)) (j := 10) (hK 17 rfl) rfl rfl hg)) (fun _ _ _ h => rC_v.1 h)
  case z2_12 => intro a' w' hE hK hg; exact ok_move (kn (hK 0 rfl) rfl q0)
  case z2_13 => intro a' w' hE hK hg; exact ok_move (kn (hK 1 rfl) rfl q1)
  case z2_14 => intro a' w' hE hK hg; have c_ := ok_digest_marked (OkO.ext hB.ok hE)  (run_gdb hx2 hg); exact ok_call2 fn34 (ksv (j := 12) (hK 19 rfl) rfl rfl hg) (ksv (j := 13) (hK 20 rfl) rfl rfl hg) c_
  case z2_15 => intro a' w' hE hK hg; exact okl_eqlR (O1 := O) (O2 := O) (w1 := w1) (w2 := w1) (eqr_vec (f := (fun x => [.int .u8 x])) (hl := (fun _ => rfl)) (ho := (fun _ => by simp [Value.oneCell'])) ty43 ty5 rfl (eqr_int ty5) (fun _ _ _ => rfl)) rfl (by decide) (by kernel_rfl) (ksv (j := 11) (hK 18 rfl) rfl rfl hg) (ksv (j := 14) (hK 21 rfl) rfl rfl hg) (rC_v.2 rfl) (rC_v.2 rfl)
  case z2_16 => intro a' w' hE hK hg; exact ok_pick (ksv (j := 7) (hK 14 rfl) rfl rfl rfl) (fun hb => ksv (j := 15) (hK 22 rfl) rfl rfl (act_g1 rfl rfl hb)) (fun _ => rfl)
  case z2_17 => intro a' w' hE hK hg; exact ok_assign (ksv (j := 16) (hK 23 rfl) rfl rfl rfl)
  case zok2 => kernel_rfl
  case zgd2 => kernel_rfl
  intro a2 w2 hA' hE HF
  have q6 := ksv (HF 6) rfl rfl rfl
  clear q0
  clear q1
  clear q2
  clear hA HF; have hA := hA'; clear hA'
  replace hB := Base.step hB hE hO; clear hE
  obtain ⟨x3, hx_, h⟩ := Comp.run_bind h; replace hx_ := Comp.run_pure hx_; rw [hx_] at q6; clear hx_
  refine (li_nil ?_)
  refine (nx_then ?_)
  refine (wp_ret ?_)
  have h := Comp.run_pure h; subst h
  exact retPure Try.results18 hA q6 hB.ext rfl

theorem ok_digest_Leaf {O : Tags} {w0 : World} (hO : OkO O w0) {x_0 : Bytes} {n : Nat} {y : Bytes} (h : (digest_Leaf x_0).run n = some y) : Pure Try.prog 23 #[.string (str x_0)] w0 (SP.isv (.string (str y))).holds := by
  unfold digest_Leaf at h
  refine pure_of_wp Try.func23 rfl 7 Try.ntmps23 (by simp) fun a0 hA hs0 => ?_
  have q0 := hs0 0 _ rfl
  clear hs0
  have hB : Base (Fr w0) O w0 O w0 := Base.start hO
  refine wp_seq ?_
  refine' region [_] mixed hA (.cons ?z1_0 .nil) ?zok1 ?zgd1 ?zk1
  case z1_0 => intro a' w' hE hK hg; exact ok_assign rfl
  case zok1 => kernel_rfl
  case zgd1 => kernel_rfl
  intro a1 w1 hA' hE HF
  replace q0 := kn (HF 0) rfl q0
  clear hA HF; have hA := hA'; clear hA'
  replace hB := Base.step hB hE hO; clear hE
  refine (li_nil ?_)
  refine (nx_then ?_)
  refine wp_seq ?_
  obtain ⟨x1, hx1, h⟩ := Comp.run_bind h
  obtain ⟨x2, hx2, h⟩ := Comp.run_bind h
  refine' region [_, SP.vl (rSl rStr) O [[1], x_0], SP.isv (.agg (cellsA (fun x => [.int .u8 x]) x1).toArray), SP.isv (.string (str x2)), _] mixed hA (.cons ?z2_0 (.cons ?z2_1 (.cons ?z2_2 (.cons ?z2_3 (.cons ?z2_4 .nil))))) ?zok2 ?zgd2 ?zk2
  case z2_0 => intro a' w' hE hK hg; exact ok_move (kn (hK 0 rfl) rfl q0)
  case z2_1 => intro a' w' hE hK hg; exact okl_buildSliceV (r := rStr) (fun _ => rfl) rfl (OkO.ext hB.ok hE) ty29 ty9 (parts_cons rfl (parts_cons (ksv (j := 0) (hK 3 rfl) rfl rfl rfl) parts_nil)) ⟨(by first | exact rInt_v.2 rfl | exact rBool_v.2 rfl | exact rStr_v.2 rfl | exact rC_v.2 rfl | exact ⟨_, rfl, rfl⟩), ⟨(by first | exact rInt_v.2 rfl | exact rBool_v.2 rfl | exact rStr_v.2 rfl | exact rC_v.2 rfl | exact ⟨_, rfl, rfl⟩), trivial⟩⟩ rfl (by decide)
  case z2_2 => intro a' w' hE hK hg; have c_ := ok_digest_of (OkO.ext hB.ok hE) (kspS (φ := SP.vl (rSl rStr) O [[1], x_0]) (j := 1) (hK 4 rfl) rfl rfl rfl) hx1; exact ok_call1 fn30 rfl c_
  case z2_3 => intro a' w' hE hK hg; have c_ := ok_digest_digest_text (OkO.ext hB.ok hE)  hx2; exact ok_call1 fn31 (ksv (j := 2) (hK 5 rfl) rfl rfl rfl) c_
  case z2_4 => intro a' w' hE hK hg; exact ok_assign (ksv (j := 3) (hK 6 rfl) rfl rfl rfl)
  case zok2 => kernel_rfl
  case zgd2 => kernel_rfl
  intro a2 w2 hA' hE HF
  have q2 := ksv (HF 2) rfl rfl rfl
  clear q0
  clear hA HF; have hA := hA'; clear hA'
  replace hB := Base.step hB hE hO; clear hE
  refine (li_nil ?_)
  refine (nx_then ?_)
  refine (wp_ret ?_)
  have h := Comp.run_pure h; subst h
  exact retPure Try.results23 hA q2 hB.ext rfl

theorem ok_digest_Inner {O : Tags} {w0 : World} (hO : OkO O w0) {x_0 : Bytes} {x_1 : Bytes} {n : Nat} {y : Bytes} (h : (digest_Inner x_0 x_1).run n = some y) : Pure Try.prog 25 #[.string (str x_0), .string (str x_1)] w0 (SP.isv (.string (str y))).holds := by
  unfold digest_Inner at h
  refine pure_of_wp Try.func25 rfl 10 Try.ntmps25 (by simp) fun a0 hA hs0 => ?_
  have q0 := hs0 0 _ rfl
  have q1 := hs0 1 _ rfl
  clear hs0
  have hB : Base (Fr w0) O w0 O w0 := Base.start hO
  refine wp_seq ?_
  refine' region [_] mixed hA (.cons ?z1_0 .nil) ?zok1 ?zgd1 ?zk1
  case z1_0 => intro a' w' hE hK hg; exact ok_assign rfl
  case zok1 => kernel_rfl
  case zgd1 => kernel_rfl
  intro a1 w1 hA' hE HF
  replace q0 := kn (HF 0) rfl q0
  replace q1 := kn (HF 1) rfl q1
  clear hA HF; have hA := hA'; clear hA'
  replace hB := Base.step hB hE hO; clear hE
  refine (li_nil ?_)
  refine (nx_then ?_)
  refine wp_seq ?_
  obtain ⟨x1, hx1, h⟩ := Comp.run_bind h
  obtain ⟨x2, hx2, h⟩ := Comp.run_bind h
  refine' region [_, _, SP.vl (rSl rStr) O [[2], x_0, x_1], SP.isv (.agg (cellsA (fun x => [.int .u8 x]) x1).toArray), SP.isv (.string (str x2)), _] mixed hA (.cons ?z2_0 (.cons ?z2_1 (.cons ?z2_2 (.cons ?z2_3 (.cons ?z2_4 (.cons ?z2_5 .nil)))))) ?zok2 ?zgd2 ?zk2
  case z2_0 => intro a' w' hE hK hg; exact ok_move (kn (hK 0 rfl) rfl q0)
  case z2_1 => intro a' w' hE hK hg; exact ok_move (kn (hK 1 rfl) rfl q1)
  case z2_2 => intro a' w' hE hK hg; exact okl_buildSliceV (r := rStr) (fun _ => rfl) rfl (OkO.ext hB.ok hE) ty29 ty9 (parts_cons rfl (parts_cons (ksv (j := 0) (hK 5 rfl) rfl rfl rfl) (parts_cons (ksv (j := 1) (hK 6 rfl) rfl rfl rfl) parts_nil))) ⟨(by first | exact rInt_v.2 rfl | exact rBool_v.2 rfl | exact rStr_v.2 rfl | exact rC_v.2 rfl | exact ⟨_, rfl, rfl⟩), ⟨(by first | exact rInt_v.2 rfl | exact rBool_v.2 rfl | exact rStr_v.2 rfl | exact rC_v.2 rfl | exact ⟨_, rfl, rfl⟩), ⟨(by first | exact rInt_v.2 rfl | exact rBool_v.2 rfl | exact rStr_v.2 rfl | exact rC_v.2 rfl | exact ⟨_, rfl, rfl⟩), trivial⟩⟩⟩ rfl (by decide)
  case z2_3 => intro a' w' hE hK hg; have c_ := ok_digest_of (OkO.ext hB.ok hE) (kspS (φ := SP.vl (rSl rStr) O [[2], x_0, x_1]) (j := 2) (hK 7 rfl) rfl rfl rfl) hx1; exact ok_call1 fn30 rfl c_
  case z2_4 => intro a' w' hE hK hg; have c_ := ok_digest_digest_text (OkO.ext hB.ok hE)  hx2; exact ok_call1 fn31 (ksv (j := 3) (hK 8 rfl) rfl rfl rfl) c_
  case z2_5 => intro a' w' hE hK hg; exact ok_assign (ksv (j := 4) (hK 9 rfl) rfl rfl rfl)
  case zok2 => kernel_rfl
  case zgd2 => kernel_rfl
  intro a2 w2 hA' hE HF
  have q4 := ksv (HF 4) rfl rfl rfl
  clear q0
  clear q1
  clear hA HF; have hA := hA'; clear hA'
  replace hB := Base.step hB hE hO; clear hE
  refine (li_nil ?_)
  refine (nx_then ?_)
  refine (wp_ret ?_)
  have h := Comp.run_pure h; subst h
  exact retPure Try.results25 hA q4 hB.ext rfl

theorem ok_digest_Missing {O : Tags} {w0 : World} (hO : OkO O w0)  {n : Nat} {y : Bytes} (h : (digest_Missing).run n = some y) : Pure Try.prog 27 #[] w0 (SP.isv (.string (str y))).holds := by
  unfold digest_Missing at h
  refine pure_of_wp Try.func27 rfl 4 Try.ntmps27 (by simp) fun a0 hA hs0 => ?_
  clear hs0
  have hB : Base (Fr w0) O w0 O w0 := Base.start hO
  refine wp_seq ?_
  refine' region [_] mixed hA (.cons ?z1_0 .nil) ?zok1 ?zgd1 ?zk1
  case z1_0 => intro a' w' hE hK hg; exact ok_assign rfl
  case zok1 => kernel_rfl
  case zgd1 => kernel_rfl
  intro a1 w1 hA' hE HF
  clear hA HF; have hA := hA'; clear hA'
  replace hB := Base.step hB hE hO; clear hE
  refine (li_nil ?_)
  refine (nx_then ?_)
  refine wp_seq ?_
  obtain ⟨x1, hx1, h⟩ := Comp.run_bind h
  obtain ⟨x2, hx2, h⟩ := Comp.run_bind h
  refine' region [SP.vl (rSl rStr) O [[3]], SP.isv (.agg (cellsA (fun x => [.int .u8 x]) x1).toArray), SP.isv (.string (str x2)), _] mixed hA (.cons ?z2_0 (.cons ?z2_1 (.cons ?z2_2 (.cons ?z2_3 .nil)))) ?zok2 ?zgd2 ?zk2
  case z2_0 => intro a' w' hE hK hg; exact okl_buildSliceV (r := rStr) (fun _ => rfl) rfl (OkO.ext hB.ok hE) ty29 ty9 (parts_cons rfl parts_nil) ⟨(by first | exact rInt_v.2 rfl | exact rBool_v.2 rfl | exact rStr_v.2 rfl | exact rC_v.2 rfl | exact ⟨_, rfl, rfl⟩), trivial⟩ rfl (by decide)
  case z2_1 => intro a' w' hE hK hg; have c_ := ok_digest_of (OkO.ext hB.ok hE) (kspS (φ := SP.vl (rSl rStr) O [[3]]) (j := 0) (hK 1 rfl) rfl rfl rfl) hx1; exact ok_call1 fn30 rfl c_
  case z2_2 => intro a' w' hE hK hg; have c_ := ok_digest_digest_text (OkO.ext hB.ok hE)  hx2; exact ok_call1 fn31 (ksv (j := 1) (hK 2 rfl) rfl rfl rfl) c_
  case z2_3 => intro a' w' hE hK hg; exact ok_assign (ksv (j := 2) (hK 3 rfl) rfl rfl rfl)
  case zok2 => kernel_rfl
  case zgd2 => kernel_rfl
  intro a2 w2 hA' hE HF
  have q0 := ksv (HF 0) rfl rfl rfl
  clear hA HF; have hA := hA'; clear hA'
  replace hB := Base.step hB hE hO; clear hE
  refine (li_nil ?_)
  refine (nx_then ?_)
  refine (wp_ret ?_)
  have h := Comp.run_pure h; subst h
  exact retPure Try.results27 hA q0 hB.ext rfl

theorem ok_colletlaw02_sanity {O : Tags} {w0 : World} (hO : OkO O w0)  {n : Nat} {y : Bool} (h : (colletlaw02_sanity).run n = some y) : Pure Try.prog 9 #[] w0 (SP.isv (.bool y)).holds := by
  unfold colletlaw02_sanity at h
  refine pure_of_wp Try.func9 rfl 86 Try.ntmps9 (by simp) fun a0 hA hs0 => ?_
  clear hs0
  have hB : Base (Fr w0) O w0 O w0 := Base.start hO
  refine wp_seq ?_
  refine' region [_] mixed hA (.cons ?z1_0 .nil) ?zok1 ?zgd1 ?zk1
  case z1_0 => intro a' w' hE hK hg; exact ok_assign rfl
  case zok1 => kernel_rfl
  case zgd1 => kernel_rfl
  intro a1 w1 hA' hE HF
  clear hA HF; have hA := hA'; clear hA'
  replace hB := Base.step hB hE hO; clear hE
  refine (li_nil ?_)
  refine (nx_then ?_)
  refine wp_seq ?_
  obtain ⟨x1, hx1, h⟩ := Comp.run_bind h
  obtain ⟨x2, hx2, h⟩ := Comp.run_bind h
  obtain ⟨x3, hx3, h⟩ := Comp.run_bind h
  obtain ⟨x4, hx4, h⟩ := Comp.run_bind h
  refine' region [SP.isv (.string (str x1)), SP.isv (.string (str x2)), SP.isv (.string (str x3)), SP.isv (.string (str x4)), _, _, _, _] mixed hA (.cons ?z2_0 (.cons ?z2_1 (.cons ?z2_2 (.cons ?z2_3 (.cons ?z2_4 (.cons ?z2_5 (.cons ?z2_6 (.cons ?z2_7 .nil)))))))) ?zok2 ?zgd2 ?zk2
  case z2_0 => intro a' w' hE hK hg; have c_ := ok_digest_Of (OkO.ext hB.ok hE)  hx1; exact ok_call1 fn13 rfl c_
  case z2_1 => intro a' w' hE hK hg; have c_ := ok_digest_Of (OkO.ext hB.ok hE)  hx2; exact ok_call1 fn13 rfl c_
  case z2_2 => intro a' w' hE hK hg; have c_ := ok_digest_Of (OkO.ext hB.ok hE)  hx3; exact ok_call1 fn13 rfl c_
  case z2_3 => intro a' w' hE hK hg; have c_ := ok_digest_Of (OkO.ext hB.ok hE)  hx4; exact ok_call1 fn13 rfl c_
  case z2_4 => intro a' w' hE hK hg; exact ok_assign (ksv (j := 0) (hK 9 rfl) rfl rfl rfl)
  case z2_5 => intro a' w' hE hK hg; exact ok_assign (ksv (j := 1) (hK 10 rfl) rfl rfl rfl)
  case z2_6 => intro a' w' hE hK hg; exact ok_assign (ksv (j := 2) (hK 11 rfl) rfl rfl rfl)
  case z2_7 => intro a' w' hE hK hg; exact ok_assign (ksv (j := 3) (hK 12 rfl) rfl rfl rfl)
  case zok2 => kernel_rfl
  case zgd2 => kernel_rfl
  intro a2 w2 hA' hE HF
  have q1 := ksv (HF 1) rfl rfl rfl
  have q2 := ksv (HF 2) rfl rfl rfl
  have q3 := ksv (HF 3) rfl rfl rfl
  have q4 := ksv (HF 4) rfl rfl rfl
  clear hA HF; have hA := hA'; clear hA'
  replace hB := Base.step hB hE hO; clear hE
  refine (li_nil ?_)
  refine (nx_then ?_)
  refine wp_seq ?_
  obtain ⟨x5, hx5, h⟩ := Comp.run_bind h
  refine' region [SP.isv (.string (str x5)), _] mixed hA (.cons ?z3_0 (.cons ?z3_1 .nil)) ?zok3 ?zgd3 ?zk3
  case z3_0 => intro a' w' hE hK hg; have c_ := ok_digest_Mark (OkO.ext hB.ok hE)  hx5; exact ok_call2 fn17 rfl rfl c_
  case z3_1 => intro a' w' hE hK hg; exact ok_assign (ksv (j := 0) (hK 13 rfl) rfl rfl rfl)
  case zok3 => kernel_rfl
  case zgd3 => kernel_rfl
  intro a3 w3 hA' hE HF
  replace q1 := kn (HF 1) rfl q1
  replace q2 := kn (HF 2) rfl q2
  replace q3 := kn (HF 3) rfl q3
  replace q4 := kn (HF 4) rfl q4
  have q5 := ksv (HF 5) rfl rfl rfl
  clear hA HF; have hA := hA'; clear hA'
  replace hB := Base.step hB hE hO; clear hE
  refine (li_nil ?_)
  refine (nx_then ?_)
  refine wp_seq ?_
  obtain ⟨x6, hx6, h⟩ := Comp.run_bind h
  obtain ⟨x7, hx7, h⟩ := Comp.run_bind h
  obtain ⟨x8, hx8, h⟩ := Comp.run_bind h
  obtain ⟨x9, hx9, h⟩ := Comp.run_bind h
  refine' region [SP.isv (.string (str x6)), _, _, SP.isv (.string (str x7)), _, _, _, SP.isv (.string (str x8)), SP.isv (.string (str x9)), _, _, _] mixed hA (.cons ?z4_0 (.cons ?z4_1 (.cons ?z4_2 (.cons ?z4_3 (.cons ?z4_4 (.cons ?z4_5 (.cons ?z4_6 (.cons ?z4_7 (.cons ?z4_8 (.cons ?z4_9 (.cons ?z4_10 (.cons ?z4_11 .nil)))))))))))) ?zok4 ?zgd4 ?zk4
  case z4_0 => intro a' w' hE hK hg; have c_ := ok_digest_Of (OkO.ext hB.ok hE)  hx6; exact ok_call1 fn13 rfl c_
  case z4_1 => intro a' w' hE hK hg; exact okl_eqlS (ksv (j := 0) (hK 14 rfl) rfl rfl rfl) rfl
  case z4_2 => intro a' w' hE hK hg; exact ok_move (ksv (j := 1) (hK 15 rfl) rfl rfl rfl)
  case z4_3 => intro a' w' hE hK hg; have c_ := ok_digest_Of (OkO.ext hB.ok hE)  (run_gdb hx7 hg); exact ok_call1 fn13 rfl c_
  case z4_4 => intro a' w' hE hK hg; exact okl_eqlS (ksv (j := 3) (hK 17 rfl) rfl rfl hg) rfl
  case z4_5 => intro a' w' hE hK hg; exact ok_pick (ksv (j := 2) (hK 16 rfl) rfl rfl rfl) (fun hb => ksv (j := 4) (hK 18 rfl) rfl rfl (act_g1 rfl rfl hb)) (fun _ => rfl)
  case z4_6 => intro a' w' hE hK hg; exact ok_move (ksv (j := 5) (hK 19 rfl) rfl rfl rfl)
  case z4_7 => intro a' w' hE hK hg; have c_ := ok_digest_Chain (OkO.ext hB.ok hE)  (run_gdb hx8 hg); exact ok_call2 fn15 rfl rfl c_
  case z4_8 => intro a' w' hE hK hg; have c_ := ok_digest_Of (OkO.ext hB.ok hE)  (run_gdb hx9 hg); exact ok_call1 fn13 rfl c_
  case z4_9 => intro a' w' hE hK hg; exact okl_eqlS (ksv (j := 7) (hK 21 rfl) rfl rfl hg) (ksv (j := 8) (hK 22 rfl) rfl rfl hg)
  case z4_10 => intro a' w' hE hK hg; exact ok_pick (ksv (j := 6) (hK 20 rfl) rfl rfl rfl) (fun hb => ksv (j := 9) (hK 23 rfl) rfl rfl (act_g1 rfl rfl hb)) (fun _ => rfl)
  case z4_11 => intro a' w' hE hK hg; exact ok_assign (ksv (j := 10) (hK 24 rfl) rfl rfl rfl)
  case zok4 => kernel_rfl
  case zgd4 => kernel_rfl
  intro a4 w4 hA' hE HF
  replace q1 := kn (HF 1) rfl q1
  replace q2 := kn (HF 2) rfl q2
  replace q3 := kn (HF 3) rfl q3
  replace q4 := kn (HF 4) rfl q4
  replace q5 := kn (HF 5) rfl q5
  have q6 := ksv (HF 6) rfl rfl rfl
  clear hA HF; have hA := hA'; clear hA'
  replace hB := Base.step hB hE hO; clear hE
  obtain ⟨x10, hx_, h⟩ := Comp.run_bind h; replace hx_ := Comp.run_pure hx_; rw [hx_] at q6; clear hx_
  refine (li_nil ?_)
  refine (nx_then ?_)
  refine wp_seq ?_
  obtain ⟨x11, hx11, h⟩ := Comp.run_bind h
  obtain ⟨x12, hx12, h⟩ := Comp.run_bind h
  obtain ⟨x13, hx13, h⟩ := Comp.run_bind h
  obtain ⟨x14, hx14, h⟩ := Comp.run_bind h
  refine' region [_, SP.isv (.string (str x11)), _, _, _, SP.isv (.bool x12), _, _, SP.isv (.string (str x13)), SP.isv (.bool x14), _, _, _] mixed hA (.cons ?z5_0 (.cons ?z5_1 (.cons ?z5_2 (.cons ?z5_3 (.cons ?z5_4 (.cons ?z5_5 (.cons ?z5_6 (.cons ?z5_7 (.cons ?z5_8 (.cons ?z5_9 (.cons ?z5_10 (.cons ?z5_11 (.cons ?z5_12 .nil))))))))))))) ?zok5 ?zgd5 ?zk5
  case z5_0 => intro a' w' hE hK hg; exact ok_move (kn (hK 5 rfl) rfl q5)
  case z5_1 => intro a' w' hE hK hg; have c_ := ok_digest_Of (OkO.ext hB.ok hE)  hx11; exact ok_call1 fn13 rfl c_
  case z5_2 => intro a' w' hE hK hg; exact okl_eqlS (ksv (j := 0) (hK 25 rfl) rfl rfl rfl) (ksv (j := 1) (hK 26 rfl) rfl rfl rfl)
  case z5_3 => intro a' w' hE hK hg; exact ok_move (ksv (j := 2) (hK 27 rfl) rfl rfl rfl)
  case z5_4 => intro a' w' hE hK hg; exact ok_move (kn (hK 5 rfl) rfl q5)
  case z5_5 => intro a' w' hE hK hg; have c_ := ok_digest_Check (OkO.ext hB.ok hE)  (run_gdb hx12 hg); exact ok_call3 fn18 rfl rfl (ksv (j := 4) (hK 29 rfl) rfl rfl hg) c_
  case z5_6 => intro a' w' hE hK hg; exact ok_pick (ksv (j := 3) (hK 28 rfl) rfl rfl rfl) (fun hb => ksv (j := 5) (hK 30 rfl) rfl rfl (act_g1 rfl rfl hb)) (fun _ => rfl)
  case z5_7 => intro a' w' hE hK hg; exact ok_move (ksv (j := 6) (hK 31 rfl) rfl rfl rfl)
  case z5_8 => intro a' w' hE hK hg; have c_ := ok_digest_Mark (OkO.ext hB.ok hE)  (run_gdb hx13 hg); exact ok_call2 fn17 rfl rfl c_
  case z5_9 => intro a' w' hE hK hg; have c_ := ok_digest_Check (OkO.ext hB.ok hE)  (run_gdb hx14 hg); exact ok_call3 fn18 rfl rfl (ksv (j := 8) (hK 33 rfl) rfl rfl hg) c_
  case z5_10 => intro a' w' hE hK hg; exact ok_not (ksv (j := 9) (hK 34 rfl) rfl rfl hg)
  case z5_11 => intro a' w' hE hK hg; exact ok_pick (ksv (j := 7) (hK 32 rfl) rfl rfl rfl) (fun hb => ksv (j := 10) (hK 35 rfl) rfl rfl (act_g1 rfl rfl hb)) (fun _ => rfl)
  case z5_12 => intro a' w' hE hK hg; exact ok_assign (ksv (j := 11) (hK 36 rfl) rfl rfl rfl)
  case zok5 => kernel_rfl
  case zgd5 => kernel_rfl
  intro a5 w5 hA' hE HF
  replace q1 := kn (HF 1) rfl q1
  replace q2 := kn (HF 2) rfl q2
  replace q3 := kn (HF 3) rfl q3
  replace q4 := kn (HF 4) rfl q4
  replace q6 := kn (HF 6) rfl q6
  have q7 := ksv (HF 7) rfl rfl rfl
  clear q5
  clear hA HF; have hA := hA'; clear hA'
  replace hB := Base.step hB hE hO; clear hE
  obtain ⟨x15, hx_, h⟩ := Comp.run_bind h; replace hx_ := Comp.run_pure hx_; rw [hx_] at q7; clear hx_
  refine (li_nil ?_)
  refine (nx_then ?_)
  refine wp_seq ?_
  obtain ⟨x16, hx16, h⟩ := Comp.run_bind h
  obtain ⟨x17, hx17, h⟩ := Comp.run_bind h
  obtain ⟨x18, hx18, h⟩ := Comp.run_bind h
  obtain ⟨x19, hx19, h⟩ := Comp.run_bind h
  obtain ⟨x20, hx20, h⟩ := Comp.run_bind h
  obtain ⟨x21, hx21, h⟩ := Comp.run_bind h
  refine' region [SP.isv (.string (str x16)), _, _, _, SP.isv (.string (str x17)), SP.isv (.string (str x18)), _, _, _, SP.isv (.string (str x19)), _, _, _, _, SP.isv (.string (str x20)), _, _, _, _, SP.vl (rSl rStr) O [[97]], SP.isv (.string (str x21)), _, _, _, _] mixed hA (.cons ?z6_0 (.cons ?z6_1 (.cons ?z6_2 (.cons ?z6_3 (.cons ?z6_4 (.cons ?z6_5 (.cons ?z6_6 (.cons ?z6_7 (.cons ?z6_8 (.cons ?z6_9 (.cons ?z6_10 (.cons ?z6_11 (.cons ?z6_12 (.cons ?z6_13 (.cons ?z6_14 (.cons ?z6_15 (.cons ?z6_16 (.cons ?z6_17 (.cons ?z6_18 (.cons ?z6_19 (.cons ?z6_20 (.cons ?z6_21 (.cons ?z6_22 (.cons ?z6_23 (.cons ?z6_24 .nil))))))))))))))))))))))))) ?zok6 ?zgd6 ?zk6
  case z6_0 => intro a' w' hE hK hg; have c_ := ok_digest_Leaf (OkO.ext hB.ok hE)  hx16; exact ok_call1 fn23 rfl c_
  case z6_1 => intro a' w' hE hK hg; exact ok_move (kn (hK 1 rfl) rfl q1)
  case z6_2 => intro a' w' hE hK hg; exact okl_eqlS (ksv (j := 0) (hK 37 rfl) rfl rfl rfl) (ksv (j := 1) (hK 38 rfl) rfl rfl rfl)
  case z6_3 => intro a' w' hE hK hg; exact ok_move (ksv (j := 2) (hK 39 rfl) rfl rfl rfl)
  case z6_4 => intro a' w' hE hK hg; have c_ := ok_digest_Inner (OkO.ext hB.ok hE)  (run_gdb hx17 hg); exact ok_call2 fn25 rfl rfl c_
  case z6_5 => intro a' w' hE hK hg; have c_ := ok_digest_Of (OkO.ext hB.ok hE)  (run_gdb hx18 hg); exact ok_call1 fn13 rfl c_
  case z6_6 => intro a' w' hE hK hg; exact okl_eqlS (ksv (j := 4) (hK 41 rfl) rfl rfl hg) (ksv (j := 5) (hK 42 rfl) rfl rfl hg)
  case z6_7 => intro a' w' hE hK hg; exact ok_pick (ksv (j := 3) (hK 40 rfl) rfl rfl rfl) (fun hb => ksv (j := 6) (hK 43 rfl) rfl rfl (act_g1 rfl rfl hb)) (fun _ => rfl)
  case z6_8 => intro a' w' hE hK hg; exact ok_move (ksv (j := 7) (hK 44 rfl) rfl rfl rfl)
  case z6_9 => intro a' w' hE hK hg; have c_ := ok_digest_Missing (OkO.ext hB.ok hE)  (run_gdb hx19 hg); exact ok_call0 fn27  c_
  case z6_10 => intro a' w' hE hK hg; exact ok_move (kn (hK 4 rfl) rfl q4)
  case z6_11 => intro a' w' hE hK hg; exact okl_eqlS (ksv (j := 9) (hK 46 rfl) rfl rfl hg) (ksv (j := 10) (hK 47 rfl) rfl rfl hg)
  case z6_12 => intro a' w' hE hK hg; exact ok_pick (ksv (j := 8) (hK 45 rfl) rfl rfl rfl) (fun hb => ksv (j := 11) (hK 48 rfl) rfl rfl (act_g1 rfl rfl hb)) (fun _ => rfl)
  case z6_13 => intro a' w' hE hK hg; exact ok_move (ksv (j := 12) (hK 49 rfl) rfl rfl rfl)
  case z6_14 => intro a' w' hE hK hg; have c_ := m_root dRoot (OkO.ext hB.ok hE) (rSl_nil _ _ _ 0) (run_gdb hx20 hg); exact ok_call1 fn21 rfl c_
  case z6_15 => intro a' w' hE hK hg; exact ok_move (kn (hK 4 rfl) rfl q4)
  case z6_16 => intro a' w' hE hK hg; exact okl_eqlS (ksv (j := 14) (hK 51 rfl) rfl rfl hg) (ksv (j := 15) (hK 52 rfl) rfl rfl hg)
  case z6_17 => intro a' w' hE hK hg; exact ok_pick (ksv (j := 13) (hK 50 rfl) rfl rfl rfl) (fun hb => ksv (j := 16) (hK 53 rfl) rfl rfl (act_g1 rfl rfl hb)) (fun _ => rfl)
  case z6_18 => intro a' w' hE hK hg; exact ok_move (ksv (j := 17) (hK 54 rfl) rfl rfl rfl)
  case z6_19 => intro a' w' hE hK hg; exact okl_buildSliceV (r := rStr) (fun _ => rfl) rfl (OkO.ext hB.ok hE) ty29 ty9 (parts_cons rfl parts_nil) ⟨(by first | exact rInt_v.2 rfl | exact rBool_v.2 rfl | exact rStr_v.2 rfl | exact rC_v.2 rfl | exact ⟨_, rfl, rfl⟩), trivial⟩ rfl (by decide)
  case z6_20 => intro a' w' hE hK hg; have c_ := m_root dRoot (OkO.ext hB.ok hE) (kspS (φ := SP.vl (rSl rStr) O [[97]]) (j := 19) (hK 56 rfl) rfl rfl hg) (run_gdb hx21 hg); exact ok_call1 fn21 rfl c_
  case z6_21 => intro a' w' hE hK hg; exact ok_move (kn (hK 1 rfl) rfl q1)
  case z6_22 => intro a' w' hE hK hg; exact okl_eqlS (ksv (j := 20) (hK 57 rfl) rfl rfl hg) (ksv (j := 21) (hK 58 rfl) rfl rfl hg)
  case z6_23 => intro a' w' hE hK hg; exact ok_pick (ksv (j := 18) (hK 55 rfl) rfl rfl rfl) (fun hb => ksv (j := 22) (hK 59 rfl) rfl rfl (act_g1 rfl rfl hb)) (fun _ => rfl)
  case z6_24 => intro a' w' hE hK hg; exact ok_assign (ksv (j := 23) (hK 60 rfl) rfl rfl rfl)
  case zok6 => kernel_rfl
  case zgd6 => kernel_rfl
  intro a6 w6 hA' hE HF
  replace q1 := kn (HF 1) rfl q1
  replace q2 := kn (HF 2) rfl q2
  replace q3 := kn (HF 3) rfl q3
  replace q4 := kn (HF 4) rfl q4
  replace q6 := kn (HF 6) rfl q6
  replace q7 := kn (HF 7) rfl q7
  have q8 := ksv (HF 8) rfl rfl rfl
  clear hA HF; have hA := hA'; clear hA'
  replace hB := Base.step hB hE hO; clear hE
  obtain ⟨x22, hx_, h⟩ := Comp.run_bind h; replace hx_ := Comp.run_pure hx_; rw [hx_] at q8; clear hx_
  refine (li_nil ?_)
  refine (nx_then ?_)
  refine wp_seq ?_
  obtain ⟨x23, hx23, h⟩ := Comp.run_bind h
  obtain ⟨x24, hx24, h⟩ := Comp.run_bind h
  obtain ⟨x25, hx25, h⟩ := Comp.run_bind h
  obtain ⟨x26, hx26, h⟩ := Comp.run_bind h
  obtain ⟨x27, hx27, h⟩ := Comp.run_bind h
  obtain ⟨x28, hx28, h⟩ := Comp.run_bind h
  obtain ⟨x29, hx29, h⟩ := Comp.run_bind h
  obtain ⟨x30, hx30, h⟩ := Comp.run_bind h
  obtain ⟨x31, hx31, h⟩ := Comp.run_bind h
  obtain ⟨x32, hx32, h⟩ := Comp.run_bind h
  refine' region [_, _, _, _, _, _, _, _, SP.vl (rSl rStr) O [[97], [98], [99]], SP.isv (.string (str x23)), _, SP.isv (.string (str x24)), _, SP.isv (.string (str x25)), SP.isv (.string (str x26)), SP.isv (.string (str x27)), _, SP.isv (.string (str x28)), _, SP.isv (.string (str x29)), SP.isv (.string (str x30)), SP.isv (.string (str x31)), SP.isv (.string (str x32)), _, _, _] mixed hA (.cons ?z7_0 (.cons ?z7_1 (.cons ?z7_2 (.cons ?z7_3 (.cons ?z7_4 (.cons ?z7_5 (.cons ?z7_6 (.cons ?z7_7 (.cons ?z7_8 (.cons ?z7_9 (.cons ?z7_10 (.cons ?z7_11 (.cons ?z7_12 (.cons ?z7_13 (.cons ?z7_14 (.cons ?z7_15 (.cons ?z7_16 (.cons ?z7_17 (.cons ?z7_18 (.cons ?z7_19 (.cons ?z7_20 (.cons ?z7_21 (.cons ?z7_22 (.cons ?z7_23 (.cons ?z7_24 (.cons ?z7_25 .nil)))))))))))))))))))))))))) ?zok7 ?zgd7 ?zk7
  case z7_0 => intro a' w' hE hK hg; exact ok_move (kn (hK 6 rfl) rfl q6)
  case z7_1 => intro a' w' hE hK hg; exact ok_move (ksv (j := 0) (hK 61 rfl) rfl rfl rfl)
  case z7_2 => intro a' w' hE hK hg; exact ok_move (kn (hK 7 rfl) rfl q7)
  case z7_3 => intro a' w' hE hK hg; exact ok_pick (ksv (j := 1) (hK 62 rfl) rfl rfl rfl) (fun hb => ksv (j := 2) (hK 63 rfl) rfl rfl (act_g1 rfl rfl hb)) (fun _ => rfl)
  case z7_4 => intro a' w' hE hK hg; exact ok_move (ksv (j := 3) (hK 64 rfl) rfl rfl rfl)
  case z7_5 => intro a' w' hE hK hg; exact ok_move (kn (hK 8 rfl) rfl q8)
  case z7_6 => intro a' w' hE hK hg; exact ok_pick (ksv (j := 4) (hK 65 rfl) rfl rfl rfl) (fun hb => ksv (j := 5) (hK 66 rfl) rfl rfl (act_g1 rfl rfl hb)) (fun _ => rfl)
  case z7_7 => intro a' w' hE hK hg; exact ok_move (ksv (j := 6) (hK 67 rfl) rfl rfl rfl)
  case z7_8 => intro a' w' hE hK hg; exact okl_buildSliceV (r := rStr) (fun _ => rfl) rfl (OkO.ext hB.ok hE) ty29 ty9 (parts_cons rfl (parts_cons rfl (parts_cons rfl parts_nil))) ⟨(by first | exact rInt_v.2 rfl | exact rBool_v.2 rfl | exact rStr_v.2 rfl | exact rC_v.2 rfl | exact ⟨_, rfl, rfl⟩), ⟨(by first | exact rInt_v.2 rfl | exact rBool_v.2 rfl | exact rStr_v.2 rfl | exact rC_v.2 rfl | exact ⟨_, rfl, rfl⟩), ⟨(by first | exact rInt_v.2 rfl | exact rBool_v.2 rfl | exact rStr_v.2 rfl | exact rC_v.2 rfl | exact ⟨_, rfl, rfl⟩), trivial⟩⟩⟩ rfl (by decide)
  case z7_9 => intro a' w' hE hK hg; have c_ := m_root dRoot (OkO.ext hB.ok hE) (kspS (φ := SP.vl (rSl rStr) O [[97], [98], [99]]) (j := 8) (hK 69 rfl) rfl rfl hg) (run_gdb hx23 hg); exact ok_call1 fn21 rfl c_
  case z7_10 => intro a' w' hE hK hg; exact ok_move (kn (hK 1 rfl) rfl q1)
  case z7_11 => intro a' w' hE hK hg; exact okl_addS rfl (ksv (j := 10) (hK 71 rfl) rfl rfl hg) (run_gdb hx24 hg)
  case z7_12 => intro a' w' hE hK hg; exact ok_move (kn (hK 2 rfl) rfl q2)
  case z7_13 => intro a' w' hE hK hg; exact okl_addS (ksv (j := 11) (hK 72 rfl) rfl rfl hg) (ksv (j := 12) (hK 73 rfl) rfl rfl hg) (run_gdb hx25 hg)
  case z7_14 => intro a' w' hE hK hg; have c_ := ok_digest_Of (OkO.ext hB.ok hE)  (run_gdb hx26 hg); exact ok_call1 fn13 (ksv (j := 13) (hK 74 rfl) rfl rfl hg) c_
  case z7_15 => intro a' w' hE hK hg; exact okl_addS rfl (ksv (j := 14) (hK 75 rfl) rfl rfl hg) (run_gdb hx27 hg)
  case z7_16 => intro a' w' hE hK hg; exact ok_move (kn (hK 3 rfl) rfl q3)
  case z7_17 => intro a' w' hE hK hg; exact okl_addS rfl (ksv (j := 16) (hK 77 rfl) rfl rfl hg) (run_gdb hx28 hg)
  case z7_18 => intro a' w' hE hK hg; exact ok_move (kn (hK 4 rfl) rfl q4)
  case z7_19 => intro a' w' hE hK hg; exact okl_addS (ksv (j := 17) (hK 78 rfl) rfl rfl hg) (ksv (j := 18) (hK 79 rfl) rfl rfl hg) (run_gdb hx29 hg)
  case z7_20 => intro a' w' hE hK hg; have c_ := ok_digest_Of (OkO.ext hB.ok hE)  (run_gdb hx30 hg); exact ok_call1 fn13 (ksv (j := 19) (hK 80 rfl) rfl rfl hg) c_
  case z7_21 => intro a' w' hE hK hg; exact okl_addS (ksv (j := 15) (hK 76 rfl) rfl rfl hg) (ksv (j := 20) (hK 81 rfl) rfl rfl hg) (run_gdb hx31 hg)
  case z7_22 => intro a' w' hE hK hg; have c_ := ok_digest_Of (OkO.ext hB.ok hE)  (run_gdb hx32 hg); exact ok_call1 fn13 (ksv (j := 21) (hK 82 rfl) rfl rfl hg) c_
  case z7_23 => intro a' w' hE hK hg; exact okl_eqlS (ksv (j := 9) (hK 70 rfl) rfl rfl hg) (ksv (j := 22) (hK 83 rfl) rfl rfl hg)
  case z7_24 => intro a' w' hE hK hg; exact ok_pick (ksv (j := 7) (hK 68 rfl) rfl rfl rfl) (fun hb => ksv (j := 23) (hK 84 rfl) rfl rfl (act_g1 rfl rfl hb)) (fun _ => rfl)
  case z7_25 => intro a' w' hE hK hg; exact ok_assign (ksv (j := 24) (hK 85 rfl) rfl rfl rfl)
  case zok7 => kernel_rfl
  case zgd7 => kernel_rfl
  intro a7 w7 hA' hE HF
  have q0 := ksv (HF 0) rfl rfl rfl
  clear q1
  clear q2
  clear q3
  clear q4
  clear q6
  clear q7
  clear q8
  clear hA HF; have hA := hA'; clear hA'
  replace hB := Base.step hB hE hO; clear hE
  obtain ⟨x33, hx_, h⟩ := Comp.run_bind h; replace hx_ := Comp.run_pure hx_; rw [hx_] at q0; clear hx_
  refine (li_nil ?_)
  refine (nx_then ?_)
  refine (wp_ret ?_)
  have h := Comp.run_pure h; subst h
  exact retPure Try.results9 hA q0 hB.ext rfl

theorem ok_colletlaw02_short {O : Tags} {w0 : World} (hO : OkO O w0) {x_0 : Bytes} {n : Nat} {y : Bytes} (h : (colletlaw02_short x_0).run n = some y) : Pure Try.prog 10 #[.string (str x_0)] w0 (SP.isv (.string (str y))).holds := by
  unfold colletlaw02_short at h
  refine pure_of_wp Try.func10 rfl 8 Try.ntmps10 (by simp) fun a0 hA hs0 => ?_
  have q0 := hs0 0 _ rfl
  clear hs0
  have hB : Base (Fr w0) O w0 O w0 := Base.start hO
  refine wp_seq ?_
  refine' region [_] mixed hA (.cons ?z1_0 .nil) ?zok1 ?zgd1 ?zk1
  case z1_0 => intro a' w' hE hK hg; exact ok_assign rfl
  case zok1 => kernel_rfl
  case zgd1 => kernel_rfl
  intro a1 w1 hA' hE HF
  replace q0 := kn (HF 0) rfl q0
  clear hA HF; have hA := hA'; clear hA'
  replace hB := Base.step hB hE hO; clear hE
  refine (li_nil ?_)
  refine (nx_then ?_)
  refine wp_seq ?_
  obtain ⟨x1, hx1, h⟩ := Comp.run_bind h
  refine' region [_, _, _, _, SP.isv (.string (str x1)), _] mixed hA (.cons ?z2_0 (.cons ?z2_1 (.cons ?z2_2 (.cons ?z2_3 (.cons ?z2_4 (.cons ?z2_5 .nil)))))) ?zok2 ?zgd2 ?zk2
  case z2_0 => intro a' w' hE hK hg; exact ok_move (kn (hK 0 rfl) rfl q0)
  case z2_1 => intro a' w' hE hK hg; exact ok_move (kn (hK 0 rfl) rfl q0)
  case z2_2 => intro a' w' hE hK hg; exact okl_lenS ty9 (ksv (j := 1) (hK 4 rfl) rfl rfl rfl)
  case z2_3 => intro a' w' hE hK hg; exact ok_min (ksv (j := 2) (hK 5 rfl) rfl rfl rfl) rfl
  case z2_4 => intro a' w' hE hK hg; exact okl_sliceS_h ty9 (ksv (j := 0) (hK 3 rfl) rfl rfl rfl) (ksv (j := 3) (hK 6 rfl) rfl rfl rfl) hx1
  case z2_5 => intro a' w' hE hK hg; exact ok_assign (ksv (j := 4) (hK 7 rfl) rfl rfl rfl)
  case zok2 => kernel_rfl
  case zgd2 => kernel_rfl
  intro a2 w2 hA' hE HF
  have q2 := ksv (HF 2) rfl rfl rfl
  clear q0
  clear hA HF; have hA := hA'; clear hA'
  replace hB := Base.step hB hE hO; clear hE
  refine (li_nil ?_)
  refine (nx_then ?_)
  refine (wp_ret ?_)
  have h := Comp.run_pure h; subst h
  exact retPure Try.results10 hA q2 hB.ext rfl

theorem ok_colletref02_least4 {O : Tags} {w0 : World} (hO : OkO O w0) {x_0 : Int} {n : Nat} {y : Bytes} (h : (colletref02_least4 x_0).run n = some y) : Pure Try.prog 29 #[.int .i64 x_0] w0 (SP.isv (.string (str y))).holds := by
  unfold colletref02_least4 at h
  refine pure_of_wp Try.func29 rfl 16 Try.ntmps29 (by simp) fun a0 hA hs0 => ?_
  have q0 := hs0 0 _ rfl
  clear hs0
  have hB : Base (Fr w0) O w0 O w0 := Base.start hO
  refine wp_seq ?_
  refine' region [_] mixed hA (.cons ?z1_0 .nil) ?zok1 ?zgd1 ?zk1
  case z1_0 => intro a' w' hE hK hg; exact ok_assign rfl
  case zok1 => kernel_rfl
  case zgd1 => kernel_rfl
  intro a1 w1 hA' hE HF
  replace q0 := kn (HF 0) rfl q0
  clear hA HF; have hA := hA'; clear hA'
  replace hB := Base.step hB hE hO; clear hE
  refine (li_nil ?_)
  refine (nx_then ?_)
  refine wp_seq ?_
  obtain ⟨x1, hx1, h⟩ := Comp.run_bind h
  refine' region [_, _, _, _, _, _, _, _, _, _, _, SP.vl (rSl (rInt .u8)) O [(IntKind.wrap .u8 x_0), (IntKind.wrap .u8 (shrF .i64 x_0 8)), (IntKind.wrap .u8 (shrF .i64 x_0 16)), (IntKind.wrap .u8 (shrF .i64 x_0 24))], SP.isv (.string (str x1)), _] mixed hA (.cons ?z2_0 (.cons ?z2_1 (.cons ?z2_2 (.cons ?z2_3 (.cons ?z2_4 (.cons ?z2_5 (.cons ?z2_6 (.cons ?z2_7 (.cons ?z2_8 (.cons ?z2_9 (.cons ?z2_10 (.cons ?z2_11 (.cons ?z2_12 (.cons ?z2_13 .nil)))))))))))))) ?zok2 ?zgd2 ?zk2
  case z2_0 => intro a' w' hE hK hg; exact ok_move (kn (hK 0 rfl) rfl q0)
  case z2_1 => intro a' w' hE hK hg; exact ok_convI ty3 ty5 (ksv (j := 0) (hK 3 rfl) rfl rfl rfl)
  case z2_2 => intro a' w' hE hK hg; exact ok_move (kn (hK 0 rfl) rfl q0)
  case z2_3 => intro a' w' hE hK hg; exact okl_shr (ksv (j := 2) (hK 5 rfl) rfl rfl rfl) rfl (by decide)
  case z2_4 => intro a' w' hE hK hg; exact ok_convI ty3 ty5 (ksv (j := 3) (hK 6 rfl) rfl rfl rfl)
  case z2_5 => intro a' w' hE hK hg; exact ok_move (kn (hK 0 rfl) rfl q0)
  case z2_6 => intro a' w' hE hK hg; exact okl_shr (ksv (j := 5) (hK 8 rfl) rfl rfl rfl) rfl (by decide)
  case z2_7 => intro a' w' hE hK hg; exact ok_convI ty3 ty5 (ksv (j := 6) (hK 9 rfl) rfl rfl rfl)
  case z2_8 => intro a' w' hE hK hg; exact ok_move (kn (hK 0 rfl) rfl q0)
  case z2_9 => intro a' w' hE hK hg; exact okl_shr (ksv (j := 8) (hK 11 rfl) rfl rfl rfl) rfl (by decide)
  case z2_10 => intro a' w' hE hK hg; exact ok_convI ty3 ty5 (ksv (j := 9) (hK 12 rfl) rfl rfl rfl)
  case z2_11 => intro a' w' hE hK hg; exact okl_buildSliceV (r := (rInt .u8)) (fun _ => rfl) rfl (OkO.ext hB.ok hE) ty40 ty5 (parts_cons (ksv (j := 1) (hK 4 rfl) rfl rfl rfl) (parts_cons (ksv (j := 4) (hK 7 rfl) rfl rfl rfl) (parts_cons (ksv (j := 7) (hK 10 rfl) rfl rfl rfl) (parts_cons (ksv (j := 10) (hK 13 rfl) rfl rfl rfl) parts_nil)))) ⟨(by first | exact rInt_v.2 rfl | exact rBool_v.2 rfl | exact rStr_v.2 rfl | exact rC_v.2 rfl | exact ⟨_, rfl, rfl⟩), ⟨(by first | exact rInt_v.2 rfl | exact rBool_v.2 rfl | exact rStr_v.2 rfl | exact rC_v.2 rfl | exact ⟨_, rfl, rfl⟩), ⟨(by first | exact rInt_v.2 rfl | exact rBool_v.2 rfl | exact rStr_v.2 rfl | exact rC_v.2 rfl | exact ⟨_, rfl, rfl⟩), ⟨(by first | exact rInt_v.2 rfl | exact rBool_v.2 rfl | exact rStr_v.2 rfl | exact rC_v.2 rfl | exact ⟨_, rfl, rfl⟩), trivial⟩⟩⟩⟩ rfl (by decide)
  case z2_12 => intro a' w' hE hK hg; exact okl_bytesToStr ty40 ty5 ty9 rfl (rd_of (kspS (φ := SP.vl (rSl (rInt .u8)) O [(IntKind.wrap .u8 x_0), (IntKind.wrap .u8 (shrF .i64 x_0 8)), (IntKind.wrap .u8 (shrF .i64 x_0 16)), (IntKind.wrap .u8 (shrF .i64 x_0 24))]) (j := 11) (hK 14 rfl) rfl rfl rfl)) hx1
  case z2_13 => intro a' w' hE hK hg; exact ok_assign (ksv (j := 12) (hK 15 rfl) rfl rfl rfl)
  case zok2 => kernel_rfl
  case zgd2 => kernel_rfl
  intro a2 w2 hA' hE HF
  have q2 := ksv (HF 2) rfl rfl rfl
  clear q0
  clear hA HF; have hA := hA'; clear hA'
  replace hB := Base.step hB hE hO; clear hE
  refine (li_nil ?_)
  refine (nx_then ?_)
  refine (wp_ret ?_)
  have h := Comp.run_pure h; subst h
  exact retPure Try.results29 hA q2 hB.ext rfl

theorem ok_colletref02_most4 {O : Tags} {w0 : World} (hO : OkO O w0) {x_0 : Int} {n : Nat} {y : Bytes} (h : (colletref02_most4 x_0).run n = some y) : Pure Try.prog 32 #[.int .i64 x_0] w0 (SP.isv (.string (str y))).holds := by
  unfold colletref02_most4 at h
  refine pure_of_wp Try.func32 rfl 16 Try.ntmps32 (by simp) fun a0 hA hs0 => ?_
  have q0 := hs0 0 _ rfl
  clear hs0
  have hB : Base (Fr w0) O w0 O w0 := Base.start hO
  refine wp_seq ?_
  refine' region [_] mixed hA (.cons ?z1_0 .nil) ?zok1 ?zgd1 ?zk1
  case z1_0 => intro a' w' hE hK hg; exact ok_assign rfl
  case zok1 => kernel_rfl
  case zgd1 => kernel_rfl
  intro a1 w1 hA' hE HF
  replace q0 := kn (HF 0) rfl q0
  clear hA HF; have hA := hA'; clear hA'
  replace hB := Base.step hB hE hO; clear hE
  refine (li_nil ?_)
  refine (nx_then ?_)
  refine wp_seq ?_
  obtain ⟨x1, hx1, h⟩ := Comp.run_bind h
  refine' region [_, _, _, _, _, _, _, _, _, _, _, SP.vl (rSl (rInt .u8)) O [(IntKind.wrap .u8 (shrF .i64 x_0 24)), (IntKind.wrap .u8 (shrF .i64 x_0 16)), (IntKind.wrap .u8 (shrF .i64 x_0 8)), (IntKind.wrap .u8 x_0)], SP.isv (.string (str x1)), _] mixed hA (.cons ?z2_0 (.cons ?z2_1 (.cons ?z2_2 (.cons ?z2_3 (.cons ?z2_4 (.cons ?z2_5 (.cons ?z2_6 (.cons ?z2_7 (.cons ?z2_8 (.cons ?z2_9 (.cons ?z2_10 (.cons ?z2_11 (.cons ?z2_12 (.cons ?z2_13 .nil)))))))))))))) ?zok2 ?zgd2 ?zk2
  case z2_0 => intro a' w' hE hK hg; exact ok_move (kn (hK 0 rfl) rfl q0)
  case z2_1 => intro a' w' hE hK hg; exact okl_shr (ksv (j := 0) (hK 3 rfl) rfl rfl rfl) rfl (by decide)
  case z2_2 => intro a' w' hE hK hg; exact ok_convI ty3 ty5 (ksv (j := 1) (hK 4 rfl) rfl rfl rfl)
  case z2_3 => intro a' w' hE hK hg; exact ok_move (kn (hK 0 rfl) rfl q0)
  case z2_4 => intro a' w' hE hK hg; exact okl_shr (ksv (j := 3) (hK 6 rfl) rfl rfl rfl) rfl (by decide)
  case z2_5 => intro a' w' hE hK hg; exact ok_convI ty3 ty5 (ksv (j := 4) (hK 7 rfl) rfl rfl rfl)
  case z2_6 => intro a' w' hE hK hg; exact ok_move (kn (hK 0 rfl) rfl q0)
  case z2_7 => intro a' w' hE hK hg; exact okl_shr (ksv (j := 6) (hK 9 rfl) rfl rfl rfl) rfl (by decide)
  case z2_8 => intro a' w' hE hK hg; exact ok_convI ty3 ty5 (ksv (j := 7) (hK 10 rfl) rfl rfl rfl)
  case z2_9 => intro a' w' hE hK hg; exact ok_move (kn (hK 0 rfl) rfl q0)
  case z2_10 => intro a' w' hE hK hg; exact ok_convI ty3 ty5 (ksv (j := 9) (hK 12 rfl) rfl rfl rfl)
  case z2_11 => intro a' w' hE hK hg; exact okl_buildSliceV (r := (rInt .u8)) (fun _ => rfl) rfl (OkO.ext hB.ok hE) ty40 ty5 (parts_cons (ksv (j := 2) (hK 5 rfl) rfl rfl rfl) (parts_cons (ksv (j := 5) (hK 8 rfl) rfl rfl rfl) (parts_cons (ksv (j := 8) (hK 11 rfl) rfl rfl rfl) (parts_cons (ksv (j := 10) (hK 13 rfl) rfl rfl rfl) parts_nil)))) ⟨(by first | exact rInt_v.2 rfl | exact rBool_v.2 rfl | exact rStr_v.2 rfl | exact rC_v.2 rfl | exact ⟨_, rfl, rfl⟩), ⟨(by first | exact rInt_v.2 rfl | exact rBool_v.2 rfl | exact rStr_v.2 rfl | exact rC_v.2 rfl | exact ⟨_, rfl, rfl⟩), ⟨(by first | exact rInt_v.2 rfl | exact rBool_v.2 rfl | exact rStr_v.2 rfl | exact rC_v.2 rfl | exact ⟨_, rfl, rfl⟩), ⟨(by first | exact rInt_v.2 rfl | exact rBool_v.2 rfl | exact rStr_v.2 rfl | exact rC_v.2 rfl | exact ⟨_, rfl, rfl⟩), trivial⟩⟩⟩⟩ rfl (by decide)
  case z2_12 => intro a' w' hE hK hg; exact okl_bytesToStr ty40 ty5 ty9 rfl (rd_of (kspS (φ := SP.vl (rSl (rInt .u8)) O [(IntKind.wrap .u8 (shrF .i64 x_0 24)), (IntKind.wrap .u8 (shrF .i64 x_0 16)), (IntKind.wrap .u8 (shrF .i64 x_0 8)), (IntKind.wrap .u8 x_0)]) (j := 11) (hK 14 rfl) rfl rfl rfl)) hx1
  case z2_13 => intro a' w' hE hK hg; exact ok_assign (ksv (j := 12) (hK 15 rfl) rfl rfl rfl)
  case zok2 => kernel_rfl
  case zgd2 => kernel_rfl
  intro a2 w2 hA' hE HF
  have q2 := ksv (HF 2) rfl rfl rfl
  clear q0
  clear hA HF; have hA := hA'; clear hA'
  replace hB := Base.step hB hE hO; clear hE
  refine (li_nil ?_)
  refine (nx_then ?_)
  refine (wp_ret ?_)
  have h := Comp.run_pure h; subst h
  exact retPure Try.results32 hA q2 hB.ext rfl

theorem ok_colletref02_Of {O : Tags} {w0 : World} (hO : OkO O w0) {x_0 : Bytes} {n : Nat} {y : Bytes} (h : (colletref02_Of x_0).run n = some y) : Pure Try.prog 14 #[.string (str x_0)] w0 (SP.isv (.string (str y))).holds := by
  unfold colletref02_Of at h
  refine pure_of_wp Try.func14 rfl 35 Try.ntmps14 (by simp) fun a0 hA hs0 => ?_
  have q0 := hs0 0 _ rfl
  clear hs0
  have hB : Base (Fr w0) O w0 O w0 := Base.start hO
  refine wp_seq ?_
  refine' region [_] mixed hA (.cons ?z1_0 .nil) ?zok1 ?zgd1 ?zk1
  case z1_0 => intro a' w' hE hK hg; exact ok_assign rfl
  case zok1 => kernel_rfl
  case zgd1 => kernel_rfl
  intro a1 w1 hA' hE HF
  replace q0 := kn (HF 0) rfl q0
  clear hA HF; have hA := hA'; clear hA'
  replace hB := Base.step hB hE hO; clear hE
  refine (li_nil ?_)
  refine (nx_then ?_)
  refine wp_seq ?_
  refine' region [_] mixed hA (.cons ?z2_0 .nil) ?zok2 ?zgd2 ?zk2
  case z2_0 => intro a' w' hE hK hg; exact ok_assign rfl
  case zok2 => kernel_rfl
  case zgd2 => kernel_rfl
  intro a2 w2 hA' hE HF
  replace q0 := kn (HF 0) rfl q0
  have q3 := ksv (HF 3) rfl rfl rfl
  clear hA HF; have hA := hA'; clear hA'
  replace hB := Base.step hB hE hO; clear hE
  refine (li_nil ?_)
  refine (nx_then ?_)
  refine wp_seq ?_
  refine' region [_] mixed hA (.cons ?z3_0 .nil) ?zok3 ?zgd3 ?zk3
  case z3_0 => intro a' w' hE hK hg; exact ok_assign rfl
  case zok3 => kernel_rfl
  case zgd3 => kernel_rfl
  intro a3 w3 hA' hE HF
  replace q0 := kn (HF 0) rfl q0
  replace q3 := kn (HF 3) rfl q3
  have q4 := ksv (HF 4) rfl rfl rfl
  clear hA HF; have hA := hA'; clear hA'
  replace hB := Base.step hB hE hO; clear hE
  refine (li_nil ?_)
  refine (nx_then ?_)
  refine seq_join (fun a w => ∃ (O15 : Tags) (x13 : Int) (x14 : Int), a.fit 35 ∧ Base (Fr w0) O w0 O15 w ∧ a.get 3 = .int .i64 x13 ∧ a.get 4 = .int .i64 x14 ∧ (colletref02_Of_j1 x13 x14).run n = some y) ?_ ?_
  ·
    refine wp_seq ?_
    refine' region [_] mixed hA (.cons ?z4_0 .nil) ?zok4 ?zgd4 ?zk4
    case z4_0 => intro a' w' hE hK hg; exact ok_assign rfl
    case zok4 => kernel_rfl
    case zgd4 => kernel_rfl
    intro a4 w4 hA' hE HF
    replace q0 := kn (HF 0) rfl q0
    replace q3 := kn (HF 3) rfl q3
    replace q4 := kn (HF 4) rfl q4
    have q5 := ksv (HF 5) rfl rfl rfl
    clear hA HF; have hA := hA'; clear hA'
    replace hB := Base.step hB hE hO; clear hE
    refine (li_nil ?_)
    refine (nx_then ?_)
    refine wp_block ?_
    obtain ⟨e2, he2, hk2⟩ := Comp.run_bind h; clear h
    refine loop_m (fun m a w => ∃ (O4 : Tags) (x1 : Int) (x2 : Int) (x3 : Int), a.fit 35 ∧ Base (Fr w0) O w0 O4 w ∧ a.get 0 = .string (str x_0) ∧ a.get 3 = .int .i64 x1 ∧ a.get 4 = .int .i64 x2 ∧ a.get 5 = .int .i64 x3 ∧ Comp.loopN (fun s => colletref02_Of_l2 x_0 s.1 s.2.1 s.2.2) n m (x1, x2, x3) = some e2) (m := n) ?st2 ?_
    case st2 =>
      exact ⟨_, _, _, _, hA, hB, q0, q3, q4, q5, Comp.run_loop he2⟩
    intro m_ a5 w5 hI
    clear hA hB he2 q0 q3 q4 q5
    obtain ⟨O4, x1, x2, x3, hA, hB, q0, q3, q4, q5, hl⟩ := hI
    obtain ⟨m2, hlt2, st2, h, hnext2, hdone2⟩ := Comp.loopN_succ hl; clear hl
    replace h : (colletref02_Of_l2 x_0 x1 x2 x3).run n = some st2 := h
    unfold colletref02_Of_l2 at h
    refine wp_seq ?_
    refine wp_seq ?_
    refine' region [_, _, _, _] mixed hA (.cons ?z5_0 (.cons ?z5_1 (.cons ?z5_2 (.cons ?z5_3 .nil)))) ?zok5 ?zgd5 ?zk5
    case z5_0 => intro a' w' hE hK hg; exact ok_move (kn (hK 5 rfl) rfl q5)
    case z5_1 => intro a' w' hE hK hg; exact ok_move (kn (hK 0 rfl) rfl q0)
    case z5_2 => intro a' w' hE hK hg; exact okl_lenS ty9 (ksv (j := 1) (hK 7 rfl) rfl rfl rfl)
    case z5_3 => intro a' w' hE hK hg; exact ok_lss (ksv (j := 0) (hK 6 rfl) rfl rfl rfl) (ksv (j := 2) (hK 8 rfl) rfl rfl rfl)
    case zok5 => kernel_rfl
    case zgd5 => kernel_rfl
    intro a6 w6 hA' hE HF
    replace q0 := kn (HF 0) rfl q0
    replace q3 := kn (HF 3) rfl q3
    replace q4 := kn (HF 4) rfl q4
    replace q5 := kn (HF 5) rfl q5
    have q9 := ksv (HF 9) rfl rfl rfl
    clear hA HF; have hA := hA'; clear hA'
    replace hB := Base.step hB hE hO; clear hE
    refine (li_nil ?_)
    refine (nx_then ?_)
    refine wp_cond_b q9 (fun hc => ?_) (fun hc => ?_)
    ·
      replace h := Comp.run_b_t hc h; clear hc
      refine wp_skip ?_
      refine (nx_then ?_)
      refine wp_seq ?_
      refine wp_block ?_
      refine wp_seq ?_
      obtain ⟨x5, hx5, h⟩ := Comp.run_bind h
      refine' region [_, _, _, _, SP.isv (.int .u8 x5), _, _, _, _, _] mixed hA (.cons ?z6_0 (.cons ?z6_1 (.cons ?z6_2 (.cons ?z6_3 (.cons ?z6_4 (.cons ?z6_5 (.cons ?z6_6 (.cons ?z6_7 (.cons ?z6_8 (.cons ?z6_9 .nil)))))))))) ?zok6 ?zgd6 ?zk6
      case z6_0 => intro a' w' hE hK hg; exact ok_move (kn (hK 3 rfl) rfl q3)
      case z6_1 => intro a' w' hE hK hg; exact ok_mul rfl (ksv (j := 0) (hK 12 rfl) rfl rfl rfl)
      case z6_2 => intro a' w' hE hK hg; exact ok_move (kn (hK 0 rfl) rfl q0)
      case z6_3 => intro a' w' hE hK hg; exact ok_move (kn (hK 5 rfl) rfl q5)
      case z6_4 => intro a' w' hE hK hg; exact okl_indexS ty9 (ksv (j := 2) (hK 14 rfl) rfl rfl rfl) (ksv (j := 3) (hK 15 rfl) rfl rfl rfl) hx5
      case z6_5 => intro a' w' hE hK hg; exact ok_convI ty5 ty3 (ksv (j := 4) (hK 16 rfl) rfl rfl rfl)
      case z6_6 => intro a' w' hE hK hg; exact ok_add (ksv (j := 1) (hK 13 rfl) rfl rfl rfl) (ksv (j := 5) (hK 17 rfl) rfl rfl rfl)
      case z6_7 => intro a' w' hE hK hg; exact ok_add (ksv (j := 6) (hK 18 rfl) rfl rfl rfl) rfl
      case z6_8 => intro a' w' hE hK hg; exact ok_rem (ksv (j := 7) (hK 19 rfl) rfl rfl rfl) rfl (by decide)
      case z6_9 => intro a' w' hE hK hg; exact ok_assign (ksv (j := 8) (hK 20 rfl) rfl rfl rfl)
      case zok6 => kernel_rfl
      case zgd6 => kernel_rfl
      intro a7 w7 hA' hE HF
      replace q0 := kn (HF 0) rfl q0
      have q3' := ksv (HF 3) rfl rfl rfl
      replace q3 := q3'; clear q3'
      replace q4 := kn (HF 4) rfl q4
      replace q5 := kn (HF 5) rfl q5
      clear q9
      clear hA HF; have hA := hA'; clear hA'
      replace hB := Base.step hB hE hO; clear hE
      obtain ⟨x6, hx_, h⟩ := Comp.run_bind h; replace hx_ := Comp.run_pure hx_; rw [hx_] at q3; clear hx_
      refine (li_nil ?_)
      refine (nx_then ?_)
      obtain ⟨x7, hx7, h⟩ := Comp.run_bind h
      refine' region [_, _, _, _, SP.isv (.int .u8 x7), _, _, _, _, _] mixed hA (.cons ?z7_0 (.cons ?z7_1 (.cons ?z7_2 (.cons ?z7_3 (.cons ?z7_4 (.cons ?z7_5 (.cons ?z7_6 (.cons ?z7_7 (.cons ?z7_8 (.cons ?z7_9 .nil)))))))))) ?zok7 ?zgd7 ?zk7
      case z7_0 => intro a' w' hE hK hg; exact ok_move (kn (hK 4 rfl) rfl q4)
      case z7_1 => intro a' w' hE hK hg; exact ok_mul rfl (ksv (j := 0) (hK 21 rfl) rfl rfl rfl)
      case z7_2 => intro a' w' hE hK hg; exact ok_move (kn (hK 0 rfl) rfl q0)
      case z7_3 => intro a' w' hE hK hg; exact ok_move (kn (hK 5 rfl) rfl q5)
      case z7_4 => intro a' w' hE hK hg; exact okl_indexS ty9 (ksv (j := 2) (hK 23 rfl) rfl rfl rfl) (ksv (j := 3) (hK 24 rfl) rfl rfl rfl) hx7
      case z7_5 => intro a' w' hE hK hg; exact ok_convI ty5 ty3 (ksv (j := 4) (hK 25 rfl) rfl rfl rfl)
      case z7_6 => intro a' w' hE hK hg; exact ok_add (ksv (j := 1) (hK 22 rfl) rfl rfl rfl) (ksv (j := 5) (hK 26 rfl) rfl rfl rfl)
      case z7_7 => intro a' w' hE hK hg; exact ok_add (ksv (j := 6) (hK 27 rfl) rfl rfl rfl) rfl
      case z7_8 => intro a' w' hE hK hg; exact ok_rem (ksv (j := 7) (hK 28 rfl) rfl rfl rfl) rfl (by decide)
      case z7_9 => intro a' w' hE hK hg; exact ok_assign (ksv (j := 8) (hK 29 rfl) rfl rfl rfl)
      case zok7 => kernel_rfl
      case zgd7 => kernel_rfl
      intro a8 w8 hA' hE HF
      replace q0 := kn (HF 0) rfl q0
      replace q3 := kn (HF 3) rfl q3
      have q4' := ksv (HF 4) rfl rfl rfl
      replace q4 := q4'; clear q4'
      replace q5 := kn (HF 5) rfl q5
      clear hA HF; have hA := hA'; clear hA'
      replace hB := Base.step hB hE hO; clear hE
      obtain ⟨x8, hx_, h⟩ := Comp.run_bind h; replace hx_ := Comp.run_pure hx_; rw [hx_] at q4; clear hx_
      refine (li_nil ?_)
      refine (nx_blk (nx_then ?_))
      refine' region [_, _, _] mixed hA (.cons ?z8_0 (.cons ?z8_1 (.cons ?z8_2 .nil))) ?zok8 ?zgd8 ?zk8
      case z8_0 => intro a' w' hE hK hg; exact ok_move (kn (hK 5 rfl) rfl q5)
      case z8_1 => intro a' w' hE hK hg; exact ok_add (ksv (j := 0) (hK 10 rfl) rfl rfl rfl) rfl
      case z8_2 => intro a' w' hE hK hg; exact ok_assign (ksv (j := 1) (hK 11 rfl) rfl rfl rfl)
      case zok8 => kernel_rfl
      case zgd8 => kernel_rfl
      intro a9 w9 hA' hE HF
      replace q0 := kn (HF 0) rfl q0
      replace q3 := kn (HF 3) rfl q3
      replace q4 := kn (HF 4) rfl q4
      have q5' := ksv (HF 5) rfl rfl rfl
      replace q5 := q5'; clear q5'
      clear hA HF; have hA := hA'; clear hA'
      replace hB := Base.step hB hE hO; clear hE
      refine (li_nil ?_)
      refine (nx_then ?_)
      have h := hnext2 _ (Comp.run_pure h).symm
      refine ⟨m2, hlt2, ?_⟩
      exact ⟨_, _, _, _, hA, hB, q0, q3, q4, q5, h⟩
    ·
      replace h := Comp.run_b_f hc h; clear hc
      refine wp_exit ?_
      refine (ex_then (ex_then (ex_same ?_)))
      have hd_ := hdone2 _ (Comp.run_pure h).symm; clear h
      subst hd_; have h := hk2; clear hk2; try dsimp only at h
      refine (nx_then ?_)
      exact ⟨_, _, _, hA, hB, q3, q4, h⟩
  intro a10 w10 hI
  clear hA hB h q0 q3 q4
  obtain ⟨O15, x13, x14, hA, hB, q3, q4, h⟩ := hI
  unfold colletref02_Of_j1 at h
  refine wp_seq ?_
  obtain ⟨x16, hx16, h⟩ := Comp.run_bind h
  obtain ⟨x17, hx17, h⟩ := Comp.run_bind h
  obtain ⟨x18, hx18, h⟩ := Comp.run_bind h
  refine' region [_, SP.isv (.string (str x16)), _, SP.isv (.string (str x17)), SP.isv (.string (str x18)), _] mixed hA (.cons ?z9_0 (.cons ?z9_1 (.cons ?z9_2 (.cons ?z9_3 (.cons ?z9_4 (.cons ?z9_5 .nil)))))) ?zok9 ?zgd9 ?zk9
  case z9_0 => intro a' w' hE hK hg; exact ok_move (kn (hK 3 rfl) rfl q3)
  case z9_1 => intro a' w' hE hK hg; have c_ := ok_colletref02_most4 (OkO.ext hB.ok hE)  hx16; exact ok_call1 fn32 (ksv (j := 0) (hK 30 rfl) rfl rfl rfl) c_
  case z9_2 => intro a' w' hE hK hg; exact ok_move (kn (hK 4 rfl) rfl q4)
  case z9_3 => intro a' w' hE hK hg; have c_ := ok_colletref02_most4 (OkO.ext hB.ok hE)  hx17; exact ok_call1 fn32 (ksv (j := 2) (hK 32 rfl) rfl rfl rfl) c_
  case z9_4 => intro a' w' hE hK hg; exact okl_addS (ksv (j := 1) (hK 31 rfl) rfl rfl rfl) (ksv (j := 3) (hK 33 rfl) rfl rfl rfl) hx18
  case z9_5 => intro a' w' hE hK hg; exact ok_assign (ksv (j := 4) (hK 34 rfl) rfl rfl rfl)
  case zok9 => kernel_rfl
  case zgd9 => kernel_rfl
  intro a11 w11 hA' hE HF
  have q2 := ksv (HF 2) rfl rfl rfl
  clear q3
  clear q4
  clear hA HF; have hA := hA'; clear hA'
  replace hB := Base.step hB hE hO; clear hE
  refine (li_nil ?_)
  refine (nx_then ?_)
  refine (wp_ret ?_)
  have h := Comp.run_pure h; subst h
  exact retPure Try.results14 hA q2 hB.ext rfl

theorem ok_colletref02_Mark {O : Tags} {w0 : World} (hO : OkO O w0) {x_0 : Bytes} {x_1 : Bytes} {n : Nat} {y : Bytes} (h : (colletref02_Mark x_0 x_1).run n = some y) : Pure Try.prog 12 #[.string (str x_0), .string (str x_1)] w0 (SP.isv (.string (str y))).holds := by
  unfold colletref02_Mark at h
  refine pure_of_wp Try.func12 rfl 20 Try.ntmps12 (by simp) fun a0 hA hs0 => ?_
  have q0 := hs0 0 _ rfl
  have q1 := hs0 1 _ rfl
  clear hs0
  have hB : Base (Fr w0) O w0 O w0 := Base.start hO
  refine wp_seq ?_
  refine' region [_] mixed hA (.cons ?z1_0 .nil) ?zok1 ?zgd1 ?zk1
  case z1_0 => intro a' w' hE hK hg; exact ok_assign rfl
  case zok1 => kernel_rfl
  case zgd1 => kernel_rfl
  intro a1 w1 hA' hE HF
  replace q0 := kn (HF 0) rfl q0
  replace q1 := kn (HF 1) rfl q1
  clear hA HF; have hA := hA'; clear hA'
  replace hB := Base.step hB hE hO; clear hE
  refine (li_nil ?_)
  refine (nx_then ?_)
  refine wp_seq ?_
  obtain ⟨x1, hx1, h⟩ := Comp.run_bind h
  obtain ⟨x2, hx2, h⟩ := Comp.run_bind h
  obtain ⟨x3, hx3, h⟩ := Comp.run_bind h
  obtain ⟨x4, hx4, h⟩ := Comp.run_bind h
  obtain ⟨x5, hx5, h⟩ := Comp.run_bind h
  obtain ⟨x6, hx6, h⟩ := Comp.run_bind h
  obtain ⟨x7, hx7, h⟩ := Comp.run_bind h
  obtain ⟨x8, hx8, h⟩ := Comp.run_bind h
  refine' region [_, _, SP.isv (.string (str x1)), SP.isv (.string (str x2)), _, SP.isv (.string (str x3)), _, _, SP.isv (.string (str x4)), SP.isv (.string (str x5)), _, SP.isv (.string (str x6)), _, SP.isv (.string (str x7)), SP.isv (.string (str x8)), _] mixed hA (.cons ?z2_0 (.cons ?z2_1 (.cons ?z2_2 (.cons ?z2_3 (.cons ?z2_4 (.cons ?z2_5 (.cons ?z2_6 (.cons ?z2_7 (.cons ?z2_8 (.cons ?z2_9 (.cons ?z2_10 (.cons ?z2_11 (.cons ?z2_12 (.cons ?z2_13 (.cons ?z2_14 (.cons ?z2_15 .nil)))))))))))))))) ?zok2 ?zgd2 ?zk2
  case z2_0 => intro a' w' hE hK hg; exact ok_move (kn (hK 0 rfl) rfl q0)
  case z2_1 => intro a' w' hE hK hg; exact okl_lenS ty9 (ksv (j := 0) (hK 5 rfl) rfl rfl rfl)
  case z2_2 => intro a' w' hE hK hg; have c_ := ok_colletref02_least4 (OkO.ext hB.ok hE)  hx1; exact ok_call1 fn29 (ksv (j := 1) (hK 6 rfl) rfl rfl rfl) c_
  case z2_3 => intro a' w' hE hK hg; exact okl_addS rfl (ksv (j := 2) (hK 7 rfl) rfl rfl rfl) hx2
  case z2_4 => intro a' w' hE hK hg; exact ok_move (kn (hK 0 rfl) rfl q0)
  case z2_5 => intro a' w' hE hK hg; exact okl_addS (ksv (j := 3) (hK 8 rfl) rfl rfl rfl) (ksv (j := 4) (hK 9 rfl) rfl rfl rfl) hx3
  case z2_6 => intro a' w' hE hK hg; exact ok_move (kn (hK 1 rfl) rfl q1)
  case z2_7 => intro a' w' hE hK hg; exact okl_lenS ty9 (ksv (j := 6) (hK 11 rfl) rfl rfl rfl)
  case z2_8 => intro a' w' hE hK hg; have c_ := ok_colletref02_least4 (OkO.ext hB.ok hE)  hx4; exact ok_call1 fn29 (ksv (j := 7) (hK 12 rfl) rfl rfl rfl) c_
  case z2_9 => intro a' w' hE hK hg; exact okl_addS (ksv (j := 5) (hK 10 rfl) rfl rfl rfl) (ksv (j := 8) (hK 13 rfl) rfl rfl rfl) hx5
  case z2_10 => intro a' w' hE hK hg; exact ok_move (kn (hK 1 rfl) rfl q1)
  case z2_11 => intro a' w' hE hK hg; exact okl_addS (ksv (j := 9) (hK 14 rfl) rfl rfl rfl) (ksv (j := 10) (hK 15 rfl) rfl rfl rfl) hx6
  case z2_12 => intro a' w' hE hK hg; exact ok_move (kn (hK 0 rfl) rfl q0)
  case z2_13 => intro a' w' hE hK hg; exact okl_addS (ksv (j := 11) (hK 16 rfl) rfl rfl rfl) (ksv (j := 12) (hK 17 rfl) rfl rfl rfl) hx7
  case z2_14 => intro a' w' hE hK hg; have c_ := ok_colletref02_Of (OkO.ext hB.ok hE)  hx8; exact ok_call1 fn14 (ksv (j := 13) (hK 18 rfl) rfl rfl rfl) c_
  case z2_15 => intro a' w' hE hK hg; exact ok_assign (ksv (j := 14) (hK 19 rfl) rfl rfl rfl)
  case zok2 => kernel_rfl
  case zgd2 => kernel_rfl
  intro a2 w2 hA' hE HF
  have q4 := ksv (HF 4) rfl rfl rfl
  clear q0
  clear q1
  clear hA HF; have hA := hA'; clear hA'
  replace hB := Base.step hB hE hO; clear hE
  refine (li_nil ?_)
  refine (nx_then ?_)
  refine (wp_ret ?_)
  have h := Comp.run_pure h; subst h
  exact retPure Try.results12 hA q4 hB.ext rfl

theorem ok_colletref02_Chain {O : Tags} {w0 : World} (hO : OkO O w0) {x_0 : Bytes} {x_1 : Bytes} {n : Nat} {y : Bytes} (h : (colletref02_Chain x_0 x_1).run n = some y) : Pure Try.prog 16 #[.string (str x_0), .string (str x_1)] w0 (SP.isv (.string (str y))).holds := by
  unfold colletref02_Chain at h
  refine pure_of_wp Try.func16 rfl 14 Try.ntmps16 (by simp) fun a0 hA hs0 => ?_
  have q0 := hs0 0 _ rfl
  have q1 := hs0 1 _ rfl
  clear hs0
  have hB : Base (Fr w0) O w0 O w0 := Base.start hO
  refine wp_seq ?_
  refine' region [_] mixed hA (.cons ?z1_0 .nil) ?zok1 ?zgd1 ?zk1
  case z1_0 => intro a' w' hE hK hg; exact ok_assign rfl
  case zok1 => kernel_rfl
  case zgd1 => kernel_rfl
  intro a1 w1 hA' hE HF
  replace q0 := kn (HF 0) rfl q0
  replace q1 := kn (HF 1) rfl q1
  clear hA HF; have hA := hA'; clear hA'
  replace hB := Base.step hB hE hO; clear hE
  refine (li_nil ?_)
  refine (nx_then ?_)
  refine wp_seq ?_
  obtain ⟨x1, hx1, h⟩ := Comp.run_bind h
  obtain ⟨x2, hx2, h⟩ := Comp.run_bind h
  obtain ⟨x3, hx3, h⟩ := Comp.run_bind h
  obtain ⟨x4, hx4, h⟩ := Comp.run_bind h
  obtain ⟨x5, hx5, h⟩ := Comp.run_bind h
  refine' region [_, _, SP.isv (.string (str x1)), SP.isv (.string (str x2)), _, SP.isv (.string (str x3)), _, SP.isv (.string (str x4)), SP.isv (.string (str x5)), _] mixed hA (.cons ?z2_0 (.cons ?z2_1 (.cons ?z2_2 (.cons ?z2_3 (.cons ?z2_4 (.cons ?z2_5 (.cons ?z2_6 (.cons ?z2_7 (.cons ?z2_8 (.cons ?z2_9 .nil)))))))))) ?zok2 ?zgd2 ?zk2
  case z2_0 => intro a' w' hE hK hg; exact ok_move (kn (hK 0 rfl) rfl q0)
  case z2_1 => intro a' w' hE hK hg; exact okl_lenS ty9 (ksv (j := 0) (hK 5 rfl) rfl rfl rfl)
  case z2_2 => intro a' w' hE hK hg; have c_ := ok_colletref02_least4 (OkO.ext hB.ok hE)  hx1; exact ok_call1 fn29 (ksv (j := 1) (hK 6 rfl) rfl rfl rfl) c_
  case z2_3 => intro a' w' hE hK hg; exact okl_addS rfl (ksv (j := 2) (hK 7 rfl) rfl rfl rfl) hx2
  case z2_4 => intro a' w' hE hK hg; exact ok_move (kn (hK 0 rfl) rfl q0)
  case z2_5 => intro a' w' hE hK hg; exact okl_addS (ksv (j := 3) (hK 8 rfl) rfl rfl rfl) (ksv (j := 4) (hK 9 rfl) rfl rfl rfl) hx3
  case z2_6 => intro a' w' hE hK hg; exact ok_move (kn (hK 1 rfl) rfl q1)
  case z2_7 => intro a' w' hE hK hg; exact okl_addS (ksv (j := 5) (hK 10 rfl) rfl rfl rfl) (ksv (j := 6) (hK 11 rfl) rfl rfl rfl) hx4
  case z2_8 => intro a' w' hE hK hg; have c_ := ok_colletref02_Of (OkO.ext hB.ok hE)  hx5; exact ok_call1 fn14 (ksv (j := 7) (hK 12 rfl) rfl rfl rfl) c_
  case z2_9 => intro a' w' hE hK hg; exact ok_assign (ksv (j := 8) (hK 13 rfl) rfl rfl rfl)
  case zok2 => kernel_rfl
  case zgd2 => kernel_rfl
  intro a2 w2 hA' hE HF
  have q4 := ksv (HF 4) rfl rfl rfl
  clear q0
  clear q1
  clear hA HF; have hA := hA'; clear hA'
  replace hB := Base.step hB hE hO; clear hE
  refine (li_nil ?_)
  refine (nx_then ?_)
  refine (wp_ret ?_)
  have h := Comp.run_pure h; subst h
  exact retPure Try.results16 hA q4 hB.ext rfl

theorem ok_colletref02_Check {O : Tags} {w0 : World} (hO : OkO O w0) {x_0 : Bytes} {x_1 : Bytes} {x_2 : Bytes} {n : Nat} {y : Bool} (h : (colletref02_Check x_0 x_1 x_2).run n = some y) : Pure Try.prog 19 #[.string (str x_0), .string (str x_1), .string (str x_2)] w0 (SP.isv (.bool y)).holds := by
  unfold colletref02_Check at h
  refine pure_of_wp Try.func19 rfl 16 Try.ntmps19 (by simp) fun a0 hA hs0 => ?_
  have q0 := hs0 0 _ rfl
  have q1 := hs0 1 _ rfl
  have q2 := hs0 2 _ rfl
  clear hs0
  have hB : Base (Fr w0) O w0 O w0 := Base.start hO
  refine wp_seq ?_
  refine' region [_] mixed hA (.cons ?z1_0 .nil) ?zok1 ?zgd1 ?zk1
  case z1_0 => intro a' w' hE hK hg; exact ok_assign rfl
  case zok1 => kernel_rfl
  case zgd1 => kernel_rfl
  intro a1 w1 hA' hE HF
  replace q0 := kn (HF 0) rfl q0
  replace q1 := kn (HF 1) rfl q1
  replace q2 := kn (HF 2) rfl q2
  clear hA HF; have hA := hA'; clear hA'
  replace hB := Base.step hB hE hO; clear hE
  refine (li_nil ?_)
  refine (nx_then ?_)
  refine wp_seq ?_
  obtain ⟨x1, hx1, h⟩ := Comp.run_bind h
  refine' region [_, _, _, _, _, _, SP.isv (.string (str x1)), _, _, _] mixed hA (.cons ?z2_0 (.cons ?z2_1 (.cons ?z2_2 (.cons ?z2_3 (.cons ?z2_4 (.cons ?z2_5 (.cons ?z2_6 (.cons ?z2_7 (.cons ?z2_8 (.cons ?z2_9 .nil)))))))))) ?zok2 ?zgd2 ?zk2
  case z2_0 => intro a' w' hE hK hg; exact ok_move (kn (hK 0 rfl) rfl q0)
  case z2_1 => intro a' w' hE hK hg; exact okl_neqS (ksv (j := 0) (hK 7 rfl) rfl rfl rfl) rfl
  case z2_2 => intro a' w' hE hK hg; exact ok_move (ksv (j := 1) (hK 8 rfl) rfl rfl rfl)
  case z2_3 => intro a' w' hE hK hg; exact ok_move (kn (hK 2 rfl) rfl q2)
  case z2_4 => intro a' w' hE hK hg; exact ok_move (kn (hK 0 rfl) rfl q0)
  case z2_5 => intro a' w' hE hK hg; exact ok_move (kn (hK 1 rfl) rfl q1)
  case z2_6 => intro a' w' hE hK hg; have c_ := ok_colletref02_Mark (OkO.ext hB.ok hE)  (run_gdb hx1 hg); exact ok_call2 fn12 (ksv (j := 4) (hK 11 rfl) rfl rfl hg) (ksv (j := 5) (hK 12 rfl) rfl rfl hg) c_
  case z2_7 => intro a' w' hE hK hg; exact okl_eqlS (ksv (j := 3) (hK 10 rfl) rfl rfl hg) (ksv (j := 6) (hK 13 rfl) rfl rfl hg)
  case z2_8 => intro a' w' hE hK hg; exact ok_pick (ksv (j := 2) (hK 9 rfl) rfl rfl rfl) (fun hb => ksv (j := 7) (hK 14 rfl) rfl rfl (act_g1 rfl rfl hb)) (fun _ => rfl)
  case z2_9 => intro a' w' hE hK hg; exact ok_assign (ksv (j := 8) (hK 15 rfl) rfl rfl rfl)
  case zok2 => kernel_rfl
  case zgd2 => kernel_rfl
  intro a2 w2 hA' hE HF
  have q6 := ksv (HF 6) rfl rfl rfl
  clear q0
  clear q1
  clear q2
  clear hA HF; have hA := hA'; clear hA'
  replace hB := Base.step hB hE hO; clear hE
  obtain ⟨x2, hx_, h⟩ := Comp.run_bind h; replace hx_ := Comp.run_pure hx_; rw [hx_] at q6; clear hx_
  refine (li_nil ?_)
  refine (nx_then ?_)
  refine (wp_ret ?_)
  have h := Comp.run_pure h; subst h
  exact retPure Try.results19 hA q6 hB.ext rfl

theorem ok_colletlaw02_DigestForms {O : Tags} {w0 : World} (hO : OkO O w0) {x_0 : Bytes} {x_1 : Bytes} {x_2 : colletlaw02_Change} {n : Nat} {y : Bool} (h : (colletlaw02_DigestForms x_0 x_1 x_2).run n = some y) : Pure Try.prog 3 #[.string (str x_0), .string (str x_1), .agg #[.int .u8 x_2.At, .int .u8 x_2.Byte, .string (str x_2.Tail)]] w0 (SP.isv (.bool y)).holds := by
  unfold colletlaw02_DigestForms at h
  refine pure_of_wp Try.func3 rfl 103 Try.ntmps3 (by simp) fun a0 hA hs0 => ?_
  have q0 := hs0 0 _ rfl
  have q1 := hs0 1 _ rfl
  have q2 := hs0 2 _ rfl
  clear hs0
  have hB : Base (Fr w0) O w0 O w0 := Base.start hO
  refine wp_seq ?_
  refine' region [SP.vl (rBox r_colletlaw02_Change) O x_2, _] mixed hA (.cons ?z1_0 (.cons ?z1_1 .nil)) ?zok1 ?zgd1 ?zk1
  case z1_0 => intro a' w' hE hK hg; exact okl_boxV (r := r_colletlaw02_Change) fit_colletlaw02_Change (OkO.ext hB.ok hE) (kn (hK 2 rfl) rfl q2) (by first | exact rInt_v.2 rfl | exact rBool_v.2 rfl | exact rStr_v.2 rfl | exact rC_v.2 rfl | exact ⟨_, rfl, rfl⟩)
  case z1_1 => intro a' w' hE hK hg; exact ok_assign rfl
  case zok1 => kernel_rfl
  case zgd1 => kernel_rfl
  intro a1 w1 hA' hE HF
  replace q0 := kn (HF 0) rfl q0
  replace q1 := kn (HF 1) rfl q1
  have f2 := ksp (HF 5) rfl rfl rfl
  obtain ⟨u1, q5'⟩ : ∃ u, a1.get 5 = u := ⟨_, rfl⟩
  rw [q5'] at f2
  have q5 := q5'; clear q5'
  clear q2
  clear hA HF; have hA := hA'; clear hA'
  replace hB := Base.step hB hE hO; clear hE
  refine (li_nil ?_)
  refine (nx_then ?_)
  refine wp_seq ?_
  obtain ⟨x3, hx3, h⟩ := Comp.run_bind h
  refine' region [SP.isv (.bool x3), _] mixed hA (.cons ?z2_0 (.cons ?z2_1 .nil)) ?zok2 ?zgd2 ?zk2
  case z2_0 => intro a' w' hE hK hg; have c_ := ok_colletlaw02_sanity (OkO.ext hB.ok hE)  hx3; exact ok_call0 fn9  c_
  case z2_1 => intro a' w' hE hK hg; exact ok_assign (ksv (j := 0) (hK 13 rfl) rfl rfl rfl)
  case zok2 => kernel_rfl
  case zgd2 => kernel_rfl
  intro a2 w2 hA' hE HF
  replace q0 := kn (HF 0) rfl q0
  replace q1 := kn (HF 1) rfl q1
  replace q5 := kn (HF 5) rfl q5
  have q7 := ksv (HF 7) rfl rfl rfl
  clear hA HF; have hA := hA'; clear hA'
  replace f2 := GR.v_ext _ f2 hE
  replace hB := Base.step hB hE hO; clear hE
  refine (li_nil ?_)
  refine (nx_then ?_)
  refine wp_seq ?_
  obtain ⟨x4, hx4, h⟩ := Comp.run_bind h
  obtain ⟨x5, hx5, h⟩ := Comp.run_bind h
  refine' region [_, SP.isv (.string (str x4)), _, SP.isv (.string (str x5)), _, _] mixed hA (.cons ?z3_0 (.cons ?z3_1 (.cons ?z3_2 (.cons ?z3_3 (.cons ?z3_4 (.cons ?z3_5 .nil)))))) ?zok3 ?zgd3 ?zk3
  case z3_0 => intro a' w' hE hK hg; exact ok_move (kn (hK 0 rfl) rfl q0)
  case z3_1 => intro a' w' hE hK hg; have c_ := ok_colletlaw02_short (OkO.ext hB.ok hE)  hx4; exact ok_call1 fn10 (ksv (j := 0) (hK 14 rfl) rfl rfl rfl) c_
  case z3_2 => intro a' w' hE hK hg; exact ok_move (kn (hK 1 rfl) rfl q1)
  case z3_3 => intro a' w' hE hK hg; have c_ := ok_colletlaw02_short (OkO.ext hB.ok hE)  hx5; exact ok_call1 fn10 (ksv (j := 2) (hK 16 rfl) rfl rfl rfl) c_
  case z3_4 => intro a' w' hE hK hg; exact ok_assign (ksv (j := 1) (hK 15 rfl) rfl rfl rfl)
  case z3_5 => intro a' w' hE hK hg; exact ok_assign (ksv (j := 3) (hK 17 rfl) rfl rfl rfl)
  case zok3 => kernel_rfl
  case zgd3 => kernel_rfl
  intro a3 w3 hA' hE HF
  have q0' := ksv (HF 0) rfl rfl rfl
  replace q0 := q0'; clear q0'
  have q1' := ksv (HF 1) rfl rfl rfl
  replace q1 := q1'; clear q1'
  replace q5 := kn (HF 5) rfl q5
  replace q7 := kn (HF 7) rfl q7
  clear hA HF; have hA := hA'; clear hA'
  replace f2 := GR.v_ext _ f2 hE
  replace hB := Base.step hB hE hO; clear hE
  refine (li_nil ?_)
  refine (nx_then ?_)
  refine seq_join (fun a w => ∃ (O54 : Tags), a.fit 103 ∧ Base (Fr w0) O w0 O54 w ∧ a.get 7 = .bool x3 ∧ (colletlaw02_DigestForms_j1 x3 ).run n = some y) ?_ ?_
  ·
    refine wp_seq ?_
    obtain ⟨x6, hx6, h⟩ := Comp.run_bind h
    obtain ⟨x7, hx7, h⟩ := Comp.run_bind h
    refine' region [_, _, SP.isv (.agg (cellsA (fun x => [.string (str x)]) (#v[x4, x5] : Vector Bytes 2)).toArray), _, _, SP.isv (.agg (cellsA (fun x => [.string (str x)]) (#v[x5, x4] : Vector Bytes 2)).toArray), _, SP.isv (.agg #[.int .u8 x_2.At, .int .u8 x_2.Byte, .string (str x_2.Tail)]), _, SP.isv (.string (str x6)), SP.isv (.agg (cellsA (fun x => [.string (str x)]) (#v[x4, x6] : Vector Bytes 2)).toArray), _, _, SP.isv (.string (str x7)), SP.isv (.agg (cellsA (fun x => [.string (str x)]) (#v[x7, ([] : Bytes)] : Vector Bytes 2)).toArray), SP.vl (rSl (rVec 2 1 (fun x => [.string (str x)]) (fun _ => rfl) (fun _ => by simp [Value.oneCell']))) O [(#v[x4, x5] : Vector Bytes 2), (#v[x5, x4] : Vector Bytes 2), (#v[x4, x6] : Vector Bytes 2), (#v[x7, ([] : Bytes)] : Vector Bytes 2)], _, _] mixed hA (.cons ?z4_0 (.cons ?z4_1 (.cons ?z4_2 (.cons ?z4_3 (.cons ?z4_4 (.cons ?z4_5 (.cons ?z4_6 (.cons ?z4_7 (.cons ?z4_8 (.cons ?z4_9 (.cons ?z4_10 (.cons ?z4_11 (.cons ?z4_12 (.cons ?z4_13 (.cons ?z4_14 (.cons ?z4_15 (.cons ?z4_16 (.cons ?z4_17 .nil)))))))))))))))))) ?zok4 ?zgd4 ?zk4
    case z4_0 => intro a' w' hE hK hg; exact ok_move (kn (hK 0 rfl) rfl q0)
    case z4_1 => intro a' w' hE hK hg; exact ok_move (kn (hK 1 rfl) rfl q1)
    case z4_2 => intro a' w' hE hK hg; refine okl_buildArr (vals := [(0, .string (str x4)), (1, .string (str x5))]) (out := [.string (str x4), .string (str x5)]) ty26 ty9 ?_ rfl ?_ rfl; exact (pk_cons (v := .string (str x4)) (ksv (j := 0) (hK 18 rfl) rfl rfl rfl) (pk_cons (v := .string (str x5)) (ksv (j := 1) (hK 19 rfl) rfl rfl rfl) pk_nil)); exact (.cons rfl rfl rfl (Nat.le_of_ble_eq_true rfl) (.cons rfl rfl rfl (Nat.le_of_ble_eq_true rfl) .nil))
    case z4_3 => intro a' w' hE hK hg; exact ok_move (kn (hK 1 rfl) rfl q1)
    case z4_4 => intro a' w' hE hK hg; exact ok_move (kn (hK 0 rfl) rfl q0)
    case z4_5 => intro a' w' hE hK hg; refine okl_buildArr (vals := [(0, .string (str x5)), (1, .string (str x4))]) (out := [.string (str x5), .string (str x4)]) ty26 ty9 ?_ rfl ?_ rfl; exact (pk_cons (v := .string (str x5)) (ksv (j := 3) (hK 21 rfl) rfl rfl rfl) (pk_cons (v := .string (str x4)) (ksv (j := 4) (hK 22 rfl) rfl rfl rfl) pk_nil)); exact (.cons rfl rfl rfl (Nat.le_of_ble_eq_true rfl) (.cons rfl rfl rfl (Nat.le_of_ble_eq_true rfl) .nil))
    case z4_6 => intro a' w' hE hK hg; exact ok_move (kn (hK 0 rfl) rfl q0)
    case z4_7 => intro a' w' hE hK hg; exact okl_ldr r_colletlaw02_Change fit_colletlaw02_Change ty23 rfl rfl (kn (hK 5 rfl) rfl q5) (ptr_of_box fit_colletlaw02_Change (GR.v_ext _ f2 hE)) (fun _ _ _ h => rC_v.1 h)
    case z4_8 => intro a' w' hE hK hg; exact ok_move (kn (hK 0 rfl) rfl q0)
    case z4_9 => intro a' w' hE hK hg; have c_ := m_chg lChange (OkO.ext hB.ok hE)  hx6; exact ok_call2 fn11 (ksv (j := 7) (hK 25 rfl) rfl rfl rfl) (ksv (j := 8) (hK 26 rfl) rfl rfl rfl) c_
    case z4_10 => intro a' w' hE hK hg; refine okl_buildArr (vals := [(0, .string (str x4)), (1, .string (str x6))]) (out := [.string (str x4), .string (str x6)]) ty26 ty9 ?_ rfl ?_ rfl; exact (pk_cons (v := .string (str x4)) (ksv (j := 6) (hK 24 rfl) rfl rfl rfl) (pk_cons (v := .string (str x6)) (ksv (j := 9) (hK 27 rfl) rfl rfl rfl) pk_nil)); exact (.cons rfl rfl rfl (Nat.le_of_ble_eq_true rfl) (.cons rfl rfl rfl (Nat.le_of_ble_eq_true rfl) .nil))
    case z4_11 => intro a' w' hE hK hg; exact ok_move (kn (hK 0 rfl) rfl q0)
    case z4_12 => intro a' w' hE hK hg; exact ok_move (kn (hK 1 rfl) rfl q1)
    case z4_13 => intro a' w' hE hK hg; exact okl_addS (ksv (j := 11) (hK 29 rfl) rfl rfl rfl) (ksv (j := 12) (hK 30 rfl) rfl rfl rfl) hx7
    case z4_14 => intro a' w' hE hK hg; refine okl_buildArr (vals := [(0, .string (str x7)), (1, .string (str ([] : Bytes)))]) (out := [.string (str x7), .string (str ([] : Bytes))]) ty26 ty9 ?_ rfl ?_ rfl; exact (pk_cons (v := .string (str x7)) (ksv (j := 13) (hK 31 rfl) rfl rfl rfl) (pk_cons (v := .string (str ([] : Bytes))) rfl pk_nil)); exact (.cons rfl rfl rfl (Nat.le_of_ble_eq_true rfl) (.cons rfl rfl rfl (Nat.le_of_ble_eq_true rfl) .nil))
    case z4_15 => intro a' w' hE hK hg; exact okl_buildSliceV (r := (rVec 2 1 (fun x => [.string (str x)]) (fun _ => rfl) (fun _ => by simp [Value.oneCell']))) (by intro h; cases h) rfl (OkO.ext hB.ok hE) ty27 ty26 (parts_cons (ksv (j := 2) (hK 20 rfl) rfl rfl rfl) (parts_cons (ksv (j := 5) (hK 23 rfl) rfl rfl rfl) (parts_cons (ksv (j := 10) (hK 28 rfl) rfl rfl rfl) (parts_cons (ksv (j := 14) (hK 32 rfl) rfl rfl rfl) parts_nil)))) ⟨(by first | exact rInt_v.2 rfl | exact rBool_v.2 rfl | exact rStr_v.2 rfl | exact rC_v.2 rfl | exact ⟨_, rfl, rfl⟩), ⟨(by first | exact rInt_v.2 rfl | exact rBool_v.2 rfl | exact rStr_v.2 rfl | exact rC_v.2 rfl | exact ⟨_, rfl, rfl⟩), ⟨(by first | exact rInt_v.2 rfl | exact rBool_v.2 rfl | exact rStr_v.2 rfl | exact rC_v.2 rfl | exact ⟨_, rfl, rfl⟩), ⟨(by first | exact rInt_v.2 rfl | exact rBool_v.2 rfl | exact rStr_v.2 rfl | exact rC_v.2 rfl | exact ⟨_, rfl, rfl⟩), trivial⟩⟩⟩⟩ rfl (by decide)
    case z4_16 => intro a' w' hE hK hg; exact okl_len (r := (rVec 2 1 (fun x => [.string (str x)]) (fun _ => rfl) (fun _ => by simp [Value.oneCell']))) ty27 rfl (rd_of (kspS (φ := SP.vl (rSl (rVec 2 1 (fun x => [.string (str x)]) (fun _ => rfl) (fun _ => by simp [Value.oneCell']))) O [(#v[x4, x5] : Vector Bytes 2), (#v[x5, x4] : Vector Bytes 2), (#v[x4, x6] : Vector Bytes 2), (#v[x7, ([] : Bytes)] : Vector Bytes 2)]) (j := 15) (hK 33 rfl) rfl rfl rfl))
    case z4_17 => intro a' w' hE hK hg; exact ok_move rfl
    case zok4 => kernel_rfl
    case zgd4 => kernel_rfl
    intro a4 w4 hA' hE HF
    replace q5 := kn (HF 5) rfl q5
    replace q7 := kn (HF 7) rfl q7
    have f9 := ksp (HF 33) rfl rfl rfl
    obtain ⟨u8, q33'⟩ : ∃ u, a4.get 33 = u := ⟨_, rfl⟩
    rw [q33'] at f9
    have q33 := q33'; clear q33'
    have q34 := ksv (HF 34) rfl rfl rfl
    have q35 := ksv (HF 35) rfl rfl rfl
    clear q0
    clear q1
    clear hA HF; have hA := hA'; clear hA'
    replace f2 := GR.v_ext _ f2 hE
    replace hB := Base.step hB hE hO; clear hE
    obtain ⟨x10, hx_, h⟩ := Comp.run_bind h; replace hx_ := Comp.run_pure hx_; rw [hx_] at q34; clear hx_
    refine (li_nil ?_)
    refine (nx_then ?_)
    refine wp_block ?_
    obtain ⟨e2, he2, hk2⟩ := Comp.run_bind h; clear h
    refine loop_m (fun m a w => ∃ (O12 : Tags) (x11 : Int), a.fit 103 ∧ Base (Fr w0) O w0 O12 w ∧ a.get 5 = u1 ∧ (rBox r_colletlaw02_Change).v O12 w u1 x_2 ∧ a.get 7 = .bool x3 ∧ a.get 33 = u8 ∧ (rSl (rVec 2 1 (fun x => [.string (str x)]) (fun _ => rfl) (fun _ => by simp [Value.oneCell']))).v O12 w u8 [(#v[x4, x5] : Vector Bytes 2), (#v[x5, x4] : Vector Bytes 2), (#v[x4, x6] : Vector Bytes 2), (#v[x7, ([] : Bytes)] : Vector Bytes 2)] ∧ a.get 34 = .int .i64 x10 ∧ a.get 35 = .int .i64 x11 ∧ Comp.loopN (fun s => colletlaw02_DigestForms_l2 x10 x4 x5 x6 x7 x_2 s) n m x11 = some e2) (m := n) ?st2 ?_
    case st2 =>
      exact ⟨_, _, hA, hB, q5, f2, q7, q33, f9, q34, q35, Comp.run_loop he2⟩
    intro m_ a5 w5 hI
    clear hA hB he2 q5 q7 q33 q34 q35 f2 f9
    obtain ⟨O12, x11, hA, hB, q5, f2, q7, q33, f9, q34, q35, hl⟩ := hI
    obtain ⟨m2, hlt2, st2, h, hnext2, hdone2⟩ := Comp.loopN_succ hl; clear hl
    replace h : (colletlaw02_DigestForms_l2 x10 x4 x5 x6 x7 x_2 x11).run n = some st2 := h
    unfold colletlaw02_DigestForms_l2 at h
    refine wp_seq ?_
    refine' region [_] mixed hA (.cons ?z5_0 .nil) ?zok5 ?zgd5 ?zk5
    case z5_0 => intro a' w' hE hK hg; exact ok_lss (kn (hK 35 rfl) rfl q35) (kn (hK 34 rfl) rfl q34)
    case zok5 => kernel_rfl
    case zgd5 => kernel_rfl
    intro a6 w6 hA' hE HF
    replace q5 := kn (HF 5) rfl q5
    replace q7 := kn (HF 7) rfl q7
    replace q33 := kn (HF 33) rfl q33
    replace q34 := kn (HF 34) rfl q34
    replace q35 := kn (HF 35) rfl q35
    have q36 := ksv (HF 36) rfl rfl rfl
    clear hA HF; have hA := hA'; clear hA'
    replace f2 := GR.v_ext _ f2 hE
    replace f9 := GR.v_ext _ f9 hE
    replace hB := Base.step hB hE hO; clear hE
    refine (li_nil ?_)
    refine (nx_then ?_)
    refine wp_seq ?_
    refine wp_cond_b q36 (fun hc => ?_) (fun hc => ?_)
    ·
      replace h := Comp.run_b_t hc h; clear hc
      refine wp_skip ?_
      refine (nx_then ?_)
      refine wp_seq ?_
      refine wp_block ?_
      refine wp_seq ?_
      obtain ⟨x13, hx13, h⟩ := Comp.run_bind h
      refine' regionT [SP.ptr (rVec 2 1 (fun x => [.string (str x)]) (fun _ => rfl) (fun _ => by simp [Value.oneCell'])) O12 x13, SP.isv (.agg (cellsA (fun x => [.string (str x)]) x13).toArray), SP.box w6.heap.size (cellsA (fun x => [.string (str x)]) (Vector.replicate 2 [])).toArray 26] hA (.cons ?z6_0 (.cons ?z6_1 (.cons ?z6_2 .nil))) ?zok6 ?zgd6 ?zk6
      case z6_0 => intro a' w' hE hK hg; exact okl_idx (r := (rVec 2 1 (fun x => [.string (str x)]) (fun _ => rfl) (fun _ => by simp [Value.oneCell']))) (O := O12) ty27 ty26 rfl (kn (hK 33 rfl) rfl q33) (rd_of (GR.v_ext _ f9 hE)) (kn (hK 35 rfl) rfl q35) hx13
      case z6_1 => intro a' w' hE hK hg; exact okl_ldr (rVec 2 1 (fun x => [.string (str x)]) (fun _ => rfl) (fun _ => by simp [Value.oneCell'])) (by intro h; cases h) ty26 rfl rfl rfl (kspS (φ := SP.ptr (rVec 2 1 (fun x => [.string (str x)]) (fun _ => rfl) (fun _ => by simp [Value.oneCell'])) O12 x13) (j := 0) (hK 37 rfl) rfl rfl rfl) (fun _ _ _ h => rC_v.1 h)
      case z6_2 => intro a' w' hE hK hg; exact ok_alloc hE.size ty26
      case zok6 => kernel_rfl
      case zgd6 => kernel_rfl
      intro a7 w7 hA' hE HF
      replace q5 := kn (HF 5) rfl q5
      replace q7 := kn (HF 7) rfl q7
      have f15 := ksp (HF 9) rfl rfl rfl
      obtain ⟨u14, q9'⟩ : ∃ u, a7.get 9 = u := ⟨_, rfl⟩
      rw [q9'] at f15
      have q9 := q9'; clear q9'
      replace q33 := kn (HF 33) rfl q33
      replace q34 := kn (HF 34) rfl q34
      replace q35 := kn (HF 35) rfl q35
      have q38 := ksv (HF 38) rfl rfl rfl
      clear q36
      clear hA HF; have hA := hA'; clear hA'
      obtain ⟨O16, b17, hB', hX, e_, f18⟩ := boxNew hO hB hE f15 1 (by decide)
      subst e_
      clear hB f15; have hB := hB'; clear hB'
      replace f2 := GR.kx _ f2 hX (by decide)
      replace f9 := GR.kx _ f9 hX (by decide)
      clear hX hE
      refine l_storeSub (vs := (cellsA (fun x => [.string (str x)]) x13)) (cs' := (cellsA (fun x => [.string (str x)]) x13).toArray) hO hB (okB_fr hB) (ty26.szr (by simp [cellsA_len (f := (fun x => [.string (str x)])) (k := 1) (fun _ => rfl)])) q9 q38 rfl ((show ∀ x_ : Vector Bytes 2, ∀ c_ ∈ (cellsA (fun x => [.string (str x)]) x_), c_.oneCell' = true from (fun _ => (cellsA_one (fun _ => by simp [Value.oneCell']) _))) x13) f18 (by simp [cellsA_len (f := (fun x => [.string (str x)])) (k := 1) (fun _ => rfl)]) (splice_all (by simp [cellsA_len (f := (fun x => [.string (str x)])) (k := 1) (fun _ => rfl)])) fun w8 f19 hB' hX => ?_
      clear hB f18; have hB := hB'; clear hB'
      replace f2 := GR.kx _ f2 hX (by decide)
      replace f9 := GR.kx _ f9 hX (by decide)
      clear hX
      refine (li_nil ?_)
      refine (nx_then ?_)
      refine wp_seq ?_
      obtain ⟨x20, hx20, h⟩ := Comp.run_bind h
      obtain ⟨x21, hx21, h⟩ := Comp.run_bind h
      obtain ⟨x22, hx22, h⟩ := Comp.run_bind h
      refine' region [SP.isv (.pointer (some ⟨b17, 0 + Int.toNat (0) * 1, none⟩)), SP.isv (.string (str x20)), SP.isv (.pointer (some ⟨b17, 0 + Int.toNat (1) * 1, none⟩)), SP.isv (.string (str x21)), SP.isv (.string (str x22)), _] mixed hA (.cons ?z7_0 (.cons ?z7_1 (.cons ?z7_2 (.cons ?z7_3 (.cons ?z7_4 (.cons ?z7_5 .nil)))))) ?zok7 ?zgd7 ?zk7
      case z7_0 => intro a' w' hE hK hg; exact ok_idxOwnArr ty26 ty9 (kn (hK 9 rfl) rfl q9) rfl (vidx_lt hx20)
      case z7_1 => intro a' w' hE hK hg; exact okl_loadArr (f := (fun x => [.string (str x)])) (l1 := []) (l2 := []) (fun _ => rfl) (fun _ => by simp [Value.oneCell']) (fun _ => rfl) ty9 rfl (ksv (j := 0) (hK 39 rfl) rfl rfl rfl) (OwnB.ext f19 hE).own (by simp) rfl hx20
      case z7_2 => intro a' w' hE hK hg; exact ok_idxOwnArr ty26 ty9 (kn (hK 9 rfl) rfl q9) rfl (vidx_lt hx21)
      case z7_3 => intro a' w' hE hK hg; exact okl_loadArr (f := (fun x => [.string (str x)])) (l1 := []) (l2 := []) (fun _ => rfl) (fun _ => by simp [Value.oneCell']) (fun _ => rfl) ty9 rfl (ksv (j := 2) (hK 41 rfl) rfl rfl rfl) (OwnB.ext f19 hE).own (by simp) rfl hx21
      case z7_4 => intro a' w' hE hK hg; have c_ := ok_colletref02_Mark (OkO.ext hB.ok hE)  hx22; exact ok_call2 fn12 (ksv (j := 1) (hK 40 rfl) rfl rfl rfl) (ksv (j := 3) (hK 42 rfl) rfl rfl rfl) c_
      case z7_5 => intro a' w' hE hK hg; exact ok_assign (ksv (j := 4) (hK 43 rfl) rfl rfl rfl)
      case zok7 => kernel_rfl
      case zgd7 => kernel_rfl
      intro a9 w9 hA' hE HF
      replace q5 := kn (HF 5) rfl q5
      replace q7 := kn (HF 7) rfl q7
      replace q9 := kn (HF 9) rfl q9
      have q10 := ksv (HF 10) rfl rfl rfl
      replace q33 := kn (HF 33) rfl q33
      replace q34 := kn (HF 34) rfl q34
      replace q35 := kn (HF 35) rfl q35
      clear hA HF; have hA := hA'; clear hA'
      replace f2 := GR.v_ext _ f2 hE
      replace f9 := GR.v_ext _ f9 hE
      replace f19 := f19.ext hE
      replace hB := Base.step hB hE hO; clear hE
      refine (li_nil ?_)
      refine (nx_then ?_)
      refine wp_seq ?_
      refine wp_seq ?_
      obtain ⟨x23, hx23, h⟩ := Comp.run_bind h
      obtain ⟨x24, hx24, h⟩ := Comp.run_bind h
      obtain ⟨x25, hx25, h⟩ := Comp.run_bind h
      obtain ⟨x26, hx26, h⟩ := Comp.run_bind h
      obtain ⟨x27, hx27, h⟩ := Comp.run_bind h
      obtain ⟨x28, hx28, h⟩ := Comp.run_bind h
      obtain ⟨x29, hx29, h⟩ := Comp.run_bind h
      obtain ⟨x30, hx30, h⟩ := Comp.run_bind h
      obtain ⟨x31, hx31, h⟩ := Comp.run_bind h
      obtain ⟨x32, hx32, h⟩ := Comp.run_bind h
      obtain ⟨x33, hx33, h⟩ := Comp.run_bind h
      obtain ⟨x34, hx34, h⟩ := Comp.run_bind h
      obtain ⟨x35, hx35, h⟩ := Comp.run_bind h
      refine' region [SP.isv (.pointer (some ⟨b17, 0 + Int.toNat (0) * 1, none⟩)), SP.isv (.string (str x23)), SP.isv (.string (str x24)), SP.isv (.pointer (some ⟨b17, 0 + Int.toNat (0) * 1, none⟩)), SP.isv (.string (str x25)), SP.isv (.string (str x26)), _, _, SP.isv (.pointer (some ⟨b17, 0 + Int.toNat (0) * 1, none⟩)), SP.isv (.string (str x27)), SP.isv (.pointer (some ⟨b17, 0 + Int.toNat (1) * 1, none⟩)), SP.isv (.string (str x28)), SP.isv (.string (str x29)), SP.isv (.pointer (some ⟨b17, 0 + Int.toNat (0) * 1, none⟩)), SP.isv (.string (str x30)), SP.isv (.pointer (some ⟨b17, 0 + Int.toNat (1) * 1, none⟩)), SP.isv (.string (str x31)), SP.isv (.string (str x32)), _, _, _, SP.isv (.pointer (some ⟨b17, 0 + Int.toNat (0) * 1, none⟩)), SP.isv (.string (str x33)), SP.isv (.pointer (some ⟨b17, 0 + Int.toNat (1) * 1, none⟩)), SP.isv (.string (str x34)), SP.isv (.string (str x35)), _, _, _] mixed hA (.cons ?z8_0 (.cons ?z8_1 (.cons ?z8_2 (.cons ?z8_3 (.cons ?z8_4 (.cons ?z8_5 (.cons ?z8_6 (.cons ?z8_7 (.cons ?z8_8 (.cons ?z8_9 (.cons ?z8_10 (.cons ?z8_11 (.cons ?z8_12 (.cons ?z8_13 (.cons ?z8_14 (.cons ?z8_15 (.cons ?z8_16 (.cons ?z8_17 (.cons ?z8_18 (.cons ?z8_19 (.cons ?z8_20 (.cons ?z8_21 (.cons ?z8_22 (.cons ?z8_23 (.cons ?z8_24 (.cons ?z8_25 (.cons ?z8_26 (.cons ?z8_27 (.cons ?z8_28 .nil))))))))))))))))))))))))))))) ?zok8 ?zgd8 ?zk8
      case z8_0 => intro a' w' hE hK hg; exact ok_idxOwnArr ty26 ty9 (kn (hK 9 rfl) rfl q9) rfl (vidx_lt hx23)
      case z8_1 => intro a' w' hE hK hg; exact okl_loadArr (f := (fun x => [.string (str x)])) (l1 := []) (l2 := []) (fun _ => rfl) (fun _ => by simp [Value.oneCell']) (fun _ => rfl) ty9 rfl (ksv (j := 0) (hK 44 rfl) rfl rfl rfl) (OwnB.ext f19 hE).own (by simp) rfl hx23
      case z8_2 => intro a' w' hE hK hg; have c_ := ok_digest_Of (OkO.ext hB.ok hE)  hx24; exact ok_call1 fn13 (ksv (j := 1) (hK 45 rfl) rfl rfl rfl) c_
      case z8_3 => intro a' w' hE hK hg; exact ok_idxOwnArr ty26 ty9 (kn (hK 9 rfl) rfl q9) rfl (vidx_lt hx25)
      case z8_4 => intro a' w' hE hK hg; exact okl_loadArr (f := (fun x => [.string (str x)])) (l1 := []) (l2 := []) (fun _ => rfl) (fun _ => by simp [Value.oneCell']) (fun _ => rfl) ty9 rfl (ksv (j := 3) (hK 47 rfl) rfl rfl rfl) (OwnB.ext f19 hE).own (by simp) rfl hx25
      case z8_5 => intro a' w' hE hK hg; have c_ := ok_colletref02_Of (OkO.ext hB.ok hE)  hx26; exact ok_call1 fn14 (ksv (j := 4) (hK 48 rfl) rfl rfl rfl) c_
      case z8_6 => intro a' w' hE hK hg; exact okl_neqS (ksv (j := 2) (hK 46 rfl) rfl rfl rfl) (ksv (j := 5) (hK 49 rfl) rfl rfl rfl)
      case z8_7 => intro a' w' hE hK hg; exact ok_move (ksv (j := 6) (hK 50 rfl) rfl rfl rfl)
      case z8_8 => intro a' w' hE hK hg; exact ok_idxOwnArr ty26 ty9 (kn (hK 9 rfl) rfl q9) rfl (vidx_lt (run_gdb hx27 hg))
      case z8_9 => intro a' w' hE hK hg; exact okl_loadArr (f := (fun x => [.string (str x)])) (l1 := []) (l2 := []) (fun _ => rfl) (fun _ => by simp [Value.oneCell']) (fun _ => rfl) ty9 rfl (ksv (j := 8) (hK 52 rfl) rfl rfl hg) (OwnB.ext f19 hE).own (by simp) rfl (run_gdb hx27 hg)
      case z8_10 => intro a' w' hE hK hg; exact ok_idxOwnArr ty26 ty9 (kn (hK 9 rfl) rfl q9) rfl (vidx_lt (run_gdb hx28 hg))
      case z8_11 => intro a' w' hE hK hg; exact okl_loadArr (f := (fun x => [.string (str x)])) (l1 := []) (l2 := []) (fun _ => rfl) (fun _ => by simp [Value.oneCell']) (fun _ => rfl) ty9 rfl (ksv (j := 10) (hK 54 rfl) rfl rfl hg) (OwnB.ext f19 hE).own (by simp) rfl (run_gdb hx28 hg)
      case z8_12 => intro a' w' hE hK hg; have c_ := ok_digest_Chain (OkO.ext hB.ok hE)  (run_gdb hx29 hg); exact ok_call2 fn15 (ksv (j := 9) (hK 53 rfl) rfl rfl hg) (ksv (j := 11) (hK 55 rfl) rfl rfl hg) c_
      case z8_13 => intro a' w' hE hK hg; exact ok_idxOwnArr ty26 ty9 (kn (hK 9 rfl) rfl q9) rfl (vidx_lt (run_gdb hx30 hg))
      case z8_14 => intro a' w' hE hK hg; exact okl_loadArr (f := (fun x => [.string (str x)])) (l1 := []) (l2 := []) (fun _ => rfl) (fun _ => by simp [Value.oneCell']) (fun _ => rfl) ty9 rfl (ksv (j := 13) (hK 57 rfl) rfl rfl hg) (OwnB.ext f19 hE).own (by simp) rfl (run_gdb hx30 hg)
      case z8_15 => intro a' w' hE hK hg; exact ok_idxOwnArr ty26 ty9 (kn (hK 9 rfl) rfl q9) rfl (vidx_lt (run_gdb hx31 hg))
      case z8_16 => intro a' w' hE hK hg; exact okl_loadArr (f := (fun x => [.string (str x)])) (l1 := []) (l2 := []) (fun _ => rfl) (fun _ => by simp [Value.oneCell']) (fun _ => rfl) ty9 rfl (ksv (j := 15) (hK 59 rfl) rfl rfl hg) (OwnB.ext f19 hE).own (by simp) rfl (run_gdb hx31 hg)
      case z8_17 => intro a' w' hE hK hg; have c_ := ok_colletref02_Chain (OkO.ext hB.ok hE)  (run_gdb hx32 hg); exact ok_call2 fn16 (ksv (j := 14) (hK 58 rfl) rfl rfl hg) (ksv (j := 16) (hK 60 rfl) rfl rfl hg) c_
      case z8_18 => intro a' w' hE hK hg; exact okl_neqS (ksv (j := 12) (hK 56 rfl) rfl rfl hg) (ksv (j := 17) (hK 61 rfl) rfl rfl hg)
      case z8_19 => intro a' w' hE hK hg; exact ok_pick (ksv (j := 7) (hK 51 rfl) rfl rfl rfl) (fun _ => rfl) (fun hb => ksv (j := 18) (hK 62 rfl) rfl rfl (act_g1 rfl rfl hb))
      case z8_20 => intro a' w' hE hK hg; exact ok_move (ksv (j := 19) (hK 63 rfl) rfl rfl rfl)
      case z8_21 => intro a' w' hE hK hg; exact ok_idxOwnArr ty26 ty9 (kn (hK 9 rfl) rfl q9) rfl (vidx_lt (run_gdb hx33 hg))
      case z8_22 => intro a' w' hE hK hg; exact okl_loadArr (f := (fun x => [.string (str x)])) (l1 := []) (l2 := []) (fun _ => rfl) (fun _ => by simp [Value.oneCell']) (fun _ => rfl) ty9 rfl (ksv (j := 21) (hK 65 rfl) rfl rfl hg) (OwnB.ext f19 hE).own (by simp) rfl (run_gdb hx33 hg)
      case z8_23 => intro a' w' hE hK hg; exact ok_idxOwnArr ty26 ty9 (kn (hK 9 rfl) rfl q9) rfl (vidx_lt (run_gdb hx34 hg))
      case z8_24 => intro a' w' hE hK hg; exact okl_loadArr (f := (fun x => [.string (str x)])) (l1 := []) (l2 := []) (fun _ => rfl) (fun _ => by simp [Value.oneCell']) (fun _ => rfl) ty9 rfl (ksv (j := 23) (hK 67 rfl) rfl rfl hg) (OwnB.ext f19 hE).own (by simp) rfl (run_gdb hx34 hg)
      case z8_25 => intro a' w' hE hK hg; have c_ := ok_digest_Mark (OkO.ext hB.ok hE)  (run_gdb hx35 hg); exact ok_call2 fn17 (ksv (j := 22) (hK 66 rfl) rfl rfl hg) (ksv (j := 24) (hK 68 rfl) rfl rfl hg) c_
      case z8_26 => intro a' w' hE hK hg; exact ok_move (kn (hK 10 rfl) rfl q10)
      case z8_27 => intro a' w' hE hK hg; exact okl_neqS (ksv (j := 25) (hK 69 rfl) rfl rfl hg) (ksv (j := 26) (hK 70 rfl) rfl rfl hg)
      case z8_28 => intro a' w' hE hK hg; exact ok_pick (ksv (j := 20) (hK 64 rfl) rfl rfl rfl) (fun _ => rfl) (fun hb => ksv (j := 27) (hK 71 rfl) rfl rfl (act_g1 rfl rfl hb))
      case zok8 => kernel_rfl
      case zgd8 => kernel_rfl
      intro a10 w10 hA' hE HF
      replace q5 := kn (HF 5) rfl q5
      replace q7 := kn (HF 7) rfl q7
      replace q9 := kn (HF 9) rfl q9
      replace q10 := kn (HF 10) rfl q10
      replace q33 := kn (HF 33) rfl q33
      replace q34 := kn (HF 34) rfl q34
      replace q35 := kn (HF 35) rfl q35
      have q72 := ksv (HF 72) rfl rfl rfl
      clear hA HF; have hA := hA'; clear hA'
      replace f2 := GR.v_ext _ f2 hE
      replace f9 := GR.v_ext _ f9 hE
      replace f19 := f19.ext hE
      replace hB := Base.step hB hE hO; clear hE
      obtain ⟨x36, hx_, h⟩ := Comp.run_bind h; replace hx_ := Comp.run_pure hx_; rw [hx_] at q72; clear hx_
      refine (li_nil ?_)
      refine (nx_then ?_)
      refine wp_cond_b q72 (fun hc => ?_) (fun hc => ?_)
      ·
        replace h := Comp.run_b_t hc h; clear hc
        refine wp_seq ?_
        refine' region [_] mixed hA (.cons ?z9_0 .nil) ?zok9 ?zgd9 ?zk9
        case z9_0 => intro a' w' hE hK hg; exact ok_assign rfl
        case zok9 => kernel_rfl
        case zgd9 => kernel_rfl
        intro a11 w11 hA' hE HF
        have q6 := ksv (HF 6) rfl rfl rfl
        clear q5
        clear q7
        clear q9
        clear q10
        clear q33
        clear q34
        clear q35
        clear q72
        clear hA HF; have hA := hA'; clear hA'
        replace f2 := GR.v_ext _ f2 hE
        replace f9 := GR.v_ext _ f9 hE
        replace f19 := f19.ext hE
        replace hB := Base.step hB hE hO; clear hE
        refine (li_nil ?_)
        refine (nx_then ?_)
        refine (wp_ret (rt_then (rt_blk (rt_then (rt_then (rt_blk (rt_then ?_)))))))
        have hd_ := hdone2 _ (Comp.run_pure h).symm; clear h
        subst hd_; have h := hk2; clear hk2; try dsimp only at h
        have h := Comp.run_pure h; subst h
        exact retPure Try.results3 hA q6 hB.ext rfl
      ·
        replace h := Comp.run_b_f hc h; clear hc
        refine wp_skip ?_
        refine (nx_then ?_)
        refine wp_seq ?_
        obtain ⟨x38, hx38, h⟩ := Comp.run_bind h
        obtain ⟨x39, hx39, h⟩ := Comp.run_bind h
        obtain ⟨x40, hx40, h⟩ := Comp.run_bind h
        refine' region [_, SP.isv (.agg #[.int .u8 x_2.At, .int .u8 x_2.Byte, .string (str x_2.Tail)]), _, SP.isv (.string (str x38)), SP.isv (.pointer (some ⟨b17, 0 + Int.toNat (1) * 1, none⟩)), SP.isv (.string (str x39)), _, SP.isv (.string (str x40)), SP.vl (rSl rStr) O16 [x22, x38, x39, x40], _, _] mixed hA (.cons ?z10_0 (.cons ?z10_1 (.cons ?z10_2 (.cons ?z10_3 (.cons ?z10_4 (.cons ?z10_5 (.cons ?z10_6 (.cons ?z10_7 (.cons ?z10_8 (.cons ?z10_9 (.cons ?z10_10 .nil))))))))))) ?zok10 ?zgd10 ?zk10
        case z10_0 => intro a' w' hE hK hg; exact ok_move (kn (hK 10 rfl) rfl q10)
        case z10_1 => intro a' w' hE hK hg; exact okl_ldr r_colletlaw02_Change fit_colletlaw02_Change ty23 rfl rfl (kn (hK 5 rfl) rfl q5) (ptr_of_box fit_colletlaw02_Change (GR.v_ext _ f2 hE)) (fun _ _ _ h => rC_v.1 h)
        case z10_2 => intro a' w' hE hK hg; exact ok_move (kn (hK 10 rfl) rfl q10)
        case z10_3 => intro a' w' hE hK hg; have c_ := m_chg lChange (OkO.ext hB.ok hE)  hx38; exact ok_call2 fn11 (ksv (j := 1) (hK 74 rfl) rfl rfl rfl) (ksv (j := 2) (hK 75 rfl) rfl rfl rfl) c_
        case z10_4 => intro a' w' hE hK hg; exact ok_idxOwnArr ty26 ty9 (kn (hK 9 rfl) rfl q9) rfl (vidx_lt hx39)
        case z10_5 => intro a' w' hE hK hg; exact okl_loadArr (f := (fun x => [.string (str x)])) (l1 := []) (l2 := []) (fun _ => rfl) (fun _ => by simp [Value.oneCell']) (fun _ => rfl) ty9 rfl (ksv (j := 4) (hK 77 rfl) rfl rfl rfl) (OwnB.ext f19 hE).own (by simp) rfl hx39
        case z10_6 => intro a' w' hE hK hg; exact ok_move (kn (hK 10 rfl) rfl q10)
        case z10_7 => intro a' w' hE hK hg; exact okl_sliceS_h ty9 (ksv (j := 6) (hK 79 rfl) rfl rfl rfl) rfl hx40
        case z10_8 => intro a' w' hE hK hg; exact okl_buildSliceV (r := rStr) (fun _ => rfl) rfl (OkO.ext hB.ok hE) ty29 ty9 (parts_cons (ksv (j := 0) (hK 73 rfl) rfl rfl rfl) (parts_cons (ksv (j := 3) (hK 76 rfl) rfl rfl rfl) (parts_cons (ksv (j := 5) (hK 78 rfl) rfl rfl rfl) (parts_cons (ksv (j := 7) (hK 80 rfl) rfl rfl rfl) parts_nil)))) ⟨(by first | exact rInt_v.2 rfl | exact rBool_v.2 rfl | exact rStr_v.2 rfl | exact rC_v.2 rfl | exact ⟨_, rfl, rfl⟩), ⟨(by first | exact rInt_v.2 rfl | exact rBool_v.2 rfl | exact rStr_v.2 rfl | exact rC_v.2 rfl | exact ⟨_, rfl, rfl⟩), ⟨(by first | exact rInt_v.2 rfl | exact rBool_v.2 rfl | exact rStr_v.2 rfl | exact rC_v.2 rfl | exact ⟨_, rfl, rfl⟩), ⟨(by first | exact rInt_v.2 rfl | exact rBool_v.2 rfl | exact rStr_v.2 rfl | exact rC_v.2 rfl | exact ⟨_, rfl, rfl⟩), trivial⟩⟩⟩⟩ rfl (by decide)
        case z10_9 => intro a' w' hE hK hg; exact okl_len (r := rStr) ty29 rfl (rd_of (kspS (φ := SP.vl (rSl rStr) O16 [x22, x38, x39, x40]) (j := 8) (hK 81 rfl) rfl rfl rfl))
        case z10_10 => intro a' w' hE hK hg; exact ok_move rfl
        case zok10 => kernel_rfl
        case zgd10 => kernel_rfl
        intro a12 w12 hA' hE HF
        replace q5 := kn (HF 5) rfl q5
        replace q7 := kn (HF 7) rfl q7
        replace q9 := kn (HF 9) rfl q9
        replace q33 := kn (HF 33) rfl q33
        replace q34 := kn (HF 34) rfl q34
        replace q35 := kn (HF 35) rfl q35
        have f42 := ksp (HF 81) rfl rfl rfl
        obtain ⟨u41, q81'⟩ : ∃ u, a12.get 81 = u := ⟨_, rfl⟩
        rw [q81'] at f42
        have q81 := q81'; clear q81'
        have q82 := ksv (HF 82) rfl rfl rfl
        have q83 := ksv (HF 83) rfl rfl rfl
        clear q10
        clear q72
        clear hA HF; have hA := hA'; clear hA'
        replace f2 := GR.v_ext _ f2 hE
        replace f9 := GR.v_ext _ f9 hE
        replace f19 := f19.ext hE
        replace hB := Base.step hB hE hO; clear hE
        refine (li_nil ?_)
        refine (nx_then ?_)
        refine wp_block ?_
        obtain ⟨e3, he3, hk3⟩ := Comp.run_bind h; clear h
        refine loop_m (fun m a w => ∃ (O44 : Tags) (x43 : Int), a.fit 103 ∧ Base (Fr w0) O w0 O44 w ∧ a.get 5 = u1 ∧ (rBox r_colletlaw02_Change).v O44 w u1 x_2 ∧ a.get 7 = .bool x3 ∧ a.get 9 = .pointer (some ⟨b17, 0, none⟩) ∧ a.get 33 = u8 ∧ (rSl (rVec 2 1 (fun x => [.string (str x)]) (fun _ => rfl) (fun _ => by simp [Value.oneCell']))).v O44 w u8 [(#v[x4, x5] : Vector Bytes 2), (#v[x5, x4] : Vector Bytes 2), (#v[x4, x6] : Vector Bytes 2), (#v[x7, ([] : Bytes)] : Vector Bytes 2)] ∧ a.get 34 = .int .i64 x10 ∧ a.get 35 = .int .i64 x11 ∧ a.get 81 = u41 ∧ (rSl rStr).v O44 w u41 [x22, x38, x39, x40] ∧ a.get 82 = .int .i64 ([x22, x38, x39, x40].length : Int) ∧ a.get 83 = .int .i64 x43 ∧ OwnB 1 (Fr w0) O44 w b17 (cellsA (fun x => [.string (str x)]) x13).toArray 26 ∧ Comp.loopN (fun s => colletlaw02_DigestForms_l3 x22 x38 x39 x40 x13 s) n m x43 = some e3) (m := n) ?st3 ?_
        case st3 =>
          exact ⟨_, _, hA, hB, q5, f2, q7, q9, q33, f9, q34, q35, q81, f42, q82, q83, f19, Comp.run_loop he3⟩
        intro m_ a13 w13 hI
        clear hA hB he3 q5 q7 q9 q33 q34 q35 q81 q82 q83 f19 f2 f42 f9
        obtain ⟨O44, x43, hA, hB, q5, f2, q7, q9, q33, f9, q34, q35, q81, f42, q82, q83, f19, hl⟩ := hI
        obtain ⟨m3, hlt3, st3, h, hnext3, hdone3⟩ := Comp.loopN_succ hl; clear hl
        replace h : (colletlaw02_DigestForms_l3 x22 x38 x39 x40 x13 x43).run n = some st3 := h
        unfold colletlaw02_DigestForms_l3 at h
        refine wp_seq ?_
        refine' region [_] mixed hA (.cons ?z11_0 .nil) ?zok11 ?zgd11 ?zk11
        case z11_0 => intro a' w' hE hK hg; exact ok_lss (kn (hK 83 rfl) rfl q83) (kn (hK 82 rfl) rfl q82)
        case zok11 => kernel_rfl
        case zgd11 => kernel_rfl
        intro a14 w14 hA' hE HF
        replace q5 := kn (HF 5) rfl q5
        replace q7 := kn (HF 7) rfl q7
        replace q9 := kn (HF 9) rfl q9
        replace q33 := kn (HF 33) rfl q33
        replace q34 := kn (HF 34) rfl q34
        replace q35 := kn (HF 35) rfl q35
        replace q81 := kn (HF 81) rfl q81
        replace q82 := kn (HF 82) rfl q82
        replace q83 := kn (HF 83) rfl q83
        have q84 := ksv (HF 84) rfl rfl rfl
        clear hA HF; have hA := hA'; clear hA'
        replace f2 := GR.v_ext _ f2 hE
        replace f9 := GR.v_ext _ f9 hE
        replace f42 := GR.v_ext _ f42 hE
        replace f19 := f19.ext hE
        replace hB := Base.step hB hE hO; clear hE
        obtain ⟨x45, hx_, h⟩ := Comp.run_bind h; replace hx_ := Comp.run_pure hx_; rw [hx_] at q84; clear hx_
        refine (li_nil ?_)
        refine (nx_then ?_)
        refine wp_seq ?_
        refine wp_cond_b q84 (fun hc => ?_) (fun hc => ?_)
        ·
          replace h := Comp.run_b_t hc h; clear hc
          refine wp_skip ?_
          refine (nx_then ?_)
          refine wp_seq ?_
          refine wp_block ?_
          refine wp_seq ?_
          obtain ⟨x46, hx46, h⟩ := Comp.run_bind h
          refine' region [SP.ptr rStr O44 x46, SP.isv (.string (str x46)), _] mixed hA (.cons ?z12_0 (.cons ?z12_1 (.cons ?z12_2 .nil))) ?zok12 ?zgd12 ?zk12
          case z12_0 => intro a' w' hE hK hg; exact okl_idx (r := rStr) (O := O44) ty29 ty9 rfl (kn (hK 81 rfl) rfl q81) (rd_of (GR.v_ext _ f42 hE)) (kn (hK 83 rfl) rfl q83) hx46
          case z12_1 => intro a' w' hE hK hg; exact okl_ldr rStr (fun _ => rfl) ty9 rfl rfl rfl (kspS (φ := SP.ptr rStr O44 x46) (j := 0) (hK 85 rfl) rfl rfl rfl) (fun _ _ _ h => rStr_v.1 h)
          case z12_2 => intro a' w' hE hK hg; exact ok_assign (ksv (j := 1) (hK 86 rfl) rfl rfl rfl)
          case zok12 => kernel_rfl
          case zgd12 => kernel_rfl
          intro a15 w15 hA' hE HF
          replace q5 := kn (HF 5) rfl q5
          replace q7 := kn (HF 7) rfl q7
          replace q9 := kn (HF 9) rfl q9
          have q12 := ksv (HF 12) rfl rfl rfl
          replace q33 := kn (HF 33) rfl q33
          replace q34 := kn (HF 34) rfl q34
          replace q35 := kn (HF 35) rfl q35
          replace q81 := kn (HF 81) rfl q81
          replace q82 := kn (HF 82) rfl q82
          replace q83 := kn (HF 83) rfl q83
          clear q84
          clear hA HF; have hA := hA'; clear hA'
          replace f2 := GR.v_ext _ f2 hE
          replace f9 := GR.v_ext _ f9 hE
          replace f42 := GR.v_ext _ f42 hE
          replace f19 := f19.ext hE
          replace hB := Base.step hB hE hO; clear hE
          refine (li_nil ?_)
          refine (nx_then ?_)
          refine wp_seq ?_
          obtain ⟨x47, hx47, h⟩ := Comp.run_bind h
          obtain ⟨x48, hx48, h⟩ := Comp.run_bind h
          obtain ⟨x49, hx49, h⟩ := Comp.run_bind h
          obtain ⟨x50, hx50, h⟩ := Comp.run_bind h
          obtain ⟨x51, hx51, h⟩ := Comp.run_bind h
          obtain ⟨x52, hx52, h⟩ := Comp.run_bind h
          refine' region [SP.isv (.pointer (some ⟨b17, 0 + Int.toNat (0) * 1, none⟩)), SP.isv (.string (str x47)), SP.isv (.pointer (some ⟨b17, 0 + Int.toNat (1) * 1, none⟩)), SP.isv (.string (str x48)), _, SP.isv (.bool x49), SP.isv (.pointer (some ⟨b17, 0 + Int.toNat (0) * 1, none⟩)), SP.isv (.string (str x50)), SP.isv (.pointer (some ⟨b17, 0 + Int.toNat (1) * 1, none⟩)), SP.isv (.string (str x51)), _, SP.isv (.bool x52), _] mixed hA (.cons ?z13_0 (.cons ?z13_1 (.cons ?z13_2 (.cons ?z13_3 (.cons ?z13_4 (.cons ?z13_5 (.cons ?z13_6 (.cons ?z13_7 (.cons ?z13_8 (.cons ?z13_9 (.cons ?z13_10 (.cons ?z13_11 (.cons ?z13_12 .nil))))))))))))) ?zok13 ?zgd13 ?zk13
          case z13_0 => intro a' w' hE hK hg; exact ok_idxOwnArr ty26 ty9 (kn (hK 9 rfl) rfl q9) rfl (vidx_lt hx47)
          case z13_1 => intro a' w' hE hK hg; exact okl_loadArr (f := (fun x => [.string (str x)])) (l1 := []) (l2 := []) (fun _ => rfl) (fun _ => by simp [Value.oneCell']) (fun _ => rfl) ty9 rfl (ksv (j := 0) (hK 87 rfl) rfl rfl rfl) (OwnB.ext f19 hE).own (by simp) rfl hx47
          case z13_2 => intro a' w' hE hK hg; exact ok_idxOwnArr ty26 ty9 (kn (hK 9 rfl) rfl q9) rfl (vidx_lt hx48)
          case z13_3 => intro a' w' hE hK hg; exact okl_loadArr (f := (fun x => [.string (str x)])) (l1 := []) (l2 := []) (fun _ => rfl) (fun _ => by simp [Value.oneCell']) (fun _ => rfl) ty9 rfl (ksv (j := 2) (hK 89 rfl) rfl rfl rfl) (OwnB.ext f19 hE).own (by simp) rfl hx48
          case z13_4 => intro a' w' hE hK hg; exact ok_move (kn (hK 12 rfl) rfl q12)
          case z13_5 => intro a' w' hE hK hg; have c_ := ok_digest_Check (OkO.ext hB.ok hE)  hx49; exact ok_call3 fn18 (ksv (j := 1) (hK 88 rfl) rfl rfl rfl) (ksv (j := 3) (hK 90 rfl) rfl rfl rfl) (ksv (j := 4) (hK 91 rfl) rfl rfl rfl) c_
          case z13_6 => intro a' w' hE hK hg; exact ok_idxOwnArr ty26 ty9 (kn (hK 9 rfl) rfl q9) rfl (vidx_lt hx50)
          case z13_7 => intro a' w' hE hK hg; exact okl_loadArr (f := (fun x => [.string (str x)])) (l1 := []) (l2 := []) (fun _ => rfl) (fun _ => by simp [Value.oneCell']) (fun _ => rfl) ty9 rfl (ksv (j := 6) (hK 93 rfl) rfl rfl rfl) (OwnB.ext f19 hE).own (by simp) rfl hx50
          case z13_8 => intro a' w' hE hK hg; exact ok_idxOwnArr ty26 ty9 (kn (hK 9 rfl) rfl q9) rfl (vidx_lt hx51)
          case z13_9 => intro a' w' hE hK hg; exact okl_loadArr (f := (fun x => [.string (str x)])) (l1 := []) (l2 := []) (fun _ => rfl) (fun _ => by simp [Value.oneCell']) (fun _ => rfl) ty9 rfl (ksv (j := 8) (hK 95 rfl) rfl rfl rfl) (OwnB.ext f19 hE).own (by simp) rfl hx51
          case z13_10 => intro a' w' hE hK hg; exact ok_move (kn (hK 12 rfl) rfl q12)
          case z13_11 => intro a' w' hE hK hg; have c_ := ok_colletref02_Check (OkO.ext hB.ok hE)  hx52; exact ok_call3 fn19 (ksv (j := 7) (hK 94 rfl) rfl rfl rfl) (ksv (j := 9) (hK 96 rfl) rfl rfl rfl) (ksv (j := 10) (hK 97 rfl) rfl rfl rfl) c_
          case z13_12 => intro a' w' hE hK hg; exact ok_neqB ty4 (ksv (j := 5) (hK 92 rfl) rfl rfl rfl) (ksv (j := 11) (hK 98 rfl) rfl rfl rfl)
          case zok13 => kernel_rfl
          case zgd13 => kernel_rfl
          intro a16 w16 hA' hE HF
          replace q5 := kn (HF 5) rfl q5
          replace q7 := kn (HF 7) rfl q7
          replace q9 := kn (HF 9) rfl q9
          replace q33 := kn (HF 33) rfl q33
          replace q34 := kn (HF 34) rfl q34
          replace q35 := kn (HF 35) rfl q35
          replace q81 := kn (HF 81) rfl q81
          replace q82 := kn (HF 82) rfl q82
          replace q83 := kn (HF 83) rfl q83
          have q99 := ksv (HF 99) rfl rfl rfl
          clear q12
          clear hA HF; have hA := hA'; clear hA'
          replace f2 := GR.v_ext _ f2 hE
          replace f9 := GR.v_ext _ f9 hE
          replace f42 := GR.v_ext _ f42 hE
          replace f19 := f19.ext hE
          replace hB := Base.step hB hE hO; clear hE
          refine (li_nil ?_)
          refine (nx_then ?_)
          refine wp_cond_b q99 (fun hc => ?_) (fun hc => ?_)
          ·
            replace h := Comp.run_b_t hc h; clear hc
            refine wp_seq ?_
            refine' region [_] mixed hA (.cons ?z14_0 .nil) ?zok14 ?zgd14 ?zk14
            case z14_0 => intro a' w' hE hK hg; exact ok_assign rfl
            case zok14 => kernel_rfl
            case zgd14 => kernel_rfl
            intro a17 w17 hA' hE HF
            have q6 := ksv (HF 6) rfl rfl rfl
            clear q5
            clear q7
            clear q9
            clear q33
            clear q34
            clear q35
            clear q81
            clear q82
            clear q83
            clear q99
            clear hA HF; have hA := hA'; clear hA'
            replace f2 := GR.v_ext _ f2 hE
            replace f9 := GR.v_ext _ f9 hE
            replace f42 := GR.v_ext _ f42 hE
            replace f19 := f19.ext hE
            replace hB := Base.step hB hE hO; clear hE
            refine (li_nil ?_)
            refine (nx_then ?_)
            refine (wp_ret (rt_blk (rt_then (rt_then (rt_blk (rt_blk (rt_then (rt_then (rt_blk (rt_then ?_))))))))))
            have hd_ := hdone3 _ (Comp.run_pure h).symm; clear h
            subst hd_; have h := hk3; clear hk3; try dsimp only at h
            have hd_ := hdone2 _ (Comp.run_pure h).symm; clear h
            subst hd_; have h := hk2; clear hk2; try dsimp only at h
            have h := Comp.run_pure h; subst h
            exact retPure Try.results3 hA q6 hB.ext rfl
          ·
            replace h := Comp.run_b_f hc h; clear hc
            refine wp_skip ?_
            refine (nx_blk (nx_then ?_))
            refine' region [_, _] mixed hA (.cons ?z15_0 (.cons ?z15_1 .nil)) ?zok15 ?zgd15 ?zk15
            case z15_0 => intro a' w' hE hK hg; exact ok_add (kn (hK 83 rfl) rfl q83) rfl
            case z15_1 => intro a' w' hE hK hg; exact ok_move (ksv (j := 0) (hK 100 rfl) rfl rfl rfl)
            case zok15 => kernel_rfl
            case zgd15 => kernel_rfl
            intro a18 w18 hA' hE HF
            replace q5 := kn (HF 5) rfl q5
            replace q7 := kn (HF 7) rfl q7
            replace q9 := kn (HF 9) rfl q9
            replace q33 := kn (HF 33) rfl q33
            replace q34 := kn (HF 34) rfl q34
            replace q35 := kn (HF 35) rfl q35
            replace q81 := kn (HF 81) rfl q81
            replace q82 := kn (HF 82) rfl q82
            have q83' := ksv (HF 83) rfl rfl rfl
            replace q83 := q83'; clear q83'
            clear q99
            clear hA HF; have hA := hA'; clear hA'
            replace f2 := GR.v_ext _ f2 hE
            replace f9 := GR.v_ext _ f9 hE
            replace f42 := GR.v_ext _ f42 hE
            replace f19 := f19.ext hE
            replace hB := Base.step hB hE hO; clear hE
            refine (li_nil ?_)
            refine (nx_then ?_)
            have h := hnext3 _ (Comp.run_pure h).symm
            refine ⟨m3, hlt3, ?_⟩
            exact ⟨_, _, hA, hB, q5, f2, q7, q9, q33, f9, q34, q35, q81, f42, q82, q83, f19, h⟩
        ·
          replace h := Comp.run_b_f hc h; clear hc
          refine wp_exit ?_
          refine (ex_then (ex_then (ex_same ?_)))
          have hd_ := hdone3 _ (Comp.run_pure h).symm; clear h
          subst hd_; have h := hk3; clear hk3; try dsimp only at h
          refine (nx_blk (nx_then ?_))
          refine' region [_, _] mixed hA (.cons ?z16_0 (.cons ?z16_1 .nil)) ?zok16 ?zgd16 ?zk16
          case z16_0 => intro a' w' hE hK hg; exact ok_add (kn (hK 35 rfl) rfl q35) rfl
          case z16_1 => intro a' w' hE hK hg; exact ok_move (ksv (j := 0) (hK 101 rfl) rfl rfl rfl)
          case zok16 => kernel_rfl
          case zgd16 => kernel_rfl
          intro a19 w19 hA' hE HF
          replace q5 := kn (HF 5) rfl q5
          replace q7 := kn (HF 7) rfl q7
          replace q33 := kn (HF 33) rfl q33
          replace q34 := kn (HF 34) rfl q34
          have q35' := ksv (HF 35) rfl rfl rfl
          replace q35 := q35'; clear q35'
          clear q9
          clear q81
          clear q82
          clear q83
          clear q84
          clear hA HF; have hA := hA'; clear hA'
          replace f2 := GR.v_ext _ f2 hE
          replace f9 := GR.v_ext _ f9 hE
          replace f42 := GR.v_ext _ f42 hE
          replace f19 := f19.ext hE
          replace hB := Base.step hB hE hO; clear hE
          refine (li_nil ?_)
          refine (nx_then ?_)
          have h := hnext2 _ (Comp.run_pure h).symm
          refine ⟨m2, hlt2, ?_⟩
          exact ⟨_, _, hA, hB, q5, f2, q7, q33, f9, q34, q35, h⟩
    ·
      replace h := Comp.run_b_f hc h; clear hc
      refine wp_exit ?_
      refine (ex_then (ex_then (ex_same ?_)))
      have hd_ := hdone2 _ (Comp.run_pure h).symm; clear h
      subst hd_; have h := hk2; clear hk2; try dsimp only at h
      refine (nx_then ?_)
      exact ⟨_, hA, hB, q7, h⟩
  intro a20 w20 hI
  clear hA hB h q0 q1 q5 q7 f2
  obtain ⟨O54, hA, hB, q7, h⟩ := hI
  unfold colletlaw02_DigestForms_j1 at h
  refine wp_seq ?_
  refine' region [_, _] mixed hA (.cons ?z17_0 (.cons ?z17_1 .nil)) ?zok17 ?zgd17 ?zk17
  case z17_0 => intro a' w' hE hK hg; exact ok_move (kn (hK 7 rfl) rfl q7)
  case z17_1 => intro a' w' hE hK hg; exact ok_assign (ksv (j := 0) (hK 102 rfl) rfl rfl rfl)
  case zok17 => kernel_rfl
  case zgd17 => kernel_rfl
  intro a21 w21 hA' hE HF
  have q6 := ksv (HF 6) rfl rfl rfl
  clear q7
  clear hA HF; have hA := hA'; clear hA'
  replace hB := Base.step hB hE hO; clear hE
  refine (li_nil ?_)
  refine (nx_then ?_)
  refine (wp_ret ?_)
  have h := Comp.run_pure h; subst h
  exact retPure Try.results3 hA q6 hB.ext rfl

theorem ok_colletlaw02_list {O : Tags} {w0 : World} (hO : OkO O w0) {v_0 : Value} {x_0 : List Bytes} (h_0 : (rSl rStr).v O w0 v_0 x_0) {n : Nat} {y : (List Bytes)} (h : (colletlaw02_list x_0).run n = some y) : Pure Try.prog 20 #[v_0] w0 (SP.ownr rStr 9 (w0.heap.size) O y).holds := by
  unfold colletlaw02_list at h
  refine pure_of_wp Try.func20 rfl 30 Try.ntmps20 (by simp) fun a0 hA hs0 => ?_
  have q0 := hs0 0 _ rfl
  clear hs0
  have hB : Base (Fr w0) O w0 O w0 := Base.start hO
  refine wp_seq ?_
  refine' region [_] mixed hA (.cons ?z1_0 .nil) ?zok1 ?zgd1 ?zk1
  case z1_0 => intro a' w' hE hK hg; exact ok_assign rfl
  case zok1 => kernel_rfl
  case zgd1 => kernel_rfl
  intro a1 w1 hA' hE HF
  replace q0 := kn (HF 0) rfl q0
  clear hA HF; have hA := hA'; clear hA'
  replace h_0 := GR.v_ext _ h_0 hE
  replace hB := Base.step hB hE hO; clear hE
  refine (li_nil ?_)
  refine (nx_then ?_)
  refine wp_seq ?_
  refine' region [_] mixed hA (.cons ?z2_0 .nil) ?zok2 ?zgd2 ?zk2
  case z2_0 => intro a' w' hE hK hg; exact ok_assign rfl
  case zok2 => kernel_rfl
  case zgd2 => kernel_rfl
  intro a2 w2 hA' hE HF
  replace q0 := kn (HF 0) rfl q0
  have q3 := ksv (HF 3) rfl rfl rfl
  clear hA HF; have hA := hA'; clear hA'
  replace h_0 := GR.v_ext _ h_0 hE
  replace hB := Base.step hB hE hO; clear hE
  refine (li_nil ?_)
  refine (nx_then ?_)
  refine seq_join (fun a w => ∃ (O21 : Tags) (x18 : List Bytes) (u19 : Value), a.fit 30 ∧ Base (Fr w0) O w0 O21 w ∧ a.get 3 = u19 ∧ OwnL 1 rStr 9 (Fr w0) O21 w u19 x18 ∧ (colletlaw02_list_j1 x18).run n = some y) ?_ ?_
  ·
    refine wp_seq ?_
    refine' region [_] mixed hA (.cons ?z3_0 .nil) ?zok3 ?zgd3 ?zk3
    case z3_0 => intro a' w' hE hK hg; exact ok_assign rfl
    case zok3 => kernel_rfl
    case zgd3 => kernel_rfl
    intro a3 w3 hA' hE HF
    replace q0 := kn (HF 0) rfl q0
    replace q3 := kn (HF 3) rfl q3
    have q4 := ksv (HF 4) rfl rfl rfl
    clear hA HF; have hA := hA'; clear hA'
    replace h_0 := GR.v_ext _ h_0 hE
    replace hB := Base.step hB hE hO; clear hE
    refine (li_nil ?_)
    refine (nx_then ?_)
    refine wp_block ?_
    obtain ⟨e2, he2, hk2⟩ := Comp.run_bind h; clear h
    refine loop_m (fun m a w => ∃ (O5 : Tags) (x1 : List Bytes) (x4 : Int) (u2 : Value), a.fit 30 ∧ Base (Fr w0) O w0 O5 w ∧ a.get 0 = v_0 ∧ (rSl rStr).v O5 w v_0 x_0 ∧ a.get 3 = u2 ∧ OwnL 1 rStr 9 (Fr w0) O5 w u2 x1 ∧ a.get 4 = .int .i64 x4 ∧ Comp.loopN (fun s => colletlaw02_list_l2 x_0 s.1 s.2) n m (x1, x4) = some e2) (m := n) ?st2 ?_
    case st2 =>
      exact ⟨_, _, _, _, hA, hB, q0, h_0, q3, (OwnL.nil _ _ _ _ _ _), q4, Comp.run_loop he2⟩
    intro m_ a4 w4 hI
    clear hA hB he2 q0 q3 q4 h_0
    obtain ⟨O5, x1, x4, u2, hA, hB, q0, h_0, q3, f3, q4, hl⟩ := hI
    obtain ⟨m2, hlt2, st2, h, hnext2, hdone2⟩ := Comp.loopN_succ hl; clear hl
    replace h : (colletlaw02_list_l2 x_0 x1 x4).run n = some st2 := h
    unfold colletlaw02_list_l2 at h
    refine wp_seq ?_
    refine wp_seq ?_
    refine' region [_, _, _, _, _, _, _, _] mixed hA (.cons ?z4_0 (.cons ?z4_1 (.cons ?z4_2 (.cons ?z4_3 (.cons ?z4_4 (.cons ?z4_5 (.cons ?z4_6 (.cons ?z4_7 .nil)))))))) ?zok4 ?zgd4 ?zk4
    case z4_0 => intro a' w' hE hK hg; exact ok_move (kn (hK 4 rfl) rfl q4)
    case z4_1 => intro a' w' hE hK hg; exact ok_move (kn (hK 0 rfl) rfl q0)
    case z4_2 => intro a' w' hE hK hg; exact okl_len (r := rStr) ty29 (ksv (j := 1) (hK 6 rfl) rfl rfl rfl) (rd_of (GR.v_ext _ h_0 hE))
    case z4_3 => intro a' w' hE hK hg; exact ok_lss (ksv (j := 0) (hK 5 rfl) rfl rfl rfl) (ksv (j := 2) (hK 7 rfl) rfl rfl rfl)
    case z4_4 => intro a' w' hE hK hg; exact ok_move (ksv (j := 3) (hK 8 rfl) rfl rfl rfl)
    case z4_5 => intro a' w' hE hK hg; exact ok_move (kn (hK 4 rfl) rfl q4)
    case z4_6 => intro a' w' hE hK hg; exact ok_lss (ksv (j := 5) (hK 10 rfl) rfl rfl hg) rfl
    case z4_7 => intro a' w' hE hK hg; exact ok_pick (ksv (j := 4) (hK 9 rfl) rfl rfl rfl) (fun hb => ksv (j := 6) (hK 11 rfl) rfl rfl (act_g1 rfl rfl hb)) (fun _ => rfl)
    case zok4 => kernel_rfl
    case zgd4 => kernel_rfl
    intro a5 w5 hA' hE HF
    replace q0 := kn (HF 0) rfl q0
    replace q3 := kn (HF 3) rfl q3
    replace q4 := kn (HF 4) rfl q4
    have q12 := ksv (HF 12) rfl rfl rfl
    clear hA HF; have hA := hA'; clear hA'
    replace h_0 := GR.v_ext _ h_0 hE
    replace f3 := f3.ext hE
    replace hB := Base.step hB hE hO; clear hE
    obtain ⟨x6, hx_, h⟩ := Comp.run_bind h; replace hx_ := Comp.run_pure hx_; rw [hx_] at q12; clear hx_
    refine (li_nil ?_)
    refine (nx_then ?_)
    refine wp_cond_b q12 (fun hc => ?_) (fun hc => ?_)
    ·
      replace h := Comp.run_b_t hc h; clear hc
      refine wp_skip ?_
      refine (nx_then ?_)
      refine wp_seq ?_
      refine wp_block ?_
      obtain ⟨x7, hx7, h⟩ := Comp.run_bind h
      obtain ⟨x8, hx8, h⟩ := Comp.run_bind h
      obtain ⟨x9, hx9, h⟩ := Comp.run_bind h
      refine' region [_, _, _, SP.ptr rStr O5 x7, SP.isv (.string (str x7)), _, _, SP.ptr rStr O5 x8, SP.isv (.string (str x8)), _, _, SP.isv (.string (str x9)), SP.vl (rSl rStr) O5 [x9]] mixed hA (.cons ?z5_0 (.cons ?z5_1 (.cons ?z5_2 (.cons ?z5_3 (.cons ?z5_4 (.cons ?z5_5 (.cons ?z5_6 (.cons ?z5_7 (.cons ?z5_8 (.cons ?z5_9 (.cons ?z5_10 (.cons ?z5_11 (.cons ?z5_12 .nil))))))))))))) ?zok5 ?zgd5 ?zk5
      case z5_0 => intro a' w' hE hK hg; exact ok_move (kn (hK 3 rfl) rfl q3)
      case z5_1 => intro a' w' hE hK hg; exact ok_move (kn (hK 0 rfl) rfl q0)
      case z5_2 => intro a' w' hE hK hg; exact ok_move (kn (hK 4 rfl) rfl q4)
      case z5_3 => intro a' w' hE hK hg; exact okl_idx (r := rStr) (O := O5) ty29 ty9 rfl (ksv (j := 1) (hK 16 rfl) rfl rfl rfl) (rd_of (GR.v_ext _ h_0 hE)) (ksv (j := 2) (hK 17 rfl) rfl rfl rfl) hx7
      case z5_4 => intro a' w' hE hK hg; exact okl_ldr rStr (fun _ => rfl) ty9 rfl rfl rfl (kspS (φ := SP.ptr rStr O5 x7) (j := 3) (hK 18 rfl) rfl rfl rfl) (fun _ _ _ h => rStr_v.1 h)
      case z5_5 => intro a' w' hE hK hg; exact ok_move (kn (hK 0 rfl) rfl q0)
      case z5_6 => intro a' w' hE hK hg; exact ok_move (kn (hK 4 rfl) rfl q4)
      case z5_7 => intro a' w' hE hK hg; exact okl_idx (r := rStr) (O := O5) ty29 ty9 rfl (ksv (j := 5) (hK 20 rfl) rfl rfl rfl) (rd_of (GR.v_ext _ h_0 hE)) (ksv (j := 6) (hK 21 rfl) rfl rfl rfl) hx8
      case z5_8 => intro a' w' hE hK hg; exact okl_ldr rStr (fun _ => rfl) ty9 rfl rfl rfl (kspS (φ := SP.ptr rStr O5 x8) (j := 7) (hK 22 rfl) rfl rfl rfl) (fun _ _ _ h => rStr_v.1 h)
      case z5_9 => intro a' w' hE hK hg; exact okl_lenS ty9 (ksv (j := 8) (hK 23 rfl) rfl rfl rfl)
      case z5_10 => intro a' w' hE hK hg; exact ok_min (ksv (j := 9) (hK 24 rfl) rfl rfl rfl) rfl
      case z5_11 => intro a' w' hE hK hg; exact okl_sliceS_h ty9 (ksv (j := 4) (hK 19 rfl) rfl rfl rfl) (ksv (j := 10) (hK 25 rfl) rfl rfl rfl) hx9
      case z5_12 => intro a' w' hE hK hg; exact okl_buildSliceV (r := rStr) (fun _ => rfl) rfl (OkO.ext hB.ok hE) ty29 ty9 (parts_cons (ksv (j := 11) (hK 26 rfl) rfl rfl rfl) parts_nil) ⟨(by first | exact rInt_v.2 rfl | exact rBool_v.2 rfl | exact rStr_v.2 rfl | exact rC_v.2 rfl | exact ⟨_, rfl, rfl⟩), trivial⟩ rfl (by decide)
      case zok5 => kernel_rfl
      case zgd5 => kernel_rfl
      intro a6 w6 hA' hE HF
      replace q0 := kn (HF 0) rfl q0
      replace q3 := kn (HF 3) rfl q3
      replace q4 := kn (HF 4) rfl q4
      have q15 := ksv (HF 15) rfl rfl rfl
      have f11 := ksp (HF 27) rfl rfl rfl
      obtain ⟨u10, q27'⟩ : ∃ u, a6.get 27 = u := ⟨_, rfl⟩
      rw [q27'] at f11
      have q27 := q27'; clear q27'
      clear q12
      clear hA HF; have hA := hA'; clear hA'
      replace h_0 := GR.v_ext _ h_0 hE
      replace f3 := f3.ext hE
      replace hB := Base.step hB hE hO; clear hE
      obtain ⟨x12, hx12, h⟩ := Comp.run_bind h
      refine l_append (r := rStr) (fun _ => rfl) rfl ty29 ty9 rfl (by decide) hO hB (okB_fr hB) q15 f3 q27 (rd_of f11) hx12 (by decide) fun u13 w7 O14 f15 hB' hX => ?_
      clear hB; have hB := hB'; clear hB'
      clear f3
      replace h_0 := GR.kx _ h_0 hX (by decide)
      replace f11 := GR.kx _ f11 hX (by decide)
      clear hX
      refine put_cont hA (by decide) fun a8 hA' q_ hfr => ?_
      clear hA; have hA := hA'; clear hA'
      replace q0 := (hfr 0 rfl).trans q0
      replace q3 := (hfr 3 rfl).trans q3
      replace q4 := (hfr 4 rfl).trans q4
      replace q15 := (hfr 15 rfl).trans q15
      replace q27 := (hfr 27 rfl).trans q27
      have q28 := q_; clear q_ hfr
      refine l_ok (φ := SP.isv (u13)) hO hB (by exact ok_assign q28) rfl fun u_ w9 hE hB' hv_ => ?_
      replace hv_ := Eq.symm hv_; subst hv_; clear hB; have hB := hB'; clear hB'
      replace h_0 := GR.v_ext _ h_0 hE
      replace f15 := f15.ext hE
      clear hE
      refine put_cont hA (by decide) fun a10 hA' q_ hfr => ?_
      clear hA; have hA := hA'; clear hA'
      replace q0 := (hfr 0 rfl).trans q0
      replace q4 := (hfr 4 rfl).trans q4
      replace q28 := (hfr 28 rfl).trans q28
      clear q3
      have q3 := q_; clear q_ hfr
      refine (li_nil ?_)
      refine (nx_blk (nx_then ?_))
      refine' region [_, _, _] mixed hA (.cons ?z6_0 (.cons ?z6_1 (.cons ?z6_2 .nil))) ?zok6 ?zgd6 ?zk6
      case z6_0 => intro a' w' hE hK hg; exact ok_move (kn (hK 4 rfl) rfl q4)
      case z6_1 => intro a' w' hE hK hg; exact ok_add (ksv (j := 0) (hK 13 rfl) rfl rfl rfl) rfl
      case z6_2 => intro a' w' hE hK hg; exact ok_assign (ksv (j := 1) (hK 14 rfl) rfl rfl rfl)
      case zok6 => kernel_rfl
      case zgd6 => kernel_rfl
      intro a11 w11 hA' hE HF
      replace q0 := kn (HF 0) rfl q0
      replace q3 := kn (HF 3) rfl q3
      have q4' := ksv (HF 4) rfl rfl rfl
      replace q4 := q4'; clear q4'
      clear hA HF; have hA := hA'; clear hA'
      replace h_0 := GR.v_ext _ h_0 hE
      replace f15 := f15.ext hE
      replace hB := Base.step hB hE hO; clear hE
      refine (li_nil ?_)
      refine (nx_then ?_)
      have h := hnext2 _ (Comp.run_pure h).symm
      refine ⟨m2, hlt2, ?_⟩
      exact ⟨_, _, _, _, hA, hB, q0, h_0, q3, f15, q4, h⟩
    ·
      replace h := Comp.run_b_f hc h; clear hc
      refine wp_exit ?_
      refine (ex_then (ex_then (ex_same ?_)))
      have hd_ := hdone2 _ (Comp.run_pure h).symm; clear h
      subst hd_; have h := hk2; clear hk2; try dsimp only at h
      refine (nx_then ?_)
      exact ⟨_, _, _, hA, hB, q3, f3, h⟩
  intro a12 w12 hI
  clear hA hB h q0 q3 h_0
  obtain ⟨O21, x18, u19, hA, hB, q3, f20, h⟩ := hI
  unfold colletlaw02_list_j1 at h
  refine wp_seq ?_
  refine' region [_, _] mixed hA (.cons ?z7_0 (.cons ?z7_1 .nil)) ?zok7 ?zgd7 ?zk7
  case z7_0 => intro a' w' hE hK hg; exact ok_move (kn (hK 3 rfl) rfl q3)
  case z7_1 => intro a' w' hE hK hg; exact ok_assign (ksv (j := 0) (hK 29 rfl) rfl rfl rfl)
  case zok7 => kernel_rfl
  case zgd7 => kernel_rfl
  intro a13 w13 hA' hE HF
  have q2 := ksv (HF 2) rfl rfl rfl
  clear q3
  clear hA HF; have hA := hA'; clear hA'
  replace f20 := f20.ext hE
  replace hB := Base.step hB hE hO; clear hE
  refine (li_nil ?_)
  refine (nx_then ?_)
  refine (wp_ret ?_)
  have h := Comp.run_pure h; subst h
  exact retPure Try.results20 hA q2 hB.ext (OwnL.res f20 (by decide) hB.zero)

theorem ok_colletlaw02_DigestHalves {O : Tags} {w0 : World} (hO : OkO O w0) {v_0 : Value} {x_0 : List Bytes} (h_0 : (rSl rStr).v O w0 v_0 x_0) {x_1 : Int} {n : Nat} {y : Bool} (h : (colletlaw02_DigestHalves x_0 x_1).run n = some y) : Pure Try.prog 7 #[v_0, .int .u8 x_1] w0 (SP.isv (.bool y)).holds := by
  unfold colletlaw02_DigestHalves at h
  refine pure_of_wp Try.func7 rfl 94 Try.ntmps7 (by simp) fun a0 hA hs0 => ?_
  have q0 := hs0 0 _ rfl
  have q1 := hs0 1 _ rfl
  clear hs0
  have hB : Base (Fr w0) O w0 O w0 := Base.start hO
  refine wp_seq ?_
  refine' region [_] mixed hA (.cons ?z1_0 .nil) ?zok1 ?zgd1 ?zk1
  case z1_0 => intro a' w' hE hK hg; exact ok_assign rfl
  case zok1 => kernel_rfl
  case zgd1 => kernel_rfl
  intro a1 w1 hA' hE HF
  replace q0 := kn (HF 0) rfl q0
  replace q1 := kn (HF 1) rfl q1
  clear hA HF; have hA := hA'; clear hA'
  replace h_0 := GR.v_ext _ h_0 hE
  replace hB := Base.step hB hE hO; clear hE
  refine (li_nil ?_)
  refine (nx_then ?_)
  refine wp_seq ?_
  obtain ⟨x1, hx1, h⟩ := Comp.run_bind h
  refine' region [SP.isv (.bool x1), _] mixed hA (.cons ?z2_0 (.cons ?z2_1 .nil)) ?zok2 ?zgd2 ?zk2
  case z2_0 => intro a' w' hE hK hg; have c_ := ok_colletlaw02_sanity (OkO.ext hB.ok hE)  hx1; exact ok_call0 fn9  c_
  case z2_1 => intro a' w' hE hK hg; exact ok_assign (ksv (j := 0) (hK 14 rfl) rfl rfl rfl)
  case zok2 => kernel_rfl
  case zgd2 => kernel_rfl
  intro a2 w2 hA' hE HF
  replace q0 := kn (HF 0) rfl q0
  replace q1 := kn (HF 1) rfl q1
  have q5 := ksv (HF 5) rfl rfl rfl
  clear hA HF; have hA := hA'; clear hA'
  replace h_0 := GR.v_ext _ h_0 hE
  replace hB := Base.step hB hE hO; clear hE
  refine (li_nil ?_)
  refine (nx_then ?_)
  refine wp_seq ?_
  refine' regionT [_] hA (.cons ?z3_0 .nil) ?zok3 ?zgd3 ?zk3
  case z3_0 => intro a' w' hE hK hg; exact ok_move (kn (hK 0 rfl) rfl q0)
  case zok3 => kernel_rfl
  case zgd3 => kernel_rfl
  intro a3 w3 hA' hE HF
  replace q0 := kn (HF 0) rfl q0
  replace q1 := kn (HF 1) rfl q1
  replace q5 := kn (HF 5) rfl q5
  have q15 := ksv (HF 15) rfl rfl rfl
  clear hA HF; have hA := hA'; clear hA'
  replace h_0 := GR.v_ext _ h_0 hE
  replace hB := Base.step hB hE hO; clear hE
  obtain ⟨x2, hx2, h⟩ := Comp.run_bind h
  refine l_ok (φ := SP.ownr rStr 9 w3.heap.size O x2) hO hB (by have c_ := ok_colletlaw02_list hB.ok h_0 hx2; exact ok_weak (ok_call1 fn20 q15 c_) (fun _ _ _ h => h)) rfl fun u3 w4 hE hB' f4 => ?_
  clear hB'; obtain ⟨O5, hB', hX, f6⟩ := ownNew hO hB hE f4 rfl 1 (by decide)
  clear hB f4; have hB := hB'; clear hB'
  replace h_0 := GR.kx _ h_0 hX (by decide)
  clear hX hE
  refine put_cont hA (by decide) fun a5 hA' q_ hfr => ?_
  clear hA; have hA := hA'; clear hA'
  replace q0 := (hfr 0 rfl).trans q0
  replace q1 := (hfr 1 rfl).trans q1
  replace q5 := (hfr 5 rfl).trans q5
  replace q15 := (hfr 15 rfl).trans q15
  have q16 := q_; clear q_ hfr
  refine l_ok (φ := SP.isv (u3)) hO hB (by exact ok_assign q16) rfl fun u_ w6 hE hB' hv_ => ?_
  replace hv_ := Eq.symm hv_; subst hv_; clear hB; have hB := hB'; clear hB'
  replace h_0 := GR.v_ext _ h_0 hE
  replace f6 := f6.ext hE
  clear hE
  refine put_cont hA (by decide) fun a7 hA' q_ hfr => ?_
  clear hA; have hA := hA'; clear hA'
  replace q1 := (hfr 1 rfl).trans q1
  replace q5 := (hfr 5 rfl).trans q5
  replace q16 := (hfr 16 rfl).trans q16
  clear q0
  have q0 := q_; clear q_ hfr
  refine (li_nil ?_)
  refine (nx_then ?_)
  refine wp_seq ?_
  obtain ⟨x7, hx7, h⟩ := Comp.run_bind h
  refine' region [_, _, _, _] mixed hA (.cons ?z4_0 (.cons ?z4_1 (.cons ?z4_2 (.cons ?z4_3 .nil)))) ?zok4 ?zgd4 ?zk4
  case z4_0 => intro a' w' hE hK hg; exact ok_move (kn (hK 1 rfl) rfl q1)
  case z4_1 => intro a' w' hE hK hg; exact ok_rem (ksv (j := 0) (hK 17 rfl) rfl rfl rfl) rfl (by decide)
  case z4_2 => intro a' w' hE hK hg; exact okl_shl rfl (ksv (j := 1) (hK 18 rfl) rfl rfl rfl) (run_nonneg hx7)
  case z4_3 => intro a' w' hE hK hg; exact ok_assign (ksv (j := 2) (hK 19 rfl) rfl rfl rfl)
  case zok4 => kernel_rfl
  case zgd4 => kernel_rfl
  intro a8 w8 hA' hE HF
  replace q0 := kn (HF 0) rfl q0
  replace q5 := kn (HF 5) rfl q5
  have q6 := ksv (HF 6) rfl rfl rfl
  clear q1
  clear hA HF; have hA := hA'; clear hA'
  replace f6 := f6.ext hE
  replace hB := Base.step hB hE hO; clear hE
  refine (li_nil ?_)
  refine (nx_then ?_)
  refine seq_join (fun a w => ∃ (O28 : Tags) (x23 : List Bytes) (u24 : Value), a.fit 94 ∧ Base (Fr w0) O w0 O28 w ∧ a.get 0 = u24 ∧ (rSl rStr).v O28 w u24 x23 ∧ a.get 5 = .bool x1 ∧ a.get 6 = .int .i64 (shlF .i64 2 (Int.tmod x_1 4)) ∧ (colletlaw02_DigestHalves_j1 x_1 x1 x23).run n = some y) ?_ ?_
  ·
    refine wp_block ?_
    obtain ⟨O11, hB', hX, f12⟩ := retagL (okB_fr hB) hB f6 2 (by decide) (by decide)
    clear f6 hB; have hB := hB'; clear hB'
    clear hX
    obtain ⟨e2, he2, hk2⟩ := Comp.run_bind h; clear h
    refine loop_m (fun m a w => ∃ (O13 : Tags) (x8 : List Bytes) (u9 : Value), a.fit 94 ∧ Base (Fr w0) O w0 O13 w ∧ a.get 0 = u9 ∧ OwnL 2 rStr 9 (Fr w0) O13 w u9 x8 ∧ a.get 5 = .bool x1 ∧ a.get 6 = .int .i64 (shlF .i64 2 (Int.tmod x_1 4)) ∧ Comp.loopN (fun s => colletlaw02_DigestHalves_l2 x_1 s) n m x8 = some e2) (m := n) ?st2 ?_
    case st2 =>
      exact ⟨_, _, _, hA, hB, q0, f12, q5, q6, Comp.run_loop he2⟩
    intro m_ a9 w9 hI
    clear hA hB he2 q0 q5 q6 f12
    obtain ⟨O13, x8, u9, hA, hB, q0, f10, q5, q6, hl⟩ := hI
    obtain ⟨m2, hlt2, st2, h, hnext2, hdone2⟩ := Comp.loopN_succ hl; clear hl
    replace h : (colletlaw02_DigestHalves_l2 x_1 x8).run n = some st2 := h
    unfold colletlaw02_DigestHalves_l2 at h
    refine wp_seq ?_
    refine wp_seq ?_
    refine' region [_, _, _, _] mixed hA (.cons ?z5_0 (.cons ?z5_1 (.cons ?z5_2 (.cons ?z5_3 .nil)))) ?zok5 ?zgd5 ?zk5
    case z5_0 => intro a' w' hE hK hg; exact ok_move (kn (hK 0 rfl) rfl q0)
    case z5_1 => intro a' w' hE hK hg; exact okl_len (r := rStr) ty29 (ksv (j := 0) (hK 20 rfl) rfl rfl rfl) (OwnL.rd (OwnL.ext f10 hE))
    case z5_2 => intro a' w' hE hK hg; exact ok_move (kn (hK 6 rfl) rfl q6)
    case z5_3 => intro a' w' hE hK hg; exact ok_lss (ksv (j := 1) (hK 21 rfl) rfl rfl rfl) (ksv (j := 2) (hK 22 rfl) rfl rfl rfl)
    case zok5 => kernel_rfl
    case zgd5 => kernel_rfl
    intro a10 w10 hA' hE HF
    replace q0 := kn (HF 0) rfl q0
    replace q5 := kn (HF 5) rfl q5
    replace q6 := kn (HF 6) rfl q6
    have q23 := ksv (HF 23) rfl rfl rfl
    clear hA HF; have hA := hA'; clear hA'
    replace f10 := f10.ext hE
    replace hB := Base.step hB hE hO; clear hE
    obtain ⟨x14, hx_, h⟩ := Comp.run_bind h; replace hx_ := Comp.run_pure hx_; rw [hx_] at q23; clear hx_
    refine (li_nil ?_)
    refine (nx_then ?_)
    refine wp_cond_b q23 (fun hc => ?_) (fun hc => ?_)
    ·
      replace h := Comp.run_b_t hc h; clear hc
      refine wp_skip ?_
      refine (nx_then ?_)
      refine wp_block ?_
      refine' regionT [_, SP.vl (rSl rStr) O13 [([] : Bytes)]] hA (.cons ?z6_0 (.cons ?z6_1 .nil)) ?zok6 ?zgd6 ?zk6
      case z6_0 => intro a' w' hE hK hg; exact ok_move (kn (hK 0 rfl) rfl q0)
      case z6_1 => intro a' w' hE hK hg; exact okl_buildSliceV (r := rStr) (fun _ => rfl) rfl (OkO.ext hB.ok hE) ty29 ty9 (parts_cons rfl parts_nil) ⟨(by first | exact rInt_v.2 rfl | exact rBool_v.2 rfl | exact rStr_v.2 rfl | exact rC_v.2 rfl | exact ⟨_, rfl, rfl⟩), trivial⟩ rfl (by decide)
      case zok6 => kernel_rfl
      case zgd6 => kernel_rfl
      intro a11 w11 hA' hE HF
      replace q0 := kn (HF 0) rfl q0
      replace q5 := kn (HF 5) rfl q5
      replace q6 := kn (HF 6) rfl q6
      have q24 := ksv (HF 24) rfl rfl rfl
      have f16 := ksp (HF 25) rfl rfl rfl
      obtain ⟨u15, q25'⟩ : ∃ u, a11.get 25 = u := ⟨_, rfl⟩
      rw [q25'] at f16
      have q25 := q25'; clear q25'
      clear q23
      clear hA HF; have hA := hA'; clear hA'
      replace f10 := f10.ext hE
      replace hB := Base.step hB hE hO; clear hE
      obtain ⟨x17, hx17, h⟩ := Comp.run_bind h
      refine l_append (r := rStr) (fun _ => rfl) rfl ty29 ty9 rfl (by decide) hO hB (okB_fr hB) q24 f10 q25 (rd_of f16) hx17 (by decide) fun u18 w12 O19 f20 hB' hX => ?_
      clear hB; have hB := hB'; clear hB'
      clear f10
      replace f16 := GR.kx _ f16 hX (by decide)
      clear hX
      refine put_cont hA (by decide) fun a13 hA' q_ hfr => ?_
      clear hA; have hA := hA'; clear hA'
      replace q0 := (hfr 0 rfl).trans q0
      replace q5 := (hfr 5 rfl).trans q5
      replace q6 := (hfr 6 rfl).trans q6
      replace q24 := (hfr 24 rfl).trans q24
      replace q25 := (hfr 25 rfl).trans q25
      have q26 := q_; clear q_ hfr
      refine l_ok (φ := SP.isv (u18)) hO hB (by exact ok_assign q26) rfl fun u_ w14 hE hB' hv_ => ?_
      replace hv_ := Eq.symm hv_; subst hv_; clear hB; have hB := hB'; clear hB'
      replace f20 := f20.ext hE
      clear hE
      refine put_cont hA (by decide) fun a15 hA' q_ hfr => ?_
      clear hA; have hA := hA'; clear hA'
      replace q5 := (hfr 5 rfl).trans q5
      replace q6 := (hfr 6 rfl).trans q6
      replace q26 := (hfr 26 rfl).trans q26
      clear q0
      have q0 := q_; clear q_ hfr
      refine (li_nil ?_)
      refine (nx_blk (nx_then ?_))
      have h := hnext2 _ (Comp.run_pure h).symm
      refine ⟨m2, hlt2, ?_⟩
      exact ⟨_, _, _, hA, hB, q0, f20, q5, q6, h⟩
    ·
      replace h := Comp.run_b_f hc h; clear hc
      refine wp_exit ?_
      refine (ex_then (ex_then (ex_same ?_)))
      have hd_ := hdone2 _ (Comp.run_pure h).symm; clear h
      subst hd_; have h := hk2; clear hk2; try dsimp only at h
      refine (nx_then ?_)
      obtain ⟨O26, hB', hX, f27⟩ := freezeL hO hB f10 (by decide)
      clear f10 hB; have hB := hB'; clear hB'
      clear hX
      exact ⟨_, _, _, hA, hB, q0, f27, q5, q6, h⟩
  intro a16 w16 hI
  clear hA hB h q0 q5 q6 f6
  obtain ⟨O28, x23, u24, hA, hB, q0, f25, q5, q6, h⟩ := hI
  unfold colletlaw02_DigestHalves_j1 at h
  refine wp_seq ?_
  obtain ⟨x29, hx29, h⟩ := Comp.run_bind h
  refine' region [_, _, SP.vl (rSl rStr) O28 x29, SP.vl (rSl rStr) O28 x29] mixed hA (.cons ?z7_0 (.cons ?z7_1 (.cons ?z7_2 (.cons ?z7_3 .nil)))) ?zok7 ?zgd7 ?zk7
  case z7_0 => intro a' w' hE hK hg; exact ok_move (kn (hK 0 rfl) rfl q0)
  case z7_1 => intro a' w' hE hK hg; exact ok_move (kn (hK 6 rfl) rfl q6)
  case z7_2 => intro a' w' hE hK hg; exact okl_slice_h (r := rStr) ty29 ty9 rfl (ksv (j := 0) (hK 27 rfl) rfl rfl rfl) (GR.v_ext _ f25 hE) (ksv (j := 1) (hK 28 rfl) rfl rfl rfl) hx29
  case z7_3 => intro a' w' hE hK hg; exact ok_assign_pr (φ := SP.vl (rSl rStr) O28 x29) (kspS (φ := SP.vl (rSl rStr) O28 x29) (j := 2) (hK 29 rfl) rfl rfl rfl)
  case zok7 => kernel_rfl
  case zgd7 => kernel_rfl
  intro a17 w17 hA' hE HF
  have f31 := ksp (HF 0) rfl rfl rfl
  obtain ⟨u30, q0'⟩ : ∃ u, a17.get 0 = u := ⟨_, rfl⟩
  rw [q0'] at f31
  replace q0 := q0'; clear q0'
  replace q5 := kn (HF 5) rfl q5
  replace q6 := kn (HF 6) rfl q6
  clear hA HF; have hA := hA'; clear hA'
  replace f25 := GR.v_ext _ f25 hE
  replace hB := Base.step hB hE hO; clear hE
  refine (li_nil ?_)
  refine (nx_then ?_)
  refine wp_seq ?_
  obtain ⟨x32, hx32, h⟩ := Comp.run_bind h
  obtain ⟨x33, hx33, h⟩ := Comp.run_bind h
  refine' region [_, _, _, SP.vl (rSl rStr) O28 x32, _, _, _, SP.vl (rSl rStr) O28 x33, SP.vl (rSl rStr) O28 x32, SP.vl (rSl rStr) O28 x33] mixed hA (.cons ?z8_0 (.cons ?z8_1 (.cons ?z8_2 (.cons ?z8_3 (.cons ?z8_4 (.cons ?z8_5 (.cons ?z8_6 (.cons ?z8_7 (.cons ?z8_8 (.cons ?z8_9 .nil)))))))))) ?zok8 ?zgd8 ?zk8
  case z8_0 => intro a' w' hE hK hg; exact ok_move (kn (hK 0 rfl) rfl q0)
  case z8_1 => intro a' w' hE hK hg; exact ok_move (kn (hK 6 rfl) rfl q6)
  case z8_2 => intro a' w' hE hK hg; exact ok_quo (ksv (j := 1) (hK 31 rfl) rfl rfl rfl) rfl (by decide)
  case z8_3 => intro a' w' hE hK hg; exact okl_slice_h (r := rStr) ty29 ty9 rfl (ksv (j := 0) (hK 30 rfl) rfl rfl rfl) (GR.v_ext _ f31 hE) (ksv (j := 2) (hK 32 rfl) rfl rfl rfl) hx32
  case z8_4 => intro a' w' hE hK hg; exact ok_move (kn (hK 0 rfl) rfl q0)
  case z8_5 => intro a' w' hE hK hg; exact ok_move (kn (hK 6 rfl) rfl q6)
  case z8_6 => intro a' w' hE hK hg; exact ok_quo (ksv (j := 5) (hK 35 rfl) rfl rfl rfl) rfl (by decide)
  case z8_7 => intro a' w' hE hK hg; exact okl_slice_l (r := rStr) ty29 ty9 rfl (ksv (j := 4) (hK 34 rfl) rfl rfl rfl) (GR.v_ext _ f31 hE) (ksv (j := 6) (hK 36 rfl) rfl rfl rfl) hx33
  case z8_8 => intro a' w' hE hK hg; exact ok_assign_pr (φ := SP.vl (rSl rStr) O28 x32) (kspS (φ := SP.vl (rSl rStr) O28 x32) (j := 3) (hK 33 rfl) rfl rfl rfl)
  case z8_9 => intro a' w' hE hK hg; exact ok_assign_pr (φ := SP.vl (rSl rStr) O28 x33) (kspS (φ := SP.vl (rSl rStr) O28 x33) (j := 7) (hK 37 rfl) rfl rfl rfl)
  case zok8 => kernel_rfl
  case zgd8 => kernel_rfl
  intro a18 w18 hA' hE HF
  replace q0 := kn (HF 0) rfl q0
  replace q5 := kn (HF 5) rfl q5
  replace q6 := kn (HF 6) rfl q6
  have f35 := ksp (HF 7) rfl rfl rfl
  obtain ⟨u34, q7'⟩ : ∃ u, a18.get 7 = u := ⟨_, rfl⟩
  rw [q7'] at f35
  have q7 := q7'; clear q7'
  have f37 := ksp (HF 8) rfl rfl rfl
  obtain ⟨u36, q8'⟩ : ∃ u, a18.get 8 = u := ⟨_, rfl⟩
  rw [q8'] at f37
  have q8 := q8'; clear q8'
  clear hA HF; have hA := hA'; clear hA'
  replace f31 := GR.v_ext _ f31 hE
  replace hB := Base.step hB hE hO; clear hE
  refine (li_nil ?_)
  refine (nx_then ?_)
  refine wp_seq ?_
  obtain ⟨x38, hx38, h⟩ := Comp.run_bind h
  refine' region [SP.isv (.string (str x38)), _] mixed hA (.cons ?z9_0 (.cons ?z9_1 .nil)) ?zok9 ?zgd9 ?zk9
  case z9_0 => intro a' w' hE hK hg; have c_ := ok_digest_Missing (OkO.ext hB.ok hE)  hx38; exact ok_call0 fn27  c_
  case z9_1 => intro a' w' hE hK hg; exact ok_assign (ksv (j := 0) (hK 38 rfl) rfl rfl rfl)
  case zok9 => kernel_rfl
  case zgd9 => kernel_rfl
  intro a19 w19 hA' hE HF
  replace q0 := kn (HF 0) rfl q0
  replace q5 := kn (HF 5) rfl q5
  replace q6 := kn (HF 6) rfl q6
  replace q7 := kn (HF 7) rfl q7
  replace q8 := kn (HF 8) rfl q8
  have q9 := ksv (HF 9) rfl rfl rfl
  clear hA HF; have hA := hA'; clear hA'
  replace f31 := GR.v_ext _ f31 hE
  replace f35 := GR.v_ext _ f35 hE
  replace f37 := GR.v_ext _ f37 hE
  replace hB := Base.step hB hE hO; clear hE
  refine (li_nil ?_)
  refine (nx_then ?_)
  refine seq_join (fun a w => ∃ (O47 : Tags) (x46 : Bytes), a.fit 94 ∧ Base (Fr w0) O w0 O47 w ∧ a.get 0 = u30 ∧ (rSl rStr).v O47 w u30 x29 ∧ a.get 5 = .bool x1 ∧ a.get 6 = .int .i64 (shlF .i64 2 (Int.tmod x_1 4)) ∧ a.get 7 = u34 ∧ (rSl rStr).v O47 w u34 x32 ∧ a.get 8 = u36 ∧ (rSl rStr).v O47 w u36 x33 ∧ a.get 9 = .string (str x46) ∧ (colletlaw02_DigestHalves_j3 x33 x_1 x1 x29 x32 x46).run n = some y) ?_ ?_
  ·
    refine wp_seq ?_
    refine' region [_] mixed hA (.cons ?z10_0 .nil) ?zok10 ?zgd10 ?zk10
    case z10_0 => intro a' w' hE hK hg; exact ok_assign rfl
    case zok10 => kernel_rfl
    case zgd10 => kernel_rfl
    intro a20 w20 hA' hE HF
    replace q0 := kn (HF 0) rfl q0
    replace q5 := kn (HF 5) rfl q5
    replace q6 := kn (HF 6) rfl q6
    replace q7 := kn (HF 7) rfl q7
    replace q8 := kn (HF 8) rfl q8
    replace q9 := kn (HF 9) rfl q9
    have q10 := ksv (HF 10) rfl rfl rfl
    clear hA HF; have hA := hA'; clear hA'
    replace f31 := GR.v_ext _ f31 hE
    replace f35 := GR.v_ext _ f35 hE
    replace f37 := GR.v_ext _ f37 hE
    replace hB := Base.step hB hE hO; clear hE
    refine (li_nil ?_)
    refine (nx_then ?_)
    refine wp_block ?_
    obtain ⟨e4, he4, hk4⟩ := Comp.run_bind h; clear h
    refine loop_m (fun m a w => ∃ (O41 : Tags) (x39 : Bytes) (x40 : Int), a.fit 94 ∧ Base (Fr w0) O w0 O41 w ∧ a.get 0 = u30 ∧ (rSl rStr).v O41 w u30 x29 ∧ a.get 5 = .bool x1 ∧ a.get 6 = .int .i64 (shlF .i64 2 (Int.tmod x_1 4)) ∧ a.get 7 = u34 ∧ (rSl rStr).v O41 w u34 x32 ∧ a.get 8 = u36 ∧ (rSl rStr).v O41 w u36 x33 ∧ a.get 9 = .string (str x39) ∧ a.get 10 = .int .i64 x40 ∧ Comp.loopN (fun s => colletlaw02_DigestHalves_l4 x_1 s.1 s.2) n m (x39, x40) = some e4) (m := n) ?st4 ?_
    case st4 =>
      exact ⟨_, _, _, hA, hB, q0, f31, q5, q6, q7, f35, q8, f37, q9, q10, Comp.run_loop he4⟩
    intro m_ a21 w21 hI
    clear hA hB he4 q0 q5 q6 q7 q8 q9 q10 f31 f35 f37
    obtain ⟨O41, x39, x40, hA, hB, q0, f31, q5, q6, q7, f35, q8, f37, q9, q10, hl⟩ := hI
    obtain ⟨m4, hlt4, st4, h, hnext4, hdone4⟩ := Comp.loopN_succ hl; clear hl
    replace h : (colletlaw02_DigestHalves_l4 x_1 x39 x40).run n = some st4 := h
    unfold colletlaw02_DigestHalves_l4 at h
    refine wp_seq ?_
    refine wp_seq ?_
    refine' region [_, _, _, _] mixed hA (.cons ?z11_0 (.cons ?z11_1 (.cons ?z11_2 (.cons ?z11_3 .nil)))) ?zok11 ?zgd11 ?zk11
    case z11_0 => intro a' w' hE hK hg; exact ok_move (kn (hK 10 rfl) rfl q10)
    case z11_1 => intro a' w' hE hK hg; exact ok_move (kn (hK 6 rfl) rfl q6)
    case z11_2 => intro a' w' hE hK hg; exact ok_quo (ksv (j := 1) (hK 40 rfl) rfl rfl rfl) rfl (by decide)
    case z11_3 => intro a' w' hE hK hg; exact ok_lss (ksv (j := 0) (hK 39 rfl) rfl rfl rfl) (ksv (j := 2) (hK 41 rfl) rfl rfl rfl)
    case zok11 => kernel_rfl
    case zgd11 => kernel_rfl
    intro a22 w22 hA' hE HF
    replace q0 := kn (HF 0) rfl q0
    replace q5 := kn (HF 5) rfl q5
    replace q6 := kn (HF 6) rfl q6
    replace q7 := kn (HF 7) rfl q7
    replace q8 := kn (HF 8) rfl q8
    replace q9 := kn (HF 9) rfl q9
    replace q10 := kn (HF 10) rfl q10
    have q42 := ksv (HF 42) rfl rfl rfl
    clear hA HF; have hA := hA'; clear hA'
    replace f31 := GR.v_ext _ f31 hE
    replace f35 := GR.v_ext _ f35 hE
    replace f37 := GR.v_ext _ f37 hE
    replace hB := Base.step hB hE hO; clear hE
    obtain ⟨x42, hx_, h⟩ := Comp.run_bind h; replace hx_ := Comp.run_pure hx_; rw [hx_] at q42; clear hx_
    refine (li_nil ?_)
    refine (nx_then ?_)
    refine wp_cond_b q42 (fun hc => ?_) (fun hc => ?_)
    ·
      replace h := Comp.run_b_t hc h; clear hc
      refine wp_skip ?_
      refine (nx_then ?_)
      refine wp_seq ?_
      refine wp_block ?_
      obtain ⟨x43, hx43, h⟩ := Comp.run_bind h
      refine' region [_, _, SP.isv (.string (str x43)), _] mixed hA (.cons ?z12_0 (.cons ?z12_1 (.cons ?z12_2 (.cons ?z12_3 .nil)))) ?zok12 ?zgd12 ?zk12
      case z12_0 => intro a' w' hE hK hg; exact ok_move (kn (hK 9 rfl) rfl q9)
      case z12_1 => intro a' w' hE hK hg; exact ok_move (kn (hK 9 rfl) rfl q9)
      case z12_2 => intro a' w' hE hK hg; have c_ := ok_digest_Inner (OkO.ext hB.ok hE)  hx43; exact ok_call2 fn25 (ksv (j := 0) (hK 45 rfl) rfl rfl rfl) (ksv (j := 1) (hK 46 rfl) rfl rfl rfl) c_
      case z12_3 => intro a' w' hE hK hg; exact ok_assign (ksv (j := 2) (hK 47 rfl) rfl rfl rfl)
      case zok12 => kernel_rfl
      case zgd12 => kernel_rfl
      intro a23 w23 hA' hE HF
      replace q0 := kn (HF 0) rfl q0
      replace q5 := kn (HF 5) rfl q5
      replace q6 := kn (HF 6) rfl q6
      replace q7 := kn (HF 7) rfl q7
      replace q8 := kn (HF 8) rfl q8
      have q9' := ksv (HF 9) rfl rfl rfl
      replace q9 := q9'; clear q9'
      replace q10 := kn (HF 10) rfl q10
      clear q42
      clear hA HF; have hA := hA'; clear hA'
      replace f31 := GR.v_ext _ f31 hE
      replace f35 := GR.v_ext _ f35 hE
      replace f37 := GR.v_ext _ f37 hE
      replace hB := Base.step hB hE hO; clear hE
      refine (li_nil ?_)
      refine (nx_blk (nx_then ?_))
      refine' region [_, _, _] mixed hA (.cons ?z13_0 (.cons ?z13_1 (.cons ?z13_2 .nil))) ?zok13 ?zgd13 ?zk13
      case z13_0 => intro a' w' hE hK hg; exact ok_move (kn (hK 10 rfl) rfl q10)
      case z13_1 => intro a' w' hE hK hg; exact ok_mul rfl (ksv (j := 0) (hK 43 rfl) rfl rfl rfl)
      case z13_2 => intro a' w' hE hK hg; exact ok_assign (ksv (j := 1) (hK 44 rfl) rfl rfl rfl)
      case zok13 => kernel_rfl
      case zgd13 => kernel_rfl
      intro a24 w24 hA' hE HF
      replace q0 := kn (HF 0) rfl q0
      replace q5 := kn (HF 5) rfl q5
      replace q6 := kn (HF 6) rfl q6
      replace q7 := kn (HF 7) rfl q7
      replace q8 := kn (HF 8) rfl q8
      replace q9 := kn (HF 9) rfl q9
      have q10' := ksv (HF 10) rfl rfl rfl
      replace q10 := q10'; clear q10'
      clear hA HF; have hA := hA'; clear hA'
      replace f31 := GR.v_ext _ f31 hE
      replace f35 := GR.v_ext _ f35 hE
      replace f37 := GR.v_ext _ f37 hE
      replace hB := Base.step hB hE hO; clear hE
      refine (li_nil ?_)
      refine (nx_then ?_)
      have h := hnext4 _ (Comp.run_pure h).symm
      refine ⟨m4, hlt4, ?_⟩
      exact ⟨_, _, _, hA, hB, q0, f31, q5, q6, q7, f35, q8, f37, q9, q10, h⟩
    ·
      replace h := Comp.run_b_f hc h; clear hc
      refine wp_exit ?_
      refine (ex_then (ex_then (ex_same ?_)))
      have hd_ := hdone4 _ (Comp.run_pure h).symm; clear h
      subst hd_; have h := hk4; clear hk4; try dsimp only at h
      refine (nx_then ?_)
      exact ⟨_, _, hA, hB, q0, f31, q5, q6, q7, f35, q8, f37, q9, h⟩
  intro a25 w25 hI
  clear hA hB h q0 q5 q6 q7 q8 q9 f31 f35 f37
  obtain ⟨O47, x46, hA, hB, q0, f31, q5, q6, q7, f35, q8, f37, q9, h⟩ := hI
  unfold colletlaw02_DigestHalves_j3 at h
  refine wp_seq ?_
  obtain ⟨x48, hx48, h⟩ := Comp.run_bind h
  obtain ⟨x49, hx49, h⟩ := Comp.run_bind h
  refine' region [_, SP.ptr rStr O47 x48, SP.isv (.string (str x48)), SP.isv (.string (str x49)), _] mixed hA (.cons ?z14_0 (.cons ?z14_1 (.cons ?z14_2 (.cons ?z14_3 (.cons ?z14_4 .nil))))) ?zok14 ?zgd14 ?zk14
  case z14_0 => intro a' w' hE hK hg; exact ok_move (kn (hK 8 rfl) rfl q8)
  case z14_1 => intro a' w' hE hK hg; exact okl_idx (r := rStr) (O := O47) ty29 ty9 rfl (ksv (j := 0) (hK 48 rfl) rfl rfl rfl) (rd_of (GR.v_ext _ f37 hE)) rfl hx48
  case z14_2 => intro a' w' hE hK hg; exact okl_ldr rStr (fun _ => rfl) ty9 rfl rfl rfl (kspS (φ := SP.ptr rStr O47 x48) (j := 1) (hK 49 rfl) rfl rfl rfl) (fun _ _ _ h => rStr_v.1 h)
  case z14_3 => intro a' w' hE hK hg; have c_ := ok_digest_Leaf (OkO.ext hB.ok hE)  hx49; exact ok_call1 fn23 (ksv (j := 2) (hK 50 rfl) rfl rfl rfl) c_
  case z14_4 => intro a' w' hE hK hg; exact ok_assign (ksv (j := 3) (hK 51 rfl) rfl rfl rfl)
  case zok14 => kernel_rfl
  case zgd14 => kernel_rfl
  intro a26 w26 hA' hE HF
  replace q0 := kn (HF 0) rfl q0
  replace q5 := kn (HF 5) rfl q5
  replace q6 := kn (HF 6) rfl q6
  replace q7 := kn (HF 7) rfl q7
  replace q8 := kn (HF 8) rfl q8
  replace q9 := kn (HF 9) rfl q9
  have q11 := ksv (HF 11) rfl rfl rfl
  clear hA HF; have hA := hA'; clear hA'
  replace f31 := GR.v_ext _ f31 hE
  replace f35 := GR.v_ext _ f35 hE
  replace f37 := GR.v_ext _ f37 hE
  replace hB := Base.step hB hE hO; clear hE
  refine (li_nil ?_)
  refine (nx_then ?_)
  refine wp_seq ?_
  obtain ⟨x50, hx50, h⟩ := Comp.run_bind h
  refine' region [SP.isv (.string (str x50)), _] mixed hA (.cons ?z15_0 (.cons ?z15_1 .nil)) ?zok15 ?zgd15 ?zk15
  case z15_0 => intro a' w' hE hK hg; have c_ := ok_digest_Missing (OkO.ext hB.ok hE)  hx50; exact ok_call0 fn27  c_
  case z15_1 => intro a' w' hE hK hg; exact ok_assign (ksv (j := 0) (hK 52 rfl) rfl rfl rfl)
  case zok15 => kernel_rfl
  case zgd15 => kernel_rfl
  intro a27 w27 hA' hE HF
  replace q0 := kn (HF 0) rfl q0
  replace q5 := kn (HF 5) rfl q5
  replace q6 := kn (HF 6) rfl q6
  replace q7 := kn (HF 7) rfl q7
  replace q8 := kn (HF 8) rfl q8
  replace q9 := kn (HF 9) rfl q9
  replace q11 := kn (HF 11) rfl q11
  have q12 := ksv (HF 12) rfl rfl rfl
  clear hA HF; have hA := hA'; clear hA'
  replace f31 := GR.v_ext _ f31 hE
  replace f35 := GR.v_ext _ f35 hE
  replace f37 := GR.v_ext _ f37 hE
  replace hB := Base.step hB hE hO; clear hE
  refine (li_nil ?_)
  refine (nx_then ?_)
  refine seq_join (fun a w => ∃ (O64 : Tags) (x62 : Bytes) (x63 : Bytes), a.fit 94 ∧ Base (Fr w0) O w0 O64 w ∧ a.get 0 = u30 ∧ (rSl rStr).v O64 w u30 x29 ∧ a.get 5 = .bool x1 ∧ a.get 6 = .int .i64 (shlF .i64 2 (Int.tmod x_1 4)) ∧ a.get 7 = u34 ∧ (rSl rStr).v O64 w u34 x32 ∧ a.get 8 = u36 ∧ (rSl rStr).v O64 w u36 x33 ∧ a.get 9 = .string (str x46) ∧ a.get 11 = .string (str x62) ∧ a.get 12 = .string (str x63) ∧ (colletlaw02_DigestHalves_j5 x1 x46 x29 x32 x33 x_1 x62 x63).run n = some y) ?_ ?_
  ·
    refine wp_seq ?_
    refine' region [_] mixed hA (.cons ?z16_0 .nil) ?zok16 ?zgd16 ?zk16
    case z16_0 => intro a' w' hE hK hg; exact ok_assign rfl
    case zok16 => kernel_rfl
    case zgd16 => kernel_rfl
    intro a28 w28 hA' hE HF
    replace q0 := kn (HF 0) rfl q0
    replace q5 := kn (HF 5) rfl q5
    replace q6 := kn (HF 6) rfl q6
    replace q7 := kn (HF 7) rfl q7
    replace q8 := kn (HF 8) rfl q8
    replace q9 := kn (HF 9) rfl q9
    replace q11 := kn (HF 11) rfl q11
    replace q12 := kn (HF 12) rfl q12
    have q13 := ksv (HF 13) rfl rfl rfl
    clear hA HF; have hA := hA'; clear hA'
    replace f31 := GR.v_ext _ f31 hE
    replace f35 := GR.v_ext _ f35 hE
    replace f37 := GR.v_ext _ f37 hE
    replace hB := Base.step hB hE hO; clear hE
    refine (li_nil ?_)
    refine (nx_then ?_)
    refine wp_block ?_
    obtain ⟨e6, he6, hk6⟩ := Comp.run_bind h; clear h
    refine loop_m (fun m a w => ∃ (O54 : Tags) (x51 : Bytes) (x52 : Bytes) (x53 : Int), a.fit 94 ∧ Base (Fr w0) O w0 O54 w ∧ a.get 0 = u30 ∧ (rSl rStr).v O54 w u30 x29 ∧ a.get 5 = .bool x1 ∧ a.get 6 = .int .i64 (shlF .i64 2 (Int.tmod x_1 4)) ∧ a.get 7 = u34 ∧ (rSl rStr).v O54 w u34 x32 ∧ a.get 8 = u36 ∧ (rSl rStr).v O54 w u36 x33 ∧ a.get 9 = .string (str x46) ∧ a.get 11 = .string (str x51) ∧ a.get 12 = .string (str x52) ∧ a.get 13 = .int .i64 x53 ∧ Comp.loopN (fun s => colletlaw02_DigestHalves_l6 x_1 s.1 s.2.1 s.2.2) n m (x51, x52, x53) = some e6) (m := n) ?st6 ?_
    case st6 =>
      exact ⟨_, _, _, _, hA, hB, q0, f31, q5, q6, q7, f35, q8, f37, q9, q11, q12, q13, Comp.run_loop he6⟩
    intro m_ a29 w29 hI
    clear hA hB he6 q0 q5 q6 q7 q8 q9 q11 q12 q13 f31 f35 f37
    obtain ⟨O54, x51, x52, x53, hA, hB, q0, f31, q5, q6, q7, f35, q8, f37, q9, q11, q12, q13, hl⟩ := hI
    obtain ⟨m6, hlt6, st6, h, hnext6, hdone6⟩ := Comp.loopN_succ hl; clear hl
    replace h : (colletlaw02_DigestHalves_l6 x_1 x51 x52 x53).run n = some st6 := h
    unfold colletlaw02_DigestHalves_l6 at h
    refine wp_seq ?_
    refine wp_seq ?_
    refine' region [_, _, _, _] mixed hA (.cons ?z17_0 (.cons ?z17_1 (.cons ?z17_2 (.cons ?z17_3 .nil)))) ?zok17 ?zgd17 ?zk17
    case z17_0 => intro a' w' hE hK hg; exact ok_move (kn (hK 13 rfl) rfl q13)
    case z17_1 => intro a' w' hE hK hg; exact ok_move (kn (hK 6 rfl) rfl q6)
    case z17_2 => intro a' w' hE hK hg; exact ok_quo (ksv (j := 1) (hK 54 rfl) rfl rfl rfl) rfl (by decide)
    case z17_3 => intro a' w' hE hK hg; exact ok_lss (ksv (j := 0) (hK 53 rfl) rfl rfl rfl) (ksv (j := 2) (hK 55 rfl) rfl rfl rfl)
    case zok17 => kernel_rfl
    case zgd17 => kernel_rfl
    intro a30 w30 hA' hE HF
    replace q0 := kn (HF 0) rfl q0
    replace q5 := kn (HF 5) rfl q5
    replace q6 := kn (HF 6) rfl q6
    replace q7 := kn (HF 7) rfl q7
    replace q8 := kn (HF 8) rfl q8
    replace q9 := kn (HF 9) rfl q9
    replace q11 := kn (HF 11) rfl q11
    replace q12 := kn (HF 12) rfl q12
    replace q13 := kn (HF 13) rfl q13
    have q56 := ksv (HF 56) rfl rfl rfl
    clear hA HF; have hA := hA'; clear hA'
    replace f31 := GR.v_ext _ f31 hE
    replace f35 := GR.v_ext _ f35 hE
    replace f37 := GR.v_ext _ f37 hE
    replace hB := Base.step hB hE hO; clear hE
    obtain ⟨x55, hx_, h⟩ := Comp.run_bind h; replace hx_ := Comp.run_pure hx_; rw [hx_] at q56; clear hx_
    refine (li_nil ?_)
    refine (nx_then ?_)
    refine wp_cond_b q56 (fun hc => ?_) (fun hc => ?_)
    ·
      replace h := Comp.run_b_t hc h; clear hc
      refine wp_skip ?_
      refine (nx_then ?_)
      refine wp_seq ?_
      refine wp_block ?_
      refine wp_seq ?_
      obtain ⟨x56, hx56, h⟩ := Comp.run_bind h
      refine' region [_, _, SP.isv (.string (str x56)), _] mixed hA (.cons ?z18_0 (.cons ?z18_1 (.cons ?z18_2 (.cons ?z18_3 .nil)))) ?zok18 ?zgd18 ?zk18
      case z18_0 => intro a' w' hE hK hg; exact ok_move (kn (hK 11 rfl) rfl q11)
      case z18_1 => intro a' w' hE hK hg; exact ok_move (kn (hK 12 rfl) rfl q12)
      case z18_2 => intro a' w' hE hK hg; have c_ := ok_digest_Inner (OkO.ext hB.ok hE)  hx56; exact ok_call2 fn25 (ksv (j := 0) (hK 59 rfl) rfl rfl rfl) (ksv (j := 1) (hK 60 rfl) rfl rfl rfl) c_
      case z18_3 => intro a' w' hE hK hg; exact ok_assign (ksv (j := 2) (hK 61 rfl) rfl rfl rfl)
      case zok18 => kernel_rfl
      case zgd18 => kernel_rfl
      intro a31 w31 hA' hE HF
      replace q0 := kn (HF 0) rfl q0
      replace q5 := kn (HF 5) rfl q5
      replace q6 := kn (HF 6) rfl q6
      replace q7 := kn (HF 7) rfl q7
      replace q8 := kn (HF 8) rfl q8
      replace q9 := kn (HF 9) rfl q9
      have q11' := ksv (HF 11) rfl rfl rfl
      replace q11 := q11'; clear q11'
      replace q12 := kn (HF 12) rfl q12
      replace q13 := kn (HF 13) rfl q13
      clear q56
      clear hA HF; have hA := hA'; clear hA'
      replace f31 := GR.v_ext _ f31 hE
      replace f35 := GR.v_ext _ f35 hE
      replace f37 := GR.v_ext _ f37 hE
      replace hB := Base.step hB hE hO; clear hE
      refine (li_nil ?_)
      refine (nx_then ?_)
      obtain ⟨x57, hx57, h⟩ := Comp.run_bind h
      refine' region [_, _, SP.isv (.string (str x57)), _] mixed hA (.cons ?z19_0 (.cons ?z19_1 (.cons ?z19_2 (.cons ?z19_3 .nil)))) ?zok19 ?zgd19 ?zk19
      case z19_0 => intro a' w' hE hK hg; exact ok_move (kn (hK 12 rfl) rfl q12)
      case z19_1 => intro a' w' hE hK hg; exact ok_move (kn (hK 12 rfl) rfl q12)
      case z19_2 => intro a' w' hE hK hg; have c_ := ok_digest_Inner (OkO.ext hB.ok hE)  hx57; exact ok_call2 fn25 (ksv (j := 0) (hK 62 rfl) rfl rfl rfl) (ksv (j := 1) (hK 63 rfl) rfl rfl rfl) c_
      case z19_3 => intro a' w' hE hK hg; exact ok_assign (ksv (j := 2) (hK 64 rfl) rfl rfl rfl)
      case zok19 => kernel_rfl
      case zgd19 => kernel_rfl
      intro a32 w32 hA' hE HF
      replace q0 := kn (HF 0) rfl q0
      replace q5 := kn (HF 5) rfl q5
      replace q6 := kn (HF 6) rfl q6
      replace q7 := kn (HF 7) rfl q7
      replace q8 := kn (HF 8) rfl q8
      replace q9 := kn (HF 9) rfl q9
      replace q11 := kn (HF 11) rfl q11
      have q12' := ksv (HF 12) rfl rfl rfl
      replace q12 := q12'; clear q12'
      replace q13 := kn (HF 13) rfl q13
      clear hA HF; have hA := hA'; clear hA'
      replace f31 := GR.v_ext _ f31 hE
      replace f35 := GR.v_ext _ f35 hE
      replace f37 := GR.v_ext _ f37 hE
      replace hB := Base.step hB hE hO; clear hE
      refine (li_nil ?_)
      refine (nx_blk (nx_then ?_))
      refine' region [_, _, _] mixed hA (.cons ?z20_0 (.cons ?z20_1 (.cons ?z20_2 .nil))) ?zok20 ?zgd20 ?zk20
      case z20_0 => intro a' w' hE hK hg; exact ok_move (kn (hK 13 rfl) rfl q13)
      case z20_1 => intro a' w' hE hK hg; exact ok_mul rfl (ksv (j := 0) (hK 57 rfl) rfl rfl rfl)
      case z20_2 => intro a' w' hE hK hg; exact ok_assign (ksv (j := 1) (hK 58 rfl) rfl rfl rfl)
      case zok20 => kernel_rfl
      case zgd20 => kernel_rfl
      intro a33 w33 hA' hE HF
      replace q0 := kn (HF 0) rfl q0
      replace q5 := kn (HF 5) rfl q5
      replace q6 := kn (HF 6) rfl q6
      replace q7 := kn (HF 7) rfl q7
      replace q8 := kn (HF 8) rfl q8
      replace q9 := kn (HF 9) rfl q9
      replace q11 := kn (HF 11) rfl q11
      replace q12 := kn (HF 12) rfl q12
      have q13' := ksv (HF 13) rfl rfl rfl
      replace q13 := q13'; clear q13'
      clear hA HF; have hA := hA'; clear hA'
      replace f31 := GR.v_ext _ f31 hE
      replace f35 := GR.v_ext _ f35 hE
      replace f37 := GR.v_ext _ f37 hE
      replace hB := Base.step hB hE hO; clear hE
      refine (li_nil ?_)
      refine (nx_then ?_)
      have h := hnext6 _ (Comp.run_pure h).symm
      refine ⟨m6, hlt6, ?_⟩
      exact ⟨_, _, _, _, hA, hB, q0, f31, q5, q6, q7, f35, q8, f37, q9, q11, q12, q13, h⟩
    ·
      replace h := Comp.run_b_f hc h; clear hc
      refine wp_exit ?_
      refine (ex_then (ex_then (ex_same ?_)))
      have hd_ := hdone6 _ (Comp.run_pure h).symm; clear h
      subst hd_; have h := hk6; clear hk6; try dsimp only at h
      refine (nx_then ?_)
      exact ⟨_, _, _, hA, hB, q0, f31, q5, q6, q7, f35, q8, f37, q9, q11, q12, h⟩
  intro a34 w34 hI
  clear hA hB h q0 q5 q6 q7 q8 q9 q11 q12 f31 f35 f37
  obtain ⟨O64, x62, x63, hA, hB, q0, f31, q5, q6, q7, f35, q8, f37, q9, q11, q12, h⟩ := hI
  unfold colletlaw02_DigestHalves_j5 at h
  refine wp_seq ?_
  obtain ⟨x65, hx65, h⟩ := Comp.run_bind h
  obtain ⟨x66, hx66, h⟩ := Comp.run_bind h
  obtain ⟨x67, hx67, h⟩ := Comp.run_bind h
  obtain ⟨x68, hx68, h⟩ := Comp.run_bind h
  obtain ⟨x69, hx69, h⟩ := Comp.run_bind h
  obtain ⟨x70, hx70, h⟩ := Comp.run_bind h
  obtain ⟨x71, hx71, h⟩ := Comp.run_bind h
  obtain ⟨x72, hx72, h⟩ := Comp.run_bind h
  refine' region [_, _, _, _, _, _, _, _, SP.isv (.string (str x65)), _, SP.isv (.string (str x66)), _, SP.isv (.string (str x67)), SP.isv (.string (str x68)), _, _, _, _, _, _, _, SP.vl (rSl rStr) O64 x69, SP.isv (.string (str x70)), _, SP.isv (.string (str x71)), _, SP.isv (.string (str x72)), _, _, _] mixed hA (.cons ?z21_0 (.cons ?z21_1 (.cons ?z21_2 (.cons ?z21_3 (.cons ?z21_4 (.cons ?z21_5 (.cons ?z21_6 (.cons ?z21_7 (.cons ?z21_8 (.cons ?z21_9 (.cons ?z21_10 (.cons ?z21_11 (.cons ?z21_12 (.cons ?z21_13 (.cons ?z21_14 (.cons ?z21_15 (.cons ?z21_16 (.cons ?z21_17 (.cons ?z21_18 (.cons ?z21_19 (.cons ?z21_20 (.cons ?z21_21 (.cons ?z21_22 (.cons ?z21_23 (.cons ?z21_24 (.cons ?z21_25 (.cons ?z21_26 (.cons ?z21_27 (.cons ?z21_28 (.cons ?z21_29 .nil)))))))))))))))))))))))))))))) ?zok21 ?zgd21 ?zk21
  case z21_0 => intro a' w' hE hK hg; exact ok_move (kn (hK 5 rfl) rfl q5)
  case z21_1 => intro a' w' hE hK hg; exact ok_move (ksv (j := 0) (hK 65 rfl) rfl rfl rfl)
  case z21_2 => intro a' w' hE hK hg; exact ok_move (kn (hK 12 rfl) rfl q12)
  case z21_3 => intro a' w' hE hK hg; exact ok_move (kn (hK 9 rfl) rfl q9)
  case z21_4 => intro a' w' hE hK hg; exact okl_eqlS (ksv (j := 2) (hK 67 rfl) rfl rfl hg) (ksv (j := 3) (hK 68 rfl) rfl rfl hg)
  case z21_5 => intro a' w' hE hK hg; exact ok_pick (ksv (j := 1) (hK 66 rfl) rfl rfl rfl) (fun hb => ksv (j := 4) (hK 69 rfl) rfl rfl (act_g1 rfl rfl hb)) (fun _ => rfl)
  case z21_6 => intro a' w' hE hK hg; exact ok_move (ksv (j := 5) (hK 70 rfl) rfl rfl rfl)
  case z21_7 => intro a' w' hE hK hg; exact ok_move (kn (hK 0 rfl) rfl q0)
  case z21_8 => intro a' w' hE hK hg; have c_ := m_root dRoot (OkO.ext hB.ok hE) (GR.v_ext _ f31 hE) (run_gdb hx65 hg); exact ok_call1 fn21 (ksv (j := 7) (hK 72 rfl) rfl rfl hg) c_
  case z21_9 => intro a' w' hE hK hg; exact ok_move (kn (hK 7 rfl) rfl q7)
  case z21_10 => intro a' w' hE hK hg; have c_ := m_root dRoot (OkO.ext hB.ok hE) (GR.v_ext _ f35 hE) (run_gdb hx66 hg); exact ok_call1 fn21 (ksv (j := 9) (hK 74 rfl) rfl rfl hg) c_
  case z21_11 => intro a' w' hE hK hg; exact ok_move (kn (hK 8 rfl) rfl q8)
  case z21_12 => intro a' w' hE hK hg; have c_ := m_root dRoot (OkO.ext hB.ok hE) (GR.v_ext _ f37 hE) (run_gdb hx67 hg); exact ok_call1 fn21 (ksv (j := 11) (hK 76 rfl) rfl rfl hg) c_
  case z21_13 => intro a' w' hE hK hg; have c_ := ok_digest_Inner (OkO.ext hB.ok hE)  (run_gdb hx68 hg); exact ok_call2 fn25 (ksv (j := 10) (hK 75 rfl) rfl rfl hg) (ksv (j := 12) (hK 77 rfl) rfl rfl hg) c_
  case z21_14 => intro a' w' hE hK hg; exact okl_eqlS (ksv (j := 8) (hK 73 rfl) rfl rfl hg) (ksv (j := 13) (hK 78 rfl) rfl rfl hg)
  case z21_15 => intro a' w' hE hK hg; exact ok_pick (ksv (j := 6) (hK 71 rfl) rfl rfl rfl) (fun hb => ksv (j := 14) (hK 79 rfl) rfl rfl (act_g1 rfl rfl hb)) (fun _ => rfl)
  case z21_16 => intro a' w' hE hK hg; exact ok_move (ksv (j := 15) (hK 80 rfl) rfl rfl rfl)
  case z21_17 => intro a' w' hE hK hg; exact ok_move (kn (hK 0 rfl) rfl q0)
  case z21_18 => intro a' w' hE hK hg; exact ok_move (kn (hK 6 rfl) rfl q6)
  case z21_19 => intro a' w' hE hK hg; exact ok_quo (ksv (j := 18) (hK 83 rfl) rfl rfl hg) rfl (by decide)
  case z21_20 => intro a' w' hE hK hg; exact ok_add (ksv (j := 19) (hK 84 rfl) rfl rfl hg) rfl
  case z21_21 => intro a' w' hE hK hg; exact okl_slice_h (r := rStr) ty29 ty9 rfl (ksv (j := 17) (hK 82 rfl) rfl rfl hg) (GR.v_ext _ f31 hE) (ksv (j := 20) (hK 85 rfl) rfl rfl hg) (run_gdb hx69 hg)
  case z21_22 => intro a' w' hE hK hg; have c_ := m_root dRoot (OkO.ext hB.ok hE) (kspS (φ := SP.vl (rSl rStr) O64 x69) (j := 21) (hK 86 rfl) rfl rfl hg) (run_gdb hx70 hg); exact ok_call1 fn21 rfl c_
  case z21_23 => intro a' w' hE hK hg; exact ok_move (kn (hK 7 rfl) rfl q7)
  case z21_24 => intro a' w' hE hK hg; have c_ := m_root dRoot (OkO.ext hB.ok hE) (GR.v_ext _ f35 hE) (run_gdb hx71 hg); exact ok_call1 fn21 (ksv (j := 23) (hK 88 rfl) rfl rfl hg) c_
  case z21_25 => intro a' w' hE hK hg; exact ok_move (kn (hK 11 rfl) rfl q11)
  case z21_26 => intro a' w' hE hK hg; have c_ := ok_digest_Inner (OkO.ext hB.ok hE)  (run_gdb hx72 hg); exact ok_call2 fn25 (ksv (j := 24) (hK 89 rfl) rfl rfl hg) (ksv (j := 25) (hK 90 rfl) rfl rfl hg) c_
  case z21_27 => intro a' w' hE hK hg; exact okl_eqlS (ksv (j := 22) (hK 87 rfl) rfl rfl hg) (ksv (j := 26) (hK 91 rfl) rfl rfl hg)
  case z21_28 => intro a' w' hE hK hg; exact ok_pick (ksv (j := 16) (hK 81 rfl) rfl rfl rfl) (fun hb => ksv (j := 27) (hK 92 rfl) rfl rfl (act_g1 rfl rfl hb)) (fun _ => rfl)
  case z21_29 => intro a' w' hE hK hg; exact ok_assign (ksv (j := 28) (hK 93 rfl) rfl rfl rfl)
  case zok21 => kernel_rfl
  case zgd21 => kernel_rfl
  intro a35 w35 hA' hE HF
  have q4 := ksv (HF 4) rfl rfl rfl
  clear q0
  clear q5
  clear q6
  clear q7
  clear q8
  clear q9
  clear q11
  clear q12
  clear hA HF; have hA := hA'; clear hA'
  replace f31 := GR.v_ext _ f31 hE
  replace f35 := GR.v_ext _ f35 hE
  replace f37 := GR.v_ext _ f37 hE
  replace hB := Base.step hB hE hO; clear hE
  obtain ⟨x73, hx_, h⟩ := Comp.run_bind h; replace hx_ := Comp.run_pure hx_; rw [hx_] at q4; clear hx_
  refine (li_nil ?_)
  refine (nx_then ?_)
  refine (wp_ret ?_)
  have h := Comp.run_pure h; subst h
  exact retPure Try.results7 hA q4 hB.ext rfl

end Go.Proofs.Ytbkmnghnjajdmaa.Lf
