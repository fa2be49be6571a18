/- Core: the law of the least set, plainly. No statement of the program stands here. -/
import Derived.Test.YtkbipbfncbopnaaCoL
set_option linter.unusedVariables false
set_option linter.unusedSimpArgs false
namespace Go.Cor
open Go Go.Lift Go.F
theorem testBit_ge {a i : Nat} (ha : a < 18446744073709551616) (hi : ¬ i < 64) : a.testBit i = false :=
  Nat.testBit_lt_two_pow (Nat.lt_of_lt_of_le (show a < 2 ^ 64 from ha) (Nat.pow_le_pow_right (by omega) (by omega)))
theorem pop_part {s x : Int} (hs : I64 s) (h : andB .i64 s x = x) : pop x ≤ pop s ∧ (pop x = pop s → x = s) := by
  have hx : I64 x := by rw [← h]; exact andB_i64 s x
  have hU : Sub (U x) (U s) := sub_iff.1 (by rw [← U_and, h])
  obtain ⟨h1, h2⟩ := popN_sub 64 (U x) (U s) hU
  refine ⟨h1, fun he => U_inj hx hs (Nat.eq_of_testBit_eq fun i => ?_)⟩
  by_cases hi : i < 64
  · exact h2 he i hi
  · rw [testBit_ge (U_lt x) hi, testBit_ge (U_lt s) hi]
theorem cut_val (l : List Int) : (colletlaw32_cut l).val = some (l.take 10) := by
  unfold colletlaw32_cut
  rw [Comp.val_bind, sub_val (by omega), Option.bind_some, Comp.val_pure]
  congr 1
  have : (min (l.length : Int) 10).toNat = min l.length 10 := by omega
  rw [this]
  simp [List.take_eq_take_iff, Nat.min_comm]
theorem law_CoreLeasts {l : List Int} (hl : ∀ x ∈ l, (Lit.int .i64 x).wf = true) : (colletlaw32_CoreLeasts l).val = some true := by
  have hLIM : LIM = 1073741824 := rfl
  unfold colletlaw32_CoreLeasts
  simp only [Comp.val_bind, sanity_val, Option.bind_some, cut_val]
  have h10 : (l.take 10).length ≤ 10 := by rw [List.length_take]; omega
  have hI : ∀ x ∈ l.take 10, I64 x := fun x hx => wf_i64 (hl x (List.mem_of_mem_take hx))
  generalize l.take 10 = t at h10 hI
  cases t with
  | nil => simp [core_Least, Comp.val_bind, Comp.val_ite]
  | cons x0 t =>
    have hlen : (x0 :: t).length ≤ LIM := by omega
    have hle := first_le t x0
    have hfst : ∀ (i : Nat) x, (x0 :: t)[i]? = some x → pop x = pop (first x0 t) → ∃ j, j ≤ i ∧ (x0 :: t)[j]? = some (first x0 t) := first_first' pop t x0
    have hLeast : (core_Least (x0 :: t)).val = some (first x0 t, true) := by
      unfold core_Least
      rw [Comp.val_ite, if_neg (by simp; omega), Comp.val_bind, min_val hlen, Option.bind_some, Comp.val_pure]
    rw [hLeast, Option.bind_some]
    generalize hs : first x0 t = s at *
    have hmem : s ∈ x0 :: t := by rcases hle.2.2 with h | h <;> simp [h]
    have hpop : ∀ x ∈ x0 :: t, pop s ≤ pop x := fun x hx => (List.mem_cons.1 hx).elim (fun h => by rw [h]; exact hle.1) (hle.2.1 x)
    have hIs := hI s hmem
    generalize x0 :: t = L at *
    have hLpos : 0 < L.length := List.length_pos_of_mem hmem
    have e1 : decide ((true : Bool) ≠ decide ((L.length : Int) > 0)) = false := by
      have : decide ((L.length : Int) > 0) = true := by rw [decide_eq_true_iff]; omega
      rw [this]; rfl
    simp only [e1, Option.bind_some, Comp.val_pure, Comp.val_ite, Comp.val_bind]
    have hloop := Comp.loop_fold (body := fun st => colletlaw32_CoreLeasts_l2 L (s, true) st.1 st.2) L (fun bb x => bb || decide (x = s)) (fun bb => (.inr bb : Sum Bool Bool)) (fun bb i => ∀ j, j < i → L[j]? = some s → bb = true) false
      (by
        intro bb i x hx hinv
        have hi := getElem?_len hx
        have hxm := List.mem_of_getElem? hx
        have hp := hpop x hxm
        show (colletlaw32_CoreLeasts_l2 L (s, true) bb (i : Int)).val = _
        unfold colletlaw32_CoreLeasts_l2
        have e2 : decide (((pop x : Nat) : Int) < ((pop s : Nat) : Int)) = false := by rw [decide_eq_false_iff_not]; omega
        simp only [Comp.val_bind, Comp.val_ite, idx_val hx, Option.bind_some, count_val (hI x hxm), count_val hIs, Comp.val_gd, Comp.val_pure, e2]
        rw [if_pos (by rw [decide_eq_true_iff]; omega)]
        have e3 : ((bif (!bb) then decide (x ≠ s) else false) && decide (((pop x : Nat) : Int) = ((pop s : Nat) : Int))) = false := by
          cases bb with
          | true => rfl
          | false =>
            by_cases hxs : x = s
            · simp [hxs]
            · have : pop x ≠ pop s := fun he => by
                obtain ⟨j, h1, h2⟩ := hfst i x hx he
                rcases Nat.lt_or_eq_of_le h1 with h3 | rfl
                · have := hinv j h3 h2; simp at this
                · rw [hx] at h2; exact hxs (by simpa using h2)
              have h4 : ¬ ((pop x : Nat) : Int) = ((pop s : Nat) : Int) := by omega
              simp [h4]
        generalize (bif (!bb) then decide (x ≠ s) else false) = g at e3
        cases g with
        | false =>
          cases bb <;> simp [Comp.wrap_succ (i := i) (by omega)]
        | true =>
          simp only [Bool.true_and] at e3
          have e4 : ¬ ((pop x : Nat) : Int) = ((pop s : Nat) : Int) := of_decide_eq_false e3
          have e5 : ¬ pop x = pop s := fun h => e4 (by rw [h])
          cases bb <;> (simp [Comp.wrap_succ (i := i) (by omega)]; exact e4))
      (by
        intro bb i x hx hinv j hj hjs
        rcases Nat.lt_or_eq_of_le (Nat.lt_succ_iff.1 hj) with h | rfl
        · simp [hinv j h hjs]
        · rw [hx] at hjs; simp at hjs; simp [hjs])
      (by
        intro bb _
        show (colletlaw32_CoreLeasts_l2 L (s, true) bb (L.length : Int)).val = _
        unfold colletlaw32_CoreLeasts_l2
        rw [Comp.val_ite, if_neg (by simp), Comp.val_pure])
      (by intro j hj; omega)
    rw [Comp.foldl_any, Bool.false_or] at hloop
    have hany : (L.any fun x => decide (x = s)) = true := List.any_eq_true.2 ⟨s, hmem, by simp⟩
    rw [hany] at hloop
    have hmin : s ∈ minimal L := (minimal_mem L s).2 ⟨hmem, fun x hx h => (pop_part hIs h).2 (Nat.le_antisymm (pop_part hIs h).1 (hpop x hx))⟩
    have hml : (minimal L).length ≤ LIM := Nat.le_trans (minimal_len L) hlen
    have hloop2 := Comp.loop_fold (body := fun st => colletlaw32_CoreLeasts_l4 (minimal L) (s, true) st.1 st.2) (minimal L) (fun bb x => bb || decide (x = s)) id (fun _ _ => True) false
      (by
        intro bb i x hx _
        have hi := getElem?_len hx
        show (colletlaw32_CoreLeasts_l4 (minimal L) (s, true) bb (i : Int)).val = _
        unfold colletlaw32_CoreLeasts_l4
        rw [Comp.val_ite, if_pos (by rw [decide_eq_true_iff]; omega)]
        simp only [Comp.val_bind, idx_val hx, Option.bind_some, Comp.val_pure, Comp.wrap_succ (i := i) (by omega)]
        cases bb <;> rfl)
      (fun _ _ _ _ _ => trivial)
      (by
        intro bb _
        show (colletlaw32_CoreLeasts_l4 (minimal L) (s, true) bb ((minimal L).length : Int)).val = _
        unfold colletlaw32_CoreLeasts_l4
        rw [Comp.val_ite, if_neg (by simp), Comp.val_pure]; rfl)
      trivial
    rw [Comp.foldl_any, Bool.false_or, List.any_eq_true.2 ⟨s, hmin, by simp⟩] at hloop2
    rw [if_neg (by simp), if_neg (by simp), hloop, Option.bind_some]
    show (colletlaw32_CoreLeasts_j1 L (s, true) true true).val = some true
    unfold colletlaw32_CoreLeasts_j1
    simp only [Comp.val_bind, minimal_val hlen, Option.bind_some, hloop2]
    unfold colletlaw32_CoreLeasts_j3
    simp [Comp.val_bind]
end Go.Cor
