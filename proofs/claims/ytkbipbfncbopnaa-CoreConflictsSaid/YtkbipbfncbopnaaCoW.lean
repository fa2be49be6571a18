/- Core: the law of the conflicts, plainly. No statement of the program stands here. -/
import Derived.Test.YtkbipbfncbopnaaCoV
set_option linter.unusedVariables false
set_option linter.unusedSimpArgs false
namespace Go.Cor
open Go Go.Lift Go.F
def oddLen (N : Nat) : Bool := (bif (decide ((N : Int) = 0)) then true else (decide ((andB .i64 (N : Int) (IntKind.wrap .i64 ((N : Int) - 1))) ≠ 0)))
set_option maxRecDepth 100000 in
theorem oddLen_dec : ∀ N, N < 1025 → oddLen N = !((List.range 11).any fun m => decide (N = 2 ^ m)) := by decide +kernel
theorem oddLen_pow {m : Nat} (hm : m ≤ 10) : oddLen (2 ^ m) = false := by
  have hp : 2 ^ m ≤ 1024 := Nat.pow_le_pow_right (n := 2) (by omega) hm
  rw [oddLen_dec _ (by omega), List.any_eq_true.2 ⟨m, List.mem_range.2 (by omega), by simp⟩]; rfl
theorem oddLen_no {N : Nat} (hN : N ≤ 1024) (h : ∀ m, m ≤ 10 → N ≠ 2 ^ m) : oddLen N = true := by
  rw [oddLen_dec _ (by omega), List.any_eq_false.2 fun m hm => by simpa using h m (by have := List.mem_range.1 hm; omega)]; rfl
theorem len_val10 : ∀ m, m ≤ 10 → (math_bits_Len (IntKind.wrap .u64 ((2 ^ m : Nat) : Int))).val = some ((m + 1 : Nat) : Int)
  | 0, _ | 1, _ | 2, _ | 3, _ | 4, _ | 5, _ | 6, _ | 7, _ | 8, _ | 9, _ | 10, _ => Comp.val_run (n := 4) (by kernel_rfl)
  | m + 11, h => by omega
/-- what is right though it has a part that isn't -/
def bad (P : Nat → Bool) (m : Nat) : List Nat := (List.range (2 ^ m)).filter fun s => P s && !belowB P m s
def confR (P : Nat → Bool) (m : Nat) : List Int × Int := if bad P m = [] then (up (conf P m), 0) else ([], 7)
theorem core_conf {P : Nat → Bool} {m : Nat} (hm : m ≤ 10) : (core_Conflicts (own (2 ^ m) P)).val = some (confR P m) := by
  have hp : 2 ^ m ≤ 1024 := Nat.pow_le_pow_right (n := 2) (by omega) hm
  have hodd := oddLen_pow hm
  unfold oddLen at hodd
  unfold core_Conflicts
  rw [own_len, Comp.val_ite, if_neg (by rw [decide_eq_true_iff]; omega), hodd, Comp.val_bind, Comp.val_pure, Option.bind_some, Comp.val_ite, if_neg (by simp), Comp.val_bind, len_val10 m hm, Option.bind_some]
  have hz : IntKind.wrap .i64 (((m + 1 : Nat) : Int) - 1) = (m : Int) := wrap_pred (by omega)
  have h2 : (core_only ((2 ^ m : Nat) : Int) (fun z0 => core_Conflicts_f2 z0 (own (2 ^ m) P) (fun z0 => core_Conflicts_f1 z0 (IntKind.wrap .i64 (((m + 1 : Nat) : Int) - 1)) (own (2 ^ m) P)))).val = some (up (bad P m)) := by
    refine only_val hp fun x hx => ?_
    unfold core_Conflicts_f2
    rw [Comp.val_bind, idx_val (own_get hx), Option.bind_some, Comp.val_bind, Comp.val_gd, below_val hz (by omega) hx]
    cases P x <;> simp
  have h3 : (core_only ((2 ^ m : Nat) : Int) (fun z0 => core_Conflicts_f3 z0 (own (2 ^ m) P) (fun z0 => core_Conflicts_f1 z0 (IntKind.wrap .i64 (((m + 1 : Nat) : Int) - 1)) (own (2 ^ m) P)))).val = some (up (conf P m)) := by
    refine only_val hp fun x hx => ?_
    unfold core_Conflicts_f3
    rw [Comp.val_bind, idx_val (own_get hx), Option.bind_some, Comp.val_bind, Comp.val_gd, below_val hz (by omega) hx]
    cases P x <;> simp
  rw [Comp.val_bind, h2, Option.bind_some, Comp.val_ite]
  unfold confR
  by_cases hb : bad P m = []
  · rw [hb, if_neg (by simp [up]), if_pos rfl, Comp.val_bind, h3, Option.bind_some, Comp.val_pure]
  · rw [if_neg hb, if_pos, Comp.val_pure]
    rw [decide_eq_true_iff, up_len]
    have := List.length_pos_iff.2 hb
    omega
/-! ### the reference -/
theorem ref_below {P : Nat → Bool} {m s : Nat} (hm : m ≤ 10) (hs : s < 2 ^ m) : (Comp.loop (fun st : Bool × Int => colletref32_Conflicts_l7 (m : Int) (s : Int) (own (2 ^ m) P) st.1 st.2) (true, 0)).val = some (belowB P m s) := by
  have hp : 2 ^ m ≤ 1024 := Nat.pow_le_pow_right (n := 2) (by omega) hm
  have := Comp.loop_fold (body := fun st : Bool × Int => colletref32_Conflicts_l7 (m : Int) (s : Int) (own (2 ^ m) P) st.1 st.2) (List.range m) (fun b k => b && (!s.testBit k || P (without s (2 ^ k)))) id (fun _ _ => True) true
    (by
      intro b i k hk _
      obtain ⟨hi, rfl⟩ := range_get hk
      show (colletref32_Conflicts_l7 (m : Int) (s : Int) (own (2 ^ m) P) b (k : Int)).val = _
      unfold colletref32_Conflicts_l7
      have hw : without s (2 ^ k) ≤ s := without_le s (2 ^ k)
      have h2 : 2 ^ k ≤ 1024 := Nat.pow_le_pow_right (n := 2) (by omega) (by omega : k ≤ 10)
      have e : (idx (own (2 ^ m) P) (andNotB .i64 (s : Int) (shlF .i64 1 (k : Int)))).val = some (P (without s (2 ^ k))) := by
        rw [shlF_nat (by omega), andNotB_nat (by omega) (by omega), idx_val (own_get (by omega))]
      have e0 : decide (andB .i64 (shrF .i64 (s : Int) (k : Int)) 1 = 0) = !s.testBit k := by
        have h1 := bit_eq (a := s) (k := k) (by omega) (by omega)
        have h3 := low_bit (z := (s : Int)) (k := k) (by omega)
        rw [h3] at h1 ⊢
        rw [← h1]
        have : U (s : Int) / 2 ^ k % 2 < 2 := Nat.mod_lt _ (by omega)
        generalize U (s : Int) / 2 ^ k % 2 = q at this
        have : q = 0 ∨ q = 1 := by omega
        rcases this with rfl | rfl <;> rfl
      rw [Comp.val_ite, if_pos (by rw [decide_eq_true_iff]; omega)]
      simp only [Comp.val_bind, Comp.val_gd, nonneg_val (show (0 : Int) ≤ (k : Int) by omega), e, e0, Comp.val_pure, Comp.wrap_succ (i := k) (by omega)]
      cases b with
      | false => rfl
      | true =>
        cases s.testBit k with
        | false => rfl
        | true => simp)
    (fun _ _ _ _ _ => trivial)
    (by
      intro b _
      show (colletref32_Conflicts_l7 (m : Int) (s : Int) (own (2 ^ m) P) b ((List.range m).length : Int)).val = _
      unfold colletref32_Conflicts_l7
      rw [List.length_range, Comp.val_ite, if_neg (by simp), Comp.val_pure]; rfl)
    trivial
  rw [Comp.foldl_all, Bool.true_and] at this
  exact this
theorem least_pow (N : Nat) : ∀ n, N ≤ 2 ^ n → ∃ k, k ≤ n ∧ (∀ i, i < k → 2 ^ i < N) ∧ N ≤ 2 ^ k := by
  intro n
  induction n with
  | zero => intro h; exact ⟨0, Nat.le_refl _, fun i hi => by omega, h⟩
  | succ n ih =>
    intro h
    by_cases h2 : N ≤ 2 ^ n
    · obtain ⟨k, h3, h4⟩ := ih h2
      exact ⟨k, by omega, h4⟩
    · refine ⟨n + 1, Nat.le_refl _, fun i hi => ?_, h⟩
      have : 2 ^ i ≤ 2 ^ n := Nat.pow_le_pow_right (by omega) (by omega)
      omega
theorem ref_len {x : List Bool} (hN : x.length ≤ 1024) : ∃ k : Nat, k ≤ 10 ∧ (∀ i, i < k → 2 ^ i < x.length) ∧ x.length ≤ 2 ^ k ∧ (Comp.loop (fun s => colletref32_Conflicts_l2 x s) 0).val = some (k : Int) := by
  obtain ⟨k, h1, h2, h3⟩ := least_pow x.length 10 hN
  refine ⟨k, h1, h2, h3, ?_⟩
  have := Comp.loop_seq (body := fun s => colletref32_Conflicts_l2 x s) (fun i => (i : Int)) k (k : Int)
    (by
      intro i hi
      have := h2 i hi
      unfold colletref32_Conflicts_l2
      rw [Comp.val_bind, nonneg_val (by omega), Option.bind_some, shlF_nat (by omega), Comp.val_bind, Comp.val_pure, Option.bind_some, Comp.val_ite, if_pos (by rw [decide_eq_true_iff]; omega), Comp.val_pure, Comp.wrap_succ (by omega)])
    (by
      show (colletref32_Conflicts_l2 x (k : Int)).val = _
      unfold colletref32_Conflicts_l2
      rw [Comp.val_bind, nonneg_val (by omega), Option.bind_some, shlF_nat (by omega), Comp.val_bind, Comp.val_pure, Option.bind_some, Comp.val_ite, if_neg (by rw [decide_eq_true_iff]; omega), Comp.val_pure])
  exact this
theorem foldE_find {p q : Nat → Bool} {c : List Int × Int} : ∀ (l : List Nat) (acc : List Int),
    Comp.foldE (fun (acc : List Int) s => if p s = true then (.done (.inl c) : Comp.Step (List Int) (Sum (List Int × Int) (List Int))) else .next (if q s = true then acc ++ [(s : Int)] else acc)) (fun acc => .inr acc) acc l =
      if l.filter p = [] then .inr (acc ++ up (l.filter q)) else .inl c
  | [], acc => by simp [Comp.foldE, up]
  | x :: l, acc => by
      simp only [Comp.foldE, List.filter_cons]
      by_cases h : p x = true
      · simp [h]
      · rw [if_neg h]
        simp only [h]
        rw [foldE_find l]
        by_cases hq : q x = true
        · simp [hq, up]
        · simp [hq]
theorem ref_conf {P : Nat → Bool} {m : Nat} (hm : m ≤ 10) : (colletref32_Conflicts_j1 (own (2 ^ m) P) (m : Int)).val = some (confR P m) := by
  have hp : 2 ^ m ≤ 1024 := Nat.pow_le_pow_right (n := 2) (by omega) hm
  have hLIM : LIM = 1073741824 := rfl
  unfold colletref32_Conflicts_j1
  rw [Comp.val_bind, nonneg_val (by omega), Option.bind_some, shlF_nat (by omega), own_len, Comp.val_bind, Comp.val_pure, Option.bind_some, Comp.val_ite, if_neg (by simp), Comp.val_bind]
  have := Comp.loop_foldS (body := fun s : List Int × Int => colletref32_Conflicts_l4 (own (2 ^ m) P) (m : Int) s.1 s.2) (List.range (2 ^ m))
    (fun (acc : List Int) s => if (P s && !belowB P m s) = true then (.done (.inl (([] : List Int), (7 : Int))) : Comp.Step (List Int) (Sum (List Int × Int) (List Int))) else .next (if (!P s && belowB P m s) = true then acc ++ [(s : Int)] else acc)) (fun acc => .inr acc) (fun acc i => acc.length ≤ i) []
    (by
      intro acc i s hs hI
      obtain ⟨hi, rfl⟩ := range_get hs
      show (colletref32_Conflicts_l4 (own (2 ^ m) P) (m : Int) acc (s : Int)).val = _
      unfold colletref32_Conflicts_l4
      rw [Comp.val_ite, if_pos (by rw [decide_eq_true_iff, own_len]; omega), Comp.val_bind, ref_below hm hi, Option.bind_some]
      unfold colletref32_Conflicts_j6 colletref32_Conflicts_j5
      rw [Comp.val_bind, idx_val (own_get hi), Option.bind_some, Comp.val_ite]
      cases hP : P s with
      | true =>
        cases belowB P m s with
        | true =>
          rw [if_neg (by simp), Comp.val_bind, idx_val (own_get hi), Option.bind_some, hP, Comp.val_ite, if_neg (by simp), Comp.val_pure, Comp.wrap_succ (by omega)]; rfl
        | false => rw [if_pos (by rfl), Comp.val_pure]; rfl
      | false =>
        rw [if_neg (by simp), Comp.val_bind, idx_val (own_get hi), Option.bind_some, hP, Comp.val_ite]
        cases belowB P m s with
        | true => rw [if_pos (by rfl), Comp.val_bind, app_val (by simp; omega), Option.bind_some, Comp.val_pure, Comp.wrap_succ (by omega)]; rfl
        | false => rw [if_neg (by simp), Comp.val_pure, Comp.wrap_succ (by omega)]; rfl)
    (by
      intro acc i s s' _ hI h
      by_cases h1 : (P s && !belowB P m s) = true
      · simp only [h1, if_true] at h; cases h
      · simp only [h1] at h
        have h' : (if (!P s && belowB P m s) = true then acc ++ [(s : Int)] else acc) = s' := by simpa using h
        subst h'
        split
        · simp; omega
        · omega)
    (by
      intro acc _
      show (colletref32_Conflicts_l4 (own (2 ^ m) P) (m : Int) acc ((List.range (2 ^ m)).length : Int)).val = _
      unfold colletref32_Conflicts_l4
      rw [List.length_range, Comp.val_ite, if_neg (by rw [decide_eq_true_iff, own_len]; omega), Comp.val_pure])
    (Nat.le_refl _)
  rw [foldE_find] at this
  have h0 : (Comp.loop (fun s : List Int × Int => colletref32_Conflicts_l4 (own (2 ^ m) P) (m : Int) s.1 s.2) ([], 0)).val = some (if bad P m = [] then .inr ([] ++ up (conf P m)) else .inl ([], 7)) := this
  rw [h0, Option.bind_some, List.nil_append]
  unfold confR
  by_cases hb : bad P m = []
  · rw [if_pos hb, if_pos hb]
    show (colletref32_Conflicts_j3 (up (conf P m))).val = _
    unfold colletref32_Conflicts_j3
    rw [Comp.val_pure]
  · rw [if_neg hb, if_neg hb]
    show (Comp.pure (([] : List Int), (7 : Int))).val = _
    rw [Comp.val_pure]
theorem own_of (x : List Bool) : own x.length (fun s => x.getD s false) = x := by
  refine List.ext_getElem? fun i => ?_
  by_cases hi : i < x.length
  · rw [own_get hi, List.getD_eq_getElem?_getD, List.getElem?_eq_getElem hi]; rfl
  · rw [List.getElem?_eq_none (by rw [own_len]; omega), List.getElem?_eq_none (by omega)]
theorem conf_same {x : List Bool} : ∃ H e, (core_Conflicts x).val = some (H, e) ∧ (colletref32_Conflicts x).val = some (H, e) ∧ H.length ≤ LIM := by
  have hLIM : LIM = 1073741824 := rfl
  by_cases hN : x.length ≤ 1024
  · by_cases hpow : ∃ m, m ≤ 10 ∧ x.length = 2 ^ m
    · obtain ⟨m, hm, hx⟩ := hpow
      have hp : 2 ^ m ≤ 1024 := Nat.pow_le_pow_right (n := 2) (by omega) hm
      have ho := own_of x
      rw [hx] at ho
      obtain ⟨k, h1, h2, h3, h4⟩ := ref_len hN
      have hk : k = m := by
        rcases Nat.lt_trichotomy k m with h | h | h
        · have : 2 ^ k < 2 ^ m := Nat.pow_lt_pow_right (by omega) h
          omega
        · exact h
        · have := h2 m h; omega
      subst hk
      refine ⟨(confR (fun s => x.getD s false) k).1, (confR (fun s => x.getD s false) k).2, ?_, ?_, ?_⟩
      · rw [← core_conf hm, ho]
      · unfold colletref32_Conflicts
        rw [Comp.val_ite, if_neg (by rw [decide_eq_true_iff]; omega), Comp.val_bind, h4, Option.bind_some]
        have := ref_conf (P := fun s => x.getD s false) hm
        rw [ho] at this
        exact this
      · unfold confR
        split
        · show (up (conf _ k)).length ≤ _
          rw [up_len]
          have : (conf (fun s => x.getD s false) k).length ≤ (List.range (2 ^ k)).length := List.length_filter_le _ _
          rw [List.length_range] at this; omega
        · simp
    · have hno : ∀ m, m ≤ 10 → x.length ≠ 2 ^ m := fun m hm h => hpow ⟨m, hm, h⟩
      refine ⟨[], 4, ?_, ?_, by simp⟩
      · have hodd := oddLen_no hN hno
        unfold oddLen at hodd
        unfold core_Conflicts
        rw [Comp.val_ite, if_neg (by rw [decide_eq_true_iff]; omega), hodd, Comp.val_bind, Comp.val_pure, Option.bind_some, Comp.val_ite, if_pos rfl, Comp.val_pure]
      · obtain ⟨k, h1, h2, h3, h4⟩ := ref_len hN
        unfold colletref32_Conflicts
        rw [Comp.val_ite, if_neg (by rw [decide_eq_true_iff]; omega), Comp.val_bind, h4, Option.bind_some]
        unfold colletref32_Conflicts_j1
        have hne := hno k h1
        rw [Comp.val_bind, nonneg_val (by omega), Option.bind_some, shlF_nat (by omega), Comp.val_bind, Comp.val_pure, Option.bind_some, Comp.val_ite, if_pos (by rw [decide_eq_true_iff]; omega), Comp.val_pure]
  · refine ⟨[], 2, ?_, ?_, by simp⟩
    · unfold core_Conflicts
      rw [Comp.val_ite, if_pos (by rw [decide_eq_true_iff]; omega), Comp.val_pure]
    · unfold colletref32_Conflicts
      rw [Comp.val_ite, if_pos (by rw [decide_eq_true_iff]; omega), Comp.val_pure]
theorem law_CoreConflicts {l : List Int} {z y : Int} {raw : List Bool} (hz : (Lit.int .u8 z).wf = true) (hy : (Lit.int .u16 y).wf = true) : (colletlaw32_CoreConflicts l z y raw).val = some true := by
  have hLIM : LIM = 1073741824 := rfl
  obtain ⟨b, hb, rfl⟩ := wf_u8 hz
  obtain ⟨c, hc, rfl⟩ := wf_u16 hy
  have hm7 := mod7 hb
  unfold colletlaw32_CoreConflicts
  rw [hm7]
  have hm : b % 7 ≤ 6 := by omega
  generalize b % 7 = m at *
  have hp : 2 ^ m ≤ 64 := Nat.pow_le_pow_right (n := 2) (by omega) hm
  have hpp : 0 < 2 ^ m := Nat.two_pow_pos _
  obtain ⟨L, h1, hLm, h8⟩ := sets_val (l := l) (m := m) (by omega)
  have hcl := closed_val (L := L) (m := m) (by omega) (fun x hx => by have := hLm x hx; omega) (by omega)
  have hk : c % 2 ^ m < 2 ^ m := Nat.mod_lt _ hpp
  have hrem := rem_pow (c := c) (m := m) (by omega)
  have hlen := own_len (2 ^ m) (under L)
  have a1 : (app [] (own (2 ^ m) (under L))).val = some (own (2 ^ m) (under L)) := by rw [app_val (by rw [hlen]; simp; omega)]; rfl
  obtain ⟨u, hu⟩ : ∃ u, (upd (own (2 ^ m) (under L)) ((c % 2 ^ m : Nat) : Int) (!under L (c % 2 ^ m))).val = some u := ⟨_, upd_val (by rw [hlen]; omega)⟩
  obtain ⟨r, hr, hr70⟩ : ∃ r, (sub raw 0 (min (raw.length : Int) 70)).val = some r ∧ r.length ≤ 70 := ⟨_, sub_val (by omega), by simp; omega⟩
  obtain ⟨q, hq⟩ : ∃ q, (app (own (2 ^ m) (under L)) r).val = some q := ⟨_, app_val (by rw [hlen]; omega)⟩
  obtain ⟨v, hv⟩ : ∃ v, (mk 1025 false).val = some v := ⟨_, mk_val (by omega)⟩
  obtain ⟨t, ht⟩ : ∃ t, (sub (own (2 ^ m) (under L)) 0 ((c % 2 ^ m : Nat) : Int)).val = some t := ⟨_, sub_val (by rw [hlen]; omega)⟩
  rw [← hlen] at hrem
  simp only [Comp.val_bind, sanity_val, Option.bind_some, h1, hcl, a1]
  rw [hrem]
  rw [hlen]
  simp only [Option.bind_some, idx_val (own_get hk), hu, hr, hq, hv, ht, Comp.val_pure, List.length_cons, List.length_nil]
  have hbody : ∀ (i : Nat) (x : List Bool), i < 6 → ([own (2 ^ m) (under L), u, r, q, v, t] : List (List Bool))[i]? = some x → (colletlaw32_CoreConflicts_l2 ((0 + 1 + 1 + 1 + 1 + 1 + 1 : Nat) : Int) (own (2 ^ m) (under L)) u r q v t (i : Int)).val = some (.next ((i + 1 : Nat) : Int)) := by
    intro i x hi hx
    obtain ⟨H, e, p1, p2, p3⟩ := conf_same (x := x)
    unfold colletlaw32_CoreConflicts_l2
    rw [Comp.val_ite, if_pos (by rw [decide_eq_true_iff]; omega)]
    simp only [Comp.val_bind, idx_nat, hx, Option.bind_some, p1, p2, Comp.val_gd, same_val p3, Comp.val_pure, Comp.val_ite, Comp.wrap_succ (i := i) (by omega)]
    simp
  have := Comp.loop_seq (body := fun s => colletlaw32_CoreConflicts_l2 ((0 + 1 + 1 + 1 + 1 + 1 + 1 : Nat) : Int) (own (2 ^ m) (under L)) u r q v t s) (fun i => (i : Int)) 6 (.inr () : Sum Bool Unit)
    (fun i hi => by
      have : i = 0 ∨ i = 1 ∨ i = 2 ∨ i = 3 ∨ i = 4 ∨ i = 5 := by omega
      rcases this with rfl | rfl | rfl | rfl | rfl | rfl
      · exact hbody 0 _ hi rfl
      · exact hbody 1 _ hi rfl
      · exact hbody 2 _ hi rfl
      · exact hbody 3 _ hi rfl
      · exact hbody 4 _ hi rfl
      · exact hbody 5 _ hi rfl)
    (by
      show (colletlaw32_CoreConflicts_l2 ((0 + 1 + 1 + 1 + 1 + 1 + 1 : Nat) : Int) (own (2 ^ m) (under L)) u r q v t ((6 : Nat) : Int)).val = _
      unfold colletlaw32_CoreConflicts_l2
      rw [Comp.val_ite, if_neg (by simp), Comp.val_pure])
  have h0 : (Comp.loop (fun s => colletlaw32_CoreConflicts_l2 ((0 + 1 + 1 + 1 + 1 + 1 + 1 : Nat) : Int) (own (2 ^ m) (under L)) u r q v t s) 0).val = some (.inr ()) := this
  rw [h0, Option.bind_some]
  simp [colletlaw32_CoreConflicts_j1]
end Go.Cor
