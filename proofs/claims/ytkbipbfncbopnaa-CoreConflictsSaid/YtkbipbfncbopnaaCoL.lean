/- Core: the least set, plainly. No statement of the program stands here. -/
import Derived.Test.YtkbipbfncbopnaaCoP
import Derived.Test.YtkbipbfncbopnaaCoN
namespace Go.Cor
open Go Go.Lift Go.F
/-- the bits of an integer of 64 bits -/
def U (z : Int) : Nat := (z % 18446744073709551616).toNat
theorem U_lt (z : Int) : U z < 18446744073709551616 := by unfold U; omega
theorem wrapU_eq (z : Int) : IntKind.wrap .u64 z = ((U z : Nat) : Int) := by
  have h : IntKind.wrap .u64 z = z % 18446744073709551616 := by simp [IntKind.wrap, IntKind.signed, IntKind.bits]
  rw [h]; unfold U; omega
def pop (z : Int) : Nat := popN 64 (U z)
theorem pop_le (z : Int) : pop z ≤ 64 := popN_le 64 _
theorem size_val (z : Int) : (core_size z).val = some ((pop z : Nat) : Int) := by
  unfold core_size
  rw [wrapU_eq, Comp.val_bind, ones_val (U_lt z), Option.bind_some, Comp.val_pure]; rfl
theorem least_f1 (a b : Int) : (core_Least_f1 a b).val = some ((pop a : Int) - (pop b : Int)) := by
  have h1 := pop_le a; have h2 := pop_le b
  unfold core_Least_f1
  rw [Comp.val_bind, size_val, Option.bind_some, Comp.val_bind, size_val, Option.bind_some, Comp.val_pure, IntWalk.i64_in _ ⟨by omega, by omega⟩]
theorem wrapI_eq (z : Int) : (IntKind.wrap .i64 z) % 18446744073709551616 = z % 18446744073709551616 ∧ -9223372036854775808 ≤ IntKind.wrap .i64 z ∧ IntKind.wrap .i64 z ≤ 9223372036854775807 := by
  by_cases h : z % 18446744073709551616 ≥ 9223372036854775808
  · have e : IntKind.wrap .i64 z = z % 18446744073709551616 - 18446744073709551616 := by simp [IntKind.wrap, IntKind.signed, IntKind.bits, h]
    rw [e]; omega
  · have e : IntKind.wrap .i64 z = z % 18446744073709551616 := by simp [IntKind.wrap, IntKind.signed, IntKind.bits]; omega
    rw [e]; omega
theorem U_and (a b : Int) : U (andB .i64 a b) = U a &&& U b := by
  unfold andB
  unfold U
  rw [(wrapI_eq _).1, bits64, BitVec.toNat_and, BitVec.toNat_ofInt, BitVec.toNat_ofInt]
  have h : (a % 18446744073709551616).toNat &&& (b % 18446744073709551616).toNat < 2 ^ 64 := Nat.and_lt_two_pow _ (by omega)
  have e : (((a % ((2 ^ 64 : Nat) : Int)).toNat &&& (b % ((2 ^ 64 : Nat) : Int)).toNat : Nat) : Int) = (((a % 18446744073709551616).toNat &&& (b % 18446744073709551616).toNat : Nat) : Int) := rfl
  rw [e]
  omega
def I64 (z : Int) : Prop := -9223372036854775808 ≤ z ∧ z ≤ 9223372036854775807
theorem U_zero {z : Int} (h : I64 z) : U z = 0 ↔ z = 0 := by
  obtain ⟨h1, h2⟩ := h
  unfold U; omega
theorem U_inj {a b : Int} (ha : I64 a) (hb : I64 b) (h : U a = U b) : a = b := by
  obtain ⟨h1, h2⟩ := ha; obtain ⟨h3, h4⟩ := hb
  unfold U at h; omega
theorem U_pred {z : Int} (h : 0 < U z) : U (IntKind.wrap .i64 (z - 1)) = U z - 1 := by
  unfold U at *
  rw [(wrapI_eq _).1]; omega
theorem andB_i64 (a b : Int) : I64 (andB .i64 a b) := by unfold andB; exact (wrapI_eq _).2
theorem count_val {z : Int} (hz : I64 z) : (colletlaw32_CoreLeasts_f1 z).val = some ((pop z : Nat) : Int) := by
  unfold colletlaw32_CoreLeasts_f1
  have := Comp.loop_rule' (body := fun s : Int × Int => colletlaw32_CoreLeasts_f1_l2 s.1 s.2) (fun s e => I64 s.1 ∧ ∃ k : Nat, s.2 = (k : Int) ∧ k + pop s.1 ≤ 64 ∧ e = ((k + pop s.1 : Nat) : Int)) (fun s => U s.1)
    (by
      rintro ⟨x, n⟩ e ⟨hx, k, rfl, hk, rfl⟩
      show (∃ s', (colletlaw32_CoreLeasts_f1_l2 x (k : Int)).val = _ ∧ _) ∨ (colletlaw32_CoreLeasts_f1_l2 x (k : Int)).val = _
      unfold colletlaw32_CoreLeasts_f1_l2
      by_cases h0 : x = 0
      · right
        subst h0
        have : pop 0 = 0 := by simp [pop, U, popN_zero]
        rw [Comp.val_ite, if_neg (by simp), Comp.val_pure]
        simp [this]
      · left
        have hu : 0 < U x := Nat.pos_of_ne_zero fun h => h0 ((U_zero hx).1 h)
        have hU : U (andB .i64 x (IntKind.wrap .i64 (x - 1))) = U x &&& (U x - 1) := by rw [U_and, U_pred hu]
        have hp : pop (andB .i64 x (IntKind.wrap .i64 (x - 1))) + 1 = pop x := by
          unfold pop; rw [hU]; exact pop_pred 64 _ hu (U_lt x)
        refine ⟨(andB .i64 x (IntKind.wrap .i64 (x - 1)), ((k + 1 : Nat) : Int)), ?_, ⟨andB_i64 _ _, k + 1, rfl, by show k + 1 + pop (andB .i64 x (IntKind.wrap .i64 (x - 1))) ≤ 64; have hk' : k + pop x ≤ 64 := hk; omega, ?_⟩, ?_⟩
        · rw [Comp.val_ite, if_pos (by simpa using h0), Comp.val_bind, Comp.val_pure, Option.bind_some, Comp.val_pure, Comp.wrap_succ (by omega)]
        · show ((k + pop x : Nat) : Int) = ((k + 1 + pop (andB .i64 x (IntKind.wrap .i64 (x - 1))) : Nat) : Int)
          omega
        · show U (andB .i64 x (IntKind.wrap .i64 (x - 1))) < U x
          rw [hU]; exact Nat.lt_of_le_of_lt Nat.and_le_right (by omega))
    (s := (z, 0)) (e := ((pop z : Nat) : Int)) ⟨hz, 0, rfl, by show 0 + pop z ≤ 64; have := pop_le z; omega, by show _ = ((0 + pop z : Nat) : Int); omega⟩
  rw [Comp.val_bind, this, Option.bind_some]
  unfold colletlaw32_CoreLeasts_f1_j1
  rw [Comp.val_pure]
/-- the first one with the fewest elements -/
def first (b : Int) (l : List Int) : Int := l.foldl (fun b x => if pop x < pop b then x else b) b
theorem min_val {x0 : Int} {l : List Int} (hl : (x0 :: l).length ≤ LIM) : (slices_MinFunc_int_int (x0 :: l) core_Least_f1).val = some (first x0 l) := by
  have hLt := LIM_lt
  unfold slices_MinFunc_int_int slices_MinFunc_int_int_j1
  have h0 : (idx (x0 :: l) 0).val = some x0 := idx_val (i := 0) rfl
  rw [Comp.val_ite, if_neg (by simp; omega), Comp.val_bind, h0, Option.bind_some, Comp.val_bind]
  have := Comp.loop_foldE (body := fun s : Int × Int => slices_MinFunc_int_int_l3 (x0 :: l) core_Least_f1 s.1 s.2) (fun b i => (b, ((i + 1 : Nat) : Int))) l (fun b x => .next (if pop x < pop b then x else b)) id (fun _ _ => True)
    (by
      intro b i x hx _
      have hi := getElem?_len hx
      have hx' : (x0 :: l)[i + 1]? = some x := by simpa using hx
      show (slices_MinFunc_int_int_l3 (x0 :: l) core_Least_f1 b ((i + 1 : Nat) : Int)).val = _
      unfold slices_MinFunc_int_int_l3
      simp only [List.length_cons] at hl
      rw [decide_lt_len, Comp.val_ite, if_pos (by simpa using hi), Comp.val_bind, idx_val hx', Option.bind_some, Comp.val_bind, least_f1, Option.bind_some, Comp.val_ite]
      by_cases hp : pop x < pop b
      · rw [if_pos (by rw [decide_eq_true_iff]; omega), if_pos hp, Comp.val_bind, idx_val hx', Option.bind_some]
        simp only [slices_MinFunc_int_int_j4, Comp.val_pure, Comp.wrap_succ (i := i + 1) (by omega)]; rfl
      · rw [if_neg (by rw [decide_eq_true_iff]; omega), if_neg hp]
        simp only [slices_MinFunc_int_int_j4, Comp.val_pure, Comp.wrap_succ (i := i + 1) (by omega)]; rfl)
    (fun _ _ _ _ _ _ _ => trivial)
    (by
      intro b _
      show (slices_MinFunc_int_int_l3 (x0 :: l) core_Least_f1 b ((l.length + 1 : Nat) : Int)).val = _
      unfold slices_MinFunc_int_int_l3
      rw [Comp.val_ite, if_neg (by simp), Comp.val_pure]; rfl)
    x0 trivial
  rw [Comp.foldE_next] at this
  have h1 : (Comp.loop (fun s : Int × Int => slices_MinFunc_int_int_l3 (x0 :: l) core_Least_f1 s.1 s.2) (x0, 1)).val = some (first x0 l) := this
  rw [h1, Option.bind_some]
  unfold slices_MinFunc_int_int_j2
  rw [Comp.val_pure]
theorem first_le' (p : Int → Nat) (l : List Int) : ∀ b, let m := l.foldl (fun b x => if p x < p b then x else b) b; p m ≤ p b ∧ (∀ x ∈ l, p m ≤ p x) ∧ (m = b ∨ m ∈ l) := by
  induction l with
  | nil => intro b; exact ⟨Nat.le_refl _, by simp, .inl rfl⟩
  | cons y l ih =>
    intro b
    simp only [List.foldl_cons]
    obtain ⟨h1, h2, h3⟩ := ih (if p y < p b then y else b)
    by_cases hp : p y < p b
    · simp only [if_pos hp] at h1 h2 h3 ⊢
      refine ⟨by omega, fun x hx => ?_, .inr ?_⟩
      · rcases List.mem_cons.1 hx with rfl | hx
        · exact h1
        · exact h2 x hx
      · rcases h3 with h3 | h3
        · rw [h3]; simp
        · exact List.mem_cons_of_mem _ h3
    · simp only [if_neg hp] at h1 h2 h3 ⊢
      refine ⟨h1, fun x hx => ?_, ?_⟩
      · rcases List.mem_cons.1 hx with rfl | hx
        · omega
        · exact h2 x hx
      · rcases h3 with h3 | h3
        · exact .inl h3
        · exact .inr (List.mem_cons_of_mem _ h3)
theorem first_le (l : List Int) (b : Int) : pop (first b l) ≤ pop b ∧ (∀ x ∈ l, pop (first b l) ≤ pop x) ∧ (first b l = b ∨ first b l ∈ l) := first_le' pop l b
theorem first_first' (p : Int → Nat) (l : List Int) : ∀ b, let m := l.foldl (fun b x => if p x < p b then x else b) b; ∀ (i : Nat) x, (b :: l)[i]? = some x → p x = p m → ∃ j, j ≤ i ∧ (b :: l)[j]? = some m := by
  induction l with
  | nil =>
    intro b m i x hx _
    cases i with
    | zero => exact ⟨0, Nat.le_refl _, rfl⟩
    | succ i => simp at hx
  | cons y l ih =>
    intro b m i x hx hp
    have hm : m = l.foldl (fun b x => if p x < p b then x else b) (if p y < p b then y else b) := rfl
    have h1 := (first_le' p l (if p y < p b then y else b)).1
    have h2 := ih (if p y < p b then y else b)
    simp only [← hm] at h1 h2
    clear_value m
    by_cases hc : p y < p b
    · simp only [if_pos hc] at h1 h2
      cases i with
      | zero =>
        have : b = x := by simpa using hx
        subst this; omega
      | succ k =>
        obtain ⟨j, h3, h4⟩ := h2 k x (by simpa using hx) hp
        exact ⟨j + 1, by omega, by simpa using h4⟩
    · simp only [if_neg hc] at h1 h2
      have h0 : p b = p m → b = m := fun h => by
        obtain ⟨j, h3, h4⟩ := h2 0 b rfl h
        have : j = 0 := by omega
        subst this; simpa using h4
      cases i with
      | zero =>
        have : b = x := by simpa using hx
        subst this
        exact ⟨0, Nat.le_refl _, by simpa using h0 hp⟩
      | succ i =>
        cases i with
        | zero =>
          have : y = x := by simpa using hx
          subst this
          exact ⟨0, by omega, by simpa using h0 (by omega)⟩
        | succ k =>
          obtain ⟨j, h3, h4⟩ := h2 (k + 1) x (by simpa using hx) hp
          cases j with
          | zero => exact ⟨0, by omega, by simpa using h4⟩
          | succ j => exact ⟨j + 2, by omega, by simpa using h4⟩
end Go.Cor
