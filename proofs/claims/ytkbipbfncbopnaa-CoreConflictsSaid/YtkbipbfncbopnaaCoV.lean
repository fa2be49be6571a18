/- Core: the law of the sets, plainly. No statement of the program stands here. -/
import Derived.Test.YtkbipbfncbopnaaCoU
import Derived.Test.YtkbipbfncbopnaaCoS
set_option linter.unusedVariables false
set_option linter.unusedSimpArgs false
namespace Go.Cor
open Go Go.Lift Go.F
theorem refmeets_val {s : Nat} {L : List Nat} (hs : s < 4611686018427387904) (hL : ∀ x ∈ L, x < 4611686018427387904) (hl : L.length ≤ LIM) : (colletref32_meets (s : Int) (up L)).val = some (hitsB s L) := by
  have hLt := LIM_lt
  unfold colletref32_meets
  have := Comp.loop_any (body := fun i => colletref32_meets_l2 (up L) (s : Int) i) L (fun x => decide (s &&& x = 0)) false
    (by
      intro i x hx
      have hi := getElem?_len hx
      have hx' : (up L)[i]? = some (x : Int) := mem_up_get hx
      have h62 := hL x (List.mem_of_getElem? hx)
      unfold colletref32_meets_l2
      rw [decide_lt_len, Comp.val_ite, if_pos (by simpa [up_len] using hi), Comp.val_bind, idx_val hx', Option.bind_some, andB_nat (by omega) (by omega), Comp.val_ite]
      by_cases h0 : s &&& x = 0
      · rw [if_pos (by simpa using h0), if_pos (by simpa using h0), Comp.val_pure]
      · rw [if_neg (by simpa using h0), if_neg (by simpa using h0), Comp.val_pure, Comp.wrap_succ (by omega)])
    (by
      unfold colletref32_meets_l2
      rw [Comp.val_ite, if_neg (by simp [up_len]), Comp.val_pure])
  rw [Comp.val_bind, this, Option.bind_some]
  have e : hitsB s L = !(L.any fun x => decide (s &&& x = 0)) := by
    unfold hitsB; rw [any_all_not]; simp
  rw [e]
  cases L.any fun x => decide (s &&& x = 0) <;> simp [colletref32_meets_j1]
/-- no element of a set can go -/
def tight (n : Nat) (L : List Nat) (s : Nat) : Bool := (List.range n).all fun k => !s.testBit k || !hitsB (without s (2 ^ k)) L
theorem tight_iff {n : Nat} {L : List Nat} {s : Nat} (hs : s < 2 ^ n) : (hitsB s L && tight n L s) = true ↔ Min (Hits · L) s := by
  rw [min_hits_iff hs, Bool.and_eq_true, hitsB_iff]
  refine and_congr_right fun _ => ?_
  unfold tight
  rw [List.all_eq_true]
  constructor
  · intro h k hk hb hh
    have := h k (List.mem_range.2 hk)
    rw [hb, hitsB_iff.2 hh] at this; simp at this
  · intro h k hk
    cases hb : s.testBit k with
    | false => rfl
    | true => rw [hitsB_false (h k (List.mem_range.1 hk) hb)]; rfl
theorem tight_val {n s : Nat} {L : List Nat} (hn : n ≤ 10) (hs : s < 2 ^ n) (hL : ∀ x ∈ L, x < 4611686018427387904) (hl : L.length ≤ LIM) :
    (Comp.loop (fun st : Bool × Int => colletref32_Hitting_l7 (n : Int) (s : Int) (up L) st.1 st.2) (true, 0)).val = some (tight n L s) := by
  have hb : 2 ^ n ≤ 1024 := Nat.pow_le_pow_right (n := 2) (by omega) hn
  have := Comp.loop_fold (body := fun st : Bool × Int => colletref32_Hitting_l7 (n : Int) (s : Int) (up L) st.1 st.2) (List.range n) (fun b k => b && (!s.testBit k || !hitsB (without s (2 ^ k)) L)) id (fun _ _ => True) true
    (by
      intro b i k hk _
      obtain ⟨hi, rfl⟩ := range_get hk
      show (colletref32_Hitting_l7 (n : Int) (s : Int) (up L) b (k : Int)).val = _
      unfold colletref32_Hitting_l7
      have hw : without s (2 ^ k) ≤ s := without_le s (2 ^ k)
      have h2 : 2 ^ k ≤ 1024 := Nat.pow_le_pow_right (n := 2) (by omega) (by omega : k ≤ 10)
      have e : (colletref32_meets (andNotB .i64 (s : Int) (shlF .i64 1 (k : Int))) (up L)).val = some (hitsB (without s (2 ^ k)) L) := by
        rw [shlF_nat (by omega), andNotB_nat (by omega) (by omega), refmeets_val (by omega) hL hl]
      have e0 : decide (andB .i64 (shrF .i64 (s : Int) (k : Int)) 1 = 0) = !s.testBit k := by
        have h1 := bit_eq (a := s) (k := k) (by omega) (by omega)
        have h3 := low_bit (z := (s : Int)) (k := k) (by omega)
        rw [h3] at h1 ⊢
        rw [← h1]
        have : U (s : Int) / 2 ^ k % 2 < 2 := Nat.mod_lt _ (by omega)
        generalize U (s : Int) / 2 ^ k % 2 = q at this
        have : q = 0 ∨ q = 1 := by omega
        rcases this with rfl | rfl <;> rfl
      rw [Comp.val_ite, if_pos (by rw [decide_eq_true_iff]; omega)]
      simp only [Comp.val_bind, Comp.val_gd, nonneg_val (show (0 : Int) ≤ (k : Int) by omega), e, e0, Comp.val_pure, Comp.wrap_succ (i := k) (by omega)]
      cases b with
      | false => rfl
      | true =>
        cases s.testBit k with
        | false => rfl
        | true => simp)
    (fun _ _ _ _ _ => trivial)
    (by
      intro b _
      show (colletref32_Hitting_l7 (n : Int) (s : Int) (up L) b ((List.range n).length : Int)).val = _
      unfold colletref32_Hitting_l7
      rw [List.length_range, Comp.val_ite, if_neg (by simp), Comp.val_pure]; rfl)
    trivial
  rw [Comp.foldl_all, Bool.true_and] at this
  exact this
theorem refhitting_in {n : Nat} {L : List Nat} (hn : n ≤ 10) (hL : ∀ s ∈ L, s < 2 ^ n) (hl : L.length ≤ LIM) : ∃ H, (colletref32_Hitting_j1 (n : Int) (up L)).val = some (H, 0) ∧ Fam n L H := by
  have hb : 2 ^ n ≤ 1024 := Nat.pow_le_pow_right (n := 2) (by omega) hn
  have hL62 : ∀ x ∈ L, x < 4611686018427387904 := fun x hx => by have := hL x hx; omega
  have hLIM : LIM = 1073741824 := rfl
  have := Comp.loop_fold (body := fun s : List Int × Int => colletref32_Hitting_l4 (n : Int) (up L) s.1 s.2) (List.range (2 ^ n)) (fun acc s => if (hitsB s L && tight n L s) = true then acc ++ [(s : Int)] else acc) id (fun acc i => acc.length ≤ i) []
    (by
      intro acc i s hs hI
      obtain ⟨hi, rfl⟩ := range_get hs
      show (colletref32_Hitting_l4 (n : Int) (up L) acc (s : Int)).val = _
      unfold colletref32_Hitting_l4
      rw [Comp.val_bind, nonneg_val (by omega), Option.bind_some, shlF_nat (by omega), Comp.val_ite, if_pos (by rw [decide_eq_true_iff]; omega), Comp.val_bind, refmeets_val (by omega) hL62 hl, Option.bind_some, Comp.val_ite]
      unfold colletref32_Hitting_j6 colletref32_Hitting_j5
      cases hh : hitsB s L with
      | false => simp [Comp.wrap_succ (i := s) (by omega)]
      | true =>
        rw [if_neg (by simp), Comp.val_bind, tight_val hn hi hL62 hl, Option.bind_some, Comp.val_ite]
        cases tight n L s with
        | false => simp [Comp.wrap_succ (i := s) (by omega)]
        | true => rw [if_pos rfl, if_pos (show (true && true) = true from rfl), Comp.val_bind, app_val (by simp; omega), Option.bind_some, Comp.val_pure, Comp.wrap_succ (by omega)])
    (by
      intro acc i s _ hI
      show (if (hitsB s L && tight n L s) = true then acc ++ [(s : Int)] else acc).length ≤ _
      split
      · simp; omega
      · omega)
    (by
      intro acc _
      show (colletref32_Hitting_l4 (n : Int) (up L) acc ((List.range (2 ^ n)).length : Int)).val = _
      unfold colletref32_Hitting_l4
      rw [List.length_range, Comp.val_bind, nonneg_val (by omega), Option.bind_some, shlF_nat (by omega), Comp.val_ite, if_neg (by simp), Comp.val_pure]; rfl)
    (Nat.le_refl _)
  have e : ∀ (xs : List Nat) (ys : List Int), xs.foldl (fun acc s => if (hitsB s L && tight n L s) = true then acc ++ [(s : Int)] else acc) ys = ys ++ up (xs.filter fun s => hitsB s L && tight n L s) := by
    intro xs
    induction xs with
    | nil => intro ys; simp [up]
    | cons x xs ih =>
      intro ys
      rw [List.foldl_cons, ih, List.filter_cons]
      cases (hitsB x L && tight n L x) <;> simp [up]
  rw [e] at this
  have h0 : (Comp.loop (fun s : List Int × Int => colletref32_Hitting_l4 (n : Int) (up L) s.1 s.2) ([], 0)).val = some (up ((List.range (2 ^ n)).filter fun s => hitsB s L && tight n L s)) := this
  refine ⟨up ((List.range (2 ^ n)).filter fun s => hitsB s L && tight n L s), ?_, ⟨_, rfl, fun h => ?_⟩, ?_⟩
  · unfold colletref32_Hitting_j1
    rw [Comp.val_bind, h0, Option.bind_some]
    unfold colletref32_Hitting_j3
    rw [Comp.val_pure]
  · rw [List.mem_filter, List.mem_range]
    constructor
    · rintro ⟨h1, h2⟩; exact (tight_iff h1).1 h2
    · intro h
      have hlt := min_hits_lt hL h
      exact ⟨hlt, (tight_iff hlt).2 h⟩
  · unfold up Inc
    rw [List.pairwise_map]
    exact List.Pairwise.filter _ (List.pairwise_lt_range.imp fun h => by omega)
/-- Hitting and its reference, for whatever sets and number -/
theorem hit_same {l : List Int} {z : Int} (hl : l.length ≤ LIM) : ∃ H e, (core_Hitting l z).val = some (H, e) ∧ (colletref32_Hitting l z).val = some (H, e) ∧ H.length ≤ LIM := by
  have hLt := LIM_lt
  have hLIM : LIM = 1073741824 := rfl
  by_cases hz : 0 ≤ z ∧ z ≤ 10
  · obtain ⟨n, rfl⟩ : ∃ n : Nat, z = (n : Int) := ⟨z.toNat, by omega⟩
    have hn : n ≤ 10 := by omega
    have hb : 2 ^ n ≤ 1024 := Nat.pow_le_pow_right (n := 2) (by omega) hn
    have e1 : decide ((n : Int) < 0) = false := by rw [decide_eq_false_iff_not]; omega
    have e2 : decide ((n : Int) > 10) = false := by rw [decide_eq_false_iff_not]; omega
    let bad : Int → Bool := fun x => decide (x < 0) || decide (x ≥ ((2 ^ n : Nat) : Int))
    have href : (Comp.loop (fun s => colletref32_Hitting_l2 l (n : Int) s) 0).val = some (if l.any bad = true then (.inl (([] : List Int), (3 : Int)) : Sum (List Int × Int) Unit) else .inr ()) := by
      refine Comp.loop_any (body := fun s => colletref32_Hitting_l2 l (n : Int) s) l bad (([] : List Int), (3 : Int)) ?_ ?_
      · intro i x hx
        have hi := getElem?_len hx
        unfold colletref32_Hitting_l2
        rw [Comp.val_ite, if_pos (by rw [decide_eq_true_iff]; omega)]
        simp only [Comp.val_bind, Comp.val_gd, idx_nat, hx, nonneg_val (show (0 : Int) ≤ (n : Int) by omega), Option.bind_some, Comp.val_pure, shlF_nat (show n < 62 by omega), Comp.val_ite, Comp.wrap_succ (i := i) (by omega)]
        cases hneg : decide (x < 0) with
        | true => simp [bad, hneg]
        | false =>
          simp only [beq_self_eq_true, if_true, Option.bind_some, cond_false, bad, hneg, Bool.false_or]
          split <;> rfl
      · unfold colletref32_Hitting_l2
        rw [Comp.val_ite, if_neg (by simp), Comp.val_pure]
    by_cases hbad : l.any bad = true
    · refine ⟨[], 3, ?_, ?_, by simp⟩
      · unfold core_Hitting
        have hc : (slices_ContainsFunc_int_int l (fun z0 => core_Hitting_f1 z0 (n : Int))).val = some (l.any bad) := by
          refine contains_val hl fun x hx => ?_
          unfold core_Hitting_f1
          simp only [Comp.val_bind, Comp.val_gd, nonneg_val (show (0 : Int) ≤ (n : Int) by omega), Option.bind_some, Comp.val_pure, shlF_nat (show n < 62 by omega)]
          cases hneg : decide (x < 0) with
          | true => simp [bad, hneg]
          | false => simp [bad, hneg]
        simp only [e1, e2, Comp.val_bind, Comp.val_pure, Option.bind_some, cond_false, Comp.val_ite, hc, hbad]
        simp
      · unfold colletref32_Hitting
        simp only [e1, e2, Comp.val_bind, Comp.val_pure, Option.bind_some, cond_false, Comp.val_ite, href, hbad]
        simp
    · have hgood : ∀ x ∈ l, 0 ≤ x ∧ x < ((2 ^ n : Nat) : Int) := by
        intro x hx
        have : bad x = false := by
          cases hbx : bad x with
          | false => rfl
          | true => exact absurd (List.any_eq_true.2 ⟨x, hx, hbx⟩) hbad
        simp only [bad, Bool.or_eq_false_iff, decide_eq_false_iff_not] at this
        omega
      obtain ⟨L, rfl⟩ : ∃ L, l = up L := ⟨l.map Int.toNat, (toNat_up fun x hx => (hgood x hx).1).symm⟩
      have hL : ∀ s ∈ L, s < 2 ^ n := fun s hs => by have := (hgood (s : Int) (mem_up.2 hs)).2; omega
      rw [up_len] at hl
      obtain ⟨H, h1, h2⟩ := hitting_val hn hL hl
      obtain ⟨G, h3, h4⟩ := refhitting_in hn hL hl
      have := Fam.unique h2 h4
      subst this
      refine ⟨H, 0, h1, ?_, ?_⟩
      · unfold colletref32_Hitting
        have hbf : (up L).any bad = false := by cases h : (up L).any bad with
          | false => rfl
          | true => exact absurd h hbad
        simp only [e1, e2, Comp.val_bind, Comp.val_pure, Option.bind_some, cond_false, Comp.val_ite, href, hbf]
        simpa using h3
      · obtain ⟨F, rfl, hF⟩ := h2.ex
        rw [up_len]
        have := inc_up_len h2.inc (Fam.lt hL hF)
        omega
  · refine ⟨[], 2, ?_, ?_, by simp⟩
    · unfold core_Hitting
      have e : (bif (decide (z < 0)) then true else (decide (z > 10))) = true := by
        by_cases h : z < 0
        · simp [h]
        · simp [h]; omega
      simp only [e, Comp.val_bind, Comp.val_pure, Option.bind_some, Comp.val_ite]
      simp
    · unfold colletref32_Hitting
      have e : (bif (decide (z < 0)) then true else (decide (z > 10))) = true := by
        by_cases h : z < 0
        · simp [h]
        · simp [h]; omega
      simp only [e, Comp.val_bind, Comp.val_pure, Option.bind_some, Comp.val_ite]
      simp
theorem l3_three {x l : List Int} {n m : Int} (hx : x.length ≤ LIM) : (Comp.loop (fun s => colletlaw32_CoreSets_l3 n m l x s) 0).val = some (.inr ()) := by
  have hbody : ∀ (i : Nat) (k : Int), i < 3 → ([n, m, 10] : List Int)[i]? = some k → (colletlaw32_CoreSets_l3 n m l x (i : Int)).val = some (.next ((i + 1 : Nat) : Int)) := by
    intro i k hi hk
    obtain ⟨H, e, h1, h2, h3⟩ := hit_same (l := x) (z := k) hx
    unfold colletlaw32_CoreSets_l3 colletlaw32_CoreSets_j4
    have e0 : decide ((i : Int) < (([n, m, 10] : List Int).length : Int)) = true := by rw [decide_eq_true_iff]; simp; omega
    simp only [e0, Comp.val_bind, Comp.val_pure, Option.bind_some, Comp.val_ite, idx_nat, hk, h1, h2, Comp.val_gd, same_val h3, Comp.wrap_succ (i := i) (by omega)]
    simp
  have := Comp.loop_seq (body := fun s => colletlaw32_CoreSets_l3 n m l x s) (fun i => (i : Int)) 3 (.inr () : Sum Bool Unit)
    (fun i hi => by
      have : i = 0 ∨ i = 1 ∨ i = 2 := by omega
      rcases this with rfl | rfl | rfl
      · exact hbody 0 n hi rfl
      · exact hbody 1 m hi rfl
      · exact hbody 2 10 hi rfl)
    (by
      show (colletlaw32_CoreSets_l3 n m l x ((3 : Nat) : Int)).val = _
      unfold colletlaw32_CoreSets_l3
      simp [Comp.val_bind, Comp.val_ite])
  exact this
theorem law_CoreSets {l : List Int} {n : Int} : (colletlaw32_CoreSets l n).val = some true := by
  have hLIM : LIM = 1073741824 := rfl
  obtain ⟨m, hm, hmod⟩ := mod_val (z := n) (m := 7) (by omega) (by omega)
  have hmod' : (colletref01_Mod n 7).val = some (m : Int) := hmod
  obtain ⟨L, h1, h2, h3⟩ := sets_val (l := l.take 10) (m := m) (by omega)
  have h10 : (l.take 10).length ≤ 10 := by rw [List.length_take]; omega
  unfold colletlaw32_CoreSets
  simp only [Comp.val_bind, sanity_val, Option.bind_some, cut_val, hmod', h1]
  generalize l.take 10 = t at h10
  have hbody : ∀ (i : Nat) (x : List Int), i < 3 → ([t, up L, []] : List (List Int))[i]? = some x → x.length ≤ LIM → (colletlaw32_CoreSets_l2 t (up L) n (m : Int) (i : Int)).val = some (.next ((i + 1 : Nat) : Int)) := by
    intro i x hi hx hlen
    unfold colletlaw32_CoreSets_l2
    have e0 : decide ((i : Int) < (([t, up L, []] : List (List Int)).length : Int)) = true := by rw [decide_eq_true_iff]; simp; omega
    have hml : (minimal x).length ≤ LIM := Nat.le_trans (minimal_len x) hlen
    simp only [e0, Comp.val_bind, Comp.val_pure, Option.bind_some, Comp.val_ite, idx_nat, hx, minimal_val hlen, ref_minimal hlen, same_val hml, least_val hlen, ref_least hlen, l3_three hlen, Comp.wrap_succ (i := i) (by omega)]
    simp
  have := Comp.loop_seq (body := fun s => colletlaw32_CoreSets_l2 t (up L) n (m : Int) s) (fun i => (i : Int)) 3 (.inr () : Sum Bool Unit)
    (fun i hi => by
      have : i = 0 ∨ i = 1 ∨ i = 2 := by omega
      rcases this with rfl | rfl | rfl
      · exact hbody 0 t hi rfl (by omega)
      · exact hbody 1 (up L) hi rfl (by rw [up_len]; omega)
      · exact hbody 2 [] hi rfl (by simp))
    (by
      show (colletlaw32_CoreSets_l2 t (up L) n (m : Int) ((3 : Nat) : Int)).val = _
      unfold colletlaw32_CoreSets_l2
      simp [Comp.val_bind, Comp.val_ite])
  have h0 : (Comp.loop (fun s => colletlaw32_CoreSets_l2 t (up L) n (m : Int) s) 0).val = some (.inr ()) := this
  rw [h0, Option.bind_some]
  simp [colletlaw32_CoreSets_j1]
end Go.Cor
