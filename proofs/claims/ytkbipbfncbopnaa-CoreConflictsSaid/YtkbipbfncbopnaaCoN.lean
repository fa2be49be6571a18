/- Core: which sets hit, plainly. No statement of the program stands here. -/
import Derived.Test.YtkbipbfncbopnaaCoD
set_option linter.unusedVariables false
set_option linter.unusedSimpArgs false
namespace Go.Cor
open Go Go.Lift Go.F
def hitsB (s : Nat) (L : List Nat) : Bool := L.all fun x => decide (s &&& x ≠ 0)
theorem hitsB_iff {s : Nat} {L : List Nat} : hitsB s L = true ↔ Hits s L := by
  unfold hitsB Hits
  rw [List.all_eq_true]
  exact ⟨fun h x hx => meets_iff.1 (by simpa using h x hx), fun h x hx => by simpa using meets_iff.2 (h x hx)⟩
theorem hitsB_false {s : Nat} {L : List Nat} (h : ¬ Hits s L) : hitsB s L = false := by
  cases hb : hitsB s L with
  | false => rfl
  | true => exact absurd (hitsB_iff.1 hb) h
theorem meets_val {s : Nat} {L : List Nat} (hs : s < 4611686018427387904) (hL : ∀ x ∈ L, x < 4611686018427387904) (hl : L.length ≤ LIM) : (colletlaw32_CoreHits_f1 (s : Int) (up L)).val = some (hitsB s L) := by
  have hLt := LIM_lt
  unfold colletlaw32_CoreHits_f1
  have := Comp.loop_any (body := fun i => colletlaw32_CoreHits_f1_l2 (up L) (s : Int) i) L (fun x => decide (s &&& x = 0)) false
    (by
      intro i x hx
      have hi := getElem?_len hx
      have hx' : (up L)[i]? = some (x : Int) := by unfold up; rw [List.getElem?_map, hx]; rfl
      have h62 := hL x (List.mem_of_getElem? hx)
      unfold colletlaw32_CoreHits_f1_l2
      rw [decide_lt_len, Comp.val_ite, if_pos (by simpa [up_len] using hi), Comp.val_bind, idx_val hx', Option.bind_some, andB_nat (by omega) (by omega), Comp.val_ite]
      by_cases h0 : s &&& x = 0
      · rw [if_pos (by simpa using h0), if_pos (by simpa using h0), Comp.val_pure]
      · rw [if_neg (by simpa using h0), if_neg (by simpa using h0), Comp.val_pure, Comp.wrap_succ (by omega)])
    (by
      unfold colletlaw32_CoreHits_f1_l2
      rw [Comp.val_ite, if_neg (by simp [up_len]), Comp.val_pure])
  rw [Comp.val_bind, this, Option.bind_some]
  have e : hitsB s L = !(L.any fun x => decide (s &&& x = 0)) := by
    unfold hitsB
    induction L with
    | nil => rfl
    | cons x L ih =>
      rw [List.all_cons, List.any_cons, Bool.not_or, ih (fun y hy => hL y (List.mem_cons_of_mem _ hy)) (by simp at hl; omega)
        (by
          refine Comp.loop_any (body := fun i => colletlaw32_CoreHits_f1_l2 (up L) (s : Int) i) L (fun x => decide (s &&& x = 0)) false ?_ ?_
          · intro i x hx
            have hi := getElem?_len hx
            have hx' : (up L)[i]? = some (x : Int) := by unfold up; rw [List.getElem?_map, hx]; rfl
            have h62 := hL x (List.mem_cons_of_mem _ (List.mem_of_getElem? hx))
            simp at hl
            unfold colletlaw32_CoreHits_f1_l2
            rw [decide_lt_len, Comp.val_ite, if_pos (by simpa [up_len] using hi), Comp.val_bind, idx_val hx', Option.bind_some, andB_nat (by omega) (by omega), Comp.val_ite]
            by_cases h0 : s &&& x = 0
            · rw [if_pos (by simpa using h0), if_pos (by simpa using h0), Comp.val_pure]
            · rw [if_neg (by simpa using h0), if_neg (by simpa using h0), Comp.val_pure, Comp.wrap_succ (by omega)]
          · unfold colletlaw32_CoreHits_f1_l2
            rw [Comp.val_ite, if_neg (by simp [up_len]), Comp.val_pure])]
      simp
  rw [e]
  cases L.any fun x => decide (s &&& x = 0) <;> simp [colletlaw32_CoreHits_f1_j1]
theorem wrap_pred {j : Nat} (h : j < 9223372036854775807) : IntKind.wrap .i64 (((j + 1 : Nat) : Int) - 1) = (j : Int) := by
  rw [IntWalk.i64_in _ ⟨by omega, by omega⟩]; omega
theorem rem_pow {c m : Nat} (hc : c < 4611686018427387904) : (rem (IntKind.wrap .i64 (c : Int)) ((2 ^ m : Nat) : Int)).val = some ((c % 2 ^ m : Nat) : Int) := by
  have hp : 0 < 2 ^ m := Nat.two_pow_pos m
  rw [rem_val (by omega), wrap_nat (by omega), Int.tmod_eq_emod_of_nonneg (by omega)]
  simp
/-- the elements of a minimal set are all wanted -/
theorem l3_val {z : Int} {m x : Nat} {L : List Nat} (hz : Int.tmod (IntKind.wrap .i64 z) 7 = (m : Int)) (hm : m ≤ 10) (hx : x < 2 ^ m) (hL : ∀ s ∈ L, s < 4611686018427387904) (hl : L.length ≤ LIM) (hmin : Min (Hits · L) x) :
    (Comp.loop (fun s => colletlaw32_CoreHits_l3 z (x : Int) (up L) s) 0).val = some (.inr ()) := by
  have hb : 2 ^ m ≤ 1024 := Nat.pow_le_pow_right (n := 2) (by omega) hm
  have hmn := (min_hits_iff hx).1 hmin
  have := Comp.loop_any (body := fun s => colletlaw32_CoreHits_l3 z (x : Int) (up L) s) (List.range m) (fun _ => false) false
    (by
      intro i k hk
      obtain ⟨hi, rfl⟩ := range_get hk
      unfold colletlaw32_CoreHits_l3
      rw [hz, decide_lt_nat, Comp.val_bind, Comp.val_pure, Option.bind_some, Comp.val_ite, if_pos (by simpa using hi), Comp.val_bind, nonneg_val (by omega), Option.bind_some, bit_eq (by omega) (by omega)]
      have h2 : 2 ^ k ≤ 1024 := Nat.pow_le_pow_right (n := 2) (by omega) (by omega : k ≤ 10)
      cases ht : x.testBit k with
      | false => simp [Comp.val_bind, Comp.val_gd, Comp.wrap_succ (i := k) (by omega)]
      | true =>
        have hn := hmn.2 k hi ht
        have hw : without x (2 ^ k) ≤ x := Sub.le fun i hi => by rw [testBit_without] at hi; simp at hi; exact hi.1
        have e : (colletlaw32_CoreHits_f1 (andNotB .i64 (x : Int) (shlF .i64 1 (k : Int))) (up L)).val = some false := by
          rw [shlF_nat (by omega), andNotB_nat (by omega) (by omega), meets_val (by omega) hL hl, hitsB_false hn]
        simp only [Comp.val_bind, Comp.val_gd, nonneg_val (show (0 : Int) ≤ (k : Int) by omega), e, beq_self_eq_true, if_true, Option.bind_some, Comp.val_pure, cond_true, Comp.val_ite, Comp.wrap_succ (i := k) (by omega)]
        rfl)
    (by
      unfold colletlaw32_CoreHits_l3
      rw [hz, List.length_range, Comp.val_bind, Comp.val_pure, Option.bind_some, Comp.val_ite, if_neg (by simp), Comp.val_pure])
  rw [this]; simp
theorem law_CoreHits {l : List Int} {z y : Int} (hz : (Lit.int .u8 z).wf = true) (hy : (Lit.int .u8 y).wf = true) : (colletlaw32_CoreHits l z y).val = some true := by
  obtain ⟨b, hb, rfl⟩ := wf_u8 hz
  obtain ⟨c, hc, rfl⟩ := wf_u8 hy
  have hm7 := mod7 hb
  have hm : b % 7 ≤ 10 := by omega
  have hp : 2 ^ (b % 7) ≤ 1024 := Nat.pow_le_pow_right (n := 2) (by omega) hm
  have hpp : 0 < 2 ^ (b % 7) := Nat.two_pow_pos _
  have hLIM : LIM = 1073741824 := rfl
  unfold colletlaw32_CoreHits
  rw [hm7]
  generalize b % 7 = m at *
  obtain ⟨L, h1, hLm, h8⟩ := sets_val (l := l) hm
  have hL62 : ∀ x ∈ L, x < 4611686018427387904 := fun x hx => by have := hLm x hx; omega
  obtain ⟨H, h3, h3'⟩ := hitting_val hm hLm (by omega)
  obtain ⟨F, rfl, hF⟩ := h3'.ex
  have hFlt := Fam.lt hLm hF
  have hFlen := inc_up_len h3'.inc hFlt
  obtain ⟨s, hs, hrem⟩ : ∃ s : Nat, s < 2 ^ m ∧ (rem (IntKind.wrap .i64 (c : Int)) ((2 ^ m : Nat) : Int)).val = some (s : Int) := ⟨c % 2 ^ m, Nat.mod_lt _ hpp, rem_pow (by omega)⟩
  have hloop := Comp.loop_fold (body := fun st => colletlaw32_CoreHits_l2 (up F, 0) (s : Int) (up L) (b : Int) st.1 st.2) F (fun bb x => bb || decide (s &&& x = x)) (fun bb => (.inr bb : Sum Bool Bool)) (fun _ _ => True) false
    (by
      intro bb i x hx _
      have hi := getElem?_len hx
      have hmem := List.mem_of_getElem? hx
      have hxm := hFlt x hmem
      have hx' : (up F)[i]? = some (x : Int) := by unfold up; rw [List.getElem?_map, hx]; rfl
      have hmin := (hF x).1 hmem
      have hf1 : (colletlaw32_CoreHits_f1 (x : Int) (up L)).val = some true := by rw [meets_val (by omega) hL62 (by omega), hitsB_iff.2 hmin.1]
      have hl3 := l3_val hm7 hm hxm hL62 (by omega) hmin
      show (colletlaw32_CoreHits_l2 (up F, 0) (s : Int) (up L) (b : Int) bb (i : Int)).val = _
      unfold colletlaw32_CoreHits_l2
      have e1 : decide ((x : Int) < 0) = false := by rw [decide_eq_false_iff_not]; omega
      have e2 : decide ((x : Int) ≥ ((2 ^ m : Nat) : Int)) = false := by rw [decide_eq_false_iff_not]; omega
      have e3 : decide (((s &&& x : Nat) : Int) = (x : Int)) = decide (s &&& x = x) := by
        congr 1; exact propext ⟨fun h => by omega, fun h => by rw [h]⟩
      rw [decide_lt_len, Comp.val_ite, if_pos (by simpa [up_len] using hi), Comp.val_bind, idx_val hx', Option.bind_some, andB_nat (by omega) (by omega), e3, hm7, shlF_nat (by omega), e1, e2]
      have hor : (bif bb then true else decide (s &&& x = x)) = (bb || decide (s &&& x = x)) := by cases bb <;> rfl
      rw [hor, Comp.val_bind, Comp.val_pure, Option.bind_some, Comp.val_bind, hf1, Option.bind_some]
      cases i with
      | zero =>
        simp only [Comp.val_bind, Comp.val_gd, nonneg_val (show (0 : Int) ≤ (m : Int) by omega), Option.bind_some, Comp.val_pure, Comp.val_ite, hl3]
        simp [hl3, Comp.val_bind, Comp.wrap_succ (i := 0) (by omega)]
        exact Comp.wrap_succ (i := 0) (by omega)
      | succ j =>
        obtain ⟨p, hp'⟩ : ∃ p, F[j]? = some p := ⟨F[j]'(by omega), List.getElem?_eq_getElem _⟩
        have hq : (up F)[j]? = some (p : Int) := by unfold up; rw [List.getElem?_map, hp']; rfl
        have hpx : p < x := by
          have := List.pairwise_iff_getElem.1 h3'.inc j (j + 1) (by rw [up_len]; omega) (by rw [up_len]; omega) (by omega)
          rw [(List.getElem?_eq_some_iff.1 hq).2, (List.getElem?_eq_some_iff.1 hx').2] at this
          omega
        have e4 : decide ((x : Int) ≤ (p : Int)) = false := by rw [decide_eq_false_iff_not]; omega
        have e5 : decide (((j + 1 : Nat) : Int) > 0) = true := by rw [decide_eq_true_iff]; omega
        rw [e5, wrap_pred (by omega)]
        have e6 : IntKind.wrap .i64 ((j : Int) + 1 + 1) = (j : Int) + 1 + 1 := by have := Comp.wrap_succ (i := j + 1) (by omega); simpa using this
        have e7 : ¬ x ≤ p := by omega
        simp only [Comp.val_bind, Comp.val_gd, nonneg_val (show (0 : Int) ≤ (m : Int) by omega), Option.bind_some, Comp.val_pure, Comp.val_ite, hl3, idx_val hq, e4]
        simp [hl3, Comp.val_bind, idx_val hq, e6, e7])
    (fun _ _ _ _ _ => trivial)
    (by
      intro bb _
      show (colletlaw32_CoreHits_l2 (up F, 0) (s : Int) (up L) (b : Int) bb (F.length : Int)).val = _
      unfold colletlaw32_CoreHits_l2
      rw [Comp.val_ite, if_neg (by simp [up_len]), Comp.val_pure])
    trivial
  rw [Comp.foldl_any, Bool.false_or] at hloop
  have hcon : (F.any fun x => decide (s &&& x = x)) = hitsB s L := by
    cases hh : hitsB s L with
    | true =>
      obtain ⟨g, h4, h5⟩ := exists_min (P := (Hits · L)) _ (hitsB_iff.1 hh)
      exact List.any_eq_true.2 ⟨g, (hF g).2 h4, by simpa using sub_iff.2 h5⟩
    | false =>
      rw [List.any_eq_false]
      intro g hg h
      have : Hits s L := (((hF g).1 hg).1).mono (sub_iff.1 (by simpa using h))
      rw [hitsB_iff.2 this] at hh; cases hh
  rw [hcon] at hloop
  simp only [Comp.val_bind, sanity_val, Option.bind_some, h1, h3, Comp.val_ite]
  rw [if_neg (by simp), nonneg_val (by omega), Option.bind_some, shlF_nat (by omega), hrem, Option.bind_some, hloop, Option.bind_some]
  show (colletlaw32_CoreHits_j1 true (up L) (s : Int) (hitsB s L)).val = some true
  unfold colletlaw32_CoreHits_j1
  simp [Comp.val_bind, Comp.val_gd, meets_val (s := s) (by omega) hL62 (by omega)]
end Go.Cor
