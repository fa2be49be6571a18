/- Core: what Same, Minimal yield. No statement of the program stands here. -/
import Derived.Test.YtkbipbfncbopnaaCoFa
import Derived.Test.YtkbipbfncbopnaaCor
set_option linter.unusedVariables false
set_option linter.unusedSimpArgs false
namespace Go.Cor
open Go Go.Lift Go.F
theorem LIM_lt : LIM < 9223372036854775807 := by decide
theorem decide_lt_len {α : Type} {i : Nat} {xs : List α} : (decide ((i : Int) < (xs.length : Int))) = decide (i < xs.length) := by
  congr 1; exact propext ⟨fun h => by omega, fun h => by omega⟩
/-- are the two lists equal? -/
theorem same_val {a b : List Int} (ha : a.length ≤ LIM) : (colletref32_Same a b).val = some (decide (a = b)) := by
  unfold colletref32_Same
  rw [Comp.val_bind, Comp.val_pure, Option.bind_some, Comp.val_ite]
  by_cases hl : a.length = b.length
  · have hd : (decide ((a.length : Int) ≠ (b.length : Int))) = false := by simp [hl]
    rw [hd, if_neg (by simp), Comp.val_bind]
    have := Comp.loop_any (body := fun s => colletref32_Same_l2 a b s) (a.zip b) (fun x => decide (x.1 ≠ x.2)) false ?_ ?_
    · rw [this]
      by_cases he : (a.zip b).any (fun x => decide (x.1 ≠ x.2)) = true
      · rw [if_pos he]
        have : a ≠ b := by
          rintro rfl
          obtain ⟨x, hx, hne⟩ := List.any_eq_true.1 he
          have : ∀ (l : List Int) (x : Int × Int), x ∈ l.zip l → x.1 = x.2 := by
            intro l
            induction l with
            | nil => intro x hx; simp at hx
            | cons y l ih =>
              intro x hx
              simp only [List.zip_cons_cons, List.mem_cons] at hx
              rcases hx with rfl | hx
              · rfl
              · exact ih x hx
          simp [this a x hx] at hne
        simp [this]
      · rw [if_neg he]
        have : a = b := by
          refine List.ext_getElem hl fun i h1 h2 => ?_
          refine Classical.byContradiction fun hne => he (List.any_eq_true.2 ⟨(a[i], b[i]), ?_, by simpa using hne⟩)
          exact List.mem_of_getElem? (i := i) (by rw [List.getElem?_eq_getElem (by simp; omega), List.getElem_zip])
        simp [this, colletref32_Same_j1]
    · intro i x hx
      have hi : i < (a.zip b).length := getElem?_len hx
      rw [List.length_zip] at hi
      have hx' : x = (a[i]'(by omega), b[i]'(by omega)) := by
        rw [List.getElem?_eq_getElem (by rw [List.length_zip]; exact hi), List.getElem_zip] at hx
        exact (Option.some.inj hx).symm
      have h1 : a[i]? = some x.1 := by rw [hx']; exact List.getElem?_eq_getElem _
      have h2 : b[i]? = some x.2 := by rw [hx']; exact List.getElem?_eq_getElem _
      unfold colletref32_Same_l2
      have := LIM_lt
      simp only [Comp.val_ite, Comp.val_bind, idx_val h1, idx_val h2, Option.bind_some, Comp.val_pure, decide_lt_len, Comp.wrap_succ (i := i) (by omega)]
      rw [if_pos (by simp; omega)]
      split <;> rfl
    · unfold colletref32_Same_l2
      simp only [Comp.val_ite, Comp.val_pure]
      rw [if_neg (by simp [List.length_zip]; omega)]
  · have hd : (decide ((a.length : Int) ≠ (b.length : Int))) = true := by simp; omega
    rw [hd, if_pos rfl, Comp.val_pure]
    have : a ≠ b := fun h => hl (by rw [h])
    simp [this]
/-- the sets of a list that have no other one as a part -/
def IsMin (l : List Int) (s : Int) : Prop := s ∈ l ∧ ∀ x ∈ l, andB .i64 s x = x → x = s
theorem sorted_get {d : Array Int} (h : d.toList.Pairwise (· ≤ ·)) {i j : Nat} (hij : i ≤ j) (hj : j < d.size) : d[i]! ≤ d[j]! := by
  have e : ∀ k, k < d.size → d[k]! = d.toList[k]! := by
    intro k hk; simp [hk]
  rw [e i (by omega), e j hj]
  rcases Nat.lt_or_eq_of_le hij with hlt | rfl
  · have := List.pairwise_iff_getElem.1 h i j (by simp; omega) (by simpa using hj) hlt
    simpa [hj, show i < d.size by omega] using this
  · exact Int.le_refl _
theorem keeps_iff {d : Array Int} {j : Nat} : Lib.keeps d j = true ↔ j = 0 ∨ d[j]! ≠ d[j - 1]! := by simp [Lib.keeps]
theorem compact_inc {l : List Int} (h : l.Pairwise (· ≤ ·)) : Inc (Lib.compact l) := by
  unfold Lib.compact Lib.compactUpTo Inc
  rw [List.pairwise_map]
  have hr : ((List.range l.length).filter (Lib.keeps l.toArray)).Pairwise (· < ·) := List.Pairwise.filter _ List.pairwise_lt_range
  refine List.Pairwise.imp_of_mem ?_ hr
  intro a b ha hb hab
  have hb1 := List.mem_filter.1 hb
  have hbl := List.mem_range.1 hb1.1
  have h1 := sorted_get (d := l.toArray) (by simpa using h) (i := a) (j := b - 1) (by omega) (by simp; omega)
  have h2 := sorted_get (d := l.toArray) (by simpa using h) (i := b - 1) (j := b) (by omega) (by simpa using hbl)
  rcases keeps_iff.1 hb1.2 with h3 | h3
  · omega
  · omega
theorem compact_mem {l : List Int} (x : Int) : x ∈ Lib.compact l ↔ x ∈ l := by
  unfold Lib.compact Lib.compactUpTo
  rw [List.mem_map]
  constructor
  · rintro ⟨j, hj, rfl⟩
    have := List.mem_range.1 (List.mem_filter.1 hj).1
    simp [this]
  · intro hx
    obtain ⟨i, hi, he⟩ := List.getElem_of_mem hx
    have hP : ∀ i, i < l.length → l.toArray[i]! = x → ∃ j, j ∈ (List.range l.length).filter (Lib.keeps l.toArray) ∧ l.toArray[j]! = x := by
      intro i
      induction i using Nat.strongRecOn with
      | _ i ih =>
        intro hi he
        by_cases hk : Lib.keeps l.toArray i = true
        · exact ⟨i, List.mem_filter.2 ⟨List.mem_range.2 hi, hk⟩, he⟩
        · have := mt keeps_iff.2 hk
          simp only [not_or, Decidable.not_not] at this
          exact ih (i - 1) (by omega) (by omega) (by rw [← this.2]; exact he)
    exact hP i hi (by simp [hi, he])
theorem compact_le {l : List Int} : (Lib.compact l).length ≤ l.length := compact_len l
theorem isort_len (l : List Int) : (isort l).length = l.length := (isort_perm l).length_eq
def lst (l : List Int) : List Int := Lib.compact (isort l)
theorem lst_inc (l : List Int) : Inc (lst l) := compact_inc (isort_sorted l)
theorem lst_mem (l : List Int) (x : Int) : x ∈ lst l ↔ x ∈ l := by unfold lst; rw [compact_mem]; exact (isort_perm l).mem_iff
theorem lst_le (l : List Int) : (lst l).length ≤ l.length := by have := compact_le (l := isort l); rw [isort_len] at this; exact this
def worse (l : List Int) (s : Int) : Bool := l.any fun x => decide (x ≠ s) && decide (andB .i64 s x = x)
def minimal (l : List Int) : List Int := (lst l).filter fun s => !worse (lst l) s
theorem minimal_inc (l : List Int) : Inc (minimal l) := List.Pairwise.filter _ (lst_inc l)
theorem minimal_len (l : List Int) : (minimal l).length ≤ l.length := Nat.le_trans (List.length_filter_le _ _) (lst_le l)
theorem minimal_mem (l : List Int) (s : Int) : s ∈ minimal l ↔ IsMin l s := by
  unfold minimal IsMin
  rw [List.mem_filter, lst_mem]
  refine and_congr_right fun _ => ?_
  unfold worse
  rw [Bool.not_eq_true', List.any_eq_false]
  constructor
  · intro h x hx hs
    have := h x ((lst_mem l x).2 hx)
    simp [hs] at this; exact this
  · intro h x hx
    have := h x ((lst_mem l x).1 hx)
    by_cases hs : andB .i64 s x = x
    · simp [this hs]
    · simp [hs]
theorem minimal_val {l : List Int} (hl : l.length ≤ LIM) : (core_Minimal l).val = some (minimal l) := by
  unfold core_Minimal slices_Clone_int_int
  have hL := LIM_lt
  have h1 := lst_le l
  simp only [Comp.val_bind, app_val (xs := ([] : List Int)) (ys := l) (by simpa using hl), Option.bind_some, Comp.val_pure, List.nil_append]
  have h2 : (sortI l).val = some (isort l) := by unfold sortI; rw [if_pos hl]; simp
  have h3 : (compactI (isort l)).val = some (lst l) := by unfold compactI; rw [if_pos (by rw [isort_len]; exact hl)]; simp [lst]
  rw [h2, Option.bind_some, h3, Option.bind_some]
  have hin : ∀ s, (Comp.loop (fun i => core_Minimal_l5 (lst l) s i) 0).val = some (if worse (lst l) s = true then .inl () else .inr ()) := by
    intro s
    refine Comp.loop_any (lst l) (fun x => decide (x ≠ s) && decide (andB .i64 s x = x)) () ?_ ?_
    · intro i x hx
      have hi := getElem?_len hx
      unfold core_Minimal_l5
      simp only [Comp.val_ite, Comp.val_bind, idx_val hx, Option.bind_some, Comp.val_pure, decide_lt_len, Comp.wrap_succ (i := i) (by omega)]
      rw [if_pos (by simpa using hi), bif_ite]
      cases decide (x ≠ s) <;> cases decide (andB .i64 s x = x) <;> rfl
    · unfold core_Minimal_l5
      simp only [Comp.val_ite, Comp.val_pure]
      rw [if_neg (by simp)]
  have := Comp.loop_fold (body := fun s => core_Minimal_l2 (lst l) s.1 s.2) (lst l) (fun acc s => if (!worse (lst l) s) = true then acc ++ [s] else acc) id (fun acc i => acc.length ≤ i) []
    (by
      intro s i x hx hI
      have hi := getElem?_len hx
      show (core_Minimal_l2 (lst l) s (i : Int)).val = _
      unfold core_Minimal_l2
      simp only [Comp.val_ite, Comp.val_bind, idx_val hx, Option.bind_some, hin]
      rw [if_pos (by simpa using hi)]
      cases hw : worse (lst l) x with
      | true => simp [core_Minimal_j3, Comp.wrap_succ (i := i) (by omega)]
      | false =>
        rw [if_neg (by simp)]
        show (core_Minimal_j4 s x (i : Int)).val = _
        unfold core_Minimal_j4 core_Minimal_j3
        rw [Comp.val_bind, app_val (xs := s) (ys := [x]) (by simp; omega), Option.bind_some, Comp.val_pure, Comp.wrap_succ (i := i) (by omega)]
        rfl)
    (by
      intro s i x _ hI
      show (if (!worse (lst l) x) = true then s ++ [x] else s).length ≤ _
      split
      · simp; omega
      · omega)
    (by
      intro s _
      show (core_Minimal_l2 (lst l) s ((lst l).length : Int)).val = _
      unfold core_Minimal_l2
      simp only [Comp.val_ite, Comp.val_pure]
      rw [if_neg (by simp)]; rfl)
    (Nat.le_refl _)
  rw [this, Option.bind_some]
  simp only [core_Minimal_j1, Comp.val_pure, id, Comp.foldl_filter, List.nil_append]
  rfl
end Go.Cor
