/- Core: the theorem of duality, plainly. No statement of the program stands here. -/
import Derived.Test.YtkbipbfncbopnaaCoH
set_option linter.unusedVariables false
set_option linter.unusedSimpArgs false
namespace Go.Cor
open Go Go.Lift Go.F
theorem wf_u8 {n : Int} (h : (Lit.int .u8 n).wf = true) : ∃ b : Nat, b < 256 ∧ n = (b : Int) := by
  have h2 : 0 ≤ n ∧ n < 256 := by
    simp [Lit.wf, IntKind.min, IntKind.max, IntKind.bits, IntKind.signed] at h
    omega
  exact ⟨n.toNat, by omega, by omega⟩
theorem wf_u16 {n : Int} (h : (Lit.int .u16 n).wf = true) : ∃ b : Nat, b < 65536 ∧ n = (b : Int) := by
  have h2 : 0 ≤ n ∧ n < 65536 := by
    simp [Lit.wf, IntKind.min, IntKind.max, IntKind.bits, IntKind.signed] at h
    omega
  exact ⟨n.toNat, by omega, by omega⟩
theorem wf_i64 {n : Int} (h : (Lit.int .i64 n).wf = true) : -9223372036854775808 ≤ n ∧ n ≤ 9223372036854775807 := by
  simp [Lit.wf, IntKind.min, IntKind.max, IntKind.bits, IntKind.signed] at h
  omega
theorem mod7 {b : Nat} (h : b < 256) : Int.tmod (IntKind.wrap .i64 (b : Int)) 7 = ((b % 7 : Nat) : Int) := by
  rw [wrap_nat (by omega), Int.tmod_eq_emod_of_nonneg (by omega)]; omega
theorem mod_val {z : Int} {m : Nat} (hm : 0 < m) (hm2 : m ≤ 4611686018427387904) : ∃ k : Nat, k < m ∧ (colletref01_Mod z (m : Int)).val = some (k : Int) := by
  unfold colletref01_Mod
  have h1 : -(m : Int) < z.tmod m ∧ z.tmod m < m := ⟨Int.lt_tmod_of_pos _ (by omega), Int.tmod_lt_of_pos _ (by omega)⟩
  rw [Comp.val_ite, if_neg (by simp; omega), Comp.val_bind, rem_val (by omega), Option.bind_some, Comp.val_bind, rem_val (by omega), Option.bind_some, Comp.val_pure]
  rw [IntWalk.i64_in _ ⟨by omega, by omega⟩]
  have h2 : 0 ≤ z.tmod m + m := by omega
  refine ⟨((z.tmod m + m).tmod m).toNat, ?_, ?_⟩
  · have h3 := Int.tmod_lt_of_pos (z.tmod m + m) (b := (m : Int)) (by omega)
    have h4 := Int.tmod_nonneg (m : Int) h2
    omega
  · have h4 := Int.tmod_nonneg (m : Int) h2
    rw [Int.toNat_of_nonneg h4]
theorem sets_val {l : List Int} {m : Nat} (hm : m ≤ 10) : ∃ L : List Nat, (colletref32_Sets l (m : Int)).val = some (up L) ∧ (∀ s ∈ L, s < 2 ^ m) ∧ L.length ≤ 8 := by
  have hb : 2 ^ m ≤ 1024 := Nat.pow_le_pow_right (n := 2) (by omega) hm
  have hp : 0 < 2 ^ m := Nat.two_pow_pos m
  let f : Int → Nat := fun z => (mod_val (z := z) hp (by omega)).choose
  have hf : ∀ z, f z < 2 ^ m ∧ (colletref01_Mod z ((2 ^ m : Nat) : Int)).val = some ((f z : Nat) : Int) := fun z => (mod_val (z := z) hp (by omega)).choose_spec
  refine ⟨(l.take 8).map f, ?_, fun s hs => ?_, by simp; omega⟩
  · unfold colletref32_Sets
    have := Comp.loop_fold (body := fun s => colletref32_Sets_l2 l (m : Int) s.1 s.2) (l.take 8) (fun acc z => acc ++ [((f z : Nat) : Int)]) id (fun a i => a.length ≤ i) []
      (by
        intro a i x hx hI
        have hi := getElem?_len hx
        rw [List.length_take] at hi
        have hx' : l[i]? = some x := by rw [List.getElem?_take, if_pos (by omega)] at hx; exact hx
        have hL : LIM = 1073741824 := rfl
        show (colletref32_Sets_l2 l (m : Int) a (i : Int)).val = _
        unfold colletref32_Sets_l2
        have e : (bif (decide ((i : Int) < (l.length : Int))) then (decide ((i : Int) < 8)) else false) = true := by
          rw [show decide ((i : Int) < (l.length : Int)) = true by rw [decide_eq_true_iff]; omega, show decide ((i : Int) < 8) = true by rw [decide_eq_true_iff]; omega]; rfl
        rw [e, Comp.val_bind, Comp.val_pure, Option.bind_some, Comp.val_ite, if_pos rfl, Comp.val_bind, idx_val hx', Option.bind_some, Comp.val_bind, nonneg_val (by omega), Option.bind_some, shlF_nat (by omega), Comp.val_bind, (hf x).2, Option.bind_some, Comp.val_bind, app_val (by simp; omega), Option.bind_some, Comp.val_pure, Comp.wrap_succ (by omega)])
      (by
        intro a i x _ hI
        show (a ++ [((f x : Nat) : Int)]).length ≤ _
        simp; omega)
      (by
        intro a _
        show (colletref32_Sets_l2 l (m : Int) a ((l.take 8).length : Int)).val = _
        unfold colletref32_Sets_l2
        have e : (bif (decide (((l.take 8).length : Int) < (l.length : Int))) then (decide (((l.take 8).length : Int) < 8)) else false) = false := by
          rw [List.length_take]
          by_cases h8 : l.length ≤ 8
          · rw [show decide (((min 8 l.length : Nat) : Int) < (l.length : Int)) = false by rw [decide_eq_false_iff_not]; omega]; rfl
          · rw [show decide (((min 8 l.length : Nat) : Int) < 8) = false by rw [decide_eq_false_iff_not]; omega]; simp
        rw [e, Comp.val_bind, Comp.val_pure, Option.bind_some, Comp.val_ite, if_neg (by simp), Comp.val_pure]; rfl)
      (Nat.le_refl _)
    rw [Comp.val_bind, this, Option.bind_some]
    unfold colletref32_Sets_j1
    rw [Comp.val_pure]
    congr 1
    have e : ∀ (xs : List Int) (ys : List Int), xs.foldl (fun acc z => acc ++ [((f z : Nat) : Int)]) ys = ys ++ up (xs.map f) := by
      intro xs
      induction xs with
      | nil => intro ys; simp [up]
      | cons x xs ih => intro ys; rw [List.foldl_cons, ih]; simp [up]
    rw [id, e, List.nil_append]
  · obtain ⟨z, _, rfl⟩ := List.mem_map.1 hs
    exact (hf z).1
theorem sanity_val : colletlaw32_sanity.val = some true := Comp.val_run (n := 64) (by kernel_rfl)
/-- minimal sets of a family that has no two comparable ones -/
theorem fam_minimal {n : Nat} (hn : n ≤ 10) {L : List Nat} (hL : ∀ s ∈ L, s < 2 ^ n) {l : List Int} (h : Fam n L l) : minimal l = l := by
  have hb : 2 ^ n ≤ 1024 := Nat.pow_le_pow_right (n := 2) (by omega) hn
  obtain ⟨F, rfl, hF⟩ := h.ex
  refine inc_ext (minimal_inc _) h.inc fun x => ?_
  rw [minimal_mem, isMin_up (fun x hx => by have := Fam.lt hL hF x hx; omega), mem_up']
  constructor
  · rintro ⟨y, rfl, h1, _⟩; exact ⟨y, h1, rfl⟩
  · rintro ⟨y, h1, rfl⟩
    exact ⟨y, rfl, h1, fun g hg hs => ((hF y).1 h1).2 g ((hF g).1 hg).1 hs⟩
theorem law_CoreDuality {l : List Int} {z : Int} (hz : (Lit.int .u8 z).wf = true) : (colletlaw32_CoreDuality l z).val = some true := by
  obtain ⟨b, hb, rfl⟩ := wf_u8 hz
  have hm7 := mod7 hb
  have hm : b % 7 ≤ 10 := by omega
  have hp : 2 ^ (b % 7) ≤ 1024 := Nat.pow_le_pow_right (n := 2) (by omega) hm
  have hL : LIM = 1073741824 := rfl
  unfold colletlaw32_CoreDuality
  simp only [hm7]
  generalize b % 7 = m at *
  obtain ⟨L, h1, hLm, h8⟩ := sets_val (l := l) hm
  have hL62 : ∀ x ∈ L, x < 4611686018427387904 := fun x hx => by have := hLm x hx; omega
  obtain ⟨M, hM, hMm⟩ := minimal_up hL62
  have hMlt : ∀ s ∈ M, s < 2 ^ m := fun s hs => hLm s ((hMm s).1 hs).1
  have hMlen : M.length ≤ 8 := by rw [← up_len, ← hM]; have := minimal_len (up L); rw [up_len] at this; omega
  have h2 : (core_Minimal (up L)).val = some (up M) := by rw [minimal_val (by rw [up_len]; omega), hM]
  obtain ⟨H, h3, h3'⟩ := hitting_val hm hLm (by omega)
  obtain ⟨F, rfl, hF⟩ := h3'.ex
  have hFlt := Fam.lt hLm hF
  have hFlen := inc_up_len h3'.inc hFlt
  obtain ⟨B, h4, h4'⟩ := hitting_val hm hFlt (by omega)
  obtain ⟨A, h5, h5'⟩ := hitting_val hm hMlt (by omega)
  have eB : B = up M := by
    refine Fam.unique (n := m) h4' ⟨⟨M, rfl, fun h => ?_⟩, by rw [← hM]; exact minimal_inc _⟩
    rw [hMm, min_dual hLm hF]
  have eA : A = up F := by
    refine Fam.unique (n := m) h5' ⟨⟨F, rfl, fun h => ?_⟩, h3'.inc⟩
    rw [hF]
    exact min_congr (fun x => (hits_min hMm x).symm) h
  have eF : minimal (up F) = up F := fam_minimal hm hLm h3'
  have eM : minimal (up M) = up M := by
    refine inc_ext (minimal_inc _) (by rw [← hM]; exact minimal_inc _) fun x => ?_
    rw [minimal_mem, isMin_up (fun x hx => by have := hMlt x hx; omega), mem_up']
    constructor
    · rintro ⟨y, rfl, h, _⟩; exact ⟨y, h, rfl⟩
    · rintro ⟨y, h, rfl⟩
      exact ⟨y, rfl, h, fun g hg hs => ((hMm y).1 h).2 g ((hMm g).1 hg).1 hs⟩
  have h6 : (core_Minimal (up F)).val = some (up F) := by rw [minimal_val (by rw [up_len]; omega), eF]
  have h7 : (core_Minimal (up M)).val = some (up M) := by rw [minimal_val (by rw [up_len]; omega), eM]
  subst eB eA
  simp only [Comp.val_bind, sanity_val, Option.bind_some, h1, h2, h3, h4, h5, h6, h7, Comp.val_gd, same_val (a := up M) (by rw [up_len]; omega), same_val (a := up F) (by rw [up_len]; omega), Comp.val_pure]
  simp [h6, h7, same_val (a := up M) (by rw [up_len]; omega), same_val (a := up F) (by rw [up_len]; omega)]
end Go.Cor
