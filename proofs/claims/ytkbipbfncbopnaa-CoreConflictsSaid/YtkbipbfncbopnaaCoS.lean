/- Core: the law of what is refused, plainly. No statement of the program stands here. -/
import Derived.Test.YtkbipbfncbopnaaCoR
namespace Go.Cor
open Go Go.Lift Go.F
theorem mem_up_get {F : List Nat} {i x : Nat} (h : F[i]? = some x) : (up F)[i]? = some (x : Int) := by unfold up; rw [List.getElem?_map, h]; rfl
/-- a conflict without any of its elements is ok -/
theorem r3_val {z : Int} {m x : Nat} {P : Nat → Bool} (hz : Int.tmod (IntKind.wrap .i64 z) 7 = (m : Int)) (hm : m ≤ 6) (hx : x < 2 ^ m) (hb : belowB P m x = true) :
    (Comp.loop (fun s => colletlaw32_CoreRefuses_l3 z (x : Int) (own (2 ^ m) P) s) 0).val = some (.inr ()) := by
  have hp : 2 ^ m ≤ 64 := Nat.pow_le_pow_right (n := 2) (by omega) hm
  have := Comp.loop_any (body := fun s => colletlaw32_CoreRefuses_l3 z (x : Int) (own (2 ^ m) P) s) (List.range m) (fun _ => false) false
    (by
      intro i k hk
      obtain ⟨hi, rfl⟩ := range_get hk
      have h2 : 2 ^ k ≤ 64 := Nat.pow_le_pow_right (n := 2) (by omega) (by omega : k ≤ 6)
      have hw := without_le x (2 ^ k)
      have e : (idx (own (2 ^ m) P) (andNotB .i64 (x : Int) (shlF .i64 1 (k : Int)))).val = some (P (without x (2 ^ k))) := by
        rw [shlF_nat (by omega), andNotB_nat (by omega) (by omega), idx_val (own_get (by omega))]
      unfold colletlaw32_CoreRefuses_l3
      rw [hz, decide_lt_nat, Comp.val_bind, Comp.val_pure, Option.bind_some, Comp.val_ite, if_pos (by simpa using hi), Comp.val_bind, nonneg_val (by omega), Option.bind_some, bit_eq (by omega) (by omega)]
      cases ht : x.testBit k with
      | false => simp [Comp.val_bind, Comp.val_gd, Comp.wrap_succ (i := k) (by omega)]
      | true =>
        have hP : P (without x (2 ^ k)) = true := by
          unfold belowB at hb
          rw [List.all_eq_true] at hb
          have := hb k (List.mem_range.2 hi)
          simpa [ht] using this
        rw [Comp.val_bind, Comp.val_gd, if_pos (by simp), nonneg_val (by omega), Option.bind_some, Comp.val_bind, Comp.val_gd, if_pos (by simp), e, Option.bind_some, Comp.val_bind, Comp.val_pure, Option.bind_some, Comp.val_ite, hP]
        simp [Comp.wrap_succ (i := k) (by omega)])
    (by
      unfold colletlaw32_CoreRefuses_l3
      rw [hz, List.length_range, Comp.val_bind, Comp.val_pure, Option.bind_some, Comp.val_ite, if_neg (by simp), Comp.val_pure])
  rw [this]; simp
theorem law_CoreRefuses {l : List Int} {z y : Int} (hz : (Lit.int .u8 z).wf = true) (hy : (Lit.int .u8 y).wf = true) : (colletlaw32_CoreRefuses l z y).val = some true := by
  obtain ⟨b, hb, rfl⟩ := wf_u8 hz
  obtain ⟨c, hc, rfl⟩ := wf_u8 hy
  have hm7 := mod7 hb
  have hm : b % 7 ≤ 6 := by omega
  have hp : 2 ^ (b % 7) ≤ 64 := Nat.pow_le_pow_right (n := 2) (by omega) hm
  have hpp : 0 < 2 ^ (b % 7) := Nat.two_pow_pos _
  have hLIM : LIM = 1073741824 := rfl
  unfold colletlaw32_CoreRefuses
  rw [hm7]
  generalize b % 7 = m at *
  obtain ⟨L, h1, hLm, h8⟩ := sets_val (l := l) (m := m) (by omega)
  have hL62 : ∀ x ∈ L, x < 4611686018427387904 := fun x hx => by have := hLm x hx; omega
  have h2 := closed_val (L := L) (m := m) (by omega) hL62 (by omega)
  have hd : ∀ s t, under L s = true → Sub t s → under L t = true := fun s t h k => under_down h k
  generalize under L = P at *
  have h3 := conflicts_val hm hd
  have hCm : ∀ x ∈ conf P m, x < 2 ^ m := fun x hx => ((mem_conf hd).1 hx).1
  have hClen : (conf P m).length ≤ 64 := by
    unfold conf
    exact Nat.le_trans (List.length_filter_le _ _) (by rw [List.length_range]; exact hp)
  obtain ⟨s, hs, hrem⟩ : ∃ s : Nat, s < 2 ^ m ∧ (rem (IntKind.wrap .i64 (c : Int)) ((2 ^ m : Nat) : Int)).val = some (s : Int) := ⟨c % 2 ^ m, Nat.mod_lt _ hpp, rem_pow (by omega)⟩
  -- the conflicts
  have hl2 := Comp.loop_fold (body := fun st => colletlaw32_CoreRefuses_l2 (up (conf P m), 0) (s : Int) (own (2 ^ m) P) (b : Int) st.1 st.2) (conf P m) (fun bb x => bb || decide (s &&& x = x)) (fun bb => (.inr bb : Sum Bool Bool)) (fun _ _ => True) false
    (by
      intro bb i x hx _
      have hi := getElem?_len hx
      have hmem := List.mem_of_getElem? hx
      have hxm := hCm x hmem
      have hx' := mem_up_get hx
      have hcf : P x = false ∧ belowB P m x = true := by
        have := (List.mem_filter.1 hmem).2
        simpa using this
      have hl3 := r3_val hm7 hm hxm hcf.2
      show (colletlaw32_CoreRefuses_l2 (up (conf P m), 0) (s : Int) (own (2 ^ m) P) (b : Int) bb (i : Int)).val = _
      unfold colletlaw32_CoreRefuses_l2
      have e1 : decide ((x : Int) < 0) = false := by rw [decide_eq_false_iff_not]; omega
      have e2 : decide ((x : Int) ≥ ((2 ^ m : Nat) : Int)) = false := by rw [decide_eq_false_iff_not]; omega
      have e3 : decide (((s &&& x : Nat) : Int) = (x : Int)) = decide (s &&& x = x) := by
        congr 1; exact propext ⟨fun h => by omega, fun h => by rw [h]⟩
      have hor : (bif bb then true else decide (s &&& x = x)) = (bb || decide (s &&& x = x)) := by cases bb <;> rfl
      rw [decide_lt_len, Comp.val_ite, if_pos (by simpa [up_len] using hi), Comp.val_bind, idx_val hx', Option.bind_some, andB_nat (by omega) (by omega), e3, own_len, e1, e2, hor, Comp.val_bind, Comp.val_pure, Option.bind_some, Comp.val_bind, Comp.val_gd, if_pos (by simp), idx_val (own_get hxm), Option.bind_some, Comp.val_bind, Comp.val_pure, Option.bind_some, hcf.1, Comp.val_ite, if_neg (by simp), Comp.val_bind, hl3, Option.bind_some]
      show (Comp.pure _).val = _
      rw [Comp.val_pure, Comp.wrap_succ (by omega)])
    (fun _ _ _ _ _ => trivial)
    (by
      intro bb _
      show (colletlaw32_CoreRefuses_l2 (up (conf P m), 0) (s : Int) (own (2 ^ m) P) (b : Int) bb ((conf P m).length : Int)).val = _
      unfold colletlaw32_CoreRefuses_l2
      rw [Comp.val_ite, if_neg (by simp [up_len]), Comp.val_pure])
    trivial
  rw [Comp.foldl_any, Bool.false_or] at hl2
  have hcon : ((conf P m).any fun x => decide (s &&& x = x)) = !P s := by
    cases hP : P s with
    | false =>
      obtain ⟨x, h4, h5⟩ := (contains_iff hd hs).2 hP
      exact List.any_eq_true.2 ⟨x, h4, by simpa using sub_iff.2 h5⟩
    | true =>
      show _ = false
      rw [List.any_eq_false]
      intro x hx h
      have := (contains_iff hd hs).1 ⟨x, hx, sub_iff.1 (by simpa using h)⟩
      rw [hP] at this; cases this
  rw [hcon] at hl2
  -- what hits them
  obtain ⟨H, h4, h4'⟩ := hitting_val (n := m) (by omega) hCm (by omega)
  obtain ⟨F, rfl, hF⟩ := h4'.ex
  have hFlt := Fam.lt hCm hF
  have hFlen := inc_up_len h4'.inc hFlt
  have hl5 := Comp.loop_fold (body := fun st => colletlaw32_CoreRefuses_l5 (up F, 0) (b : Int) (s : Int) st.1 st.2) F (fun bb x => bb || decide (compl m x = s)) id (fun _ _ => True) false
    (by
      intro bb i x hx _
      have hi := getElem?_len hx
      have hxm := hFlt x (List.mem_of_getElem? hx)
      have hx' := mem_up_get hx
      show (colletlaw32_CoreRefuses_l5 (up F, 0) (b : Int) (s : Int) bb (i : Int)).val = _
      unfold colletlaw32_CoreRefuses_l5
      have e1 : IntKind.wrap .i64 (IntKind.wrap .i64 (((2 ^ m : Nat) : Int) - 1) - (x : Int)) = ((compl m x : Nat) : Int) := by
        rw [compl_eq hxm, IntWalk.i64_in (((2 ^ m : Nat) : Int) - 1) ⟨by omega, by omega⟩, IntWalk.i64_in _ ⟨by omega, by omega⟩]
        omega
      have e3 : decide (((compl m x : Nat) : Int) = (s : Int)) = decide (compl m x = s) := by
        congr 1; exact propext ⟨fun h => by omega, fun h => by rw [h]⟩
      have hor : (bif bb then true else decide (compl m x = s)) = (bb || decide (compl m x = s)) := by cases bb <;> rfl
      rw [decide_lt_len, Comp.val_ite, if_pos (by simpa [up_len] using hi), Comp.val_bind, idx_val hx', Option.bind_some, hm7, shlF_nat (by omega), e1, e3, hor, Comp.val_bind, Comp.val_gd, nonneg_val (by omega)]
      have e5 : (if (bb == false) = true then some () else some default) = some () := by cases bb <;> rfl
      rw [e5, Option.bind_some, Comp.val_bind, Comp.val_pure, Option.bind_some, Comp.val_pure, Comp.wrap_succ (by omega)])
    (fun _ _ _ _ _ => trivial)
    (by
      intro bb _
      show (colletlaw32_CoreRefuses_l5 (up F, 0) (b : Int) (s : Int) bb (F.length : Int)).val = _
      unfold colletlaw32_CoreRefuses_l5
      rw [Comp.val_ite, if_neg (by simp [up_len]), Comp.val_pure]; rfl)
    trivial
  rw [Comp.foldl_any, Bool.false_or] at hl5
  have hthere : (F.any fun x => decide (compl m x = s)) = greatest P m s := by
    cases hg : greatest P m s with
    | true =>
      refine List.any_eq_true.2 ⟨compl m s, (hF _).2 ((greatest_iff hd hs).1 hg), ?_⟩
      rw [decide_eq_true_iff, compl_eq (compl_lt m s), compl_eq hs]; omega
    | false =>
      rw [List.any_eq_false]
      intro x hx h
      have hxm := hFlt x hx
      have : x = compl m s := by
        rw [decide_eq_true_iff, compl_eq hxm] at h
        rw [compl_eq hs]; omega
      subst this
      rw [(greatest_iff hd hs).2 ((hF _).1 hx)] at hg; cases hg
  rw [hthere] at hl5
  have hl7 := Comp.loop_fold (body := fun st => colletlaw32_CoreRefuses_l7 (b : Int) (s : Int) (own (2 ^ m) P) st.1 st.2) (List.range m) (fun bb i => bb && (s.testBit i || !P (s ||| 2 ^ i))) id (fun _ _ => True) (P s)
    (by
      intro bb i k hk _
      obtain ⟨hi, rfl⟩ := range_get hk
      have h2 : 2 ^ k ≤ 64 := Nat.pow_le_pow_right (n := 2) (by omega) (by omega : k ≤ 6)
      show (colletlaw32_CoreRefuses_l7 (b : Int) (s : Int) (own (2 ^ m) P) bb (k : Int)).val = _
      have e : (idx (own (2 ^ m) P) (orB .i64 (s : Int) (shlF .i64 1 (k : Int)))).val = some (P (s ||| 2 ^ k)) := by
        rw [shlF_nat (by omega), orB_nat (by omega) (by omega), idx_val (own_get (or_lt hs hi))]
      unfold colletlaw32_CoreRefuses_l7
      rw [hm7, decide_lt_nat, Comp.val_bind, Comp.val_pure, Option.bind_some, Comp.val_ite, if_pos (by simpa using hi), bit_eq (by omega) (by omega), Comp.val_bind, Comp.val_gd, nonneg_val (by omega)]
      cases bb with
      | false => simp [Comp.val_bind, Comp.val_gd, Comp.wrap_succ (i := k) (by omega)]
      | true =>
        cases ht : s.testBit k with
        | true => simp [Comp.val_bind, Comp.val_gd, Comp.wrap_succ (i := k) (by omega)]
        | false =>
          rw [if_pos (by simp), Option.bind_some, Comp.val_bind, Comp.val_gd, if_pos (by simp), nonneg_val (by omega), Option.bind_some, Comp.val_bind, Comp.val_gd, if_pos (by simp), e, Option.bind_some, Comp.val_bind, Comp.val_pure, Option.bind_some, Comp.val_pure, Comp.wrap_succ (by omega)]
          simp)
    (fun _ _ _ _ _ => trivial)
    (by
      intro bb _
      show (colletlaw32_CoreRefuses_l7 (b : Int) (s : Int) (own (2 ^ m) P) bb ((List.range m).length : Int)).val = _
      unfold colletlaw32_CoreRefuses_l7
      rw [hm7, List.length_range, Comp.val_bind, Comp.val_pure, Option.bind_some, Comp.val_ite, if_neg (by simp), Comp.val_pure]; rfl)
    trivial
  rw [Comp.foldl_all] at hl7
  have hl7' : (Comp.loop (fun st => colletlaw32_CoreRefuses_l7 (b : Int) (s : Int) (own (2 ^ m) P) st.1 st.2) (P s, 0)).val = some (greatest P m s) := hl7
  rw [Comp.val_bind, sanity_val, Option.bind_some, Comp.val_bind, h1, Option.bind_some, Comp.val_bind, h2, Option.bind_some, Comp.val_bind, h3, Option.bind_some, Comp.val_ite, if_neg (by simp), Comp.val_bind, nonneg_val (by omega), Option.bind_some, shlF_nat (by omega), Comp.val_bind, hrem, Option.bind_some, Comp.val_bind, hl2, Option.bind_some]
  show (colletlaw32_CoreRefuses_j1 (up (conf P m), 0) (b : Int) (own (2 ^ m) P) (s : Int) true (!P s)).val = some true
  unfold colletlaw32_CoreRefuses_j1
  have e9 : (bif (decide ((0 : Int) ≠ 0)) then true else (decide ((!P s) = P s))) = false := by cases P s <;> rfl
  rw [hm7, Comp.val_bind, h4, Option.bind_some, Comp.val_bind, Comp.val_gd, if_pos (by simp), idx_val (own_get hs), Option.bind_some, Comp.val_bind, Comp.val_pure, Option.bind_some, e9, Comp.val_ite, if_neg (by simp), Comp.val_bind, hl5, Option.bind_some]
  unfold colletlaw32_CoreRefuses_j4
  rw [Comp.val_bind, idx_val (own_get hs), Option.bind_some, Comp.val_bind, hl7', Option.bind_some]
  simp [colletlaw32_CoreRefuses_j6, Comp.val_bind]
end Go.Cor
