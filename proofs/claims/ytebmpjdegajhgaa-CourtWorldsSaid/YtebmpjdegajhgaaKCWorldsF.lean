/- For every case, CourtWorlds returns true, and its arguments read afterwards as before; no condition. -/
import Derived.Test.YtebmpjdegajhgaaKCWorldsE
import Derived.SliceStrings
import Derived.ChangeSlices
import Derived.Lib.SmallJoins
import Derived.OpenShut
import Derived.ShutString
import Derived.ChangeOld
import Derived.Test.YtebmpjdegajhgaaRows
import Derived.WalkKit
import Derived.ProofKit
import Derived.Below
set_option linter.unusedSimpArgs false
set_option linter.unusedVariables false
section
set_option linter.unusedVariables false
set_option linter.unusedSimpArgs false
namespace Go.Crt
open Go Go.Lift Go.F Go.Cor
variable {α : Type}
theorem loop_find {xs : List α} (p : α → Bool) {body : Int → Comp (Comp.Step Int (Sum Int Unit))} (hb : ∀ (i : Nat) x, xs[i]? = some x → (body i).val = some (if p x = true then .done (.inl (i : Int)) else .next ((i + 1 : Nat) : Int)))
  (he : (body xs.length).val = some (.done (.inr ()))) :
  ∃ e, (Comp.loop body 0).val = some e ∧ ((e = .inr () ∧ xs.any p = false) ∨ ∃ i : Nat, e = .inl (i : Int) ∧ i < xs.length ∧ (∃ x, xs[i]? = some x ∧ p x = true) ∧ (xs.take i).any p = false) := by
 have key : Ok (Comp.loop body 0) (fun e => (e = .inr () ∧ xs.any p = false) ∨ ∃ i : Nat, e = .inl (i : Int) ∧ i < xs.length ∧ (∃ x, xs[i]? = some x ∧ p x = true) ∧ (xs.take i).any p = false) := by
  refine Ok.count xs.length (fun i (s : Int) => s = (i : Int) ∧ (xs.take i).any p = false) ⟨rfl, by simp⟩ ?_ ?_
  ·rintro i s hi ⟨rfl, ha⟩
   have hx := List.getElem?_eq_getElem hi
   rw [Ok.of_val (hb i _ hx)]
   by_cases h : p xs[i] = true
   ·rw [if_pos h]; exact .inr ⟨i, rfl, hi, ⟨_, hx, h⟩, ha⟩
   ·rw [if_neg h]
    refine ⟨rfl, ?_⟩
    rw [List.take_succ_eq_append_getElem hi, List.any_append, ha]; simpa using h
  ·rintro s ⟨rfl, ha⟩
   rw [Ok.of_val he]
   exact .inl ⟨rfl, by rwa [List.take_length] at ha⟩
 obtain ⟨e, h1, h2⟩ := key
 exact ⟨e, h1, h2⟩
theorem any_of_get {xs : List α} {p : α → Bool} {i : Nat} (h : ∃ x, xs[i]? = some x ∧ p x = true) : xs.any p = true := by
 obtain ⟨x, h1, h2⟩ := h
 exact List.any_eq_true.2 ⟨x, List.mem_of_getElem? h1, h2⟩
theorem contains_any (x : Int) : ∀ l : List Int, l.contains x = l.any fun y => decide (x = y)
 | [] => rfl
 | y :: l => by rw [List.contains_cons, List.any_cons, contains_any x l]; rfl
theorem has_val {l : List Int} (x : Int) (hl : l.length ≤ LIM) : (slices_Contains_int_int l x).val = some (l.contains x) := by
 have hL := LIM_lt
 obtain ⟨e, h1, h2⟩ := loop_find (xs := l) (fun y => decide (x = y)) (body := fun s => slices_Index_int_int_l2 l x s) (by
  intro i y hy
  have hi := getElem?_len hy
  unfold slices_Index_int_int_l2
  rw [decide_lt_len, Comp.val_ite, if_pos (by simpa using hi), Comp.val_bind, idx_val hy, Option.bind_some, Comp.val_ite]
  by_cases h : x = y
  ·simp [h]
  ·simp [h, Comp.wrap_succ (show i < 9223372036854775807 by omega)]) (by
  unfold slices_Index_int_int_l2
  rw [Comp.val_ite, if_neg (by simp), Comp.val_pure])
 have hc := contains_any x l
 unfold slices_Contains_int_int slices_Index_int_int
 rw [Comp.val_bind, Comp.val_bind, h1, Option.bind_some, hc]
 rcases h2 with ⟨rfl, h3⟩ | ⟨i, rfl, _, h3, _⟩
 ·rw [h3]; simp [slices_Index_int_int_j1]
 ·rw [any_of_get h3]; simp
def incB : List Int → Bool
 | [] => true
 | [_] => true
 | x :: y :: l => decide (x < y) && incB (y :: l)
theorem incB_iff : ∀ {l : List Int}, incB l = true ↔ ∀ i, i + 1 < l.length → l[i]! < l[i + 1]!
 | [] => by simp [incB]
 | [_] => by simp [incB]
 | x :: y :: l => by
  rw [incB, Bool.and_eq_true, decide_eq_true_iff, incB_iff]
  constructor
  ·rintro ⟨h1, h2⟩ i hi
   cases i with
   | zero => simpa using h1
   | succ i => simpa using h2 i (by simpa using hi)
  ·intro h
   refine ⟨by simpa using h 0 (by simp), fun i hi => by simpa using h (i + 1) (by simpa using hi)⟩
theorem less_val (a b : Int) : (cmp_Less_int a b).val = some (decide (a < b)) := by
 unfold cmp_Less_int cmp_isNaN_int
 simp [Comp.val_bind, Comp.val_pure, Comp.gd]
def sortedB (l : List Int) : Bool := decide (∀ i, i < l.length - 1 → l[i]! ≤ l[i + 1]!)
theorem issorted_val {l : List Int} (hl : l.length ≤ LIM) : (slices_IsSorted_int_int l).val = some (sortedB l) := by
 have hL := LIM_lt
 have key : Ok (slices_IsSorted_int_int l) (fun b => b = sortedB l) := by
  unfold slices_IsSorted_int_int
  rw [Ok.bind, Ok.pure, Ok.bind]
  refine Ok.mono (P := fun e => (e = .inr () ∧ sortedB l = true) ∨ (e = .inl false ∧ sortedB l = false)) ?_ (fun e he => by
   rcases he with ⟨rfl, h⟩ | ⟨rfl, h⟩
   ·unfold slices_IsSorted_int_int_j1; exact Ok.pure.2 h.symm
   ·exact Ok.pure.2 h.symm)
  refine Ok.loop (fun s : Int => s < l.length ∧ -1 ≤ s ∧ ∀ j : Nat, s ≤ (j : Int) → j + 1 < l.length → l[j]! ≤ l[j + 1]!) (fun s => (s + 1).toNat) ⟨?_, ?_, ?_⟩ ?_
  ·rw [IntWalk.i64_in _ ⟨by omega, by omega⟩]; omega
  ·rw [IntWalk.i64_in _ ⟨by omega, by omega⟩]; omega
  ·rw [IntWalk.i64_in _ ⟨by omega, by omega⟩]; intro j h1 h2; omega
  rintro s ⟨h1, h2, h3⟩
  unfold slices_IsSorted_int_int_l2
  by_cases hs : 0 < s
  ·obtain ⟨i, rfl⟩ : ∃ i : Nat, s = (i : Int) := ⟨s.toNat, by omega⟩
   have hlt : i < l.length := by omega
   have e1 : IntKind.wrap .i64 ((i : Int) - 1) = ((i - 1 : Nat) : Int) := by rw [IntWalk.i64_in _ ⟨by omega, by omega⟩]; omega
   have g1 : l[i]? = some l[i]! := by rw [getElem!_pos l i hlt]; exact List.getElem?_eq_getElem hlt
   have g2 : l[i - 1]? = some l[i - 1]! := by rw [getElem!_pos l (i - 1) (by omega)]; exact List.getElem?_eq_getElem (by omega)
   rw [Ok.ite, if_pos (by simpa using hs), Ok.bind, Ok.idxn g1, Ok.bind, e1, Ok.idxn g2, Ok.bind, Ok.of_val (less_val _ _)]
   refine Ok.ite_i (fun hc => ?_) (fun hc => ?_)
   ·rw [decide_eq_true_iff] at hc
    rw [Ok.pure]
    refine .inr ⟨rfl, ?_⟩
    unfold sortedB
    rw [decide_eq_false_iff_not]
    intro ha
    have := ha (i - 1) (by omega)
    rw [show i - 1 + 1 = i by omega] at this
    omega
   ·rw [decide_eq_true_iff] at hc
    rw [Ok.pure]
    refine ⟨⟨by omega, by omega, fun j hj hj2 => ?_⟩, by omega⟩
    by_cases hji : j + 1 = i
    ·subst hji; rw [show j + 1 - 1 = j by omega] at hc; omega
    ·exact h3 j (by omega) hj2
  ·rw [Ok.ite, if_neg (by simpa using hs), Ok.pure]
   refine .inl ⟨rfl, ?_⟩
   unfold sortedB
   rw [decide_eq_true_iff]
   intro j hj
   exact h3 j (by omega) (by omega)
 exact Ok.val key
theorem keeps_all {l : List Int} (hs : sortedB l = true) : (Lib.compact l).length = l.length ↔ incB l = true := by
 unfold sortedB at hs
 rw [decide_eq_true_iff] at hs
 have e : (Lib.compact l).length = l.length ↔ ∀ j ∈ List.range l.length, Lib.keeps l.toArray j = true := by
  have h := List.length_filter_eq_length_iff (l := List.range l.length) (p := fun j => Lib.keeps l.toArray j)
  rw [List.length_range] at h
  unfold Lib.compact Lib.compactUpTo
  rw [List.length_map]
  exact h
 rw [e, incB_iff]
 constructor
 ·intro h i hi
  have h1 := hs i (by omega)
  rcases keeps_iff.1 (h (i + 1) (List.mem_range.2 hi)) with h2 | h2
  ·omega
  ·have h3 : l[i + 1]! ≠ l[i]! := by simpa using h2
   omega
 ·intro h j hj
  rw [keeps_iff]
  have hj' := List.mem_range.1 hj
  by_cases h0 : j = 0
  ·exact .inl h0
  ·right
   have h1 := h (j - 1) (by omega)
   rw [show j - 1 + 1 = j by omega] at h1
   have h2 : l[j]! ≠ l[j - 1]! := by omega
   simpa using h2
theorem inc_sorted {l : List Int} (h : incB l = true) : sortedB l = true := by
 unfold sortedB
 rw [decide_eq_true_iff]
 intro i hi
 have := incB_iff.1 h i (by omega)
 omega
theorem sorted_val {l : List Int} (hl : l.length ≤ LIM) : (court_sorted l).val = some (incB l) := by
 unfold court_sorted
 rw [Comp.val_bind, issorted_val hl, Option.bind_some]
 cases hs : sortedB l with
 | false =>
  have hi : incB l = false := by
   cases h : incB l with
   | false => rfl
   | true => rw [inc_sorted h] at hs; cases hs
  simp [Comp.val_bind, Comp.gd, Comp.val_pure, hi]
 | true =>
  have hc : (slices_Clone_int_int l).val = some l := by
   unfold slices_Clone_int_int
   rw [Comp.val_bind, app_val (by simpa using hl), Option.bind_some, Comp.val_pure, List.nil_append]
  have hk : (compactI l).val = some (Lib.compact l) := by unfold compactI; rw [if_pos hl, Comp.val_pure]
  rw [show (true == true) = true from rfl, Comp.val_bind]
  show ((slices_Clone_int_int l).val.bind _) = _
  rw [hc, Option.bind_some, Comp.val_bind]
  show ((compactI l).val.bind _) = _
  rw [hk, Option.bind_some, Comp.val_bind, Comp.val_pure, Option.bind_some, Comp.val_pure]
  congr 1
  show decide (((Lib.compact l).length : Int) = (l.length : Int)) = incB l
  cases h : incB l with
  | true => rw [decide_eq_true_iff, (keeps_all hs).2 h]
  | false =>
   rw [decide_eq_false_iff_not]
   intro e
   have := (keeps_all hs).1 (by omega)
   rw [this] at h; cases h
end Go.Crt
end
section
set_option linter.unusedVariables false
set_option linter.unusedSimpArgs false
namespace Go.Crt
open Go Go.Lift Go.F Go.Cor
variable {α β : Type}
def outB (m n : Int) : Bool := decide (n < 0) || decide (n ≥ m)
theorem outside_val {l : List Int} (m : Int) (hl : l.length ≤ LIM) : (court_outside l m).val = some (l.any (outB m)) := by
 unfold court_outside
 rw [Comp.val_bind, contains_val hl (p := outB m) (fun x _ => by unfold court_outside_f1; rw [Comp.val_bind, Comp.val_pure, Option.bind_some, Comp.val_pure, bif_or]; rfl), Option.bind_some, Comp.val_pure]
def partB (l all : List Int) : Bool := !l.any fun n => !all.contains n
def SmallC (x : api_Claim) : Prop := x.Sure.length ≤ LIM ∧ x.Touched.length ≤ LIM
def p1 (x : api_Claim) : Bool := decide (x.Party < -1) || decide (x.Party ≥ 6)
def p2 (x : api_Claim) : Bool := decide (x.Kind < 1) || decide (x.Kind > 3)
def p6 (x : api_Claim) : Bool := decide (x.Gauge < 0) || decide (x.Gauge ≥ 8)
def claimE (x : api_Claim) (m : Int) : Int :=
 if p1 x = true then 55 else if p2 x = true then 4 else if (!incB x.Sure || !incB x.Touched) = true then 7 else if (x.Sure.any (outB m) || x.Touched.any (outB m)) = true then 3
 else if ((decide (x.Kind ≠ 3) && decide (x.Gauge ≠ 0)) || (decide (x.Kind ≠ 2) && decide ((x.Sure.length : Int) > 0)) || (decide (x.Kind = 3) && decide ((x.Touched.length : Int) > 0)) || !partB x.Sure x.Touched) = true then 4
 else if p6 x = true then 3 else 0
theorem check_val {x : api_Claim} (m : Int) (h : SmallC x) : (court_check x m).val = some (claimE x m) := by
 have h1 := sorted_val h.1
 have h2 := sorted_val h.2
 have h3 := outside_val m h.1
 have h4 := outside_val m h.2
 have h5 := contains_val h.1 (f := fun z0 => court_check_f1 z0 x) (p := fun n => !x.Touched.contains n) (fun n _ => by unfold court_check_f1; rw [Comp.val_bind, has_val n h.2, Option.bind_some, Comp.val_pure])
 have h5' : (slices_ContainsFunc_int_int x.Sure (fun z0 => court_check_f1 z0 x)).val = some (!partB x.Sure x.Touched) := by rw [h5]; unfold partB; rw [Bool.not_not]
 unfold court_check court_check_j1 claimE
 simp only [Comp.val_bind, Comp.val_pure, Option.bind_some, Comp.val_ite, Comp.val_gd, h1, h2, h3, h4, h5']
 rw [bif_or, bif_or, bif_or, bif_and, bif_and, bif_and]
 change (if p1 x = true then some 55 else if p2 x = true then some 4 else _) = _
 generalize p1 x = b1
 generalize p2 x = b2
 generalize incB x.Sure = b3
 generalize incB x.Touched = b4
 generalize x.Sure.any (outB m) = b5
 generalize x.Touched.any (outB m) = b6
 generalize (decide (x.Kind ≠ 3) && decide (x.Gauge ≠ 0)) = b7
 generalize (decide (x.Kind ≠ 2) && decide ((x.Sure.length : Int) > 0)) = b8
 generalize (decide (x.Kind = 3) && decide ((x.Touched.length : Int) > 0)) = b9
 generalize partB x.Sure x.Touched = b10
 have e6 : (bif decide (x.Gauge < 0) then true else decide (x.Gauge ≥ 8)) = p6 x := by rw [bif_or]; rfl
 have e6b : (decide (x.Gauge < 0) || decide (x.Gauge ≥ 8)) = p6 x := rfl
 first | rw [e6] | rw [e6b]
 generalize p6 x = b11
 cases b1; rotate_left; · rfl
 cases b2; rotate_left; · rfl
 cases b3; · rfl
 cases b4; · rfl
 cases b5; rotate_left; · rfl
 cases b6; rotate_left; · rfl
 cases b7; rotate_left; · rfl
 cases b8; rotate_left; · rfl
 cases b9; rotate_left; · rfl
 cases b10; · rfl
 cases b11 <;> rfl
structure GoodC (x : api_Claim) (m : Int) : Prop where
 party : -1 ≤ x.Party ∧ x.Party < 6
 kind : 1 ≤ x.Kind ∧ x.Kind ≤ 3
 gauge : x.Kind ≠ 3 → x.Gauge = 0
 sure : x.Kind ≠ 2 → x.Sure = []
 touched : x.Kind = 3 → x.Touched = []
 part : ∀ n, n ∈ x.Sure → n ∈ x.Touched
 range : 0 ≤ x.Gauge ∧ x.Gauge < 8
theorem goodC {x : api_Claim} {m : Int} (h : claimE x m = 0) : GoodC x m := by
 unfold claimE at h
 split at h; · cases h
 split at h; · cases h
 split at h; · cases h
 split at h; · cases h
 split at h; · cases h
 split at h; · cases h
 rename_i h1 h2 h3 h4 h5 h6
 simp only [p1, p2, p6, Bool.or_eq_true, Bool.and_eq_true, decide_eq_true_iff, not_or, not_and, Bool.not_eq_true', Bool.not_eq_false] at h1 h2 h5 h6
 obtain ⟨⟨⟨h7, h8⟩, h9⟩, h10⟩ := h5
 refine ⟨by omega, by omega, fun hk => by have := h7 hk; omega, fun hk => ?_, fun hk => ?_, ?_, by omega⟩
 ·have := h8 hk; exact List.eq_nil_of_length_eq_zero (by omega)
 ·have := h9 hk; exact List.eq_nil_of_length_eq_zero (by omega)
 ·intro n hn
  unfold partB at h10
  simp only [Bool.not_eq_true', List.any_eq_false, Bool.not_eq_true, Bool.not_eq_false'] at h10
  have := h10 n hn
  simpa using this
def dupB (pre : List api_Claim) (x : api_Claim) : Bool := pre.any fun y => decide (y.Kind = x.Kind) && (decide (x.Kind = 1) || (decide (x.Kind = 3) && decide (y.Gauge = x.Gauge)))
def goE (m : Int) : List api_Claim → List api_Claim → Option Int
 | _, [] => none
 | pre, x :: xs => if claimE x m ≠ 0 then some (claimE x m) else if dupB pre x = true then some 6 else goE m (pre ++ [x]) xs
theorem goE_cons (m : Int) (pre : List api_Claim) (x : api_Claim) (xs : List api_Claim) : goE m pre (x :: xs) = if claimE x m ≠ 0 then some (claimE x m) else if dupB pre x = true then some 6 else goE m (pre ++ [x]) xs := rfl
def toE : Option Int → Sum Int Unit
 | some c => .inl c
 | none => .inr ()
theorem drop_cons {C : List α} {i : Nat} (h : i < C.length) : C.drop i = C[i] :: C.drop (i + 1) := List.drop_eq_getElem_cons h
theorem take_snoc {C : List α} {i : Nat} (h : i < C.length) : C.take (i + 1) = C.take i ++ [C[i]] := List.take_succ_eq_append_getElem h
theorem mget_mput {κ ν : Type} [DecidableEq κ] (x y : κ) (v : ν) : ∀ m : List (κ × ν), mget (mput m x v) y = if y = x then some v else mget m y
 | [] => by
  unfold mput mget
  by_cases h : y = x
  ·simp [h]
  ·simp [h, mget]
 | p :: ps => by
  unfold mput
  by_cases h : x = p.1
  ·rw [if_pos h]
   by_cases h2 : y = x
   ·simp [mget, h2]
   ·simp [mget, h2, h ▸ h2]
  ·rw [if_neg h]
   unfold mget
   by_cases h2 : y = p.1
   ·rw [if_pos h2, if_pos h2, if_neg (fun e => h (by rw [← e, h2]))]
   ·rw [if_neg h2, if_neg h2]; exact mget_mput x y v ps
theorem v2_eq {a b c d : Int} : ((#v[a, b] : Vector Int 2) = #v[c, d]) ↔ a = c ∧ b = d := by
 constructor
 ·intro h
  have h1 := congrArg (fun v : Vector Int 2 => v[0]) h
  have h2 := congrArg (fun v : Vector Int 2 => v[1]) h
  exact ⟨by simpa using h1, by simpa using h2⟩
 ·rintro ⟨rfl, rfl⟩; rfl
def metB (pre : List api_Claim) (k g : Int) : Bool := pre.any fun y => decide (y.Kind ≠ 2) && (decide (k = y.Kind) && decide (g = y.Gauge))
theorem dup_met {pre : List api_Claim} {x : api_Claim} {m : Int} (hp : ∀ y ∈ pre, GoodC y m) (hx : GoodC x m) (hk : x.Kind ≠ 2) : dupB pre x = metB pre x.Kind x.Gauge := by
 unfold dupB metB
 rw [Bool.eq_iff_iff, List.any_eq_true, List.any_eq_true]
 have hx1 := hx.kind
 have hx2 := hx.gauge
 constructor
 ·rintro ⟨y, h1, h2⟩
  have hy := hp y h1
  have hy2 := hy.gauge
  refine ⟨y, h1, ?_⟩
  simp only [Bool.and_eq_true, Bool.or_eq_true, decide_eq_true_iff] at h2 ⊢
  omega
 ·rintro ⟨y, h1, h2⟩
  have hy := hp y h1
  have hy2 := hy.gauge
  refine ⟨y, h1, ?_⟩
  simp only [Bool.and_eq_true, Bool.or_eq_true, decide_eq_true_iff] at h2 ⊢
  omega
theorem dup_two {pre : List api_Claim} {x : api_Claim} (hk : x.Kind = 2) : dupB pre x = false := by
 unfold dupB
 rw [List.any_eq_false]
 intro y _ h
 simp only [Bool.and_eq_true, Bool.or_eq_true, decide_eq_true_iff] at h
 omega
theorem check_loop {C : List api_Claim} {m : Int} (hC : ∀ x ∈ C, SmallC x) (hl : C.length ≤ 10) : (Comp.loop (fun s : List (Vector Int 2 × Bool) × Int => court_Check_l2 C m s.1 s.2) ([], 0)).val = some (toE (goE m [] C)) := by
 have key : Ok (Comp.loop (fun s : List (Vector Int 2 × Bool) × Int => court_Check_l2 C m s.1 s.2) ([], 0)) (fun e => e = toE (goE m [] C)) := by
  refine Ok.count C.length (fun i s => s.2 = (i : Int) ∧ goE m [] C = goE m (C.take i) (C.drop i) ∧ (∀ y ∈ C.take i, GoodC y m) ∧ ∀ k g, (mget s.1 (#v[k, g] : Vector Int 2)).getD false = metB (C.take i) k g) ⟨rfl, by simp, by simp, fun k g => rfl⟩ ?_ ?_
  ·rintro i ⟨mp, s⟩ hi ⟨h0, h, hpre, hmet⟩
   dsimp only at h0 hmet
   subst h0
   have hg := List.getElem?_eq_getElem hi
   show Ok (court_Check_l2 C m mp (i : Int)) _
   unfold court_Check_l2
   rw [Ok.ite, if_pos (by simp; omega), Ok.bind, Ok.idxn hg, Ok.bind, Ok.of_val (check_val m (hC _ (List.getElem_mem hi)))]
   rw [drop_cons hi, goE_cons] at h
   refine Ok.ite_i (fun hc => ?_) (fun hc => ?_)
   ·rw [decide_eq_true_iff] at hc
    rw [if_pos hc] at h
    rw [Ok.pure, h]; rfl
   ·rw [decide_eq_true_iff] at hc
    rw [if_neg hc] at h
    have hx : GoodC C[i] m := goodC (by omega)
    have hpre2 : ∀ y ∈ C.take (i + 1), GoodC y m := by
     rw [take_snoc hi]
     intro y hy
     rcases List.mem_append.1 hy with h | h
     ·exact hpre y h
     ·rw [List.mem_singleton] at h; subst h; exact hx
    refine Ok.ite_i (fun hk => ?_) (fun hk => ?_)
    ·rw [decide_eq_true_iff] at hk
     rw [Ok.bind, Ok.pure, hmet, ← dup_met hpre hx hk]
     refine Ok.ite_i (fun hb => ?_) (fun hb => ?_)
     ·rw [if_pos hb] at h
      rw [Ok.pure, h]; rfl
     ·rw [if_neg hb] at h
      unfold court_Check_j3
      rw [Ok.pure]
      refine ⟨Comp.wrap_succ (by omega), by rw [take_snoc hi]; exact h, hpre2, fun k g => ?_⟩
      dsimp only
      rw [mget_mput, take_snoc hi]
      unfold metB
      rw [List.any_append]
      have hm2 := hmet k g
      unfold metB at hm2
      rw [← hm2]
      by_cases e : (#v[k, g] : Vector Int 2) = #v[C[i].Kind, C[i].Gauge]
      ·rw [if_pos e]
       rw [v2_eq] at e
       simp [e.1, e.2, hk]
      ·rw [if_neg e]
       rw [v2_eq] at e
       have : ([C[i]].any fun y => decide (y.Kind ≠ 2) && (decide (k = y.Kind) && decide (g = y.Gauge))) = false := by
        rw [List.any_eq_false]
        intro y hy
        rw [List.mem_singleton] at hy
        subst hy
        simp only [Bool.and_eq_true, decide_eq_true_iff]
        exact fun q => e q.2
       rw [this, Bool.or_false]
    ·rw [decide_eq_true_iff, ne_eq, Decidable.not_not] at hk
     rw [dup_two hk, if_neg (by simp)] at h
     unfold court_Check_j3
     rw [Ok.pure]
     refine ⟨Comp.wrap_succ (by omega), by rw [take_snoc hi]; exact h, hpre2, fun k g => ?_⟩
     dsimp only
     rw [hmet, take_snoc hi]
     unfold metB
     rw [List.any_append]
     simp [hk]
  ·rintro ⟨mp, s⟩ ⟨h0, h, _⟩
   dsimp only at h0
   subst h0
   show Ok (court_Check_l2 C m mp (C.length : Int)) _
   unfold court_Check_l2
   rw [Ok.ite, if_neg (by simp), Ok.pure, h]
   rw [List.drop_length]; rfl
 exact Ok.val key
def farB (m : Int) (x : api_Sight) : Bool := ((decide (x.Gauge < 0) || decide (x.Gauge ≥ 8)) || decide (x.Cell < 0)) || decide (x.Cell ≥ m)
theorem sights_val {l : List api_Sight} {m : Int} (hl : l.length ≤ 40) : (court_Check_j1 l m).val = some (if l.any (farB m) then 3 else 0) := by
 have := Comp.loop_any (body := fun s => court_Check_l5 l m s) l (farB m) 3 (by
  intro i y hy
  have hi := getElem?_len hy
  show (court_Check_l5 l m (i : Int)).val = _
  unfold court_Check_l5
  rw [decide_lt_len, Comp.val_ite, if_pos (by simpa using hi), Comp.val_bind, idx_val hy, Option.bind_some, Comp.val_bind, Comp.val_pure, Option.bind_some, Comp.val_ite, Comp.val_pure, Comp.val_pure, Comp.wrap_succ (by omega), bif_or, bif_or, bif_or]
  unfold farB
  split <;> rfl) (by
  show (court_Check_l5 l m (l.length : Int)).val = _
  unfold court_Check_l5
  rw [Comp.val_ite, if_neg (by simp), Comp.val_pure])
 unfold court_Check_j1
 rw [Comp.val_bind, this, Option.bind_some]
 cases l.any (farB m)
 ·simp [court_Check_j4]
 ·simp
def checkE (C : List api_Claim) (l : List api_Sight) (m : Int) : Int :=
 if (decide (m < 1) || decide (m > 16)) = true then 3 else if (decide ((C.length : Int) > 10) || decide ((l.length : Int) > 40)) = true then 2
 else match goE m [] C with | some c => c | none => if l.any (farB m) then 3 else 0
theorem Check_val {C : List api_Claim} {l : List api_Sight} (m : Int) (hC : ∀ x ∈ C, SmallC x) : (court_Check C l m).val = some (checkE C l m) := by
 unfold court_Check checkE
 rw [Comp.val_bind, Comp.val_pure, Option.bind_some, Comp.val_ite, bif_or]
 split
 ·rw [Comp.val_pure]
 rw [Comp.val_bind, Comp.val_pure, Option.bind_some, Comp.val_ite, bif_or]
 split
 ·rw [Comp.val_pure]
 rename_i h1 h2
 simp only [Bool.or_eq_true, decide_eq_true_iff, not_or] at h2
 rw [Comp.val_bind, check_loop hC (by omega), Option.bind_some]
 cases goE m [] C with
 | some c => exact Comp.val_pure c
 | none => exact sights_val (by omega)
structure GoodL (C : List api_Claim) (l : List api_Sight) (m : Int) : Prop where
 cells : 1 ≤ m ∧ m ≤ 16
 len : C.length ≤ 10 ∧ l.length ≤ 40
 each : ∀ x ∈ C, GoodC x m
 one : ∀ (i j : Nat) (x y : api_Claim), C[i]? = some x → C[j]? = some y → x.Kind = 1 → y.Kind = 1 → i = j
theorem goE_good {m : Int} : ∀ (C pre : List api_Claim), goE m pre C = none → (∀ x ∈ C, GoodC x m ∧ ∃ z, z = x) ∧ (∀ i x, C[i]? = some x → x.Kind = 1 → ∀ y, y ∈ pre ++ C.take i → y.Kind ≠ 1)
 | [], pre, _ => ⟨by simp, by simp⟩
 | x :: C, pre, h => by
  unfold goE at h
  split at h; · cases h
  split at h; · cases h
  rename_i h1 h2
  have ih := goE_good C (pre ++ [x]) h
  refine ⟨?_, ?_⟩
  ·intro y hy
   rcases List.mem_cons.1 hy with rfl | hy
   ·exact ⟨goodC (by simpa using h1), _, rfl⟩
   ·exact ih.1 y hy
  ·intro i y hy hk z hz
   cases i with
   | zero =>
    simp at hy; subst hy
    simp at hz
    intro hz1
    apply h2
    unfold dupB
    rw [List.any_eq_true]
    exact ⟨z, hz, by simp [hz1, hk]⟩
   | succ i =>
    exact ih.2 i y (by simpa using hy) hk z (by simpa using hz)
theorem goodL {C : List api_Claim} {l : List api_Sight} {m : Int} (h : checkE C l m = 0) : GoodL C l m := by
 unfold checkE at h
 split at h; · cases h
 split at h; · cases h
 rename_i h1 h2
 simp only [Bool.or_eq_true, decide_eq_true_iff, not_or] at h1 h2
 have hg : goE m [] C = none ∨ ∃ c, goE m [] C = some c ∧ c = 0 := by
  cases e : goE m [] C with
  | none => exact .inl rfl
  | some c => rw [e] at h; exact .inr ⟨c, rfl, h⟩
 have hno : ∀ (C pre : List api_Claim) c, goE m pre C = some c → c ≠ 0 := by
  intro C
  induction C with
  | nil => intro pre c h; cases h
  | cons x C ih =>
   intro pre c h
   unfold goE at h
   split at h
   ·rename_i hx; cases h; exact hx
   split at h
   ·cases h; decide
   ·exact ih _ _ h
 rcases hg with hg | ⟨c, hg, rfl⟩
 ·obtain ⟨h3, h4⟩ := goE_good C [] hg
  refine ⟨by omega, by omega, fun x hx => (h3 x hx).1, ?_⟩
  intro i j x y hx hy hkx hky
  rcases Nat.lt_trichotomy i j with hlt | he | hlt
  ·exact absurd hkx (h4 j y hy hky x (by
    rw [List.nil_append]
    have hj := getElem?_len hy
    exact List.mem_of_getElem? (i := i) (by rw [List.getElem?_take_of_lt hlt]; exact hx)))
  ·exact he
  ·exact absurd hky (h4 i x hx hkx y (by
    rw [List.nil_append]
    exact List.mem_of_getElem? (i := j) (by rw [List.getElem?_take_of_lt hlt]; exact hy)))
 ·exact absurd rfl (hno _ _ _ hg)
end Go.Crt
end
section
set_option linter.unusedVariables false
set_option linter.unusedSimpArgs false
namespace Go.Crt
open Go Go.Lift Go.F Go.Cor
variable {α β : Type}
def saidS (l : List api_Sight) (g c : Int) (t : Bool) : Bool := l.any fun s => (decide (s.Gauge = g) && decide (s.Cell = c)) && decide (s.There = t)
def qT (l : List api_Sight) (S : Nat) (c : Int) (t : Bool) (p : api_Claim × Nat) : Bool := (S.testBit p.2 && decide (p.1.Kind = 3)) && saidS l p.1.Gauge c t
def qS (S : Nat) (c : Int) (p : api_Claim × Nat) : Bool := (S.testBit p.2 && decide (p.1.Kind = 1)) && !p.1.Touched.contains c
def qE (S : Nat) (c : Int) (p : api_Claim × Nat) : Bool := (S.testBit p.2 && decide (p.1.Kind = 1)) && p.1.Touched.contains c
def qK (S : Nat) (c : Int) (p : api_Claim × Nat) : Bool := (S.testBit p.2 && decide (p.1.Kind = 2)) && p.1.Sure.contains c
def qL (S : Nat) (c : Int) (p : api_Claim × Nat) : Bool := decide (p.1.Kind = 2) && (!S.testBit p.2 || p.1.Touched.contains c)
def badB (C : List api_Claim) (l : List api_Sight) (S : Nat) (c : Int) : Bool :=
 (C.zipIdx.any (qT l S c true) && (C.zipIdx.any (qT l S c false) || C.zipIdx.any (qS S c) || C.zipIdx.any (qK S c))) || (C.zipIdx.any (qT l S c false) && C.zipIdx.any (qE S c) && !C.zipIdx.any (qL S c))
theorem zip_get {C : List α} {i : Nat} {x : α} (h : C[i]? = some x) : C.zipIdx[i]? = some (x, i) := by
 rw [List.getElem?_zipIdx, h]; simp
theorem zip_len (C : List α) : C.zipIdx.length = C.length := List.length_zipIdx
def voiceOf (l : List api_Sight) (x : api_Claim) : court_voice :=
 if x.Kind = 1 then .c101 ⟨x.Touched⟩ else if x.Kind = 2 then .c96 ⟨x.Sure, x.Touched⟩ else .c102 (l.filter fun y => decide (y.Gauge = x.Gauge))
theorem own_val {l : List api_Sight} (x : api_Claim) (hl : l.length ≤ 40) : (Comp.loop (fun s : List api_Sight × Int => court_voices_l5 l x s.1 s.2) ([], 0)).val = some (l.filter fun y => decide (y.Gauge = x.Gauge)) := by
 have hL : LIM = 1073741824 := rfl
 have := Comp.loop_fold (body := fun s : List api_Sight × Int => court_voices_l5 l x s.1 s.2) l (fun acc y => if decide (y.Gauge = x.Gauge) = true then acc ++ [y] else acc) id (fun a i => a.length ≤ i) []
  (by
   intro a i y hy hI
   have hi := getElem?_len hy
   show (court_voices_l5 l x a (i : Int)).val = _
   unfold court_voices_l5 court_voices_j6
   rw [decide_lt_len, Comp.val_ite, if_pos (by simpa using hi), Comp.val_bind, idx_val hy, Option.bind_some, Comp.val_ite]
   split
   ·rw [Comp.val_bind, app_val (by simp; omega), Option.bind_some, Comp.val_pure, Comp.wrap_succ (by omega)]
   ·rw [Comp.val_pure, Comp.wrap_succ (by omega)])
  (by
   intro a i y hy hI
   split
   ·simp; omega
   ·omega)
  (by
   intro a _
   show (court_voices_l5 l x a (l.length : Int)).val = _
   unfold court_voices_l5
   rw [Comp.val_ite, if_neg (by simp), Comp.val_pure]; rfl)
  (Nat.le_refl _)
 rw [this, Comp.foldl_filter]; rfl
theorem voices_val {C : List api_Claim} {l : List api_Sight} (hC : C.length ≤ 10) (hl : l.length ≤ 40) : (court_voices C l).val = some (C.map (voiceOf l)) := by
 have hL : LIM = 1073741824 := rfl
 have key : Ok (court_voices C l) (fun v => v = C.map (voiceOf l)) := by
  unfold court_voices
  rw [Ok.bind]
  refine Ok.mono (P := fun v => v = C.map (voiceOf l)) ?_ (fun v hv => by unfold court_voices_j1; exact Ok.pure.2 hv)
  refine Ok.count C.length (fun i s => s.2 = (i : Int) ∧ s.1 = (C.take i).map (voiceOf l)) ⟨rfl, by simp⟩ ?_ ?_
  ·rintro i ⟨a, s⟩ hi ⟨h0, h1⟩
   dsimp only at h0 h1
   subst h0 h1
   have hg := List.getElem?_eq_getElem hi
   show Ok (court_voices_l2 C l ((C.take i).map (voiceOf l)) (i : Int)) _
   have fin : ∀ v, v = voiceOf l C[i] → (C.take i).map (voiceOf l) ++ [v] = (C.take (i + 1)).map (voiceOf l) := by
    intro v hv
    rw [take_snoc hi, List.map_append, hv]; rfl
   unfold court_voices_l2 court_voices_j3
   rw [Ok.ite, if_pos (by simp; omega), Ok.bind, Ok.idxn hg]
   refine Ok.ite_i (fun hk => ?_) (fun hk => ?_)
   ·rw [decide_eq_true_iff] at hk
    rw [Ok.bind, Ok.app (by simp; omega), Ok.pure]
    exact ⟨Comp.wrap_succ (by omega), fin _ (by unfold voiceOf; rw [if_pos hk])⟩
   ·rw [decide_eq_true_iff] at hk
    refine Ok.ite_i (fun hk2 => ?_) (fun hk2 => ?_)
    ·rw [decide_eq_true_iff] at hk2
     rw [Ok.bind, Ok.app (by simp; omega), Ok.pure]
     exact ⟨Comp.wrap_succ (by omega), fin _ (by unfold voiceOf; rw [if_neg hk, if_pos hk2])⟩
    ·rw [decide_eq_true_iff] at hk2
     rw [Ok.bind, Ok.of_val (own_val _ hl)]
     unfold court_voices_j4 court_voices_j3
     rw [Ok.bind, Ok.app (by simp; omega), Ok.pure]
     exact ⟨Comp.wrap_succ (by omega), fin _ (by unfold voiceOf; rw [if_neg hk, if_neg hk2])⟩
  ·rintro ⟨a, s⟩ ⟨h0, h1⟩
   dsimp only at h0 h1
   subst h0 h1
   show Ok (court_voices_l2 C l ((C.take C.length).map (voiceOf l)) (C.length : Int)) _
   unfold court_voices_l2
   rw [Ok.ite, if_neg (by simp), Ok.pure, List.take_length]
 exact Ok.val key
theorem gspeak_val {o : List api_Sight} (c : Int) (f : court_fate) (ho : o.length ≤ 40) :
  (court_gauge_speak o c f).val = some ⟨f.solid_, f.empty_, f.taken_, f.loose_, f.there_ || o.any (fun s => decide (s.Cell = c) && decide (s.There = true)), f.gone_ || o.any (fun s => decide (s.Cell = c) && decide (s.There = false))⟩ := by
 have key : Ok (court_gauge_speak o c f) (fun r => r = ⟨f.solid_, f.empty_, f.taken_, f.loose_, f.there_ || o.any (fun s => decide (s.Cell = c) && decide (s.There = true)), f.gone_ || o.any (fun s => decide (s.Cell = c) && decide (s.There = false))⟩) := by
  unfold court_gauge_speak
  rw [Ok.bind]
  refine Ok.mono (P := fun r => r = ⟨f.solid_, f.empty_, f.taken_, f.loose_, f.there_ || o.any (fun s => decide (s.Cell = c) && decide (s.There = true)), f.gone_ || o.any (fun s => decide (s.Cell = c) && decide (s.There = false))⟩) ?_ (fun r hr => Ok.pure.2 hr)
  refine Ok.count o.length (fun i s => s.1 = (i : Int) ∧ s.2 = ⟨f.solid_, f.empty_, f.taken_, f.loose_, f.there_ || (o.take i).any (fun s => decide (s.Cell = c) && decide (s.There = true)), f.gone_ || (o.take i).any (fun s => decide (s.Cell = c) && decide (s.There = false))⟩) ⟨rfl, by simp⟩ ?_ ?_
  ·rintro i ⟨s, a⟩ hi ⟨h0, h1⟩
   dsimp only at h0 h1
   subst h0 h1
   have hg := List.getElem?_eq_getElem hi
   show Ok (court_gauge_speak_l1 o c (i : Int) _) _
   unfold court_gauge_speak_l1 court_gauge_speak_j2
   rw [Ok.ite, if_pos (by simp; omega), Ok.bind, Ok.idxn hg, any_take hg, any_take hg]
   refine Ok.ite_i (fun hk => ?_) (fun hk => ?_)
   ·rw [Ok.pure]
    refine ⟨Comp.wrap_succ (by omega), ?_⟩
    rw [decide_eq_true_iff] at hk
    cases o[i].There <;> simp [hk]
   ·rw [Ok.pure]
    refine ⟨Comp.wrap_succ (by omega), ?_⟩
    rw [decide_eq_true_iff] at hk
    simp [hk]
  ·rintro ⟨s, a⟩ ⟨h0, h1⟩
   dsimp only at h0 h1
   subst h0 h1
   show Ok (court_gauge_speak_l1 o c (o.length : Int) _) _
   unfold court_gauge_speak_l1
   rw [Ok.ite, if_neg (by simp), Ok.pure, List.take_length]
 exact Ok.val key
def fateOf (l : List api_Sight) (S : Nat) (c : Int) (Z : List (api_Claim × Nat)) : court_fate :=
 ⟨!Z.any (qS S c), !Z.any (qE S c), Z.any (qK S c), Z.any (qL S c), Z.any (qT l S c true), Z.any (qT l S c false)⟩
theorem any_filter' (p q : α → Bool) : ∀ l : List α, (l.filter p).any q = l.any fun x => p x && q x
 | [] => rfl
 | x :: l => by
  rw [List.filter_cons, List.any_cons, ← any_filter' p q l]
  cases p x <;> simp
theorem fates_val {C : List api_Claim} {l : List api_Sight} {S : Nat} {m : Int} (c : Int) (hS : S < 1024) (hC : C.length ≤ 10) (hl : l.length ≤ 40) (hs : ∀ x ∈ C, SmallC x) (hg : ∀ x ∈ C, GoodC x m) :
  (Comp.loop (fun s : Int × court_fate => court_agrees_l4 (C.map (voiceOf l)) (S : Int) c s.1 s.2) (0, ⟨true, true, false, false, false, false⟩)).val = some (fateOf l S c C.zipIdx) := by
 have key : Ok (Comp.loop (fun s : Int × court_fate => court_agrees_l4 (C.map (voiceOf l)) (S : Int) c s.1 s.2) (0, ⟨true, true, false, false, false, false⟩)) (fun r => r = fateOf l S c C.zipIdx) := by
  refine Ok.count C.length (fun i s => s.1 = (i : Int) ∧ s.2 = fateOf l S c (C.zipIdx.take i)) ⟨rfl, by simp [fateOf]⟩ ?_ ?_
  ·rintro i ⟨s, a⟩ hi ⟨h0, h1⟩
   dsimp only at h0 h1
   subst h0 h1
   have hx := List.getElem?_eq_getElem hi
   have hz := zip_get hx
   have hv : (C.map (voiceOf l))[i]? = some (voiceOf l C[i]) := by rw [List.getElem?_map, hx]; rfl
   have hgx := hg _ (List.getElem_mem hi)
   have hsx := hs _ (List.getElem_mem hi)
   have hk := hgx.kind
   show Ok (court_agrees_l4 (C.map (voiceOf l)) (S : Int) c (i : Int) _) _
   have e : fateOf l S c (C.zipIdx.take (i + 1)) = ⟨!((C.zipIdx.take i).any (qS S c) || qS S c (C[i], i)), !((C.zipIdx.take i).any (qE S c) || qE S c (C[i], i)), (C.zipIdx.take i).any (qK S c) || qK S c (C[i], i), (C.zipIdx.take i).any (qL S c) || qL S c (C[i], i), (C.zipIdx.take i).any (qT l S c true) || qT l S c true (C[i], i), (C.zipIdx.take i).any (qT l S c false) || qT l S c false (C[i], i)⟩ := by
    unfold fateOf
    rw [any_take hz, any_take hz, any_take hz, any_take hz, any_take hz, any_take hz]
   rw [e]
   unfold fateOf
   generalize (C.zipIdx.take i).any (qS S c) = b1
   generalize (C.zipIdx.take i).any (qE S c) = b2
   generalize (C.zipIdx.take i).any (qK S c) = b3
   generalize (C.zipIdx.take i).any (qL S c) = b4
   generalize (C.zipIdx.take i).any (qT l S c true) = b5
   generalize (C.zipIdx.take i).any (qT l S c false) = b6
   unfold court_agrees_l4 court_agrees_j5 qS qE qK qL qT
   dsimp only
   rw [Ok.ite, if_pos (by simp; omega), Ok.bind, Ok.idxn hv, Ok.bind, Ok.nonneg (by omega), Ok.bind, Ok.pure, bit_eq (by omega) (by omega)]
   unfold voiceOf
   by_cases k1 : C[i].Kind = 1
   ·rw [if_pos k1]
    cases ht : S.testBit i with
    | true =>
     rw [Ok.ite, if_pos rfl, Ok.bind]
     show Ok (court_blank_speak ⟨C[i].Touched⟩ c _) _
     unfold court_blank_speak
     rw [Ok.bind, Ok.of_val (has_val c hsx.2)]
     cases hc : C[i].Touched.contains c with
     | true => rw [Ok.ite, if_pos rfl, Ok.pure, Ok.pure]; exact ⟨Comp.wrap_succ (by omega), by simp [k1]⟩
     | false => rw [Ok.ite, if_neg (by simp), Ok.pure, Ok.pure]; exact ⟨Comp.wrap_succ (by omega), by simp [k1]⟩
    | false =>
     rw [Ok.ite, if_neg (by simp), Ok.ite, if_neg (by simp [court_voice.as96]), Ok.pure]
     exact ⟨Comp.wrap_succ (by omega), by simp [k1]⟩
   ·rw [if_neg k1]
    by_cases k2 : C[i].Kind = 2
    ·rw [if_pos k2]
     cases ht : S.testBit i with
     | true =>
      rw [Ok.ite, if_pos rfl, Ok.bind]
      show Ok (court_cut_speak ⟨C[i].Sure, C[i].Touched⟩ c _) _
      unfold court_cut_speak
      rw [Ok.bind, Ok.gd]
      cases b3 <;> cases b4 <;> simp only [beq_self_eq_true, Bool.true_eq_false, if_true, if_false, reduceIte, Bool.true_beq, Bool.false_eq_true]
      all_goals first | rw [Ok.of_val (has_val c hsx.1)] | skip
      all_goals (rw [Ok.bind, Ok.gd]; simp only [beq_self_eq_true, Bool.true_eq_false, if_true, if_false, reduceIte, Bool.true_beq, Bool.false_eq_true])
      all_goals first | rw [Ok.of_val (has_val c hsx.2)] | skip
      all_goals (rw [Ok.pure, Ok.pure]; exact ⟨Comp.wrap_succ (by omega), by simp [k2]⟩)
     | false =>
      rw [Ok.ite, if_neg (by simp), Ok.ite, if_pos (by simp [court_voice.as96]), Ok.pure]
      exact ⟨Comp.wrap_succ (by omega), by simp [k2]⟩
    ·rw [if_neg k2]
     have k3 : C[i].Kind = 3 := by omega
     cases ht : S.testBit i with
     | true =>
      rw [Ok.ite, if_pos rfl, Ok.bind]
      show Ok (court_gauge_speak (l.filter fun y => decide (y.Gauge = C[i].Gauge)) c _) _
      rw [Ok.of_val (gspeak_val c _ (Nat.le_trans (List.length_filter_le _ _) hl)), Ok.pure, any_filter', any_filter']
      refine ⟨Comp.wrap_succ (by omega), ?_⟩
      simp [k3, saidS, Bool.and_assoc]
     | false =>
      rw [Ok.ite, if_neg (by simp), Ok.ite, if_neg (by simp [court_voice.as96]), Ok.pure]
      exact ⟨Comp.wrap_succ (by omega), by simp [k3]⟩
  ·rintro ⟨s, a⟩ ⟨h0, h1⟩
   dsimp only at h0 h1
   subst h0 h1
   show Ok (court_agrees_l4 (C.map (voiceOf l)) (S : Int) c (C.length : Int) _) _
   unfold court_agrees_l4
   rw [Ok.ite, if_neg (by simp), Ok.pure, ← zip_len C, List.take_length]
 exact Ok.val key
def agreeB (C : List api_Claim) (l : List api_Sight) (M S : Nat) : Bool := !(List.range M).any fun c => badB C l S (c : Int)
theorem agrees_val {C : List api_Claim} {l : List api_Sight} {M S : Nat} {m : Int} (hM : M ≤ 16) (hS : S < 1024) (hC : C.length ≤ 10) (hl : l.length ≤ 40) (hs : ∀ x ∈ C, SmallC x) (hg : ∀ x ∈ C, GoodC x m) :
  (court_agrees (C.map (voiceOf l)) (M : Int) (S : Int)).val = some (agreeB C l M S) := by
 have key : Ok (court_agrees (C.map (voiceOf l)) (M : Int) (S : Int)) (fun b => b = agreeB C l M S) := by
  unfold court_agrees
  rw [Ok.bind]
  refine Ok.mono (P := fun b => b = agreeB C l M S) ?_ (fun b hb => by unfold court_agrees_j1; exact Ok.pure.2 hb)
  refine Ok.count M (fun i s => s = (true, (i : Int)) ∧ (List.range i).any (fun c => badB C l S (c : Int)) = false) ⟨rfl, rfl⟩ ?_ ?_
  ·rintro i s hi ⟨rfl, h1⟩
   show Ok (court_agrees_l2 (M : Int) (C.map (voiceOf l)) (S : Int) true (i : Int)) _
   unfold court_agrees_l2
   rw [Ok.ite, if_pos (by simp; omega), Ok.bind, Ok.of_val (fates_val (i : Int) hS hC hl hs hg)]
   unfold court_agrees_j3
   rw [Ok.bind, Ok.pure]
   have e : (bif (bif (fateOf l S (i : Int) C.zipIdx).there_ then (bif (bif (fateOf l S (i : Int) C.zipIdx).gone_ then true else (!(fateOf l S (i : Int) C.zipIdx).solid_)) then true else (fateOf l S (i : Int) C.zipIdx).taken_) else false) then true else (bif (bif (fateOf l S (i : Int) C.zipIdx).gone_ then (!(fateOf l S (i : Int) C.zipIdx).empty_) else false) then (!(fateOf l S (i : Int) C.zipIdx).loose_) else false)) = badB C l S (i : Int) := by
    unfold fateOf badB
    dsimp only
    rw [bif_or, bif_or, bif_or, bif_and, bif_and, bif_and, Bool.not_not, Bool.not_not]
   rw [e]
   have hr : (List.range (i + 1)).any (fun c => badB C l S (c : Int)) = badB C l S (i : Int) := by
    rw [List.range_succ, List.any_append, h1]; simp
   refine Ok.ite_i (fun hb => ?_) (fun hb => ?_)
   ·rw [Ok.pure]
    show false = agreeB C l M S
    unfold agreeB
    symm
    rw [Bool.not_eq_false', List.any_eq_true]
    exact ⟨i, List.mem_range.2 hi, hb⟩
   ·rw [Ok.pure]
    refine ⟨by rw [Comp.wrap_succ (by omega)], ?_⟩
    rw [hr]; simpa using hb
  ·rintro s ⟨rfl, h1⟩
   show Ok (court_agrees_l2 (M : Int) (C.map (voiceOf l)) (S : Int) true (M : Int)) _
   unfold court_agrees_l2
   rw [Ok.ite, if_neg (by simp), Ok.pure]
   unfold agreeB
   rw [h1]; rfl
 exact Ok.val key
end Go.Crt
end
section
set_option linter.unusedVariables false
set_option linter.unusedSimpArgs false
namespace Go.Crt
open Go Go.Lift Go.F Go.Cor
variable {α β : Type}
def SmallL (C : List api_Claim) : Prop := ∀ x ∈ C, SmallC x
theorem pow_len {n : Nat} (h : n ≤ 10) : 2 ^ n ≤ 1024 := Nat.pow_le_pow_right (n := 2) (by omega) h
def agreesE (C : List api_Claim) (l : List api_Sight) (m s : Int) : Bool := decide (checkE C l m = 0) && decide (s ≥ 0) && decide (s < ((2 ^ C.length : Nat) : Int)) && agreeB C l m.toNat s.toNat
theorem Agrees_val {C : List api_Claim} {l : List api_Sight} (m s : Int) (hs : SmallL C) : (court_Agrees C l m s).val = some (agreesE C l m s) := by
 unfold court_Agrees agreesE
 rw [Comp.val_bind, Check_val m hs, Option.bind_some]
 simp only [bif_and, Comp.val_bind, Comp.val_gd, Comp.val_pure]
 by_cases h : checkE C l m = 0
 ·have hG := goodL h
  have hC := hG.len.1
  have hp := pow_len hC
  have hp0 := Nat.two_pow_pos C.length
  rw [decide_eq_true h, shlF_nat (by omega), nonneg_val (by omega), voices_val hC hG.len.2]
  by_cases h2 : s ≥ 0
  ·rw [decide_eq_true h2]
   by_cases h3 : s < ((2 ^ C.length : Nat) : Int)
   ·rw [decide_eq_true h3]
    have hv := agrees_val (C := C) (l := l) (M := m.toNat) (S := s.toNat) (m := m) (by have := hG.cells; omega) (by omega) hC hG.len.2 hs hG.each
    rw [show ((m.toNat : Nat) : Int) = m by have := hG.cells; omega, show ((s.toNat : Nat) : Int) = s by omega] at hv
    simp [hv]
   ·rw [decide_eq_false h3]; simp
  ·rw [decide_eq_false h2]; simp
 ·rw [decide_eq_false h]; simp
end Go.Crt
end
section
set_option linter.unusedVariables false
set_option linter.unusedSimpArgs false
namespace Go.Crt
open Go Go.Lift Go.F Go.Cor
variable {α β : Type}
theorem next_val {L : List Int} {A : Int} {n : Nat} (hA : 0 ≤ A ∧ A ≤ 100) (hL : L.length ≤ 100) (hn : 0 < n) (hn2 : n ≤ 4611686018427387904) :
  ∃ (A' : Int) (k : Nat), (colletref01_Draw_Next ⟨L, A⟩ (n : Int)).val = some (⟨L, A'⟩, (k : Int)) ∧ k < n ∧ 0 ≤ A' ∧ A' ≤ 100 := by
 unfold colletref01_Draw_Next
 rw [Comp.val_ite]
 by_cases h : decide (A ≥ (L.length : Int)) = true
 ·rw [if_pos h, Comp.val_pure]
  exact ⟨A, 0, rfl, hn, hA⟩
 ·rw [if_neg h]
  have h' : A < (L.length : Int) := by simpa using h
  dsimp only
  obtain ⟨a, rfl⟩ : ∃ a : Nat, A = (a : Int) := ⟨A.toNat, by omega⟩
  have ha : a < L.length := by omega
  obtain ⟨k, hk, hm⟩ := mod_val (z := L[a]) hn hn2
  rw [Comp.wrap_succ (by omega), show IntKind.wrap .i64 (((a + 1 : Nat) : Int) - 1) = (a : Int) by rw [IntWalk.i64_in _ ⟨by omega, by omega⟩]; omega, Comp.val_bind, idx_val (List.getElem?_eq_getElem ha), Option.bind_some, Comp.val_bind, hm, Option.bind_some, Comp.val_pure]
  exact ⟨_, k, rfl, hk, by omega, by omega⟩
theorem inc_pw : ∀ {l : List Int}, l.Pairwise (· < ·) → incB l = true
 | [], _ => rfl
 | [_], _ => rfl
 | x :: y :: l, h => by
  rw [incB, Bool.and_eq_true, decide_eq_true_iff]
  exact ⟨List.rel_of_pairwise_cons h (by simp), inc_pw (List.Pairwise.of_cons h)⟩
def bitsL (b M : Nat) : List Int := up ((List.range M).filter (b.testBit ·))
theorem bitsL_mem {b M : Nat} {z : Int} : z ∈ bitsL b M ↔ ∃ k : Nat, z = (k : Int) ∧ k < M ∧ b.testBit k = true := by
 unfold bitsL
 rw [mem_up']
 constructor
 ·rintro ⟨x, h1, h2⟩
  rw [List.mem_filter, List.mem_range] at h1
  exact ⟨x, h2, h1⟩
 ·rintro ⟨k, h1, h2⟩
  exact ⟨k, by rw [List.mem_filter, List.mem_range]; exact h2, h1⟩
theorem bitsL_len (b M : Nat) : (bitsL b M).length ≤ M := by
 unfold bitsL
 rw [up_len]
 exact Nat.le_trans (List.length_filter_le _ _) (by simp)
theorem bitsL_inc (b M : Nat) : incB (bitsL b M) = true := by
 refine inc_pw ?_
 unfold bitsL up
 rw [List.pairwise_map]
 exact (List.Pairwise.filter _ List.pairwise_lt_range).imp (fun h => by omega)
theorem bitsL_in (b M : Nat) : (bitsL b M).any (outB (M : Int)) = false := by
 rw [List.any_eq_false]
 intro z hz
 obtain ⟨k, rfl, hk, _⟩ := bitsL_mem.1 hz
 unfold outB
 simp only [Bool.or_eq_true, decide_eq_true_iff]
 omega
theorem subset_val {b M : Nat} (hb : b < 4611686018427387904) (hM : M ≤ 60) : (colletref43_Subset (b : Int) (M : Int)).val = some (bitsL b M) := by
 have hL : LIM = 1073741824 := rfl
 have key : Ok (colletref43_Subset (b : Int) (M : Int)) (fun r => r = bitsL b M) := by
  unfold colletref43_Subset
  rw [Ok.bind]
  refine Ok.mono (P := fun r => r = bitsL b M) ?_ (fun r hr => by unfold colletref43_Subset_j1; exact Ok.pure.2 hr)
  refine Ok.count M (fun i s => s = (bitsL b i, (i : Int))) rfl ?_ ?_
  ·rintro i s hi rfl
   have hl := bitsL_len b i
   show Ok (colletref43_Subset_l2 (M : Int) (b : Int) (bitsL b i) (i : Int)) _
   have hs : bitsL b (i + 1) = if b.testBit i = true then bitsL b i ++ [(i : Int)] else bitsL b i := by
    unfold bitsL
    rw [List.range_succ, List.filter_append, up_append, List.filter_cons, List.filter_nil]
    split <;> simp [up]
   unfold colletref43_Subset_l2 colletref43_Subset_j3
   rw [Ok.ite, if_pos (by simp; omega), Ok.bind, Ok.nonneg (by omega), Ok.bind, Ok.pure, bit_eq hb (by omega)]
   refine Ok.ite_i (fun h => ?_) (fun h => ?_)
   ·rw [Ok.bind, Ok.app (by simp; omega), Ok.pure, hs, if_pos h, Comp.wrap_succ (by omega)]
   ·rw [Ok.pure, hs, if_neg h, Comp.wrap_succ (by omega)]
  ·rintro s rfl
   show Ok (colletref43_Subset_l2 (M : Int) (b : Int) (bitsL b M) (M : Int)) _
   unfold colletref43_Subset_l2
   rw [Ok.ite, if_neg (by simp), Ok.pure]
 exact Ok.val key
def TinyL (C : List api_Claim) : Prop := ∀ x ∈ C, x.Sure.length ≤ 16 ∧ x.Touched.length ≤ 16
theorem TinyL.small {C : List api_Claim} (h : TinyL C) : SmallL C := fun x hx => by
 have := h x hx
 unfold SmallC LIM
 omega
theorem goE_snoc {m : Int} (x : api_Claim) : ∀ (C pre : List api_Claim), goE m pre C = none → claimE x m = 0 → dupB (pre ++ C) x = false → goE m pre (C ++ [x]) = none
 | [], pre, _, h1, h2 => by
  rw [List.nil_append, goE_cons, if_neg (by simpa using h1), if_neg (by rw [List.append_nil] at h2; simp [h2])]; rfl
 | y :: C, pre, h0, h1, h2 => by
  rw [goE_cons] at h0
  rw [List.cons_append, goE_cons]
  split at h0; · cases h0
  split at h0; · cases h0
  rename_i h3 h4
  rw [if_neg h3, if_neg h4]
  exact goE_snoc x C (pre ++ [y]) h0 h1 (by rw [List.append_assoc]; exact h2)
structure MadeC (M : Nat) (C : List api_Claim) (b : Bool) (g : Int) : Prop where
 tiny : TinyL C
 good : goE (M : Int) [] C = none
 blank : b = false → ∀ y ∈ C, y.Kind ≠ 1
 gauge : ∀ y ∈ C, y.Kind = 3 → y.Gauge < g
 num : 0 ≤ g ∧ g ≤ C.length
theorem MadeC.nil (M : Nat) : MadeC M [] false 0 := ⟨(by intro x hx; cases hx), rfl, by simp, by simp, by simp⟩
theorem MadeC.snoc {M : Nat} {C : List api_Claim} {b b' : Bool} {g g' : Int} (h : MadeC M C b g) (x : api_Claim) (hx : x.Sure.length ≤ 16 ∧ x.Touched.length ≤ 16) (hc : claimE x (M : Int) = 0) (hd : dupB C x = false)
  (hb : b' = false → b = false ∧ x.Kind ≠ 1) (hg : g ≤ g' ∧ g' ≤ g + 1 ∧ (x.Kind = 3 → x.Gauge < g')) : MadeC M (C ++ [x]) b' g' := by
 have hall : ∀ {P : api_Claim → Prop}, (∀ y ∈ C, P y) → P x → ∀ y ∈ C ++ [x], P y := by
  intro P h1 h2 y hy
  rcases List.mem_append.1 hy with h | h
  ·exact h1 y h
  ·rw [List.mem_singleton] at h; rw [h]; exact h2
 have hn := h.num
 refine ⟨hall h.tiny hx, goE_snoc x C [] h.good hc hd, fun e => hall (h.blank (hb e).1) (hb e).2, hall (fun y hy hk => by have := h.gauge y hy hk; omega) hg.2.2, by simp; omega⟩
theorem claim_zero {x : api_Claim} {m : Int} (h1 : -1 ≤ x.Party ∧ x.Party < 6) (h2 : 1 ≤ x.Kind ∧ x.Kind ≤ 3) (h3 : incB x.Sure = true) (h4 : incB x.Touched = true) (h5 : x.Sure.any (outB m) = false) (h6 : x.Touched.any (outB m) = false)
  (h7 : x.Kind ≠ 3 → x.Gauge = 0) (h8 : x.Kind ≠ 2 → x.Sure = []) (h9 : x.Kind = 3 → x.Touched = []) (h10 : ∀ n ∈ x.Sure, n ∈ x.Touched) (h11 : 0 ≤ x.Gauge ∧ x.Gauge < 8) : claimE x m = 0 := by
 unfold claimE
 rw [if_neg (by unfold p1; simp; omega), if_neg (by unfold p2; simp; omega), if_neg (by simp [h3, h4]), if_neg (by simp [h5, h6]), if_neg, if_neg (by unfold p6; simp; omega)]
 have hp : partB x.Sure x.Touched = true := by
  unfold partB
  rw [Bool.not_eq_true', List.any_eq_false]
  intro n hn
  simp [h10 n hn]
 rw [hp]
 simp only [Bool.or_eq_true, Bool.and_eq_true, decide_eq_true_iff, Bool.not_true, Bool.false_eq_true, or_false, not_or, not_and]
 refine ⟨⟨fun hk => by have := h7 hk; omega, fun hk => by rw [h8 hk]; simp⟩, fun hk => by rw [h9 hk]; simp⟩
theorem claims_val {M most : Nat} (hM : 1 ≤ M ∧ M ≤ 4) (hmost : most ≤ 6) {L : List (List Int)} (hl : L.length ≤ 6) (hL : ∀ x ∈ L, x.length ≤ 5) :
  ∃ C b g, (colletref43_Claims L (M : Int) (most : Int)).val = some C ∧ MadeC M C b g ∧ C.length ≤ most := by
 have hLIM : LIM = 1073741824 := rfl
 have hp16 : 2 ^ M ≤ 16 := Nat.pow_le_pow_right (n := 2) (by omega) hM.2
 have hp1 := Nat.two_pow_pos M
 have key : Ok (colletref43_Claims L (M : Int) (most : Int)) (fun C => ∃ b g, MadeC M C b g ∧ C.length ≤ most) := by
  unfold colletref43_Claims
  rw [Ok.bind]
  refine Ok.mono (P := fun C => ∃ b g, MadeC M C b g ∧ C.length ≤ most) ?_ (fun r hr => by unfold colletref43_Claims_j1; exact Ok.pure.2 hr)
  refine Ok.loop (fun s : List api_Claim × Bool × Int × Int => ∃ i : Nat, s.2.2.2 = (i : Int) ∧ i ≤ L.length ∧ MadeC M s.1 s.2.1 s.2.2.1 ∧ s.1.length ≤ most) (fun s => L.length - s.2.2.2.toNat) ⟨0, rfl, by omega, MadeC.nil M, by simp⟩ ?_
  rintro ⟨C, b, g, s⟩ ⟨i, h0, hi0, hC, hlen⟩
  dsimp only at h0 hC hlen
  subst h0
  show Ok (colletref43_Claims_l2 L (most : Int) (M : Int) C b g (i : Int)) _
  unfold colletref43_Claims_l2
  rw [Ok.bind, Ok.pure, bif_and]
  refine Ok.ite_i (fun hc => ?_) (fun hc => ?_)
  rotate_left
  ·rw [Ok.pure]; exact ⟨b, g, hC, hlen⟩
  rw [Bool.and_eq_true, decide_eq_true_iff, decide_eq_true_iff] at hc
  have hi : i < L.length := by omega
  have hx := List.getElem?_eq_getElem hi
  have hxl := hL _ (List.getElem_mem hi)
  have hw := Comp.wrap_succ (show i < 9223372036854775807 by omega)
  obtain ⟨A1, k1, n1, hk1, ha1, hb1⟩ := next_val (L := L[i]) (A := 0) (n := 4) ⟨by omega, by omega⟩ (by omega) (by omega) (by omega)
  obtain ⟨A2, k2, n2, hk2, ha2, hb2⟩ := next_val (L := L[i]) (A := A1) (n := 5) ⟨ha1, hb1⟩ (by omega) (by omega) (by omega)
  obtain ⟨A3, k3, n3, hk3, ha3, hb3⟩ := next_val (L := L[i]) (A := A2) (n := 2 ^ M) ⟨ha2, hb2⟩ (by omega) (by omega) (by omega)
  obtain ⟨A4, k4, n4, hk4, ha4, hb4⟩ := next_val (L := L[i]) (A := A3) (n := 2 ^ M) ⟨ha3, hb3⟩ (by omega) (by omega) (by omega)
  replace n1 : (colletref01_Draw_Next ⟨L[i], 0⟩ 4).val = some (⟨L[i], A1⟩, (k1 : Int)) := n1
  replace n2 : (colletref01_Draw_Next ⟨L[i], A1⟩ 5).val = some (⟨L[i], A2⟩, (k2 : Int)) := n2
  have hkind : ∃ kd : Int, [(2 : Int), 2, 3, 1][k1]? = some kd ∧ (kd = 1 ∨ kd = 2 ∨ kd = 3) := by
   rcases (by omega : k1 = 0 ∨ k1 = 1 ∨ k1 = 2 ∨ k1 = 3) with rfl | rfl | rfl | rfl
   ·exact ⟨2, rfl, by omega⟩
   ·exact ⟨2, rfl, by omega⟩
   ·exact ⟨3, rfl, by omega⟩
   ·exact ⟨1, rfl, by omega⟩
  obtain ⟨kd, hkd, hkd3⟩ := hkind
  have hsh : shlF .i64 1 (M : Int) = ((2 ^ M : Nat) : Int) := shlF_nat (by omega)
  have hparty : IntKind.wrap .i64 ((k2 : Int) - 1) = (k2 : Int) - 1 := IntWalk.i64_in _ ⟨by omega, by omega⟩
  have stepM : ∀ C' b' g', MadeC M C' b' g' → C'.length ≤ most → Ok (colletref43_Claims_j3 (i : Int) C' b' g') (fun t => match t with
    | .next s' => (∃ i : Nat, s'.2.2.2 = (i : Int) ∧ i ≤ L.length ∧ MadeC M s'.1 s'.2.1 s'.2.2.1 ∧ s'.1.length ≤ most) ∧ L.length - s'.2.2.2.toNat < L.length - ((i : Int)).toNat
    | .done e => ∃ b g, MadeC M e b g ∧ e.length ≤ most) := by
   intro C' b' g' h1 h2
   unfold colletref43_Claims_j3
   rw [Ok.pure, hw]
   exact ⟨⟨i + 1, rfl, by omega, h1, h2⟩, by show L.length - (((i + 1 : Nat) : Int)).toNat < _; omega⟩
  have stepX : ∀ b' g' (x : api_Claim), MadeC M (C ++ [x]) b' g' → Ok (colletref43_Claims_j4 C (i : Int) b' g' x.Party x.Kind x.Gauge x.Sure x.Touched) (fun t => match t with
    | .next s' => (∃ i : Nat, s'.2.2.2 = (i : Int) ∧ i ≤ L.length ∧ MadeC M s'.1 s'.2.1 s'.2.2.1 ∧ s'.1.length ≤ most) ∧ L.length - s'.2.2.2.toNat < L.length - ((i : Int)).toNat
    | .done e => ∃ b g, MadeC M e b g ∧ e.length ≤ most) := by
   intro b' g' x h1
   unfold colletref43_Claims_j4
   rw [Ok.bind, Ok.app (by simp; omega)]
   exact stepM _ _ _ h1 (by simp; omega)
  rw [Ok.bind, Ok.idxn hx, Ok.bind, Ok.of_val n1, Ok.bind, Ok.idxn hkd, Ok.bind, Ok.of_val n2, Ok.bind, Ok.nonneg (by omega), Ok.bind, hsh, Ok.of_val n3, Ok.bind, Ok.nonneg (by omega), Ok.bind, Ok.of_val n4]
  dsimp only
  have ho : k3 ||| k4 < 2 ^ M := Nat.or_lt_two_pow hk3 hk4
  have hn : k3 &&& k4 < 2 ^ M := Nat.lt_of_le_of_lt Nat.and_le_left hk3
  have hnum := hC.num
  rw [hparty]
  rcases hkd3 with rfl | rfl | rfl
  ·rw [Ok.ite, if_pos (by rfl)]
   refine Ok.ite_i (fun hb => ?_) (fun hb => ?_)
   ·exact Ok.mono (stepM C b g hC hlen) (fun t ht => by cases t <;> exact ht)
   ·have hbf : b = false := by simpa using hb
    rw [orB_nat (by omega) (by omega), Ok.bind, Ok.of_val (subset_val (by omega) (by omega))]
    have hl1 := bitsL_len (k3 ||| k4) M
    refine Ok.mono (stepX true g ⟨(k2 : Int) - 1, 1, 0, [], bitsL (k3 ||| k4) M⟩ (hC.snoc _ ⟨by simp, by dsimp only; omega⟩ ?_ ?_ (fun e => by cases e) ⟨by omega, by omega, fun e => by cases e⟩)) (fun t ht => by cases t <;> exact ht)
    ·exact claim_zero (by dsimp only; omega) (by dsimp only; omega) rfl (bitsL_inc _ _) rfl (bitsL_in _ _) (fun _ => rfl) (fun _ => rfl) (fun e => by cases e) (fun n hn => by cases hn) (by dsimp only; omega)
    ·unfold dupB
     rw [List.any_eq_false]
     intro y hy
     have := hC.blank hbf y hy
     simp [this]
  ·rw [Ok.ite, if_neg (by decide), Ok.ite, if_pos (by rfl), andB_nat (by omega) (by omega), Ok.bind, Ok.of_val (subset_val (by omega) (by omega)), Ok.bind, Ok.of_val (subset_val (by omega) (by omega))]
   have hl1 := bitsL_len (k3 &&& k4) M
   have hl2 := bitsL_len k3 M
   refine Ok.mono (stepX b g ⟨(k2 : Int) - 1, 2, 0, bitsL (k3 &&& k4) M, bitsL k3 M⟩ (hC.snoc _ ⟨by dsimp only; omega, by dsimp only; omega⟩ ?_ (dup_two rfl) (fun e => ⟨e, by simp⟩) ⟨by omega, by omega, fun e => by cases e⟩)) (fun t ht => by cases t <;> exact ht)
   refine claim_zero (by dsimp only; omega) (by dsimp only; omega) (bitsL_inc _ _) (bitsL_inc _ _) (bitsL_in _ _) (bitsL_in _ _) (fun _ => rfl) (fun e => absurd rfl e) (fun e => by cases e) (fun n hn => ?_) (by dsimp only; omega)
   obtain ⟨k, rfl, h1, h2⟩ := bitsL_mem.1 hn
   rw [Nat.testBit_and, Bool.and_eq_true] at h2
   exact bitsL_mem.2 ⟨k, rfl, h1, h2.1⟩
  ·have hg1 : IntKind.wrap .i64 (g + 1) = g + 1 := IntWalk.i64_in _ ⟨by omega, by omega⟩
   rw [Ok.ite, if_neg (by decide), Ok.ite, if_neg (by decide), Ok.ite, if_pos (by rfl), hg1]
   refine Ok.mono (stepX b (g + 1) ⟨(k2 : Int) - 1, 3, g, [], []⟩ (hC.snoc _ ⟨by simp, by simp⟩ ?_ ?_ (fun e => ⟨e, by simp⟩) ⟨by omega, by omega, fun _ => by dsimp only; omega⟩)) (fun t ht => by cases t <;> exact ht)
   ·exact claim_zero (by dsimp only; omega) (by dsimp only; omega) rfl rfl rfl rfl (fun e => absurd rfl e) (fun _ => rfl) (fun _ => rfl) (fun n hn => by cases hn) (by dsimp only; omega)
   ·unfold dupB
    rw [List.any_eq_false]
    intro y hy h
    simp only [Bool.and_eq_true, Bool.or_eq_true, decide_eq_true_iff] at h
    have := hC.gauge y hy h.1
    omega
 obtain ⟨C, h1, b, g, h2, h3⟩ := key
 exact ⟨C, b, g, h1, h2, h3⟩
theorem sightsM_val {M : Nat} (hM : 1 ≤ M ∧ M ≤ 4) {L : List Int} (hl : L.length ≤ 30) :
  ∃ l, (colletref43_Sights L (M : Int)).val = some l ∧ l.length ≤ 10 ∧ l.any (farB (M : Int)) = false := by
 have hLIM : LIM = 1073741824 := rfl
 have key : Ok (colletref43_Sights L (M : Int)) (fun l => l.length ≤ 10 ∧ l.any (farB (M : Int)) = false) := by
  unfold colletref43_Sights
  rw [Ok.bind]
  refine Ok.mono (P := fun l => l.length ≤ 10 ∧ l.any (farB (M : Int)) = false) ?_ (fun r hr => by unfold colletref43_Sights_j1; exact Ok.pure.2 hr)
  refine Ok.loop (fun s : List api_Sight × Int × List Int × Int => ∃ i : Nat, s.2.1 = ((3 * i : Nat) : Int) ∧ i ≤ 10 ∧ s.1.length = i ∧ s.2.2.1 = L ∧ 0 ≤ s.2.2.2 ∧ s.2.2.2 ≤ 100 ∧ s.1.any (farB (M : Int)) = false) (fun s => 30 - s.2.1.toNat) ⟨0, rfl, by omega, rfl, rfl, by simp, by simp, rfl⟩ ?_
  rintro ⟨l, s, K, A⟩ ⟨i, h0, hi0, h1, h2, h3, h4, h5⟩
  dsimp only at h0 h1 h2 h3 h4 h5
  subst h0 h2
  show Ok (colletref43_Sights_l2 K (M : Int) l ((3 * i : Nat) : Int) K A) _
  unfold colletref43_Sights_l2
  rw [Ok.bind, Ok.pure, bif_and]
  refine Ok.ite_i (fun hc => ?_) (fun hc => ?_)
  rotate_left
  ·rw [Ok.pure]; exact ⟨by omega, h5⟩
  rw [Bool.and_eq_true, decide_eq_true_iff, decide_eq_true_iff] at hc
  obtain ⟨A1, k1, n1, hk1, ha1, hb1⟩ := next_val (L := K) (A := A) (n := 4) ⟨h3, h4⟩ (by omega) (by omega) (by omega)
  obtain ⟨A2, k2, n2, hk2, ha2, hb2⟩ := next_val (L := K) (A := A1) (n := M) ⟨ha1, hb1⟩ (by omega) (by omega) (by omega)
  obtain ⟨A3, k3, n3, hk3, ha3, hb3⟩ := next_val (L := K) (A := A2) (n := 2) ⟨ha2, hb2⟩ (by omega) (by omega) (by omega)
  replace n1 : (colletref01_Draw_Next ⟨K, A⟩ 4).val = some (⟨K, A1⟩, (k1 : Int)) := n1
  replace n3 : (colletref01_Draw_Next ⟨K, A2⟩ 2).val = some (⟨K, A3⟩, (k3 : Int)) := n3
  have hg : ∃ kd : Int, [(0 : Int), 0, 1, 2][k1]? = some kd ∧ 0 ≤ kd ∧ kd < 8 := by
   rcases (by omega : k1 = 0 ∨ k1 = 1 ∨ k1 = 2 ∨ k1 = 3) with rfl | rfl | rfl | rfl
   ·exact ⟨0, rfl, by omega⟩
   ·exact ⟨0, rfl, by omega⟩
   ·exact ⟨1, rfl, by omega⟩
   ·exact ⟨2, rfl, by omega⟩
  obtain ⟨kd, hkd, hkd2⟩ := hg
  have hw : IntKind.wrap .i64 (((3 * i : Nat) : Int) + 3) = ((3 * (i + 1) : Nat) : Int) := by rw [IntWalk.i64_in _ ⟨by omega, by omega⟩]; omega
  rw [Ok.bind, Ok.of_val n1, Ok.bind, Ok.idxn hkd, Ok.bind, Ok.of_val n2, Ok.bind, Ok.of_val n3, Ok.bind, Ok.app (by simp; omega), Ok.pure, hw]
  refine ⟨⟨i + 1, rfl, by omega, by simp [h1], rfl, ha3, hb3, ?_⟩, ?_⟩
  ·rw [List.any_append, h5, Bool.false_or, List.any_cons, List.any_nil, Bool.or_false]
   unfold farB
   simp only [Bool.or_eq_false_iff, decide_eq_false_iff_not]
   omega
  ·show 30 - (((3 * (i + 1) : Nat) : Int)).toNat < 30 - (((3 * i : Nat) : Int)).toNat
   omega
 obtain ⟨l, h1, h2, h3⟩ := key
 exact ⟨l, h1, h2, h3⟩
structure Made (most : Nat) (C : List api_Claim) (l : List api_Sight) (M : Nat) : Prop where
 cells : 1 ≤ M ∧ M ≤ 4
 len : C.length ≤ most ∧ l.length ≤ 10
 tiny : TinyL C
 check : checkE C l (M : Int) = 0
theorem Made.small {most : Nat} {C : List api_Claim} {l : List api_Sight} {M : Nat} (h : Made most C l M) : SmallL C := h.tiny.small
theorem made_val {x : colletlaw43_Case} {b most : Nat} (hb : x.Cells = (b : Int)) (hb2 : b < 256) (hmost : most ≤ 6) : ∃ (C : List api_Claim) (l : List api_Sight) (M : Nat), (colletlaw43_Case_made x (most : Int)).val = some (C, l, (M : Int)) ∧ Made most C l M ∧ M = 1 + b % 4 := by
 have hLIM : LIM = 1073741824 := rfl
 have hcells : IntKind.wrap .i64 (1 + Int.tmod (IntKind.wrap .i64 x.Cells) 4) = ((1 + b % 4 : Nat) : Int) := by
  have h1 : IntKind.wrap .i64 (b : Int) = (b : Int) := wrap_nat (by omega)
  rw [hb, h1, show Int.tmod (b : Int) 4 = ((b % 4 : Nat) : Int) by rw [Int.tmod_eq_emod_of_nonneg (by omega)]; omega, IntWalk.i64_in _ ⟨by omega, by omega⟩]; omega
 have hcut : Ok (Comp.loop (fun s : List (List Int) × Int => colletlaw43_Case_made_l2 x s.1 s.2) ([], 0)) (fun L => L.length ≤ 6 ∧ ∀ y ∈ L, y.length ≤ 5) := by
  refine Ok.loop (fun s : List (List Int) × Int => ∃ i : Nat, s.2 = (i : Int) ∧ i ≤ 6 ∧ s.1.length = i ∧ ∀ y ∈ s.1, y.length ≤ 5) (fun s => 6 - s.2.toNat) ⟨0, rfl, by omega, rfl, by simp⟩ ?_
  rintro ⟨L, s⟩ ⟨i, h0, hi, h1, h2⟩
  dsimp only at h0 h1 h2
  subst h0
  show Ok (colletlaw43_Case_made_l2 x L (i : Int)) _
  unfold colletlaw43_Case_made_l2
  rw [Ok.bind, Ok.pure, bif_and]
  refine Ok.ite_i (fun hc => ?_) (fun hc => ?_)
  ·rw [Bool.and_eq_true, decide_eq_true_iff, decide_eq_true_iff] at hc
   have hi : i < x.Claims.length := by omega
   have hx := List.getElem?_eq_getElem hi
   rw [Ok.bind, Ok.idxn hx, Ok.bind, Ok.idxn hx, Ok.bind, Ok.sub (by omega), Ok.bind, Ok.app (by simp; omega), Ok.pure, Comp.wrap_succ (by omega)]
   refine ⟨⟨i + 1, rfl, by omega, by simp [h1], ?_⟩, ?_⟩
   ·intro y hy
    rcases List.mem_append.1 hy with h | h
    ·exact h2 y h
    ·rw [List.mem_singleton] at h
     rw [h]
     simp only [Int.toNat_zero, List.drop_zero, List.length_take]
     omega
   ·show 6 - (((i + 1 : Nat) : Int)).toNat < 6 - ((i : Int)).toNat
    omega
  ·rw [Ok.pure]; exact ⟨by omega, h2⟩
 obtain ⟨L, hL, hL1, hL2⟩ := hcut
 have hM : 1 ≤ 1 + b % 4 ∧ 1 + b % 4 ≤ 4 := by omega
 obtain ⟨C, bl, g, hC, hmade, hlen⟩ := claims_val hM hmost hL1 hL2
 have hsub : (sub x.Sights 0 (min (x.Sights.length : Int) 30)).val = some (x.Sights.take (min (x.Sights.length : Int) 30).toNat) := by
  rw [sub_val (by omega)]; rfl
 obtain ⟨l, hl, hl1, hl2⟩ := sightsM_val hM (L := x.Sights.take (min (x.Sights.length : Int) 30).toNat) (by rw [List.length_take]; omega)
 refine ⟨C, l, 1 + b % 4, ?_, ⟨hM, ⟨hlen, hl1⟩, hmade.tiny, ?_⟩, rfl⟩
 ·unfold colletlaw43_Case_made
  rw [Comp.val_bind, Comp.val_pure, Option.bind_some, hcells, Comp.val_bind, hL, Option.bind_some]
  unfold colletlaw43_Case_made_j1
  rw [Comp.val_bind, hC, Option.bind_some, Comp.val_bind, hsub, Option.bind_some, Comp.val_bind, hl, Option.bind_some, Comp.val_pure]
 ·unfold checkE
  rw [if_neg (by simp; omega), if_neg (by simp; omega), hmade.good, hl2]; rfl
end Go.Crt
end
section
set_option linter.unusedVariables false
set_option linter.unusedSimpArgs false
namespace Go.Crt
open Go Go.Lift Go.F Go.Cor
variable {α β : Type}
set_option maxRecDepth 100000 in
theorem sanity_val : colletlaw43_sanity.val = some true := Comp.val_run (n := 2000) (by kernel_rfl)
theorem loop_none {body : Int → Comp (Comp.Step Int (Sum β Unit))} (xs : List α) (hb : ∀ (i : Nat) x, xs[i]? = some x → (body i).val = some (.next ((i + 1 : Nat) : Int)))
  (he : (body xs.length).val = some (.done (.inr ()))) : (Comp.loop body 0).val = some (.inr ()) := by
 have key : Ok (Comp.loop body 0) (fun e => e = .inr ()) := by
  refine Ok.count xs.length (fun i s => s = (i : Int)) rfl ?_ ?_
  ·rintro i s hi rfl
   rw [Ok.of_val (hb i _ (List.getElem?_eq_getElem hi))]
  ·rintro s rfl
   rw [Ok.of_val he]
 exact Ok.val key
end Go.Crt
end
section
set_option linter.unusedVariables false
set_option linter.unusedSimpArgs false
namespace Go.Crt
open Go Go.Lift Go.F Go.Cor
variable {α β : Type}
theorem any_mono {p q : α → Bool} {l : List α} (h : ∀ x, p x = true → q x = true) (hp : l.any p = true) : l.any q = true := by
 rw [List.any_eq_true] at hp ⊢
 obtain ⟨x, h1, h2⟩ := hp
 exact ⟨x, h1, h x h2⟩
theorem bad_mono {C : List api_Claim} {l : List api_Sight} {s t : Nat} (hst : Sub t s) (c : Int) (h : badB C l t c = true) : badB C l s c = true := by
 have h1 : ∀ b, C.zipIdx.any (qT l t c b) = true → C.zipIdx.any (qT l s c b) = true := fun b => any_mono fun p hp => by
  unfold qT at hp ⊢; simp only [Bool.and_eq_true] at hp ⊢; exact ⟨⟨hst _ hp.1.1, hp.1.2⟩, hp.2⟩
 have h2 : C.zipIdx.any (qS t c) = true → C.zipIdx.any (qS s c) = true := any_mono fun p hp => by
  unfold qS at hp ⊢; simp only [Bool.and_eq_true] at hp ⊢; exact ⟨⟨hst _ hp.1.1, hp.1.2⟩, hp.2⟩
 have h3 : C.zipIdx.any (qE t c) = true → C.zipIdx.any (qE s c) = true := any_mono fun p hp => by
  unfold qE at hp ⊢; simp only [Bool.and_eq_true] at hp ⊢; exact ⟨⟨hst _ hp.1.1, hp.1.2⟩, hp.2⟩
 have h4 : C.zipIdx.any (qK t c) = true → C.zipIdx.any (qK s c) = true := any_mono fun p hp => by
  unfold qK at hp ⊢; simp only [Bool.and_eq_true] at hp ⊢; exact ⟨⟨hst _ hp.1.1, hp.1.2⟩, hp.2⟩
 have h5 : C.zipIdx.any (qL s c) = true → C.zipIdx.any (qL t c) = true := any_mono fun p hp => by
  unfold qL at hp ⊢; simp only [Bool.and_eq_true, Bool.or_eq_true, Bool.not_eq_true'] at hp ⊢
  refine ⟨hp.1, hp.2.imp (fun h => ?_) id⟩
  cases ht : t.testBit p.2 with
  | false => rfl
  | true => rw [hst _ ht] at h; cases h
 unfold badB at h ⊢
 simp only [Bool.or_eq_true, Bool.and_eq_true, Bool.not_eq_true'] at h ⊢
 rcases h with ⟨a, b⟩ | ⟨⟨a, b⟩, e⟩
 ·exact .inl ⟨h1 _ a, b.imp (fun z => z.imp (h1 _) h2) h4⟩
 ·refine .inr ⟨⟨h1 _ a, h3 b⟩, ?_⟩
  cases f : C.zipIdx.any (qL s c) with
  | false => rfl
  | true => rw [h5 f] at e; cases e
theorem agree_down {C : List api_Claim} {l : List api_Sight} {M : Nat} (s t : Nat) (h : agreeB C l M s = true) (hst : Sub t s) : agreeB C l M t = true := by
 unfold agreeB at h ⊢
 rw [Bool.not_eq_true', List.any_eq_false] at h ⊢
 exact fun c hc hb => h c hc (bad_mono hst _ hb)
theorem agrees_in {C : List api_Claim} {l : List api_Sight} {M s : Nat} (hs : SmallL C) (h : checkE C l (M : Int) = 0) (hlt : s < 2 ^ C.length) : (court_Agrees C l (M : Int) (s : Int)).val = some (agreeB C l M s) := by
 rw [Agrees_val _ _ hs]
 unfold agreesE
 rw [decide_eq_true h, decide_eq_true (by omega : (s : Int) ≥ 0), decide_eq_true (by omega : (s : Int) < ((2 ^ C.length : Nat) : Int))]
 simp
end Go.Crt
end
section
set_option linter.unusedVariables false
set_option linter.unusedSimpArgs false
namespace Go.Crt
open Go Go.Lift Go.F Go.Cor
variable {α β : Type}
theorem without_zero {a b : Nat} : without a b = 0 ↔ Sub a b := by
 constructor
 ·intro h i hi
  have := testBit_without a b i
  rw [h, hi] at this
  simpa using this
 ·intro h
  refine Nat.eq_of_testBit_eq fun i => ?_
  rw [testBit_without]
  cases ha : a.testBit i with
  | false => simp
  | true => simp [h i ha]
theorem without_lt {s n : Nat} (t : Nat) (h : s < n) : without s t < n := Nat.lt_of_le_of_lt (without_le s t) h
end Go.Crt
end
section
set_option linter.unusedVariables false
set_option linter.unusedSimpArgs false
namespace Go.Crt
open Go Go.Lift Go.F Go.Cor
variable {α β : Type}
theorem goE_each {m : Int} : ∀ (C pre : List api_Claim), (∀ c, goE m pre C = some c → c = 0 → False) → (∀ c, goE m pre C = some c → c ≠ 0) → goE m pre C = none → ∀ x ∈ C, claimE x m = 0
 | [], _, _, _, _ => by simp
 | x :: C, pre, h1, h2, h => by
  rw [goE_cons] at h
  split at h; · cases h
  split at h; · cases h
  rename_i h3 h4
  intro y hy
  rcases List.mem_cons.1 hy with rfl | hy
  ·simpa using h3
  ·exact goE_each C (pre ++ [x]) (fun c hc => by rw [h] at hc; cases hc) (fun c hc => by rw [h] at hc; cases hc) h y hy
theorem goE_pos {m : Int} : ∀ (C pre : List api_Claim) c, goE m pre C = some c → c ≠ 0
 | [], pre, c, h => by cases h
 | x :: C, pre, c, h => by
  rw [goE_cons] at h
  split at h
  ·rename_i h3; cases h; exact h3
  ·split at h
   ·cases h; decide
   ·exact goE_pos C _ c h
theorem check_ranges {C : List api_Claim} {l : List api_Sight} {m : Int} (h : checkE C l m = 0) : (∀ x ∈ C, claimE x m = 0) ∧ l.any (farB m) = false := by
 unfold checkE at h
 split at h; · cases h
 split at h; · cases h
 cases e : goE m [] C with
 | some c =>
  rw [e] at h
  exact absurd h (goE_pos C [] c e)
 | none =>
  rw [e] at h
  refine ⟨goE_each C [] (fun c hc => by rw [e] at hc; cases hc) (fun c hc => by rw [e] at hc; cases hc) e, ?_⟩
  cases hf : l.any (farB m) with
  | false => rfl
  | true =>
   rw [hf] at h
   simp at h
theorem in_range {l : List Int} {m : Int} (h : l.any (outB m) = false) {x : Int} (hx : x ∈ l) : 0 ≤ x ∧ x < m := by
 have := List.any_eq_false.1 h x hx
 unfold outB at this
 simp at this
 omega
theorem claim_range {x : api_Claim} {m : Int} (h : claimE x m = 0) : (∀ z ∈ x.Sure, 0 ≤ z ∧ z < m) ∧ ∀ z ∈ x.Touched, 0 ≤ z ∧ z < m := by
 unfold claimE at h
 split at h; · cases h
 split at h; · cases h
 split at h; · cases h
 split at h; · cases h
 rename_i h1 h2 h3 h4
 simp only [Bool.or_eq_true, not_or, Bool.not_eq_true] at h4
 exact ⟨fun z hz => in_range h4.1 hz, fun z hz => in_range h4.2 hz⟩
theorem bits_val {L : List Int} {M : Nat} (hM : M ≤ 16) (hL : ∀ x ∈ L, 0 ≤ x ∧ x < (M : Int)) (hl : L.length ≤ LIM) : ∃ w : Nat, w < 2 ^ M ∧ (colletlaw43_bits L).val = some (w : Int) ∧ ∀ k : Nat, w.testBit k = L.contains (k : Int) := by
 have hLIM : LIM = 1073741824 := rfl
 have hp : 2 ^ M ≤ 65536 := Nat.pow_le_pow_right (n := 2) (by omega) hM
 have hp0 := Nat.two_pow_pos M
 have key : Ok (colletlaw43_bits L) (fun r => ∃ w : Nat, w < 2 ^ M ∧ r = (w : Int) ∧ ∀ k : Nat, w.testBit k = L.contains (k : Int)) := by
  unfold colletlaw43_bits
  rw [Ok.bind]
  refine Ok.mono (P := fun r => ∃ w : Nat, w < 2 ^ M ∧ r = (w : Int) ∧ ∀ k : Nat, w.testBit k = L.contains (k : Int)) ?_ (fun r hr => by unfold colletlaw43_bits_j1; exact Ok.pure.2 hr)
  refine Ok.count L.length (fun i s => s.2 = (i : Int) ∧ ∃ w : Nat, w < 2 ^ M ∧ s.1 = (w : Int) ∧ ∀ k : Nat, w.testBit k = (L.take i).contains (k : Int)) ⟨rfl, 0, by omega, rfl, by simp⟩ ?_ ?_
  ·rintro i ⟨a, s⟩ hi ⟨h0, w, hw, h1, h2⟩
   dsimp only at h0 h1
   subst h0 h1
   have hg := List.getElem?_eq_getElem hi
   have hr := hL _ (List.getElem_mem hi)
   obtain ⟨b, hb⟩ : ∃ b : Nat, L[i] = (b : Int) := ⟨L[i].toNat, by omega⟩
   have hbM : b < M := by omega
   have hpb : 2 ^ b < 2 ^ M := Nat.pow_lt_pow_right (by omega) hbM
   show Ok (colletlaw43_bits_l2 L (w : Int) (i : Int)) _
   unfold colletlaw43_bits_l2
   rw [Ok.ite, if_pos (by simp; omega), Ok.bind, Ok.idxn hg, hb, Ok.bind, Ok.nonneg (by omega), Ok.pure, shlF_nat (by omega), orB_nat (by omega) (by omega)]
   refine ⟨Comp.wrap_succ (by omega), w ||| 2 ^ b, Nat.or_lt_two_pow hw hpb, rfl, fun k => ?_⟩
   rw [Nat.testBit_or, h2, testBit_pow, take_snoc hi, hb]
   by_cases e : b = k
   ·subst e; simp
   ·have : ¬ (k : Int) = (b : Int) := by omega
    simp [e, this]
  ·rintro ⟨a, s⟩ ⟨h0, w, hw, h1, h2⟩
   dsimp only at h0 h1
   subst h0 h1
   show Ok (colletlaw43_bits_l2 L (w : Int) (L.length : Int)) _
   unfold colletlaw43_bits_l2
   rw [Ok.ite, if_neg (by simp), Ok.pure]
   rw [List.take_length] at h2
   exact ⟨w, hw, rfl, h2⟩
 obtain ⟨r, h1, w, hw, rfl, h2⟩ := key
 exact ⟨w, hw, h1, h2⟩
def rm (R : List Nat) (i : Nat) : Nat := R[i]?.getD 0
def cutB (R : List Nat) (k : Nat) (q : api_Claim × Nat) : Bool := decide (q.1.Kind = 2) && (rm R q.2).testBit k
theorem rm_get {R : List Nat} {i : Nat} (h : i < R.length) : (up R)[i]? = some (rm R i : Int) := by
 unfold rm up
 rw [List.getElem?_map, List.getElem?_eq_getElem h]; rfl
theorem rm_lt {R : List Nat} {n : Nat} (hn : 0 < n) (h : ∀ r ∈ R, r < n) (i : Nat) : rm R i < n := by
 unfold rm
 cases hi : R[i]? with
 | none => exact hn
 | some r => exact h r (List.mem_of_getElem? hi)
theorem there_val {C : List api_Claim} {mat M : Nat} {R : List Nat} (hM : M ≤ 16) (hC : C.length ≤ 10) (hR : R.length = C.length) (hm : mat < 2 ^ M) (hr : ∀ r ∈ R, r < 2 ^ M) :
  ∃ e : Nat, e < 2 ^ M ∧ (colletlaw43_world_there ⟨(mat : Int), up R⟩ C).val = some (e : Int) ∧ ∀ k, e.testBit k = (mat.testBit k && !C.zipIdx.any (cutB R k)) := by
 have hp : 2 ^ M ≤ 65536 := Nat.pow_le_pow_right (n := 2) (by omega) hM
 have key : Ok (colletlaw43_world_there ⟨(mat : Int), up R⟩ C) (fun r => ∃ e : Nat, e < 2 ^ M ∧ r = (e : Int) ∧ ∀ k, e.testBit k = (mat.testBit k && !C.zipIdx.any (cutB R k))) := by
  unfold colletlaw43_world_there
  rw [Ok.bind]
  refine Ok.mono (P := fun r => ∃ e : Nat, e < 2 ^ M ∧ r = (e : Int) ∧ ∀ k, e.testBit k = (mat.testBit k && !C.zipIdx.any (cutB R k))) ?_ (fun r hr => by unfold colletlaw43_world_there_j1; exact Ok.pure.2 hr)
  refine Ok.count C.length (fun i s => s.2 = (i : Int) ∧ ∃ e : Nat, e < 2 ^ M ∧ s.1 = (e : Int) ∧ ∀ k, e.testBit k = (mat.testBit k && !(C.zipIdx.take i).any (cutB R k))) ⟨rfl, mat, hm, rfl, by simp⟩ ?_ ?_
  ·rintro i ⟨a, s⟩ hi ⟨h0, w, hw, h1, h2⟩
   dsimp only at h0 h1
   subst h0 h1
   have hg := List.getElem?_eq_getElem hi
   have hz := zip_get hg
   have hrm := rm_lt (by omega) hr i
   show Ok (colletlaw43_world_there_l2 C ⟨(mat : Int), up R⟩ (w : Int) (i : Int)) _
   unfold colletlaw43_world_there_l2 colletlaw43_world_there_j3
   rw [Ok.ite, if_pos (by simp; omega), Ok.bind, Ok.idxn hg]
   refine Ok.ite_i (fun hc => ?_) (fun hc => ?_)
   ·have hc' := of_decide_eq_true hc
    rw [Ok.bind, Ok.idxn (rm_get (by omega)), Ok.pure, andNotB_nat (by omega) (by omega)]
    refine ⟨Comp.wrap_succ (by omega), without w (rm R i), without_lt _ hw, rfl, fun k => ?_⟩
    rw [any_take hz, testBit_without, h2]
    simp [cutB, hc', Bool.and_assoc]
   ·have hc' : C[i].Kind ≠ 2 := by simpa using hc
    rw [Ok.pure]
    refine ⟨Comp.wrap_succ (by omega), w, hw, rfl, fun k => ?_⟩
    rw [any_take hz, h2]
    simp [cutB, hc']
  ·rintro ⟨a, s⟩ ⟨h0, w, hw, h1, h2⟩
   dsimp only at h0 h1
   subst h0 h1
   show Ok (colletlaw43_world_there_l2 C ⟨(mat : Int), up R⟩ (w : Int) (C.length : Int)) _
   unfold colletlaw43_world_there_l2
   rw [Ok.ite, if_neg (by simp), Ok.pure]
   rw [← zip_len C, List.take_length] at h2
   exact ⟨w, hw, rfl, h2⟩
 obtain ⟨r, h1, w, hw, rfl, h2⟩ := key
 exact ⟨w, hw, h1, h2⟩
def HoldsP (l : List api_Sight) (mat : Nat) (R : List Nat) (e : Nat) (x : api_Claim) (i : Nat) : Prop :=
 if x.Kind = 1 then ∀ k : Nat, mat.testBit k = x.Touched.contains (k : Int)
 else if x.Kind = 2 then (∀ k : Nat, (k : Int) ∈ x.Sure → (rm R i).testBit k = true) ∧ ∀ k : Nat, (rm R i).testBit k = true → (k : Int) ∈ x.Touched
 else ∀ y ∈ l, y.Gauge = x.Gauge → ∀ k : Nat, y.Cell = (k : Int) → e.testBit k = y.There
theorem holds_val {C : List api_Claim} {l : List api_Sight} {mat M e i : Nat} {R : List Nat} {x : api_Claim} (hM : M ≤ 16) (hC : C.length ≤ 10) (hl : l.length ≤ 40) (hR : R.length = C.length) (hm : mat < 2 ^ M) (hr : ∀ r ∈ R, r < 2 ^ M)
  (hs : SmallL C) (hcl : ∀ x ∈ C, claimE x (M : Int) = 0) (hfar : l.any (farB (M : Int)) = false) (he : e < 2 ^ M) (hev : (colletlaw43_world_there ⟨(mat : Int), up R⟩ C).val = some (e : Int)) (hx : C[i]? = some x) :
  ∃ b, (colletlaw43_world_holds ⟨(mat : Int), up R⟩ C l (i : Int)).val = some b ∧ (b = true ↔ HoldsP l mat R e x i) := by
 have hp : 2 ^ M ≤ 65536 := Nat.pow_le_pow_right (n := 2) (by omega) hM
 have hi := getElem?_len hx
 have hxm := List.mem_of_getElem? hx
 have hrg := claim_range (hcl x hxm)
 have hsx := hs x hxm
 obtain ⟨ws, hws, hwsv, hwsb⟩ := bits_val hM hrg.1 hsx.1
 obtain ⟨wt, hwt, hwtv, hwtb⟩ := bits_val hM hrg.2 hsx.2
 have hrm := rm_lt (Nat.two_pow_pos M) hr i
 unfold colletlaw43_world_holds HoldsP
 rw [Comp.val_bind, idx_val hx, Option.bind_some, Comp.val_ite, Comp.val_ite]
 by_cases k1 : x.Kind = 1
 ·rw [if_pos (by simp [k1]), if_pos k1, Comp.val_bind, hwtv, Option.bind_some, Comp.val_pure]
  refine ⟨_, rfl, ?_⟩
  rw [decide_eq_true_iff]
  constructor
  ·intro h k
   have : mat = wt := by
    have h' : (mat : Int) = (wt : Int) := h
    omega
   rw [this, hwtb]
  ·intro h
   show (mat : Int) = (wt : Int)
   have : mat = wt := Nat.eq_of_testBit_eq fun k => by rw [h, hwtb]
   omega
 ·rw [if_neg (by simp [k1]), if_neg k1]
  by_cases k2 : x.Kind = 2
  ·rw [if_pos (by simp [k2]), if_pos k2, Comp.val_bind, hwsv, Option.bind_some, Comp.val_bind, idx_val (rm_get (by omega)), Option.bind_some, andNotB_nat (by omega) (by omega)]
   have e1 : decide (((without ws (rm R i) : Nat) : Int) = 0) = decide (without ws (rm R i) = 0) := decide_eq_decide.2 (by omega)
   have s1 : Cor.Sub ws (rm R i) ↔ ∀ k : Nat, (k : Int) ∈ x.Sure → (rm R i).testBit k = true := by
    refine forall_congr' fun k => ?_
    rw [hwsb, List.contains_iff_mem]
   have s2 : Cor.Sub (rm R i) wt ↔ ∀ k : Nat, (rm R i).testBit k = true → (k : Int) ∈ x.Touched := by
    refine forall_congr' fun k => ?_
    rw [hwtb, List.contains_iff_mem]
   by_cases h : without ws (rm R i) = 0
   ·rw [e1, decide_eq_true h, Comp.val_bind, Comp.val_gd, if_pos (by rfl), idx_val (rm_get (by omega)), Option.bind_some, Comp.val_bind, Comp.val_gd, if_pos (by rfl), hwtv, Option.bind_some, andNotB_nat (by omega) (by omega), Comp.val_bind, Comp.val_pure, Option.bind_some, Comp.val_pure]
    refine ⟨_, rfl, ?_⟩
    rw [cond_true, decide_eq_true_iff, ← s1, ← s2, ← without_zero (a := rm R i)]
    constructor
    ·intro h3; exact ⟨without_zero.1 h, by omega⟩
    ·rintro ⟨_, h3⟩; omega
   ·rw [e1, decide_eq_false h, Comp.val_bind, Comp.val_gd, if_neg (by simp), Option.bind_some, Comp.val_bind, Comp.val_gd, if_neg (by simp), Option.bind_some, Comp.val_bind, Comp.val_pure, Option.bind_some, Comp.val_pure]
    refine ⟨_, rfl, ?_⟩
    rw [cond_false, ← s1]
    constructor
    ·intro h3; cases h3
    ·intro h3; exact absurd (without_zero.2 h3.1) h
  ·rw [if_neg (by simp [k2]), if_neg k2, Comp.val_bind, hev, Option.bind_some]
   have hrange : ∀ y ∈ l, 0 ≤ y.Cell ∧ y.Cell < (M : Int) := by
    intro y hy
    have := List.any_eq_false.1 hfar y hy
    unfold farB at this
    simp at this
    omega
   have hlp := Comp.loop_any (body := fun s => colletlaw43_world_holds_l2 l x (e : Int) s) l (fun y => decide (y.Gauge = x.Gauge) && decide (e.testBit y.Cell.toNat ≠ y.There)) false (by
    intro j y hy
    have hj := getElem?_len hy
    have hc := hrange y (List.mem_of_getElem? hy)
    obtain ⟨c, hc2⟩ : ∃ c : Nat, y.Cell = (c : Int) := ⟨y.Cell.toNat, by omega⟩
    show (colletlaw43_world_holds_l2 l x (e : Int) (j : Int)).val = _
    unfold colletlaw43_world_holds_l2
    rw [Comp.val_ite, if_pos (by rw [decide_eq_true_iff]; omega), Comp.val_bind, idx_val hy, Option.bind_some, hc2, bit_eq (by omega) (by omega), Int.toNat_natCast]
    have hw := Comp.wrap_succ (i := j) (by omega)
    by_cases g : y.Gauge = x.Gauge
    ·rw [decide_eq_true g, Comp.val_bind, Comp.val_gd, if_pos (by rfl), nonneg_val (by omega), Option.bind_some, Comp.val_bind, Comp.val_pure, Option.bind_some, Comp.val_ite, Comp.val_pure, Comp.val_pure, cond_true, Bool.true_and, hw]
     split <;> rfl
    ·rw [decide_eq_false g]
     simp [Comp.val_bind, Comp.val_gd, Comp.val_pure, Comp.val_ite, hw]) (by
    show (colletlaw43_world_holds_l2 l x (e : Int) (l.length : Int)).val = _
    unfold colletlaw43_world_holds_l2
    rw [Comp.val_ite, if_neg (by simp), Comp.val_pure])
   rw [Comp.val_bind, hlp, Option.bind_some]
   cases ha : l.any fun y => decide (y.Gauge = x.Gauge) && decide (e.testBit y.Cell.toNat ≠ y.There) with
   | true =>
    refine ⟨false, by simp [Comp.val_pure], ?_⟩
    obtain ⟨y, h1, h2⟩ := List.any_eq_true.1 ha
    simp only [Bool.and_eq_true, decide_eq_true_iff] at h2
    constructor
    ·intro h; cases h
    ·intro h
     exact absurd (h y h1 h2.1 y.Cell.toNat (by have := hrange y h1; omega)) h2.2
   | false =>
    refine ⟨true, by simp [Comp.val_pure, colletlaw43_world_holds_j1], ?_⟩
    rw [List.any_eq_false] at ha
    refine ⟨fun _ y hy hg k hk => ?_, fun _ => rfl⟩
    have := ha y hy
    simp only [Bool.and_eq_true, decide_eq_true_iff, not_and, ne_eq, Decidable.not_not] at this
    have h2 := this hg
    rw [hk, Int.toNat_natCast] at h2
    exact h2
theorem truth_val {C : List api_Claim} {l : List api_Sight} {mat M : Nat} {R : List Nat} (hM : M ≤ 16) (hC : C.length ≤ 10) (hl : l.length ≤ 40) (hR : R.length = C.length) (hm : mat < 2 ^ M) (hr : ∀ r ∈ R, r < 2 ^ M)
  (hs : SmallL C) (hcl : ∀ x ∈ C, claimE x (M : Int) = 0) (hfar : l.any (farB (M : Int)) = false) {e : Nat} (he : e < 2 ^ M) (hev : (colletlaw43_world_there ⟨(mat : Int), up R⟩ C).val = some (e : Int)) :
  ∃ t : Nat, t < 2 ^ C.length ∧ (colletlaw43_world_truth ⟨(mat : Int), up R⟩ C l).val = some (t : Int) ∧ ∀ (i : Nat) x, C[i]? = some x → (t.testBit i = true ↔ HoldsP l mat R e x i) := by
 have hp := pow_len hC
 have hp0 := Nat.two_pow_pos C.length
 have key : Ok (colletlaw43_world_truth ⟨(mat : Int), up R⟩ C l) (fun r => ∃ t : Nat, t < 2 ^ C.length ∧ r = (t : Int) ∧ ∀ (i : Nat) x, C[i]? = some x → (t.testBit i = true ↔ HoldsP l mat R e x i)) := by
  unfold colletlaw43_world_truth
  rw [Ok.bind]
  refine Ok.mono (P := fun r => ∃ t : Nat, t < 2 ^ C.length ∧ r = (t : Int) ∧ ∀ (i : Nat) x, C[i]? = some x → (t.testBit i = true ↔ HoldsP l mat R e x i)) ?_ (fun r hr => by unfold colletlaw43_world_truth_j1; exact Ok.pure.2 hr)
  refine Ok.count C.length (fun i s => s.2 = (i : Int) ∧ ∃ t : Nat, t < 2 ^ i ∧ s.1 = (t : Int) ∧ ∀ (j : Nat) x, j < i → C[j]? = some x → (t.testBit j = true ↔ HoldsP l mat R e x j)) ⟨rfl, 0, by omega, rfl, fun j x h => by omega⟩ ?_ ?_
  ·rintro i ⟨a, s⟩ hi ⟨h0, w, hw, h1, h2⟩
   dsimp only at h0 h1
   subst h0 h1
   have hg := List.getElem?_eq_getElem hi
   have hpi : 2 ^ i < 2 ^ C.length := Nat.pow_lt_pow_right (by omega) hi
   have hps : 2 ^ (i + 1) = 2 ^ i * 2 := Nat.pow_succ ..
   obtain ⟨b, hb, hb2⟩ := holds_val hM hC hl hR hm hr hs hcl hfar he hev hg
   show Ok (colletlaw43_world_truth_l2 C ⟨(mat : Int), up R⟩ l (w : Int) (i : Int)) _
   unfold colletlaw43_world_truth_l2 colletlaw43_world_truth_j3
   rw [Ok.ite, if_pos (by simp; omega), Ok.bind, Ok.of_val hb]
   cases b with
   | true =>
    rw [Ok.ite, if_pos rfl, Ok.bind, Ok.nonneg (by omega), Ok.pure, shlF_nat (by omega), orB_nat (by omega) (by omega)]
    refine ⟨Comp.wrap_succ (by omega), w ||| 2 ^ i, Nat.or_lt_two_pow (by omega) (by omega), rfl, fun j x hj hx => ?_⟩
    rw [Nat.testBit_or, testBit_pow]
    by_cases e : i = j
    ·subst e
     rw [hg] at hx
     obtain rfl := Option.some.inj hx
     simp; exact hb2.1 rfl
    ·have := h2 j x (by omega) hx
     simp [e]; exact this
   | false =>
    rw [Ok.ite, if_neg (by simp), Ok.pure]
    refine ⟨Comp.wrap_succ (by omega), w, by omega, rfl, fun j x hj hx => ?_⟩
    by_cases e : i = j
    ·subst e
     rw [hg] at hx
     obtain rfl := Option.some.inj hx
     rw [← hb2, Nat.testBit_lt_two_pow hw]
    ·exact h2 j x (by omega) hx
  ·rintro ⟨a, s⟩ ⟨h0, w, hw, h1, h2⟩
   dsimp only at h0 h1
   subst h0 h1
   show Ok (colletlaw43_world_truth_l2 C ⟨(mat : Int), up R⟩ l (w : Int) (C.length : Int)) _
   unfold colletlaw43_world_truth_l2
   rw [Ok.ite, if_neg (by simp), Ok.pure]
   exact ⟨w, hw, rfl, fun j x hx => h2 j x (getElem?_len hx) hx⟩
 obtain ⟨r, h1, w, hw, rfl, h2⟩ := key
 exact ⟨w, hw, h1, h2⟩
theorem zip_mem {C : List api_Claim} {q : api_Claim × Nat} (h : q ∈ C.zipIdx) : C[q.2]? = some q.1 := by
 obtain ⟨i, hi⟩ := List.getElem?_of_mem h
 rw [List.getElem?_zipIdx] at hi
 cases hc : C[i]? with
 | none => rw [hc] at hi; cases hi
 | some z =>
  rw [hc] at hi
  simp at hi
  rw [← hi]; simpa using hc
theorem world_agrees {C : List api_Claim} {l : List api_Sight} {mat M e t : Nat} {R : List Nat} (hG : GoodL C l (M : Int)) (heb : ∀ k, e.testBit k = (mat.testBit k && !C.zipIdx.any (cutB R k)))
  (ht : ∀ (i : Nat) x, C[i]? = some x → t.testBit i = true → HoldsP l mat R e x i) : agreeB C l M t = true := by
 unfold agreeB
 rw [Bool.not_eq_true', List.any_eq_false]
 intro c hc hbad
 have hT : ∀ b, C.zipIdx.any (qT l t (c : Int) b) = true → e.testBit c = b := by
  intro b h
  obtain ⟨q, h1, h2⟩ := List.any_eq_true.1 h
  unfold qT saidS at h2
  simp only [Bool.and_eq_true, decide_eq_true_iff, List.any_eq_true] at h2
  obtain ⟨⟨h3, h4⟩, y, h5, ⟨h6, h7⟩, h8⟩ := h2
  have hh := ht q.2 q.1 (zip_mem h1) h3
  unfold HoldsP at hh
  rw [if_neg (by omega), if_neg (by omega)] at hh
  rw [hh y h5 h6 c h7, h8]
 have hS : C.zipIdx.any (qS t (c : Int)) = true → e.testBit c = false := by
  intro h
  obtain ⟨q, h1, h2⟩ := List.any_eq_true.1 h
  unfold qS at h2
  simp only [Bool.and_eq_true, decide_eq_true_iff, Bool.not_eq_true'] at h2
  obtain ⟨⟨h3, h4⟩, h5⟩ := h2
  have hh := ht q.2 q.1 (zip_mem h1) h3
  unfold HoldsP at hh
  rw [if_pos h4] at hh
  rw [heb, hh, h5]; rfl
 have hE : C.zipIdx.any (qE t (c : Int)) = true → mat.testBit c = true := by
  intro h
  obtain ⟨q, h1, h2⟩ := List.any_eq_true.1 h
  unfold qE at h2
  simp only [Bool.and_eq_true, decide_eq_true_iff] at h2
  obtain ⟨⟨h3, h4⟩, h5⟩ := h2
  have hh := ht q.2 q.1 (zip_mem h1) h3
  unfold HoldsP at hh
  rw [if_pos h4] at hh
  rw [hh, h5]
 have hK : C.zipIdx.any (qK t (c : Int)) = true → e.testBit c = false := by
  intro h
  obtain ⟨q, h1, h2⟩ := List.any_eq_true.1 h
  unfold qK at h2
  simp only [Bool.and_eq_true, decide_eq_true_iff] at h2
  obtain ⟨⟨h3, h4⟩, h5⟩ := h2
  have hh := ht q.2 q.1 (zip_mem h1) h3
  unfold HoldsP at hh
  rw [if_neg (by omega), if_pos h4] at hh
  have hcut : C.zipIdx.any (cutB R c) = true := List.any_eq_true.2 ⟨q, h1, by
   unfold cutB
   simp only [Bool.and_eq_true, decide_eq_true_iff]
   exact ⟨h4, hh.1 c (List.contains_iff_mem.1 h5)⟩⟩
  rw [heb, hcut]; simp
 have hL : C.zipIdx.any (cutB R c) = true → C.zipIdx.any (qL t (c : Int)) = true := by
  intro h
  obtain ⟨q, h1, h2⟩ := List.any_eq_true.1 h
  unfold cutB at h2
  simp only [Bool.and_eq_true, decide_eq_true_iff] at h2
  refine List.any_eq_true.2 ⟨q, h1, ?_⟩
  unfold qL
  simp only [Bool.and_eq_true, decide_eq_true_iff, Bool.or_eq_true, Bool.not_eq_true']
  refine ⟨h2.1, ?_⟩
  cases hb : t.testBit q.2 with
  | false => exact .inl rfl
  | true =>
   have hh := ht q.2 q.1 (zip_mem h1) hb
   unfold HoldsP at hh
   rw [if_neg (by omega), if_pos h2.1] at hh
   exact .inr (List.contains_iff_mem.2 (hh.2 c h2.2))
 unfold badB at hbad
 simp only [Bool.or_eq_true, Bool.and_eq_true, Bool.not_eq_true'] at hbad
 rcases hbad with ⟨a, (b | b) | b⟩ | ⟨⟨a, b⟩, d⟩
 ·have h1 := hT _ a; have h2 := hT _ b; rw [h1] at h2; cases h2
 ·have h1 := hT _ a; rw [hS b] at h1; cases h1
 ·have h1 := hT _ a; rw [hK b] at h1; cases h1
 ·have h1 := hT _ a
  rw [heb, hE b, Bool.true_and, Bool.not_eq_false'] at h1
  rw [hL h1] at d; cases d
end Go.Crt
end
section
set_option linter.unusedVariables false
set_option linter.unusedSimpArgs false
namespace Go.Crt
open Go Go.Lift Go.F Go.Cor
variable {α β : Type}
def dec (B : Nat) : List api_Claim → Nat → List Nat × Nat
 | [], k => ([], k)
 | x :: C, k => if x.Kind = 2 then (k % B :: (dec B C (k / B)).1, (dec B C (k / B)).2) else (0 :: (dec B C k).1, (dec B C k).2)
theorem dec_cut {B : Nat} {x : api_Claim} (h : x.Kind = 2) (C : List api_Claim) (k : Nat) : dec B (x :: C) k = (k % B :: (dec B C (k / B)).1, (dec B C (k / B)).2) := by
 rw [dec, if_pos h]
theorem dec_no {B : Nat} {x : api_Claim} (h : x.Kind ≠ 2) (C : List api_Claim) (k : Nat) : dec B (x :: C) k = (0 :: (dec B C k).1, (dec B C k).2) := by
 rw [dec, if_neg h]
def cuts (C : List api_Claim) : Nat := C.countP fun x => decide (x.Kind = 2)
theorem dec_len (B : Nat) : ∀ (C : List api_Claim) (k : Nat), (dec B C k).1.length = C.length
 | [], k => rfl
 | x :: C, k => by
  by_cases h : x.Kind = 2
  ·rw [dec_cut h]; simp [dec_len B C]
  ·rw [dec_no h]; simp [dec_len B C]
theorem dec_lt {B : Nat} (hB : 0 < B) : ∀ (C : List api_Claim) (k : Nat), ∀ r ∈ (dec B C k).1, r < B
 | [], k, r, h => by cases h
 | x :: C, k, r, h => by
  by_cases hk : x.Kind = 2
  ·rw [dec_cut hk] at h
   rcases List.mem_cons.1 h with rfl | h
   ·exact Nat.mod_lt _ hB
   ·exact dec_lt hB C _ r h
  ·rw [dec_no hk] at h
   rcases List.mem_cons.1 h with rfl | h
   ·exact hB
   ·exact dec_lt hB C _ r h
theorem dec_mat (B : Nat) : ∀ (C : List api_Claim) (k : Nat), (dec B C k).2 = k / B ^ cuts C
 | [], k => by simp [dec, cuts]
 | x :: C, k => by
  by_cases hk : x.Kind = 2
  ·rw [dec_cut hk]
   have : cuts (x :: C) = cuts C + 1 := by unfold cuts; rw [List.countP_cons]; simp [hk]
   rw [this]
   show (dec B C (k / B)).2 = _
   rw [dec_mat B C, Nat.div_div_eq_div_mul, Nat.pow_succ, Nat.mul_comm]
  ·rw [dec_no hk]
   have : cuts (x :: C) = cuts C := by unfold cuts; rw [List.countP_cons]; simp [hk]
   rw [this]
   exact dec_mat B C k
theorem dec_zero (B : Nat) : ∀ C : List api_Claim, dec B C 0 = (List.replicate C.length 0, 0)
 | [] => rfl
 | x :: C => by
  by_cases hk : x.Kind = 2
  ·rw [dec_cut hk, Nat.zero_mod, Nat.zero_div, dec_zero B C]; rfl
  ·rw [dec_no hk, dec_zero B C]; rfl
theorem dec_surj {B : Nat} (hB : 0 < B) (mat : Nat) : ∀ (C : List api_Claim) (R : List Nat), R.length = C.length → (∀ (i : Nat) x r, C[i]? = some x → R[i]? = some r → r < B ∧ (x.Kind ≠ 2 → r = 0)) → ∃ k, dec B C k = (R, mat)
 | [], R, hl, _ => ⟨mat, by
               have : R = [] := by simpa using hl
               rw [this]; rfl⟩
 | x :: C, [], hl, _ => by simp at hl
 | x :: C, r :: R, hl, h => by
  obtain ⟨k, hk⟩ := dec_surj hB mat C R (by simpa using hl) (fun i y q h1 h2 => h (i + 1) y q (by simpa using h1) (by simpa using h2))
  obtain ⟨h1, h2⟩ := h 0 x r rfl rfl
  by_cases hx : x.Kind = 2
  ·refine ⟨r + B * k, ?_⟩
   rw [dec_cut hx, Nat.add_mul_mod_self_left, Nat.mod_eq_of_lt h1, Nat.add_mul_div_left _ _ hB, Nat.div_eq_of_lt h1, Nat.zero_add, hk]
  ·exact ⟨k, by rw [dec_no hx, hk, h2 hx]⟩
theorem up_rep (n : Nat) : up (List.replicate n 0) = List.replicate n (0 : Int) := by simp [up]
theorem get_mid {a b : List Nat} {r : Nat} : (up (a ++ r :: b))[a.length]? = some (r : Int) := by
 unfold up; rw [List.getElem?_map, List.getElem?_append_right (Nat.le_refl _)]; simp
theorem set_mid {a b : List Nat} {r q : Nat} : (up (a ++ r :: b)).set a.length (q : Int) = up (a ++ q :: b) := by
 unfold up
 rw [List.map_append, List.map_append, List.set_append_right _ _ (by simp)]
 simp
theorem wnext_val {C : List api_Claim} {M k : Nat} (hM : M ≤ 4) (hC : C.length ≤ 10) (hm : (dec (2 ^ M) C k).2 < 2 ^ M) :
  (colletlaw43_world_next ⟨((dec (2 ^ M) C k).2 : Int), up (dec (2 ^ M) C k).1⟩ C (M : Int)).val = some (⟨((dec (2 ^ M) C (k + 1)).2 : Int), up (dec (2 ^ M) C (k + 1)).1⟩, decide ((dec (2 ^ M) C (k + 1)).2 < 2 ^ M)) := by
 have hp : 2 ^ M ≤ 16 := Nat.pow_le_pow_right (n := 2) (by omega) hM
 have hp0 := Nat.two_pow_pos M
 have key : Ok (colletlaw43_world_next ⟨((dec (2 ^ M) C k).2 : Int), up (dec (2 ^ M) C k).1⟩ C (M : Int)) (fun r => r = (⟨((dec (2 ^ M) C (k + 1)).2 : Int), up (dec (2 ^ M) C (k + 1)).1⟩, decide ((dec (2 ^ M) C (k + 1)).2 < 2 ^ M))) := by
  unfold colletlaw43_world_next
  rw [Ok.bind]
  refine Ok.mono (P := fun e => match e with
   | .inl r => r = (⟨((dec (2 ^ M) C (k + 1)).2 : Int), up (dec (2 ^ M) C (k + 1)).1⟩, decide ((dec (2 ^ M) C (k + 1)).2 < 2 ^ M))
   | .inr (a, b, m, R) => m = ((dec (2 ^ M) C k).2 : Int) ∧ R = up (dec (2 ^ M) C (k + 1)).1 ∧ (dec (2 ^ M) C (k + 1)).2 = (dec (2 ^ M) C k).2 + 1) ?_ ?_
  ·refine Ok.count C.length (fun i s => ∃ q : Nat, s.1 = (i : Int) ∧ s.2.2.2.1 = ((dec (2 ^ M) C k).2 : Int) ∧ s.2.2.2.2 = up (List.replicate i 0 ++ (dec (2 ^ M) (C.drop i) q).1) ∧ (dec (2 ^ M) (C.drop i) q).2 = (dec (2 ^ M) C k).2
     ∧ dec (2 ^ M) C (k + 1) = (List.replicate i 0 ++ (dec (2 ^ M) (C.drop i) (q + 1)).1, (dec (2 ^ M) (C.drop i) (q + 1)).2)) ⟨k, rfl, rfl, by simp, by simp, by simp⟩ ?_ ?_
   ·rintro i ⟨s, j1, j2, m, a⟩ hi ⟨q, h0, h1, h2, h3, h4⟩
    dsimp only at h0 h1 h2
    subst h0 h1 h2
    have hg := List.getElem?_eq_getElem hi
    have hd := drop_cons hi
    show Ok (colletlaw43_world_next_l2 C (M : Int) (i : Int) j1 j2 _ _) _
    unfold colletlaw43_world_next_l2
    rw [Ok.ite, if_pos (by simp; omega), Ok.bind, Ok.idxn hg]
    have hrep : ∀ l : List Nat, List.replicate i 0 ++ 0 :: l = List.replicate (i + 1) 0 ++ l := by
     intro l
     rw [List.replicate_succ', List.append_assoc]; rfl
    by_cases hk : C[i].Kind = 2
    ·rw [Ok.ite, if_neg (by simp [hk])]
     rw [hd, dec_cut hk] at h3 h4 ⊢
     dsimp only at h3 h4 ⊢
     have hlen : (List.replicate i 0).length = i := List.length_replicate
     have hgm := get_mid (a := List.replicate i 0) (b := (dec (2 ^ M) (C.drop (i + 1)) (q / 2 ^ M)).1) (r := q % 2 ^ M)
     rw [hlen] at hgm
     have hsm : ∀ z : Nat, (up (List.replicate i 0 ++ q % 2 ^ M :: (dec (2 ^ M) (C.drop (i + 1)) (q / 2 ^ M)).1)).set i (z : Int) = up (List.replicate i 0 ++ z :: (dec (2 ^ M) (C.drop (i + 1)) (q / 2 ^ M)).1) := by
      intro z
      have := set_mid (a := List.replicate i 0) (b := (dec (2 ^ M) (C.drop (i + 1)) (q / 2 ^ M)).1) (r := q % 2 ^ M) (q := z)
      rw [hlen] at this; exact this
     have hmod : q % 2 ^ M < 2 ^ M := Nat.mod_lt _ hp0
     have hlu : i < (up (List.replicate i 0 ++ q % 2 ^ M :: (dec (2 ^ M) (C.drop (i + 1)) (q / 2 ^ M)).1)).length := (getElem?_len hgm)
     have hw : IntKind.wrap .i64 (((q % 2 ^ M : Nat) : Int) + 1) = ((q % 2 ^ M + 1 : Nat) : Int) := Comp.wrap_succ (by omega)
     have hgm2 := get_mid (a := List.replicate i 0) (b := (dec (2 ^ M) (C.drop (i + 1)) (q / 2 ^ M)).1) (r := q % 2 ^ M + 1)
     rw [hlen] at hgm2
     have hlu2 : i < (up (List.replicate i 0 ++ (q % 2 ^ M + 1) :: (dec (2 ^ M) (C.drop (i + 1)) (q / 2 ^ M)).1)).length := (getElem?_len hgm2)
     have hsm2 : (up (List.replicate i 0 ++ (q % 2 ^ M + 1) :: (dec (2 ^ M) (C.drop (i + 1)) (q / 2 ^ M)).1)).set i 0 = up (List.replicate i 0 ++ 0 :: (dec (2 ^ M) (C.drop (i + 1)) (q / 2 ^ M)).1) := by
      have := set_mid (a := List.replicate i 0) (b := (dec (2 ^ M) (C.drop (i + 1)) (q / 2 ^ M)).1) (r := q % 2 ^ M + 1) (q := 0)
      rw [hlen] at this; exact this
     rw [Ok.bind, Ok.idxn hgm, Ok.bind, Ok.idxn hgm, Ok.bind, Ok.upd (by omega), Int.toNat_natCast, hw, hsm, Ok.bind, Ok.idxn hgm2, Ok.bind, Ok.nonneg (by omega), shlF_nat (by omega)]
     have hdiv := Nat.div_add_mod q (2 ^ M)
     by_cases hlt : q % 2 ^ M + 1 < 2 ^ M
     ·rw [Ok.ite, if_pos (by rw [decide_eq_true_iff]; omega), Ok.pure]
      have e1 : (q + 1) % 2 ^ M = q % 2 ^ M + 1 := by
       rw [Nat.add_mod, Nat.mod_eq_of_lt (show 1 < 2 ^ M by omega), Nat.mod_eq_of_lt hlt]
      have e2 : (q + 1) / 2 ^ M = q / 2 ^ M := by
       have h5 := Nat.div_add_mod (q + 1) (2 ^ M)
       rw [e1] at h5
       have : 2 ^ M * ((q + 1) / 2 ^ M) = 2 ^ M * (q / 2 ^ M) := by omega
       exact Nat.eq_of_mul_eq_mul_left hp0 this
      rw [e1, e2] at h4
      show _ = _
      rw [h4]
      dsimp only
      rw [h3, decide_eq_true hm]
     ·rw [Ok.ite, if_neg (by rw [decide_eq_true_iff]; omega), Ok.bind, Ok.idxn hgm2, Ok.bind, Ok.upd (by omega), Int.toNat_natCast]
      rw [hsm2]
      unfold colletlaw43_world_next_j3
      rw [Ok.pure]
      have e1 : (q + 1) % 2 ^ M = 0 := by
       have : q + 1 = 2 ^ M * (q / 2 ^ M + 1) := by rw [Nat.mul_add]; omega
       rw [this, Nat.mul_mod_right]
      have e2 : (q + 1) / 2 ^ M = q / 2 ^ M + 1 := by
       have : q + 1 = 2 ^ M * (q / 2 ^ M + 1) := by rw [Nat.mul_add]; omega
       rw [this, Nat.mul_div_cancel_left _ hp0]
      rw [e1, e2, hrep] at h4
      exact ⟨q / 2 ^ M, Comp.wrap_succ (by omega), rfl, by rw [hrep], h3, h4⟩
    ·rw [Ok.ite, if_pos (by simp [hk])]
     unfold colletlaw43_world_next_j3
     rw [Ok.pure]
     rw [hd, dec_no hk] at h3 h4 ⊢
     dsimp only at h3 h4 ⊢
     rw [hrep] at h4 ⊢
     exact ⟨q, Comp.wrap_succ (by omega), rfl, rfl, h3, h4⟩
   ·rintro ⟨s, j1, j2, m, a⟩ ⟨q, h0, h1, h2, h3, h4⟩
    dsimp only at h0 h1 h2
    subst h0 h1 h2
    show Ok (colletlaw43_world_next_l2 C (M : Int) (C.length : Int) j1 j2 _ _) _
    unfold colletlaw43_world_next_l2
    rw [Ok.ite, if_neg (by simp), Ok.pure]
    rw [List.drop_length] at h3 h4 ⊢
    have e3 : q = (dec (2 ^ M) C k).2 := h3
    show _ ∧ _ ∧ _
    rw [h4]
    exact ⟨rfl, rfl, by show q + 1 = _; rw [e3]⟩
  ·intro e he
   match e, he with
   | .inl (a, b), he =>
    show Ok (Comp.pure (a, b)) _
    rw [Ok.pure]; exact he
   | .inr (a, b, m, R), he =>
    obtain ⟨h1, h2, h3⟩ := he
    show Ok (colletlaw43_world_next_j1 (M : Int) a b m R) _
    unfold colletlaw43_world_next_j1
    have hw : IntKind.wrap .i64 (((dec (2 ^ M) C k).2 : Int) + 1) = (((dec (2 ^ M) C k).2 + 1 : Nat) : Int) := Comp.wrap_succ (by omega)
    rw [Ok.bind, Ok.nonneg (by omega), Ok.bind, Ok.pure, Ok.pure, h1, hw, shlF_nat (by omega), h2, h3]
    congr 1
    exact decide_eq_decide.2 (by omega)
 exact Ok.val key
theorem mkBits (M : Nat) (f : Nat → Bool) : ∃ m : Nat, m < 2 ^ M ∧ ∀ k, m.testBit k = (decide (k < M) && f k) := by
 induction M with
 | zero => exact ⟨0, by omega, fun k => by simp⟩
 | succ M ih =>
  obtain ⟨m, h1, h2⟩ := ih
  have hps : 2 ^ (M + 1) = 2 ^ M * 2 := Nat.pow_succ ..
  by_cases hf : f M = true
  ·refine ⟨m ||| 2 ^ M, Nat.or_lt_two_pow (by omega) (by omega), fun k => ?_⟩
   rw [Nat.testBit_or, h2, testBit_pow]
   by_cases e : M = k
   ·subst e; simp [hf]
   ·by_cases e2 : k < M
    ·simp [e, e2, show k < M + 1 by omega]
    ·simp [e, e2, show ¬ k < M + 1 by omega]
  ·refine ⟨m, by omega, fun k => ?_⟩
   rw [h2]
   by_cases e : M = k
   ·subst e; simp [hf]
   ·by_cases e2 : k < M
    ·simp [e2, show k < M + 1 by omega]
    ·simp [e2, show ¬ k < M + 1 by omega]
end Go.Crt
end
section
set_option linter.unusedVariables false
set_option linter.unusedSimpArgs false
namespace Go.Crt
open Go Go.Lift Go.F Go.Cor
variable {α β : Type}
theorem any_get {C : List api_Claim} {f : api_Claim × Nat → Bool} {i : Nat} {x : api_Claim} (hx : C[i]? = some x) (h : f (x, i) = true) : C.zipIdx.any f = true :=
 List.any_eq_true.2 ⟨(x, i), List.mem_of_getElem? (zip_get hx), h⟩
theorem any_of {C : List api_Claim} {f : api_Claim × Nat → Bool} (h : C.zipIdx.any f = true) : ∃ i x, C[i]? = some x ∧ f (x, i) = true := by
 obtain ⟨⟨x, i⟩, h1, h2⟩ := List.any_eq_true.1 h
 exact ⟨i, x, zip_mem h1, h2⟩
theorem agrees_world {C : List api_Claim} {l : List api_Sight} {M s : Nat} (hM : M ≤ 16) (hG : GoodL C l (M : Int)) (hcl : ∀ x ∈ C, claimE x (M : Int) = 0) (hfar : l.any (farB (M : Int)) = false) (h : agreeB C l M s = true) :
  ∃ (mat : Nat) (R : List Nat), mat < 2 ^ M ∧ R.length = C.length ∧ (∀ (i : Nat) x r, C[i]? = some x → R[i]? = some r → r < 2 ^ M ∧ (x.Kind ≠ 2 → r = 0)) ∧
   ∀ e : Nat, (∀ k, e.testBit k = (mat.testBit k && !C.zipIdx.any (cutB R k))) → ∀ (i : Nat) x, C[i]? = some x → s.testBit i = true → HoldsP l mat R e x i := by
 let th : Nat → Bool := fun c => C.zipIdx.any (qT l s (c : Int) true)
 let go : Nat → Bool := fun c => C.zipIdx.any (qT l s (c : Int) false)
 let eb : Nat → Bool := fun c => C.zipIdx.any (qE s (c : Int))
 let rmb : api_Claim → Nat → Nat → Bool := fun x i c => if th c = true then false else if go c = true then (!s.testBit i || x.Touched.contains (c : Int)) else x.Sure.contains (c : Int)
 obtain ⟨mat, hm1, hm2⟩ := mkBits M (fun c => th c || eb c)
 have hr : ∀ (x : api_Claim) (i : Nat), ∃ r : Nat, r < 2 ^ M ∧ ∀ k, r.testBit k = (decide (k < M) && rmb x i k) := fun x i => mkBits M (rmb x i)
 let rv : api_Claim × Nat → Nat := fun q => if q.1.Kind = 2 then Classical.choose (hr q.1 q.2) else 0
 have hrv : ∀ x i, x.Kind = 2 → rv (x, i) < 2 ^ M ∧ ∀ k, (rv (x, i)).testBit k = (decide (k < M) && rmb x i k) := by
  intro x i hk
  show (if x.Kind = 2 then _ else 0) < 2 ^ M ∧ ∀ k, (if x.Kind = 2 then _ else 0 : Nat).testBit k = _
  rw [if_pos hk]
  exact Classical.choose_spec (hr x i)
 have hrz : ∀ x i, x.Kind ≠ 2 → rv (x, i) = 0 := fun x i hk => if_neg hk
 have hRg : ∀ (i : Nat) x, C[i]? = some x → (C.zipIdx.map rv)[i]? = some (rv (x, i)) := fun i x hx => by rw [List.getElem?_map, zip_get hx]; rfl
 have hrm : ∀ (i : Nat) x, C[i]? = some x → rm (C.zipIdx.map rv) i = rv (x, i) := fun i x hx => by unfold rm; rw [hRg i x hx]; rfl
 refine ⟨mat, C.zipIdx.map rv, hm1, by simp, ?_, ?_⟩
 ·intro i x r hx hri
  rw [hRg i x hx] at hri
  obtain rfl := Option.some.inj hri
  by_cases hk : x.Kind = 2
  ·exact ⟨(hrv x i hk).1, fun h => absurd hk h⟩
  ·rw [hrz x i hk]; exact ⟨Nat.two_pow_pos M, fun _ => rfl⟩
 ·intro e he i x hx hsi
  have hnot : ∀ c, c < M → badB C l s (c : Int) = false := by
   intro c hc
   unfold agreeB at h
   rw [Bool.not_eq_true', List.any_eq_false] at h
   simpa using h c (List.mem_range.2 hc)
  have hxm := List.mem_of_getElem? hx
  have hgx := hG.each x hxm
  obtain ⟨hrs, hrt⟩ := claim_range (hcl x hxm)
  have hkind := hgx.kind
  have hbad : ∀ c, c < M → (th c = true → go c = false ∧ C.zipIdx.any (qS s (c : Int)) = false ∧ C.zipIdx.any (qK s (c : Int)) = false) ∧ (go c = true → eb c = true → C.zipIdx.any (qL s (c : Int)) = true) := by
   intro c hc
   have hb := hnot c hc
   unfold badB at hb
   change ((th c && (go c || C.zipIdx.any (qS s (c : Int)) || C.zipIdx.any (qK s (c : Int)))) || (go c && eb c && !C.zipIdx.any (qL s (c : Int)))) = false at hb
   generalize C.zipIdx.any (qS s (c : Int)) = b1 at *
   generalize C.zipIdx.any (qK s (c : Int)) = b2 at *
   generalize C.zipIdx.any (qL s (c : Int)) = b3 at *
   generalize th c = b4 at *
   generalize go c = b5 at *
   generalize eb c = b6 at *
   cases b1 <;> cases b2 <;> cases b3 <;> cases b4 <;> cases b5 <;> cases b6 <;> simp at hb ⊢
  -- the end of a cell
  have hend1 : ∀ c, c < M → th c = true → e.testBit c = true := by
   intro c hc ht
   rw [he, hm2, decide_eq_true hc, ht, Bool.true_or, Bool.true_and, Bool.true_and, Bool.not_eq_true', List.any_eq_false]
   rintro ⟨y, j⟩ hq hcut
   have hy := zip_mem hq
   unfold cutB at hcut
   rw [Bool.and_eq_true, decide_eq_true_iff] at hcut
   have h2 := hcut.2
   rw [hrm j y hy, (hrv y j hcut.1).2] at h2
   change (decide (c < M) && (if th c = true then false else _)) = true at h2
   rw [if_pos ht] at h2
   simp at h2
  have hend0 : ∀ c, c < M → go c = true → e.testBit c = false := by
   intro c hc hg
   have ht : th c = false := by
    cases ht : th c with
    | false => rfl
    | true => rw [((hbad c hc).1 ht).1] at hg; cases hg
   rw [he, hm2, decide_eq_true hc, ht, Bool.false_or, Bool.true_and]
   cases hE : eb c with
   | false => rfl
   | true =>
    obtain ⟨j, y, hy, hq⟩ := any_of ((hbad c hc).2 hg hE)
    unfold qL at hq
    rw [Bool.and_eq_true, decide_eq_true_iff] at hq
    have hcut : C.zipIdx.any (cutB (C.zipIdx.map rv) c) = true := any_get hy (by
     unfold cutB
     rw [Bool.and_eq_true, decide_eq_true_iff]
     refine ⟨hq.1, ?_⟩
     show (rm (C.zipIdx.map rv) j).testBit c = true
     rw [hrm j y hy, (hrv y j hq.1).2, decide_eq_true hc, Bool.true_and]
     show (if th c = true then false else if go c = true then _ else _) = true
     rw [if_neg (by simp [ht]), if_pos hg]; exact hq.2)
    rw [hcut]; rfl
  unfold HoldsP
  by_cases k1 : x.Kind = 1
  ·rw [if_pos k1]
   intro c
   rw [hm2]
   by_cases hc : c < M
   ·rw [decide_eq_true hc, Bool.true_and]
    have hEx : eb c = x.Touched.contains (c : Int) := by
     cases ht : x.Touched.contains (c : Int) with
     | true => exact any_get hx (by unfold qE; rw [ht, hsi, decide_eq_true k1]; rfl)
     | false =>
      cases hE : eb c with
      | false => rfl
      | true =>
       obtain ⟨j, y, hy, hq⟩ := any_of hE
       unfold qE at hq
       simp only [Bool.and_eq_true, decide_eq_true_iff] at hq
       have := hG.one i j x y hx hy k1 hq.1.2
       subst this
       rw [hx] at hy
       obtain rfl := Option.some.inj hy
       rw [ht] at hq; cases hq.2
    rw [← hEx]
    cases ht : th c with
    | false => rfl
    | true =>
     have hS := ((hbad c hc).1 ht).2.1
     have : x.Touched.contains (c : Int) = true := by
      cases hT : x.Touched.contains (c : Int) with
      | true => rfl
      | false =>
       rw [any_get (f := qS s (c : Int)) hx (by unfold qS; rw [hT, hsi, decide_eq_true k1]; rfl)] at hS
       cases hS
     rw [hEx, this]; rfl
   ·rw [decide_eq_false hc, Bool.false_and]
    symm
    cases ht : x.Touched.contains (c : Int) with
    | false => rfl
    | true =>
     have := hrt _ (List.contains_iff_mem.1 ht)
     omega
  ·rw [if_neg k1]
   by_cases k2 : x.Kind = 2
   ·rw [if_pos k2, hrm i x hx]
    refine ⟨fun c hc => ?_, fun c hc => ?_⟩
    ·have hr2 := hrs _ hc
     have hcM : c < M := by omega
     rw [(hrv x i k2).2, decide_eq_true hcM, Bool.true_and]
     show (if th c = true then false else if go c = true then (!s.testBit i || x.Touched.contains (c : Int)) else x.Sure.contains (c : Int)) = true
     by_cases ht : th c = true
     ·have hK := ((hbad c hcM).1 ht).2.2
      rw [any_get (f := qK s (c : Int)) hx (by unfold qK; rw [hsi, decide_eq_true k2, List.contains_iff_mem.2 hc]; rfl)] at hK
      cases hK
     ·rw [if_neg ht]
      by_cases hg : go c = true
      ·rw [if_pos hg, List.contains_iff_mem.2 (hgx.part _ hc)]; simp
      ·rw [if_neg hg]; exact List.contains_iff_mem.2 hc
    ·rw [(hrv x i k2).2, Bool.and_eq_true, decide_eq_true_iff] at hc
     obtain ⟨hcM, hc2⟩ := hc
     change (if th c = true then false else if go c = true then (!s.testBit i || x.Touched.contains (c : Int)) else x.Sure.contains (c : Int)) = true at hc2
     by_cases ht : th c = true
     ·rw [if_pos ht] at hc2; cases hc2
     ·rw [if_neg ht] at hc2
      by_cases hg : go c = true
      ·rw [if_pos hg, hsi] at hc2
       exact List.contains_iff_mem.1 (by simpa using hc2)
      ·rw [if_neg hg] at hc2
       exact hgx.part _ (List.contains_iff_mem.1 hc2)
   ·rw [if_neg k2]
    intro y hy hyg c hyc
    have k3 : x.Kind = 3 := by omega
    have hcM : c < M := by
     have := List.any_eq_false.1 hfar y hy
     unfold farB at this
     simp at this
     omega
    have hsaid : ∀ b, y.There = b → C.zipIdx.any (qT l s (c : Int) b) = true := by
     intro b hb
     refine any_get hx ?_
     unfold qT saidS
     rw [hsi, decide_eq_true k3, Bool.true_and, Bool.true_and]
     exact List.any_eq_true.2 ⟨y, hy, by simp [hyg, hyc, hb]⟩
    cases hb : y.There with
    | true => exact hend1 c hcM (hsaid true hb)
    | false => exact hend0 c hcM (hsaid false hb)
theorem law_CourtWorlds {x : colletlaw43_Case} (hc : (Lit.int .u8 x.Cells).wf = true) : (colletlaw43_CourtWorlds x).val = some true := by
 have hLIM : LIM = 1073741824 := rfl
 obtain ⟨b, hb, hb2⟩ := wf_u8 hc
 have hcell : (colletlaw43_Case.mk x.Claims (Int.tmod x.Cells 2) x.Sights).Cells = ((b % 2 : Nat) : Int) := by
  show Int.tmod x.Cells 2 = _
  rw [hb2, Int.tmod_eq_emod_of_nonneg (by omega)]; omega
 obtain ⟨C, l, M, hv, hmade, hMb⟩ := made_val (most := 4) (x := colletlaw43_Case.mk x.Claims (Int.tmod x.Cells 2) x.Sights) hcell (by omega) (by omega)
 replace hv : (colletlaw43_Case_made (colletlaw43_Case.mk x.Claims (Int.tmod x.Cells 2) x.Sights) 4).val = some (C, l, (M : Int)) := hv
 have hC := hmade.len.1
 have hl := hmade.len.2
 have hM := hmade.cells
 have hs := hmade.small
 have hck := hmade.check
 have hG := goodL hck
 obtain ⟨hcl, hfar⟩ := check_ranges hck
 have hp : 2 ^ C.length ≤ 16 := Nat.pow_le_pow_right (n := 2) (by omega) hC
 have hp0 := Nat.two_pow_pos C.length
 have hB0 := Nat.two_pow_pos M
 -- the worlds, by number
 have hT : ∀ j, ∃ t : Nat, (dec (2 ^ M) C j).2 < 2 ^ M → t < 2 ^ C.length ∧ (colletlaw43_world_truth ⟨((dec (2 ^ M) C j).2 : Int), up (dec (2 ^ M) C j).1⟩ C l).val = some (t : Int) ∧
   ∃ e : Nat, (∀ k, e.testBit k = ((dec (2 ^ M) C j).2.testBit k && !C.zipIdx.any (cutB (dec (2 ^ M) C j).1 k))) ∧ ∀ (i : Nat) y, C[i]? = some y → (t.testBit i = true ↔ HoldsP l (dec (2 ^ M) C j).2 (dec (2 ^ M) C j).1 e y i) := by
  intro j
  by_cases hj : (dec (2 ^ M) C j).2 < 2 ^ M
  ·obtain ⟨e, he, hev, heb⟩ := there_val (C := C) (M := M) (by omega) (by omega) (dec_len _ C j) hj (dec_lt hB0 C j)
   obtain ⟨t, ht, htv, htb⟩ := truth_val (C := C) (l := l) (M := M) (by omega) (by omega) (by omega) (dec_len _ C j) hj (dec_lt hB0 C j) hs hcl hfar he hev
   exact ⟨t, fun _ => ⟨ht, htv, e, heb, htb⟩⟩
  ·exact ⟨0, fun h => absurd h hj⟩
 let T : Nat → Nat := fun j => Classical.choose (hT j)
 have hTs : ∀ j, (dec (2 ^ M) C j).2 < 2 ^ M → T j < 2 ^ C.length ∧ (colletlaw43_world_truth ⟨((dec (2 ^ M) C j).2 : Int), up (dec (2 ^ M) C j).1⟩ C l).val = some (T j : Int) ∧
   ∃ e : Nat, (∀ k, e.testBit k = ((dec (2 ^ M) C j).2.testBit k && !C.zipIdx.any (cutB (dec (2 ^ M) C j).1 k))) ∧ ∀ (i : Nat) y, C[i]? = some y → ((T j).testBit i = true ↔ HoldsP l (dec (2 ^ M) C j).2 (dec (2 ^ M) C j).1 e y i) := fun j => Classical.choose_spec (hT j)
 have hPc := Nat.two_pow_pos (M * cuts C)
 have hpowpos : 0 < (2 ^ M) ^ cuts C := Nat.pow_pos hB0
 have hin : ∀ j, j < 2 ^ M * (2 ^ M) ^ cuts C ↔ (dec (2 ^ M) C j).2 < 2 ^ M := by
  intro j
  rw [dec_mat, Nat.div_lt_iff_lt_mul hpowpos]
 -- the loop
 have hloop : Ok (Comp.loop (fun s : List Bool × Bool × Int × List Int => colletlaw43_CourtWorlds_l2 (C, l, (M : Int)) s.1 s.2.1 s.2.2.1 s.2.2.2) (List.replicate (2 ^ C.length) false, true, 0, List.replicate C.length 0)) (fun can => can.length = 2 ^ C.length ∧ ∀ t, can[t]? = some true ↔ ∃ j, j < 2 ^ M * (2 ^ M) ^ cuts C ∧ T j = t) := by
  refine Ok.count (2 ^ M * (2 ^ M) ^ cuts C) (fun k s => s.1.length = 2 ^ C.length ∧ (∀ t, s.1[t]? = some true ↔ ∃ j, j < k ∧ T j = t) ∧ s.2.1 = decide ((dec (2 ^ M) C k).2 < 2 ^ M) ∧ s.2.2.1 = ((dec (2 ^ M) C k).2 : Int) ∧ s.2.2.2 = up (dec (2 ^ M) C k).1) ⟨by simp, fun t => ?_, by rw [dec_zero]; exact (decide_eq_true hB0).symm, by rw [dec_zero]; rfl, by rw [dec_zero, up_rep]⟩ ?_ ?_
  ·constructor
   ·intro h
    rw [List.getElem?_replicate] at h
    split at h <;> cases h
   ·rintro ⟨j, hj, _⟩; omega
  ·rintro k ⟨can, more, m, R⟩ hk ⟨h1, h2, h3, h4, h5⟩
   dsimp only at h1 h2 h3 h4 h5
   have hkm := (hin k).1 hk
   rw [decide_eq_true hkm] at h3
   subst h3 h4 h5
   obtain ⟨ht, htv, _⟩ := hTs k hkm
   have htl : T k < can.length := by omega
   have hg := List.getElem?_eq_getElem htl
   show Ok (colletlaw43_CourtWorlds_l2 (C, l, (M : Int)) can true _ _) _
   unfold colletlaw43_CourtWorlds_l2
   rw [Ok.ite, if_pos rfl, Ok.bind, Ok.of_val htv, Ok.bind, Ok.idxn hg, Ok.bind, Ok.upd (by omega), Int.toNat_natCast, Ok.bind, Ok.of_val (wnext_val (by omega) (by omega) hkm), Ok.pure]
   refine ⟨by simp [h1], fun t => ?_, rfl, rfl, rfl⟩
   dsimp only
   rw [List.getElem?_set]
   by_cases e : T k = t
   ·rw [if_pos e, ← e, if_pos htl]
    exact ⟨fun _ => ⟨k, by omega, rfl⟩, fun _ => rfl⟩
   ·rw [if_neg e, h2]
    constructor
    ·rintro ⟨j, hj, hjt⟩; exact ⟨j, by omega, hjt⟩
    ·rintro ⟨j, hj, hjt⟩
     by_cases ejk : j = k
     ·subst ejk; exact absurd hjt e
     ·exact ⟨j, by omega, hjt⟩
  ·rintro ⟨can, more, m, R⟩ ⟨h1, h2, h3, h4, h5⟩
   dsimp only at h1 h2 h3 h4 h5
   have hno : ¬ (dec (2 ^ M) C (2 ^ M * (2 ^ M) ^ cuts C)).2 < 2 ^ M := fun h => by
    have := (hin _).2 h
    omega
   rw [decide_eq_false hno] at h3
   subst h3
   show Ok (colletlaw43_CourtWorlds_l2 (C, l, (M : Int)) can false _ _) _
   unfold colletlaw43_CourtWorlds_l2
   rw [Ok.ite, if_neg (by simp), Ok.pure]
   exact ⟨h1, h2⟩
 obtain ⟨can, hcanv, hlen, hcan⟩ := hloop
 -- what agrees
 have hiff : ∀ s, s < 2 ^ C.length → (agreeB C l M s = true ↔ ∃ t, can[t]? = some true ∧ Cor.Sub s t) := by
  intro s hslt
  constructor
  ·intro ha
   obtain ⟨mat, R, hm, hRl, hR, hW⟩ := agrees_world (by omega) hG hcl hfar ha
   obtain ⟨j, hj⟩ := dec_surj hB0 mat C R hRl hR
   have hjm : (dec (2 ^ M) C j).2 < 2 ^ M := by rw [hj]; exact hm
   obtain ⟨_, _, e, he, ht⟩ := hTs j hjm
   rw [hj] at he ht
   refine ⟨T j, (hcan _).2 ⟨j, (hin j).2 hjm, rfl⟩, fun i hi => ?_⟩
   have hil := bit_lt hslt hi
   have hg := List.getElem?_eq_getElem hil
   exact (ht i _ hg).2 (hW e he i _ hg hi)
  ·rintro ⟨t, ht, hst⟩
   obtain ⟨j, hj, rfl⟩ := (hcan t).1 ht
   obtain ⟨_, _, e, he, htb⟩ := hTs j ((hin j).1 hj)
   exact agree_down _ _ (world_agrees hG he fun i y hy h => (htb i y hy).1 h) hst
 -- the check
 have hcheck : (Comp.loop (fun s => colletlaw43_CourtWorlds_l4 can (C, l, (M : Int)) s) 0).val = some (.inr ()) := by
  refine loop_none (body := fun s => colletlaw43_CourtWorlds_l4 can (C, l, (M : Int)) s) (List.range (2 ^ C.length)) ?_ ?_
  ·intro i s hi
   obtain ⟨hi2, rfl⟩ := range_get hi
   have inner : (Comp.loop (fun t : Bool × Int => colletlaw43_CourtWorlds_l6 can (s : Int) t.1 t.2) (false, 0)).val = some (agreeB C l M s) := by
    have := Comp.loop_fold (body := fun t : Bool × Int => colletlaw43_CourtWorlds_l6 can (s : Int) t.1 t.2) (List.range can.length) (fun b t => b || (can[t]?.getD false && decide (without s t = 0))) id (fun _ _ => True) false (by
     intro bb k t hk _
     obtain ⟨hk2, rfl⟩ := range_get hk
     have hg := List.getElem?_eq_getElem hk2
     show (colletlaw43_CourtWorlds_l6 can (s : Int) bb (t : Int)).val = _
     unfold colletlaw43_CourtWorlds_l6
     have e : decide (((without s t : Nat) : Int) = 0) = decide (without s t = 0) := decide_eq_decide.2 (by omega)
     have hw := Comp.wrap_succ (i := t) (by omega)
     rw [Comp.val_ite, if_pos (by rw [decide_eq_true_iff]; omega), andNotB_nat (by omega) (by omega), e, hg]
     cases bb with
     | true => simp [Comp.val_bind, Comp.val_gd, Comp.val_pure, hw]
     | false =>
      cases hct : can[t] with
      | true => simp [Comp.val_bind, Comp.val_gd, Comp.val_pure, idx_val hg, hct, hw]
      | false => simp [Comp.val_bind, Comp.val_gd, Comp.val_pure, idx_val hg, hct, hw])
     (fun _ _ _ _ _ => trivial) (by
     intro bb _
     show (colletlaw43_CourtWorlds_l6 can (s : Int) bb ((List.range can.length).length : Int)).val = _
     unfold colletlaw43_CourtWorlds_l6
     rw [List.length_range, Comp.val_ite, if_neg (by simp), Comp.val_pure]; rfl) trivial
    rw [this, Comp.foldl_any, Bool.false_or]
    congr 1
    show (List.range can.length).any _ = _
    cases hP : agreeB C l M s with
    | true =>
     obtain ⟨t, h1, h2⟩ := (hiff s hi2).1 hP
     exact List.any_eq_true.2 ⟨t, List.mem_range.2 (getElem?_len h1), by rw [h1, Bool.and_eq_true]; exact ⟨rfl, decide_eq_true (without_zero.2 h2)⟩⟩
    | false =>
     rw [List.any_eq_false]
     intro t ht hd
     rw [Bool.and_eq_true, decide_eq_true_iff] at hd
     have ht2 := List.getElem?_eq_getElem (List.mem_range.1 ht)
     have h1 : can[t]? = some true := by
      have := hd.1
      rw [ht2] at this ⊢
      rw [Option.getD_some] at this
      rw [this]
     rw [(hiff s hi2).2 ⟨t, h1, without_zero.1 hd.2⟩] at hP
     cases hP
   show (colletlaw43_CourtWorlds_l4 can (C, l, (M : Int)) (s : Int)).val = _
   unfold colletlaw43_CourtWorlds_l4 colletlaw43_CourtWorlds_j5
   rw [Comp.val_ite, if_pos (by rw [decide_eq_true_iff, hlen]; omega), Comp.val_bind, inner, Option.bind_some, Comp.val_bind, agrees_in hs hck hi2, Option.bind_some, Comp.val_ite, if_neg (by simp), Comp.val_pure, Comp.wrap_succ (by omega)]
  ·show (colletlaw43_CourtWorlds_l4 can (C, l, (M : Int)) ((List.range (2 ^ C.length)).length : Int)).val = _
   unfold colletlaw43_CourtWorlds_l4
   rw [List.length_range, Comp.val_ite, if_neg (by rw [decide_eq_true_iff, hlen]; omega), Comp.val_pure]
 unfold colletlaw43_CourtWorlds
 have hsh : shlF .i64 1 (C.length : Int) = ((2 ^ C.length : Nat) : Int) := shlF_nat (by omega)
 rw [Comp.val_bind, sanity_val, Option.bind_some, Comp.val_bind, hv, Option.bind_some, Comp.val_bind, nonneg_val (by omega), Option.bind_some, hsh, Comp.val_bind, mk_val (by omega), Option.bind_some, Comp.val_bind, mk_val (by show (0 : Int) ≤ (C.length : Int) ∧ (C.length : Int) ≤ (LIM : Int); omega), Option.bind_some, Int.toNat_natCast, Int.toNat_natCast, Comp.val_bind, hcanv, Option.bind_some]
 unfold colletlaw43_CourtWorlds_j1
 rw [Comp.val_bind, hcheck, Option.bind_some]
 exact Comp.val_pure _
end Go.Crt
end
section
set_option linter.unusedVariables false
set_option linter.unusedSimpArgs false
namespace Go.Lift
open Go Go.RowKit Go.Eng Go.ChangeShapes Go.WideShapes Go.ChangeAt Go.Joins Go.Deep Go.WideElems
variable {H : Type} {enc : TypeId × Value → H} {P : Program} {w : World} {base : Nat} {sp : Nat → Bool} {held : Bool} {α β γ : Type}
abbrev O0 : Tags := fun _ => 0
structure Opens (enc : TypeId × Value → H) (P : Program) (w : World) (base : Nat) (sp : Nat → Bool) (held : Bool) (t : Nat) (r : GR α) (Q : α → Prop) : Prop where
 size : P.cellsOf t = r.sz
 fits : r.fits
 op : ∀ fuel cs x, DataW.trod enc P w base sp held fuel t cs = some x → ∃ y, r.rel O0 w cs y ∧ Q y
theorem opens_int {t : Nat} {k : IntKind} (ht : P.underlying t = some (.int k)) (hs : P.cellsOf t = 1) : Opens enc P w base sp held t (rInt k) fun n => (Lit.int k n).wf = true :=
 ⟨hs, fun _ => rfl, fun fuel cs x h => by obtain ⟨n, h1, _, h2⟩ := DataW.trod_int ht h; exact ⟨n, h1, h2⟩⟩
theorem relL_of {r : GR α} {O : Tags} {Q : α → Prop} : ∀ {vs : List Value}, (∀ v ∈ vs, ∃ y, r.v O w v y ∧ Q y) → ∃ ys, RelL r O w vs ys ∧ ∀ y ∈ ys, Q y
 | [], _ => ⟨[], trivial, by simp⟩
 | v :: vs, h => by
   obtain ⟨y, h1, h2⟩ := h v (by simp)
   obtain ⟨ys, h3, h4⟩ := relL_of (vs := vs) fun u hu => h u (List.mem_cons_of_mem _ hu)
   exact ⟨y :: ys, ⟨h1, h3⟩, fun z hz => (List.mem_cons.1 hz).elim (fun e => by rw [e]; exact h2) (h4 z)⟩
theorem opens_slice {t e : Nat} {r : GR α} {Q : α → Prop} (ht : P.underlying t = some (.slice e)) (hs : P.cellsOf t = 1) (hE : Opens enc P w base sp held e r Q) (hpos : 0 < r.sz) : Opens enc P w base sp held t (rSl r) fun xs => (∀ x ∈ xs, Q x) ∧ xs.length ≤ maxLen := by
 refine ⟨hs, fun _ => rfl, fun fuel cs x h => ?_⟩
 rcases DataW.trod_slice ht h with ⟨rfl, _⟩ | ⟨a, len, cap, elems, rest, n, _, rfl, _, hb, hl, hm, hlen, hel, _, _⟩
 ·exact ⟨[], ⟨_, [], rfl, ⟨none, 0, rfl, by simp, by simp, .inl rfl⟩, trivial, fun h => absurd rfl h⟩, by simp, by simp⟩
 ·have each : ∀ i, i < len → ∃ cs, w.cells? base (a.add (i * r.sz)) r.sz = some cs ∧ ∃ y, r.rel O0 w cs y ∧ Q y := by
   intro i hi
   have := hel i hi
   rw [List.getElem?_eq_getElem (by omega), hE.size, Option.bind_eq_some_iff] at this
   obtain ⟨cs, h1, h2⟩ := this
   exact ⟨cs, h1, hE.op n cs _ h2⟩
  let f : Nat → Value := fun i => packV r.agg ((w.cells? base (a.add (i * r.sz)) r.sz).getD [])
  have hf : ∀ i, i < len → ∃ y, r.v O0 w (f i) y ∧ Q y := by
   intro i hi
   obtain ⟨cs, h1, y, h2, h3⟩ := each i hi
   exact ⟨y, ⟨cs, h2, by show packV r.agg ((w.cells? base (a.add (i * r.sz)) r.sz).getD []) = _; rw [h1]; rfl⟩, h3⟩
  have hfc : ∀ i, i < len → ∀ j, j < r.sz → w.cell? (a.add (i * r.sz + j)) = (f i).cells[j]? := by
   intro i hi j hj
   obtain ⟨cs, h1, y, h2, _⟩ := each i hi
   have h4 := (World.cells?_some h1).2.2 j hj
   have h5 : (f i).cells = cs.toArray := by
    show (packV r.agg ((w.cells? base (a.add (i * r.sz)) r.sz).getD [])).cells = _
    rw [h1]
    exact cells_pack (fun ha => by show cs.length = 1; rw [r.len h2, hE.fits ha]) (r.one h2)
   rw [h5, List.getElem?_toArray, ← h4]
   rw [_root_.Go.Addr.add_add]
  obtain ⟨ys, h1, h2⟩ := relL_of (r := r) (O := O0) (w := w) (Q := Q) (vs := (List.range len).map f) (by
   intro v hv
   obtain ⟨i, hi, rfl⟩ := List.mem_map.1 hv
   exact hf i (List.mem_range.1 hi))
  have hyl : ys.length = len := by have := h1.len; simpa using this.symm
  refine ⟨ys, ⟨_, (List.range len).map f, rfl, ⟨some a, cap, by simp, by simpa using hl, ?_, ?_⟩, h1, ?_⟩, h2, by omega⟩
  ·intro v hv
   obtain ⟨y, hy⟩ : ∃ y, r.v O0 w v y := by
    obtain ⟨i, hi, rfl⟩ := List.mem_map.1 hv
    obtain ⟨y, hy, _⟩ := hf i (List.mem_range.1 hi); exact ⟨y, hy⟩
   exact r.cells_size hE.fits hy
  ·by_cases h0 : len = 0
   ·left; simp [h0]
   ·right
    obtain ⟨b, off, spot⟩ := a
    have hc0 : (w.cell? (Addr.add ⟨b, off, spot⟩ (0 * r.sz + 0))).isSome = true := by
     rw [hfc 0 (by omega) 0 hpos]
     obtain ⟨y, hy, _⟩ := hf 0 (by omega)
     have := r.cells_size hE.fits hy
     rw [Array.getElem?_eq_getElem (by omega)]; rfl
    obtain ⟨v0, hv0⟩ := Option.isSome_iff_exists.1 hc0
    have hspot : spot = none := by simpa [Addr.add] using World.cell?_spot hv0
    subst hspot
    refine ⟨b, off, rfl, fun i x hx j hj => ?_⟩
    have hi : i < len := by have := (List.getElem?_eq_some_iff.1 hx).1; simpa using this
    have hx' : x = f i := by
     rw [List.getElem?_map, List.getElem?_range hi] at hx
     simpa using hx.symm
    rw [hx', ← hfc i hi j hj]
    unfold Addr.add
    split
    ·rename_i h0; congr 1; simp [h0]
    ·rfl
  ·intro hne g hg
   have h0 : 0 < len := by
    rcases Nat.eq_zero_or_pos len with h0 | h0
    ·subst h0; exact absurd rfl hne
    ·exact h0
   have hgb : g = a.block := by
    have : (Value.slice (some a) len cap).ownBlock = some a.block := rfl
    rw [this] at hg; exact (Option.some.inj hg).symm
   subst hgb
   refine ⟨?_, rfl⟩
   obtain ⟨cs, h3, _⟩ := each 0 h0
   have h4 := (World.cells?_some h3)
   have h5 := h4.2.2 0 hpos
   rw [List.getElem?_eq_getElem (by omega)] at h5
   have he : (a.add (0 * r.sz)).add 0 = a := by simp [Addr.add]
   rw [he] at h5
   exact World.block_lt_of_cell? _ _ h5
theorem open_top {t : Nat} {r : GR α} {Q : α → Prop} {v : Value} {d : DataW H} {ps : List MemPlace} (hE : Opens enc P w base sp held t r Q) (hv : packV r.agg v.cells.toList = v) (h : DataW.Trod enc P w base sp held t v d ps) : ∃ x, r.v O0 w v x ∧ Q x := by
 obtain ⟨fuel, hf⟩ := h
 obtain ⟨y, h1, h2⟩ := hE.op fuel _ _ hf
 exact ⟨y, ⟨_, h1, hv.symm⟩, h2⟩
theorem okO_O0 : OkO O0 w := fun _ _ => rfl
end Go.Lift
end
section
set_option linter.unusedVariables false
set_option linter.unusedSimpArgs false
namespace Go.Lift
open Go Go.RowKit Go.Eng Go.ChangeShapes Go.WideShapes Go.ChangeAt Go.Joins Go.Deep Go.WideElems
variable {H : Type} {enc : TypeId × Value → H} {P : Program} {w : World} {base : Nat} {sp : Nat → Bool} {held : Bool} {α β γ : Type}
theorem chop (cs : List Value) (off s : Nat) : cs.drop off = (cs.drop off).take s ++ cs.drop (off + s) := by
 rw [← List.drop_drop, List.take_append_drop]
theorem Opens.at_ {t : Nat} {r : GR α} {Q : α → Prop} (hE : Opens enc P w base sp held t r Q) {off n : Nat} {cs : List Value} {y} (h : DataW.trod enc P w base sp held n t ((cs.drop off).take (P.cellsOf t)) = some y) : ∃ a, r.rel O0 w ((cs.drop off).take r.sz) a ∧ Q a := by
 rw [hE.size] at h; exact hE.op n _ _ h
theorem open_struct {t : Nat} {fs : Array Field} {r : GR α} {Q : α → Prop} {re : Reach} {b0 : Nat} {v : Value} {d : DataW H} {ps : List MemPlace} (ht : P.underlying t = some (.struct fs)) (hE : Opens enc P w base sp held t r Q) (ha : r.agg = true) (hval : Value.okWide P w re b0 t v) (h : DataW.Trod enc P w base sp held t v d ps) : ∃ x, r.v O0 w v x ∧ Q x := by
 obtain ⟨cs, rfl, _⟩ := okWide_struct ht hval
 exact open_top hE (by simp [Value.cells, packV, ha]) h
end Go.Lift
end
section
namespace Go.Proofs.Ytebmpjdegajhgaa.courtWorldsDone
open Go Go.ChangeShapes Go.WideShapes Go.ChangeAt Go.RowKit Go.Eng Go.Lift Go.Joins Go.F
open Go.ChangeMaps (open_string shut_string)
open Go.Proofs.Ytebmpjdegajhgaa
set_option linter.unusedVariables false
set_option linter.unusedSimpArgs false
theorem op_3 {H : Type} {enc : TypeId × Value → H} {w : World} {base : Nat} {sp : Nat → Bool} {held : Bool} : Opens enc Try.prog w base sp held 3 (rInt .i64) (fun z => (Lit.int .i64 z).wf = true) := opens_int Try.underlying3 (by kernel_rfl)
theorem op_23 {H : Type} {enc : TypeId × Value → H} {w : World} {base : Nat} {sp : Nat → Bool} {held : Bool} : Opens enc Try.prog w base sp held 23 (rSl (rInt .i64)) (fun z => (∀ y ∈ z, (fun z => (Lit.int .i64 z).wf = true) y) ∧ z.length ≤ maxLen) := opens_slice Try.underlying23 (by kernel_rfl) op_3 (by decide)
theorem op_22 {H : Type} {enc : TypeId × Value → H} {w : World} {base : Nat} {sp : Nat → Bool} {held : Bool} : Opens enc Try.prog w base sp held 22 (rSl (rSl (rInt .i64))) (fun z => (∀ y ∈ z, (fun z => (∀ y ∈ z, (fun z => (Lit.int .i64 z).wf = true) y) ∧ z.length ≤ maxLen) y) ∧ z.length ≤ maxLen) := opens_slice Try.underlying22 (by kernel_rfl) op_23 (by decide)
theorem op_5 {H : Type} {enc : TypeId × Value → H} {w : World} {base : Nat} {sp : Nat → Bool} {held : Bool} : Opens enc Try.prog w base sp held 5 (rInt .u8) (fun z => (Lit.int .u8 z).wf = true) := opens_int Try.underlying5 (by kernel_rfl)
def Q_colletlaw43_Case (x : colletlaw43_Case) : Prop := ((∀ y ∈ x.Claims, (fun z => (∀ y ∈ z, (fun z => (Lit.int .i64 z).wf = true) y) ∧ z.length ≤ maxLen) y) ∧ x.Claims.length ≤ maxLen) ∧ ((Lit.int .u8 x.Cells).wf = true) ∧ ((∀ y ∈ x.Sights, (fun z => (Lit.int .i64 z).wf = true) y) ∧ x.Sights.length ≤ maxLen) ∧ True
theorem op_25 {H : Type} {enc : TypeId × Value → H} {w : World} {base : Nat} {sp : Nat → Bool} {held : Bool} : Opens enc Try.prog w base sp held 25 r_colletlaw43_Case Q_colletlaw43_Case := by
 refine ⟨by kernel_rfl, fit_colletlaw43_Case, fun fuel cs x h => ?_⟩
 obtain ⟨xs, n, rfl, rfl, hl, hlen, hf⟩ := DataW.trod_struct Try.underlying25 h
 have hl' : cs.length = 3 := hl.trans (by kernel_rfl)
 obtain ⟨y0, hy0⟩ : ∃ y, xs[0]? = some y := ⟨_, List.getElem?_eq_getElem (by rw [hlen]; decide)⟩
 obtain ⟨a0, k0, q0⟩ := Opens.at_ (off := 0) (n := n) (cs := cs) (op_22 (enc := enc) (w := w) (base := base) (sp := sp) (held := held)) ((hf 0 _ rfl).trans hy0)
 obtain ⟨y1, hy1⟩ : ∃ y, xs[1]? = some y := ⟨_, List.getElem?_eq_getElem (by rw [hlen]; decide)⟩
 obtain ⟨a1, k1, q1⟩ := Opens.at_ (off := 1) (n := n) (cs := cs) (op_5 (enc := enc) (w := w) (base := base) (sp := sp) (held := held)) ((hf 1 _ rfl).trans hy1)
 obtain ⟨y2, hy2⟩ : ∃ y, xs[2]? = some y := ⟨_, List.getElem?_eq_getElem (by rw [hlen]; decide)⟩
 obtain ⟨a2, k2, q2⟩ := Opens.at_ (off := 2) (n := n) (cs := cs) (op_23 (enc := enc) (w := w) (base := base) (sp := sp) (held := held)) ((hf 2 _ rfl).trans hy2)
 exact ⟨⟨a0, a1, a2⟩, ⟨_, _, chop cs 0 1, k0, ⟨_, _, chop cs 1 1, k1, ⟨_, _, chop cs 2 1, k2, List.drop_of_length_le (by rw [hl']; decide)⟩⟩⟩, ⟨q0, q1, q2, trivial⟩⟩
theorem own : ownKnob Try.prog.godebug = none := by kernel_rfl
theorem laidOut : laidOutB Try.prog = true := by kernel_rfl
set_option maxRecDepth 100000 in
theorem lifted (os : Os) (started : os.Started) (H : Type) (enc : TypeId × Value → H) :
  ReturnsInHanded {} Try.checked os 4 .any (Rows.courtWorldsSpec.pre6 enc Try.prog Try.f4 Rows.courtWorldsRow.domain false) (Rows.courtWorldsSpec.post enc Try.prog Try.f4 false true false false) := by
 refine returnsInHanded_of_change (C := Try.checked) own started (by kernel_rfl) Try.func4
  (ChangeSpec.witness6 (enc := enc) (C := Try.checked) false ⟨#[], #[.agg #[.slice none 0 0, .int .u8 0, .slice none 0 0]], []⟩ 8 (by kernel_rfl) (by kernel_rfl) (by kernel_rfl) (by kernel_rfl)) ?_
 intro W base args ds gs before hval0 hW hcnd _
 have hval : ∀ (j : Nat) t v, Try.f4.params[j]? = some t → args[j]? = some v → Value.okWide Try.prog W .any base t v := hval0
 have hW' := hW
 obtain ⟨p, q, hA0, hV, rfl, hfz, hnd⟩ := hW
 have hA : DataW.TrodAll enc Try.prog W 0 (fun _ => true) true Try.f4.params.toList args.toList ds p := hA0
 rw [Try.params4] at hA hval
 obtain ⟨v0, vs0, d0, ds0, p0, q0_, hargs, rfl, rfl, h0, r0⟩ := trodAll_cons hA
 obtain ⟨rfl, rfl, rfl⟩ := trodAll_nil r0
 obtain rfl : args = #[v0] := by cases args; simp_all
 obtain ⟨rfl, rfl⟩ := trodVars_none hV
 have k0 := h0
 have lt0 : ∀ x ∈ p0, x.block < W.heap.size := by obtain ⟨m, hm⟩ := k0; exact DataW.trod_lt m _ _ _ hm
 obtain ⟨x0, hr0, q0⟩ := open_struct Try.underlying25 op_25 rfl (hval 0 25 v0 rfl rfl) h0
 clear hA0 hval0
 obtain ⟨n_, hn_⟩ := Comp.val_some.1 (Go.Crt.law_CourtWorlds q0.2.1)
 have walk := ok_colletlaw43_CourtWorlds (w0 := W) okO_O0 hr0 hn_
 refine Calls.mono (R := fun e W' => e = .returned (.bool true) ∧ Below W.heap.size W W') ?_ fun e W' ⟨he, bel⟩ => ?_
 ·exact Calls.mono walk fun e W' ⟨_, h1, h2, h3⟩ => ⟨by rw [h1]; exact congrArg _ h3, h2⟩
 ·subst he
  exact ⟨_, rfl, _, _, _, [], _, [], hW', trodAll_mk1 (shut_bool Try.underlying4 _), (trodAll_cons_mk (Below.trod laidOut (by kernel_rfl) (of_decide_eq_true (by kernel_rfl)) k0 bel lt0) trodAll_mk0), rfl, bel.frame _, fun h => by cases h⟩
theorem proved : Rows.CourtWorldsSaid :=
 OpenClaim.holds_of_wide 4 Try.f4 rfl rfl rfl rfl rfl rfl rfl ⟨rfl, rfl, rfl, rfl, rfl⟩ rfl rfl rfl rfl rfl (by kernel_rfl) Try.func4 (by kernel_rfl)
  (of_decide_eq_true (by kernel_rfl)) (by unfold Func.isWrapper; first | (rw [if_pos (by decide +kernel)]; kernel_rfl) | (rw [if_neg (by decide +kernel)]; exact ⟨rfl, rfl⟩))
  (fun os started H enc _ => lifted os started H enc)
#print axioms proved
end Go.Proofs.Ytebmpjdegajhgaa.courtWorldsDone
end
