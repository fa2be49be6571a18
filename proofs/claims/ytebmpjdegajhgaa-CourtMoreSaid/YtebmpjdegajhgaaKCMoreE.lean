/- For every case, measurement, number of lies and move of the parties, CourtMore returns true, and its arguments read afterwards as before; no condition. -/
import Derived.Test.YtebmpjdegajhgaaKCMoreD
import Derived.SliceStrings
import Derived.ChangeSlices
import Derived.Lib.SmallJoins
import Derived.OpenShut
import Derived.ShutString
import Derived.ChangeOld
import Derived.Test.YtebmpjdegajhgaaRows
import Derived.WalkKit
import Derived.ProofKit
import Derived.Below
set_option linter.unusedSimpArgs false
set_option linter.unusedVariables false
section
set_option linter.unusedVariables false
set_option linter.unusedSimpArgs false
namespace Go.Crt
open Go Go.Lift Go.F Go.Cor
variable {α : Type}
theorem loop_find {xs : List α} (p : α → Bool) {body : Int → Comp (Comp.Step Int (Sum Int Unit))} (hb : ∀ (i : Nat) x, xs[i]? = some x → (body i).val = some (if p x = true then .done (.inl (i : Int)) else .next ((i + 1 : Nat) : Int)))
  (he : (body xs.length).val = some (.done (.inr ()))) :
  ∃ e, (Comp.loop body 0).val = some e ∧ ((e = .inr () ∧ xs.any p = false) ∨ ∃ i : Nat, e = .inl (i : Int) ∧ i < xs.length ∧ (∃ x, xs[i]? = some x ∧ p x = true) ∧ (xs.take i).any p = false) := by
 have key : Ok (Comp.loop body 0) (fun e => (e = .inr () ∧ xs.any p = false) ∨ ∃ i : Nat, e = .inl (i : Int) ∧ i < xs.length ∧ (∃ x, xs[i]? = some x ∧ p x = true) ∧ (xs.take i).any p = false) := by
  refine Ok.count xs.length (fun i (s : Int) => s = (i : Int) ∧ (xs.take i).any p = false) ⟨rfl, by simp⟩ ?_ ?_
  ·rintro i s hi ⟨rfl, ha⟩
   have hx := List.getElem?_eq_getElem hi
   rw [Ok.vh (hb i _ hx)]
   by_cases h : p xs[i] = true
   ·rw [if_pos h]; exact .inr ⟨i, rfl, hi, ⟨_, hx, h⟩, ha⟩
   ·rw [if_neg h]
    refine ⟨rfl, ?_⟩
    rw [List.take_succ_eq_append_getElem hi, List.any_append, ha]; simpa using h
  ·rintro s ⟨rfl, ha⟩
   rw [Ok.vh he]
   exact .inl ⟨rfl, by rwa [List.take_length] at ha⟩
 obtain ⟨e, h1, h2⟩ := key
 exact ⟨e, h1, h2⟩
theorem any_of_get {xs : List α} {p : α → Bool} {i : Nat} (h : ∃ x, xs[i]? = some x ∧ p x = true) : xs.any p = true := by
 obtain ⟨x, h1, h2⟩ := h
 exact List.any_eq_true.2 ⟨x, List.mem_of_getElem? h1, h2⟩
theorem contains_any (x : Int) : ∀ l : List Int, l.contains x = l.any fun y => decide (x = y)
 | [] => rfl
 | y :: l => by rw [List.contains_cons, List.any_cons, contains_any x l]; rfl
theorem has_val {l : List Int} (x : Int) (hl : l.length ≤ LIM) : (yH l x).val = some (l.contains x) := by
 have hL := LIM_lt
 obtain ⟨e, h1, h2⟩ := loop_find (xs := l) (fun y => decide (x = y)) (body := fun s => yU l x s) (by
  intro i y hy
  have hi := yX hy
  unfold yU
  rw [gG, Comp.ze, if_pos (by simpa using hi), Comp.zH, gS hy, Option.bind_some, Comp.ze]
  by_cases h : x = y
  ·simp [h]
  ·simp [h, Comp.zT (show i < 9223372036854775807 by omega)]) (by
  unfold yU
  rw [Comp.ze, if_neg (by simp), Comp.zL])
 have hc := contains_any x l
 unfold yH gh
 rw [Comp.zH, Comp.zH, h1, Option.bind_some, hc]
 rcases h2 with ⟨rfl, h3⟩ | ⟨i, rfl, _, h3, _⟩
 ·rw [h3]; simp [gD]
 ·rw [any_of_get h3]; simp
def incB : List Int → Bool
 | [] => true
 | [_] => true
 | x :: y :: l => decide (x < y) && incB (y :: l)
theorem incB_iff : ∀ {l : List Int}, incB l = true ↔ ∀ i, i + 1 < l.length → l[i]! < l[i + 1]!
 | [] => by simp [incB]
 | [_] => by simp [incB]
 | x :: y :: l => by
  rw [incB, Bool.and_eq_true, decide_eq_true_iff, incB_iff]
  constructor
  ·rintro ⟨h1, h2⟩ i hi
   cases i with
   | zero => simpa using h1
   | succ i => simpa using h2 i (by simpa using hi)
  ·intro h
   refine ⟨by simpa using h 0 (by simp), fun i hi => by simpa using h (i + 1) (by simpa using hi)⟩
theorem less_val (a b : Int) : (kh a b).val = some (decide (a < b)) := by
 unfold kh cmp_isNaN_int
 simp [Comp.zH, Comp.zL, Comp.gd]
def ZC (l : List Int) : Bool := decide (∀ i, i < l.length - 1 → l[i]! ≤ l[i + 1]!)
theorem issorted_val {l : List Int} (hl : l.length ≤ LIM) : (yk l).val = some (ZC l) := by
 have hL := LIM_lt
 have key : Ok (yk l) (fun b => b = ZC l) := by
  unfold yk
  rw [Ok.bind, Ok.pure, Ok.bind]
  refine Ok.mono (P := fun e => (e = .inr () ∧ ZC l = true) ∨ (e = .inl false ∧ ZC l = false)) ?_ (fun e he => by
   rcases he with ⟨rfl, h⟩ | ⟨rfl, h⟩
   ·unfold vV; exact Ok.pure.2 h.symm
   ·exact Ok.pure.2 h.symm)
  refine Ok.loop (fun s : Int => s < l.length ∧ -1 ≤ s ∧ ∀ j : Nat, s ≤ (j : Int) → j + 1 < l.length → l[j]! ≤ l[j + 1]!) (fun s => (s + 1).toNat) ⟨?_, ?_, ?_⟩ ?_
  ·rw [IntWalk.i64_in _ ⟨by omega, by omega⟩]; omega
  ·rw [IntWalk.i64_in _ ⟨by omega, by omega⟩]; omega
  ·rw [IntWalk.i64_in _ ⟨by omega, by omega⟩]; intro j h1 h2; omega
  rintro s ⟨h1, h2, h3⟩
  unfold yo
  by_cases hs : 0 < s
  ·obtain ⟨i, rfl⟩ : ∃ i : Nat, s = (i : Int) := ⟨s.toNat, by omega⟩
   have hlt : i < l.length := by omega
   have e1 : IntKind.wrap .i64 ((i : Int) - 1) = ((i - 1 : Nat) : Int) := by rw [IntWalk.i64_in _ ⟨by omega, by omega⟩]; omega
   have g1 : l[i]? = some l[i]! := by rw [getElem!_pos l i hlt]; exact List.getElem?_eq_getElem hlt
   have g2 : l[i - 1]? = some l[i - 1]! := by rw [getElem!_pos l (i - 1) (by omega)]; exact List.getElem?_eq_getElem (by omega)
   rw [Ok.ite, if_pos (by simpa using hs), Ok.bind, Ok.idxn g1, Ok.bind, e1, Ok.idxn g2, Ok.bind, Ok.vh (less_val _ _)]
   refine Ok.ite_i (fun hc => ?_) (fun hc => ?_)
   ·rw [decide_eq_true_iff] at hc
    rw [Ok.pure]
    refine .inr ⟨rfl, ?_⟩
    unfold ZC
    rw [decide_eq_false_iff_not]
    intro ha
    have := ha (i - 1) (by omega)
    rw [show i - 1 + 1 = i by omega] at this
    omega
   ·rw [decide_eq_true_iff] at hc
    rw [Ok.pure]
    refine ⟨⟨by omega, by omega, fun j hj hj2 => ?_⟩, by omega⟩
    by_cases hji : j + 1 = i
    ·subst hji; rw [show j + 1 - 1 = j by omega] at hc; omega
    ·exact h3 j (by omega) hj2
  ·rw [Ok.ite, if_neg (by simpa using hs), Ok.pure]
   refine .inl ⟨rfl, ?_⟩
   unfold ZC
   rw [decide_eq_true_iff]
   intro j hj
   exact h3 j (by omega) (by omega)
 exact Ok.val key
theorem keeps_all {l : List Int} (hs : ZC l = true) : (Lib.compact l).length = l.length ↔ incB l = true := by
 unfold ZC at hs
 rw [decide_eq_true_iff] at hs
 have e : (Lib.compact l).length = l.length ↔ ∀ j ∈ List.range l.length, Lib.keeps l.toArray j = true := by
  have h := List.length_filter_eq_length_iff (l := List.range l.length) (p := fun j => Lib.keeps l.toArray j)
  rw [List.length_range] at h
  unfold Lib.compact Lib.compactUpTo
  rw [List.length_map]
  exact h
 rw [e, incB_iff]
 constructor
 ·intro h i hi
  have h1 := hs i (by omega)
  rcases keeps_iff.1 (h (i + 1) (List.mem_range.2 hi)) with h2 | h2
  ·omega
  ·have h3 : l[i + 1]! ≠ l[i]! := by simpa using h2
   omega
 ·intro h j hj
  rw [keeps_iff]
  have hj' := List.mem_range.1 hj
  by_cases h0 : j = 0
  ·exact .inl h0
  ·right
   have h1 := h (j - 1) (by omega)
   rw [show j - 1 + 1 = j by omega] at h1
   have h2 : l[j]! ≠ l[j - 1]! := by omega
   simpa using h2
theorem inc_sorted {l : List Int} (h : incB l = true) : ZC l = true := by
 unfold ZC
 rw [decide_eq_true_iff]
 intro i hi
 have := incB_iff.1 h i (by omega)
 omega
theorem sorted_val {l : List Int} (hl : l.length ≤ LIM) : (ju l).val = some (incB l) := by
 unfold ju
 rw [Comp.zH, issorted_val hl, Option.bind_some]
 cases hs : ZC l with
 | false =>
  have hi : incB l = false := by
   cases h : incB l with
   | false => rfl
   | true => rw [inc_sorted h] at hs; cases hs
  simp [Comp.zH, Comp.gd, Comp.zL, hi]
 | true =>
  have hc : (yW l).val = some l := by
   unfold yW
   rw [Comp.zH, app_val (by simpa using hl), Option.bind_some, Comp.zL, List.nil_append]
  have hk : (ky l).val = some (Lib.compact l) := by unfold ky; rw [if_pos hl, Comp.zL]
  rw [show (true == true) = true from rfl, Comp.zH]
  show ((yW l).val.bind _) = _
  rw [hc, Option.bind_some, Comp.zH]
  show ((ky l).val.bind _) = _
  rw [hk, Option.bind_some, Comp.zH, Comp.zL, Option.bind_some, Comp.zL]
  congr 1
  show decide (((Lib.compact l).length : Int) = (l.length : Int)) = incB l
  cases h : incB l with
  | true => rw [decide_eq_true_iff, (keeps_all hs).2 h]
  | false =>
   rw [decide_eq_false_iff_not]
   intro e
   have := (keeps_all hs).1 (by omega)
   rw [this] at h; cases h
theorem indexF_val {l : List Int} (hl : l.length ≤ LIM) {f : Int → Comp Bool} {p : Int → Bool} (hf : ∀ x ∈ l, (f x).val = some (p x)) :
  ∃ e, (yO l f).val = some e ∧ ((e = -1 ∧ l.any p = false) ∨ ∃ i : Nat, e = (i : Int) ∧ i < l.length ∧ (∃ x, l[i]? = some x ∧ p x = true) ∧ (l.take i).any p = false) := by
 have hL := LIM_lt
 obtain ⟨e, h1, h2⟩ := loop_find (xs := l) p (body := fun s => zY l f s) (by
  intro i y hy
  have hi := yX hy
  unfold zY
  rw [gG, Comp.ze, if_pos (by simpa using hi), Comp.zH, gS hy, Option.bind_some, Comp.zH, hf y (List.mem_of_getElem? hy), Option.bind_some, Comp.ze, Comp.zL, Comp.zL, Comp.zT (show i < 9223372036854775807 by omega)]
  by_cases h : p y = true <;> simp [h]) (by
  unfold zY
  rw [Comp.ze, if_neg (by simp), Comp.zL])
 unfold yO
 rw [Comp.zH, h1, Option.bind_some]
 rcases h2 with ⟨rfl, h3⟩ | ⟨i, rfl, h3, h4, h5⟩
 ·exact ⟨-1, by simp [yg], .inl ⟨rfl, h3⟩⟩
 ·exact ⟨(i : Int), by simp, .inr ⟨i, rfl, h3, h4, h5⟩⟩
theorem delete_val {l : List Int} (hl : l.length ≤ LIM) {f : Int → Comp Bool} {p : Int → Bool} (hf : ∀ x ∈ l, (f x).val = some (p x)) : (yv l f).val = some (l.filter fun x => !p x) := by
 have hL := LIM_lt
 obtain ⟨e, h1, h2⟩ := indexF_val hl hf
 unfold yv
 rw [Comp.zH, h1, Option.bind_some, Comp.ze]
 rcases h2 with ⟨rfl, h3⟩ | ⟨i, rfl, h3, h4, h5⟩
 ·rw [if_pos (by simp), Comp.zL]
  congr 1
  symm
  rw [List.filter_eq_self]
  intro x hx
  have := List.any_eq_false.1 h3 x hx
  simpa using this
 ·rw [if_neg (by simp), Comp.zT (by omega)]
  have key : Ok (Comp.loop (fun s : List Int × Int × Int => yA f s.1 s.2.1 s.2.2) (l, (i : Int), ((i + 1 : Nat) : Int))) (fun r => ∃ k : Nat, r.2 = (k : Int) ∧ k ≤ l.length ∧ r.1.length = l.length ∧ r.1.take k = l.filter fun x => !p x) := by
   obtain ⟨x0, hx0, hp0⟩ := h4
   refine Ok.loop (fun s => ∃ k j : Nat, s.2.1 = (k : Int) ∧ s.2.2 = (j : Int) ∧ k < j ∧ j ≤ l.length ∧ s.1.length = l.length ∧ s.1.take k = (l.take j).filter (fun x => !p x) ∧ s.1.drop j = l.drop j) (fun s => l.length - s.2.2.toNat) ⟨i, i + 1, rfl, rfl, by omega, by omega, rfl, ?_, rfl⟩ ?_
   ·have hx1 : l[i] = x0 := by rw [List.getElem?_eq_getElem h3] at hx0; exact Option.some.inj hx0
    rw [List.take_succ_eq_append_getElem h3, List.filter_append, hx1]
    rw [List.filter_eq_self.2 (fun x hx => by have := List.any_eq_false.1 h5 x hx; simpa using this)]
    simp [hp0]
   ·rintro ⟨a, u, v⟩ ⟨k, j, rfl, rfl, hkj, hjl, hal, ht, hd⟩
    dsimp only at *
    unfold yA
    by_cases hlt : j < l.length
    ·have hg : a[j]? = some l[j] := by
      have := congrArg (·[0]?) hd
      simpa [List.getElem?_drop, List.getElem?_eq_getElem hlt] using this
     have hx := List.getElem_mem hlt
     rw [Ok.ite, if_pos (by simp; omega), Ok.bind, Ok.idxn hg, Ok.bind, Ok.vh (hf _ hx)]
     have hd2 : ∀ b : List Int, b.length = l.length → (∀ m, j < m → b[m]? = a[m]?) → b.drop (j + 1) = l.drop (j + 1) := by
      intro b hb hm
      apply List.ext_getElem?
      intro m
      rw [List.getElem?_drop, List.getElem?_drop, hm _ (by omega)]
      have := congrArg (·[m + 1]?) hd
      simp only [List.getElem?_drop] at this
      rw [show j + 1 + m = j + (m + 1) by omega]; exact this
     refine Ok.ite_i (fun hc => ?_) (fun hc => ?_)
     ·have hp : p l[j] = false := by simpa using hc
      have hk : k < a.length := by omega
      rw [Ok.bind, Ok.idxn (List.getElem?_eq_getElem hk), Ok.bind, Ok.upd (by omega), Int.toNat_natCast]
      unfold yK
      rw [Ok.pure]
      refine ⟨⟨k + 1, j + 1, Comp.zT (by omega), Comp.zT (by omega), by omega, by omega, by simp [hal], ?_, hd2 _ (by simp [hal]) fun m hm => by rw [List.getElem?_set_ne (by omega)]⟩, ?_⟩
      ·rw [List.take_succ_eq_append_getElem (by simpa using hk), List.getElem_set_self, List.take_set_of_le (by omega), ht, List.take_succ_eq_append_getElem hlt, List.filter_append]
       simp [hp]
      ·show l.length - (IntKind.wrap .i64 ((j : Int) + 1)).toNat < l.length - ((j : Int)).toNat
       rw [Comp.zT (by omega)]; omega
     ·have hp : p l[j] = true := by simpa using hc
      unfold yK
      rw [Ok.pure]
      refine ⟨⟨k, j + 1, rfl, Comp.zT (by omega), by omega, by omega, hal, ?_, hd2 a hal fun m _ => rfl⟩, ?_⟩
      ·rw [ht, List.take_succ_eq_append_getElem hlt, List.filter_append]
       simp [hp]
      ·show l.length - (IntKind.wrap .i64 ((j : Int) + 1)).toNat < l.length - ((j : Int)).toNat
       rw [Comp.zT (by omega)]; omega
    ·rw [Ok.ite, if_neg (by simp; omega), Ok.pure]
     refine ⟨k, rfl, by omega, hal, ?_⟩
     rw [ht, List.take_of_length_le (by omega)]
  obtain ⟨⟨a, u⟩, h6, k, h7, h8, h9, h10⟩ := key
  dsimp only at h7 h9 h10
  subst h7
  rw [Comp.zH]
  show ((Comp.loop (fun s : List Int × Int × Int => yA f s.1 s.2.1 s.2.2) (l, (i : Int), ((i + 1 : Nat) : Int))).val.bind _) = _
  rw [h6, Option.bind_some]
  show (yb a (k : Int)).val = _
  unfold yb
  rw [Comp.zH, sub_val ⟨by omega, by omega, by omega⟩, Option.bind_some, Comp.zH, sub_val ⟨by omega, by omega, by simp; omega⟩, Option.bind_some, Comp.zL]
  congr 1
  rw [Int.toNat_natCast, Int.toNat_zero, List.drop_zero, List.take_append_of_le_length (by simp; omega), List.take_take, Nat.min_self, h10]
end Go.Crt
end
section
set_option linter.unusedVariables false
set_option linter.unusedSimpArgs false
namespace Go.Crt
open Go Go.Lift Go.F Go.Cor
variable {α β : Type}
def outB (m n : Int) : Bool := decide (n < 0) || decide (n ≥ m)
theorem outside_val {l : List Int} (m : Int) (hl : l.length ≤ LIM) : (ji l m).val = some (l.any (outB m)) := by
 unfold ji
 rw [Comp.zH, contains_val hl (p := outB m) (fun x _ => by unfold jE; rw [Comp.zH, Comp.zL, Option.bind_some, Comp.zL, km]; rfl), Option.bind_some, Comp.zL]
def partB (l all : List Int) : Bool := !l.any fun n => !all.contains n
def SmallC (x : api_Claim) : Prop := x.Sure.length ≤ LIM ∧ x.Touched.length ≤ LIM
def p1 (x : api_Claim) : Bool := decide (x.Party < -1) || decide (x.Party ≥ 6)
def p2 (x : api_Claim) : Bool := decide (x.Kind < 1) || decide (x.Kind > 3)
def p6 (x : api_Claim) : Bool := decide (x.Gauge < 0) || decide (x.Gauge ≥ 8)
def ki (x : api_Claim) (m : Int) : Int :=
 if p1 x = true then 55 else if p2 x = true then 4 else if (!incB x.Sure || !incB x.Touched) = true then 7 else if (x.Sure.any (outB m) || x.Touched.any (outB m)) = true then 3
 else if ((decide (x.Kind ≠ 3) && decide (x.Gauge ≠ 0)) || (decide (x.Kind ≠ 2) && decide ((x.Sure.length : Int) > 0)) || (decide (x.Kind = 3) && decide ((x.Touched.length : Int) > 0)) || !partB x.Sure x.Touched) = true then 4
 else if p6 x = true then 3 else 0
theorem check_val {x : api_Claim} (m : Int) (h : SmallC x) : (court_check x m).val = some (ki x m) := by
 have h1 := sorted_val h.1
 have h2 := sorted_val h.2
 have h3 := outside_val m h.1
 have h4 := outside_val m h.2
 have h5 := contains_val h.1 (f := fun z0 => gc z0 x) (p := fun n => !x.Touched.contains n) (fun n _ => by unfold gc; rw [Comp.zH, has_val n h.2, Option.bind_some, Comp.zL])
 have h5' : (zf x.Sure (fun z0 => gc z0 x)).val = some (!partB x.Sure x.Touched) := by rw [h5]; unfold partB; rw [Bool.not_not]
 unfold court_check gb ki
 simp only [Comp.zH, Comp.zL, Option.bind_some, Comp.ze, Comp.val_gd, h1, h2, h3, h4, h5']
 rw [km, km, km, bif_and, bif_and, bif_and]
 change (if p1 x = true then some 55 else if p2 x = true then some 4 else _) = _
 generalize p1 x = b1
 generalize p2 x = b2
 generalize incB x.Sure = b3
 generalize incB x.Touched = b4
 generalize x.Sure.any (outB m) = b5
 generalize x.Touched.any (outB m) = b6
 generalize (decide (x.Kind ≠ 3) && decide (x.Gauge ≠ 0)) = b7
 generalize (decide (x.Kind ≠ 2) && decide ((x.Sure.length : Int) > 0)) = b8
 generalize (decide (x.Kind = 3) && decide ((x.Touched.length : Int) > 0)) = b9
 generalize partB x.Sure x.Touched = b10
 have e6 : (bif decide (x.Gauge < 0) then true else decide (x.Gauge ≥ 8)) = p6 x := by rw [km]; rfl
 have e6b : (decide (x.Gauge < 0) || decide (x.Gauge ≥ 8)) = p6 x := rfl
 first | rw [e6] | rw [e6b]
 generalize p6 x = b11
 cases b1; rotate_left; · rfl
 cases b2; rotate_left; · rfl
 cases b3; · rfl
 cases b4; · rfl
 cases b5; rotate_left; · rfl
 cases b6; rotate_left; · rfl
 cases b7; rotate_left; · rfl
 cases b8; rotate_left; · rfl
 cases b9; rotate_left; · rfl
 cases b10; · rfl
 cases b11 <;> rfl
structure GoodC (x : api_Claim) (m : Int) : Prop where
 party : -1 ≤ x.Party ∧ x.Party < 6
 kind : 1 ≤ x.Kind ∧ x.Kind ≤ 3
 gauge : x.Kind ≠ 3 → x.Gauge = 0
 sure : x.Kind ≠ 2 → x.Sure = []
 touched : x.Kind = 3 → x.Touched = []
 part : ∀ n, n ∈ x.Sure → n ∈ x.Touched
 range : 0 ≤ x.Gauge ∧ x.Gauge < 8
theorem goodC {x : api_Claim} {m : Int} (h : ki x m = 0) : GoodC x m := by
 unfold ki at h
 split at h; · cases h
 split at h; · cases h
 split at h; · cases h
 split at h; · cases h
 split at h; · cases h
 split at h; · cases h
 rename_i h1 h2 h3 h4 h5 h6
 simp only [p1, p2, p6, Bool.or_eq_true, Bool.and_eq_true, decide_eq_true_iff, not_or, not_and, Bool.not_eq_true', Bool.not_eq_false] at h1 h2 h5 h6
 obtain ⟨⟨⟨h7, h8⟩, h9⟩, h10⟩ := h5
 refine ⟨by omega, by omega, fun hk => by have := h7 hk; omega, fun hk => ?_, fun hk => ?_, ?_, by omega⟩
 ·have := h8 hk; exact List.eq_nil_of_length_eq_zero (by omega)
 ·have := h9 hk; exact List.eq_nil_of_length_eq_zero (by omega)
 ·intro n hn
  unfold partB at h10
  simp only [Bool.not_eq_true', List.any_eq_false, Bool.not_eq_true, Bool.not_eq_false'] at h10
  have := h10 n hn
  simpa using this
def dupB (pre : List api_Claim) (x : api_Claim) : Bool := pre.any fun y => decide (y.Kind = x.Kind) && (decide (x.Kind = 1) || (decide (x.Kind = 3) && decide (y.Gauge = x.Gauge)))
def goE (m : Int) : List api_Claim → List api_Claim → Option Int
 | _, [] => none
 | pre, x :: xs => if ki x m ≠ 0 then some (ki x m) else if dupB pre x = true then some 6 else goE m (pre ++ [x]) xs
theorem goE_cons (m : Int) (pre : List api_Claim) (x : api_Claim) (xs : List api_Claim) : goE m pre (x :: xs) = if ki x m ≠ 0 then some (ki x m) else if dupB pre x = true then some 6 else goE m (pre ++ [x]) xs := rfl
def toE : Option Int → Sum Int Unit
 | some c => .inl c
 | none => .inr ()
theorem drop_cons {C : List α} {i : Nat} (h : i < C.length) : C.drop i = C[i] :: C.drop (i + 1) := List.drop_eq_getElem_cons h
theorem take_snoc {C : List α} {i : Nat} (h : i < C.length) : C.take (i + 1) = C.take i ++ [C[i]] := List.take_succ_eq_append_getElem h
theorem mget_mput {κ ν : Type} [DecidableEq κ] (x y : κ) (v : ν) : ∀ m : List (κ × ν), mget (mput m x v) y = if y = x then some v else mget m y
 | [] => by
  unfold mput mget
  by_cases h : y = x
  ·simp [h]
  ·simp [h, mget]
 | p :: ps => by
  unfold mput
  by_cases h : x = p.1
  ·rw [if_pos h]
   by_cases h2 : y = x
   ·simp [mget, h2]
   ·simp [mget, h2, h ▸ h2]
  ·rw [if_neg h]
   unfold mget
   by_cases h2 : y = p.1
   ·rw [if_pos h2, if_pos h2, if_neg (fun e => h (by rw [← e, h2]))]
   ·rw [if_neg h2, if_neg h2]; exact mget_mput x y v ps
theorem v2_eq {a b c d : Int} : ((#v[a, b] : Vector Int 2) = #v[c, d]) ↔ a = c ∧ b = d := by
 constructor
 ·intro h
  have h1 := congrArg (fun v : Vector Int 2 => v[0]) h
  have h2 := congrArg (fun v : Vector Int 2 => v[1]) h
  exact ⟨by simpa using h1, by simpa using h2⟩
 ·rintro ⟨rfl, rfl⟩; rfl
def metB (pre : List api_Claim) (k g : Int) : Bool := pre.any fun y => decide (y.Kind ≠ 2) && (decide (k = y.Kind) && decide (g = y.Gauge))
theorem dup_met {pre : List api_Claim} {x : api_Claim} {m : Int} (hp : ∀ y ∈ pre, GoodC y m) (hx : GoodC x m) (hk : x.Kind ≠ 2) : dupB pre x = metB pre x.Kind x.Gauge := by
 unfold dupB metB
 rw [Bool.eq_iff_iff, List.any_eq_true, List.any_eq_true]
 have hx1 := hx.kind
 have hx2 := hx.gauge
 constructor
 ·rintro ⟨y, h1, h2⟩
  have hy := hp y h1
  have hy2 := hy.gauge
  refine ⟨y, h1, ?_⟩
  simp only [Bool.and_eq_true, Bool.or_eq_true, decide_eq_true_iff] at h2 ⊢
  omega
 ·rintro ⟨y, h1, h2⟩
  have hy := hp y h1
  have hy2 := hy.gauge
  refine ⟨y, h1, ?_⟩
  simp only [Bool.and_eq_true, Bool.or_eq_true, decide_eq_true_iff] at h2 ⊢
  omega
theorem dup_two {pre : List api_Claim} {x : api_Claim} (hk : x.Kind = 2) : dupB pre x = false := by
 unfold dupB
 rw [List.any_eq_false]
 intro y _ h
 simp only [Bool.and_eq_true, Bool.or_eq_true, decide_eq_true_iff] at h
 omega
theorem check_loop {C : List api_Claim} {m : Int} (hC : ∀ x ∈ C, SmallC x) (hl : C.length ≤ 10) : (Comp.loop (fun s : List (Vector Int 2 × Bool) × Int => vM C m s.1 s.2) ([], 0)).val = some (toE (goE m [] C)) := by
 have key : Ok (Comp.loop (fun s : List (Vector Int 2 × Bool) × Int => vM C m s.1 s.2) ([], 0)) (fun e => e = toE (goE m [] C)) := by
  refine Ok.count C.length (fun i s => s.2 = (i : Int) ∧ goE m [] C = goE m (C.take i) (C.drop i) ∧ (∀ y ∈ C.take i, GoodC y m) ∧ ∀ k g, (mget s.1 (#v[k, g] : Vector Int 2)).getD false = metB (C.take i) k g) ⟨rfl, by simp, by simp, fun k g => rfl⟩ ?_ ?_
  ·rintro i ⟨mp, s⟩ hi ⟨h0, h, hpre, hmet⟩
   dsimp only at h0 hmet
   subst h0
   have hg := List.getElem?_eq_getElem hi
   show Ok (vM C m mp (i : Int)) _
   unfold vM
   rw [Ok.ite, if_pos (by simp; omega), Ok.bind, Ok.idxn hg, Ok.bind, Ok.vh (check_val m (hC _ (List.getElem_mem hi)))]
   rw [drop_cons hi, goE_cons] at h
   refine Ok.ite_i (fun hc => ?_) (fun hc => ?_)
   ·rw [decide_eq_true_iff] at hc
    rw [if_pos hc] at h
    rw [Ok.pure, h]; rfl
   ·rw [decide_eq_true_iff] at hc
    rw [if_neg hc] at h
    have hx : GoodC C[i] m := goodC (by omega)
    have hpre2 : ∀ y ∈ C.take (i + 1), GoodC y m := by
     rw [take_snoc hi]
     intro y hy
     rcases List.mem_append.1 hy with h | h
     ·exact hpre y h
     ·rw [List.mem_singleton] at h; subst h; exact hx
    refine Ok.ite_i (fun hk => ?_) (fun hk => ?_)
    ·rw [decide_eq_true_iff] at hk
     rw [Ok.bind, Ok.pure, hmet, ← dup_met hpre hx hk]
     refine Ok.ite_i (fun hb => ?_) (fun hb => ?_)
     ·rw [if_pos hb] at h
      rw [Ok.pure, h]; rfl
     ·rw [if_neg hb] at h
      unfold jI
      rw [Ok.pure]
      refine ⟨Comp.zT (by omega), by rw [take_snoc hi]; exact h, hpre2, fun k g => ?_⟩
      dsimp only
      rw [mget_mput, take_snoc hi]
      unfold metB
      rw [List.any_append]
      have hm2 := hmet k g
      unfold metB at hm2
      rw [← hm2]
      by_cases e : (#v[k, g] : Vector Int 2) = #v[C[i].Kind, C[i].Gauge]
      ·rw [if_pos e]
       rw [v2_eq] at e
       simp [e.1, e.2, hk]
      ·rw [if_neg e]
       rw [v2_eq] at e
       have : ([C[i]].any fun y => decide (y.Kind ≠ 2) && (decide (k = y.Kind) && decide (g = y.Gauge))) = false := by
        rw [List.any_eq_false]
        intro y hy
        rw [List.mem_singleton] at hy
        subst hy
        simp only [Bool.and_eq_true, decide_eq_true_iff]
        exact fun q => e q.2
       rw [this, Bool.or_false]
    ·rw [decide_eq_true_iff, ne_eq, Decidable.not_not] at hk
     rw [dup_two hk, if_neg (by simp)] at h
     unfold jI
     rw [Ok.pure]
     refine ⟨Comp.zT (by omega), by rw [take_snoc hi]; exact h, hpre2, fun k g => ?_⟩
     dsimp only
     rw [hmet, take_snoc hi]
     unfold metB
     rw [List.any_append]
     simp [hk]
  ·rintro ⟨mp, s⟩ ⟨h0, h, _⟩
   dsimp only at h0
   subst h0
   show Ok (vM C m mp (C.length : Int)) _
   unfold vM
   rw [Ok.ite, if_neg (by simp), Ok.pure, h]
   rw [List.drop_length]; rfl
 exact Ok.val key
def farB (m : Int) (x : api_Sight) : Bool := ((decide (x.Gauge < 0) || decide (x.Gauge ≥ 8)) || decide (x.Cell < 0)) || decide (x.Cell ≥ m)
theorem sights_val {l : List api_Sight} {m : Int} (hl : l.length ≤ 40) : (jm l m).val = some (if l.any (farB m) then 3 else 0) := by
 have := Comp.loop_any (body := fun s => vf l m s) l (farB m) 3 (by
  intro i y hy
  have hi := yX hy
  show (vf l m (i : Int)).val = _
  unfold vf
  rw [gG, Comp.ze, if_pos (by simpa using hi), Comp.zH, gS hy, Option.bind_some, Comp.zH, Comp.zL, Option.bind_some, Comp.ze, Comp.zL, Comp.zL, Comp.zT (by omega), km, km, km]
  unfold farB
  split <;> rfl) (by
  show (vf l m (l.length : Int)).val = _
  unfold vf
  rw [Comp.ze, if_neg (by simp), Comp.zL])
 unfold jm
 rw [Comp.zH, this, Option.bind_some]
 cases l.any (farB m)
 ·simp [kY]
 ·simp
def jn (C : List api_Claim) (l : List api_Sight) (m : Int) : Int :=
 if (decide (m < 1) || decide (m > 16)) = true then 3 else if (decide ((C.length : Int) > 10) || decide ((l.length : Int) > 40)) = true then 2
 else match goE m [] C with | some c => c | none => if l.any (farB m) then 3 else 0
theorem Check_val {C : List api_Claim} {l : List api_Sight} (m : Int) (hC : ∀ x ∈ C, SmallC x) : (kR C l m).val = some (jn C l m) := by
 unfold kR jn
 rw [Comp.zH, Comp.zL, Option.bind_some, Comp.ze, km]
 split
 ·rw [Comp.zL]
 rw [Comp.zH, Comp.zL, Option.bind_some, Comp.ze, km]
 split
 ·rw [Comp.zL]
 rename_i h1 h2
 simp only [Bool.or_eq_true, decide_eq_true_iff, not_or] at h2
 rw [Comp.zH, check_loop hC (by omega), Option.bind_some]
 cases goE m [] C with
 | some c => exact Comp.zL c
 | none => exact sights_val (by omega)
structure GoodL (C : List api_Claim) (l : List api_Sight) (m : Int) : Prop where
 cells : 1 ≤ m ∧ m ≤ 16
 len : C.length ≤ 10 ∧ l.length ≤ 40
 each : ∀ x ∈ C, GoodC x m
 one : ∀ (i j : Nat) (x y : api_Claim), C[i]? = some x → C[j]? = some y → x.Kind = 1 → y.Kind = 1 → i = j
theorem goE_good {m : Int} : ∀ (C pre : List api_Claim), goE m pre C = none → (∀ x ∈ C, GoodC x m ∧ ∃ z, z = x) ∧ (∀ i x, C[i]? = some x → x.Kind = 1 → ∀ y, y ∈ pre ++ C.take i → y.Kind ≠ 1)
 | [], pre, _ => ⟨by simp, by simp⟩
 | x :: C, pre, h => by
  unfold goE at h
  split at h; · cases h
  split at h; · cases h
  rename_i h1 h2
  have ih := goE_good C (pre ++ [x]) h
  refine ⟨?_, ?_⟩
  ·intro y hy
   rcases List.mem_cons.1 hy with rfl | hy
   ·exact ⟨goodC (by simpa using h1), _, rfl⟩
   ·exact ih.1 y hy
  ·intro i y hy hk z hz
   cases i with
   | zero =>
    simp at hy; subst hy
    simp at hz
    intro hz1
    apply h2
    unfold dupB
    rw [List.any_eq_true]
    exact ⟨z, hz, by simp [hz1, hk]⟩
   | succ i =>
    exact ih.2 i y (by simpa using hy) hk z (by simpa using hz)
theorem goodL {C : List api_Claim} {l : List api_Sight} {m : Int} (h : jn C l m = 0) : GoodL C l m := by
 unfold jn at h
 split at h; · cases h
 split at h; · cases h
 rename_i h1 h2
 simp only [Bool.or_eq_true, decide_eq_true_iff, not_or] at h1 h2
 have hg : goE m [] C = none ∨ ∃ c, goE m [] C = some c ∧ c = 0 := by
  cases e : goE m [] C with
  | none => exact .inl rfl
  | some c => rw [e] at h; exact .inr ⟨c, rfl, h⟩
 have hno : ∀ (C pre : List api_Claim) c, goE m pre C = some c → c ≠ 0 := by
  intro C
  induction C with
  | nil => intro pre c h; cases h
  | cons x C ih =>
   intro pre c h
   unfold goE at h
   split at h
   ·rename_i hx; cases h; exact hx
   split at h
   ·cases h; decide
   ·exact ih _ _ h
 rcases hg with hg | ⟨c, hg, rfl⟩
 ·obtain ⟨h3, h4⟩ := goE_good C [] hg
  refine ⟨by omega, by omega, fun x hx => (h3 x hx).1, ?_⟩
  intro i j x y hx hy hkx hky
  rcases Nat.lt_trichotomy i j with hlt | he | hlt
  ·exact absurd hkx (h4 j y hy hky x (by
    rw [List.nil_append]
    have hj := yX hy
    exact List.mem_of_getElem? (i := i) (by rw [List.getElem?_take_of_lt hlt]; exact hx)))
  ·exact he
  ·exact absurd hky (h4 i x hx hkx y (by
    rw [List.nil_append]
    exact List.mem_of_getElem? (i := j) (by rw [List.getElem?_take_of_lt hlt]; exact hy)))
 ·exact absurd rfl (hno _ _ _ hg)
end Go.Crt
end
section
set_option linter.unusedVariables false
set_option linter.unusedSimpArgs false
namespace Go.Crt
open Go Go.Lift Go.F Go.Cor
variable {α β : Type}
def saidS (l : List api_Sight) (g c : Int) (t : Bool) : Bool := l.any fun s => (decide (s.Gauge = g) && decide (s.Cell = c)) && decide (s.There = t)
def qT (l : List api_Sight) (S : Nat) (c : Int) (t : Bool) (p : api_Claim × Nat) : Bool := (S.testBit p.2 && decide (p.1.Kind = 3)) && saidS l p.1.Gauge c t
def qS (S : Nat) (c : Int) (p : api_Claim × Nat) : Bool := (S.testBit p.2 && decide (p.1.Kind = 1)) && !p.1.Touched.contains c
def qE (S : Nat) (c : Int) (p : api_Claim × Nat) : Bool := (S.testBit p.2 && decide (p.1.Kind = 1)) && p.1.Touched.contains c
def qK (S : Nat) (c : Int) (p : api_Claim × Nat) : Bool := (S.testBit p.2 && decide (p.1.Kind = 2)) && p.1.Sure.contains c
def qL (S : Nat) (c : Int) (p : api_Claim × Nat) : Bool := decide (p.1.Kind = 2) && (!S.testBit p.2 || p.1.Touched.contains c)
def badB (C : List api_Claim) (l : List api_Sight) (S : Nat) (c : Int) : Bool :=
 (C.zipIdx.any (qT l S c true) && (C.zipIdx.any (qT l S c false) || C.zipIdx.any (qS S c) || C.zipIdx.any (qK S c))) || (C.zipIdx.any (qT l S c false) && C.zipIdx.any (qE S c) && !C.zipIdx.any (qL S c))
theorem zip_get {C : List α} {i : Nat} {x : α} (h : C[i]? = some x) : C.zipIdx[i]? = some (x, i) := by
 rw [List.getElem?_zipIdx, h]; simp
theorem zip_len (C : List α) : C.zipIdx.length = C.length := List.length_zipIdx
def gB (l : List api_Sight) (x : api_Claim) : court_voice :=
 if x.Kind = 1 then .c101 ⟨x.Touched⟩ else if x.Kind = 2 then .c96 ⟨x.Sure, x.Touched⟩ else .c102 (l.filter fun y => decide (y.Gauge = x.Gauge))
theorem own_val {l : List api_Sight} (x : api_Claim) (hl : l.length ≤ 40) : (Comp.loop (fun s : List api_Sight × Int => yw l x s.1 s.2) ([], 0)).val = some (l.filter fun y => decide (y.Gauge = x.Gauge)) := by
 have hL : LIM = 1073741824 := rfl
 have := Comp.ZF (body := fun s : List api_Sight × Int => yw l x s.1 s.2) l (fun acc y => if decide (y.Gauge = x.Gauge) = true then acc ++ [y] else acc) id (fun a i => a.length ≤ i) []
  (by
   intro a i y hy hI
   have hi := yX hy
   show (yw l x a (i : Int)).val = _
   unfold yw jZ
   rw [gG, Comp.ze, if_pos (by simpa using hi), Comp.zH, gS hy, Option.bind_some, Comp.ze]
   split
   ·rw [Comp.zH, app_val (by simp; omega), Option.bind_some, Comp.zL, Comp.zT (by omega)]
   ·rw [Comp.zL, Comp.zT (by omega)])
  (by
   intro a i y hy hI
   split
   ·simp; omega
   ·omega)
  (by
   intro a _
   show (yw l x a (l.length : Int)).val = _
   unfold yw
   rw [Comp.ze, if_neg (by simp), Comp.zL]; rfl)
  (Nat.le_refl _)
 rw [this, Comp.foldl_filter]; rfl
theorem voices_val {C : List api_Claim} {l : List api_Sight} (hC : C.length ≤ 10) (hl : l.length ≤ 40) : (ja C l).val = some (C.map (gB l)) := by
 have hL : LIM = 1073741824 := rfl
 have key : Ok (ja C l) (fun v => v = C.map (gB l)) := by
  unfold ja
  rw [Ok.bind]
  refine Ok.mono (P := fun v => v = C.map (gB l)) ?_ (fun v hv => by unfold kI; exact Ok.pure.2 hv)
  refine Ok.count C.length (fun i s => s.2 = (i : Int) ∧ s.1 = (C.take i).map (gB l)) ⟨rfl, by simp⟩ ?_ ?_
  ·rintro i ⟨a, s⟩ hi ⟨h0, h1⟩
   dsimp only at h0 h1
   subst h0 h1
   have hg := List.getElem?_eq_getElem hi
   show Ok (vi C l ((C.take i).map (gB l)) (i : Int)) _
   have fin : ∀ v, v = gB l C[i] → (C.take i).map (gB l) ++ [v] = (C.take (i + 1)).map (gB l) := by
    intro v hv
    rw [take_snoc hi, List.map_append, hv]; rfl
   unfold vi gO
   rw [Ok.ite, if_pos (by simp; omega), Ok.bind, Ok.idxn hg]
   refine Ok.ite_i (fun hk => ?_) (fun hk => ?_)
   ·rw [decide_eq_true_iff] at hk
    rw [Ok.bind, Ok.app (by simp; omega), Ok.pure]
    exact ⟨Comp.zT (by omega), fin _ (by unfold gB; rw [if_pos hk])⟩
   ·rw [decide_eq_true_iff] at hk
    refine Ok.ite_i (fun hk2 => ?_) (fun hk2 => ?_)
    ·rw [decide_eq_true_iff] at hk2
     rw [Ok.bind, Ok.app (by simp; omega), Ok.pure]
     exact ⟨Comp.zT (by omega), fin _ (by unfold gB; rw [if_neg hk, if_pos hk2])⟩
    ·rw [decide_eq_true_iff] at hk2
     rw [Ok.bind, Ok.vh (own_val _ hl)]
     unfold kH gO
     rw [Ok.bind, Ok.app (by simp; omega), Ok.pure]
     exact ⟨Comp.zT (by omega), fin _ (by unfold gB; rw [if_neg hk, if_neg hk2])⟩
  ·rintro ⟨a, s⟩ ⟨h0, h1⟩
   dsimp only at h0 h1
   subst h0 h1
   show Ok (vi C l ((C.take C.length).map (gB l)) (C.length : Int)) _
   unfold vi
   rw [Ok.ite, if_neg (by simp), Ok.pure, List.take_length]
 exact Ok.val key
theorem gspeak_val {o : List api_Sight} (c : Int) (f : court_fate) (ho : o.length ≤ 40) :
  (vc o c f).val = some ⟨f.solid_, f.empty_, f.taken_, f.loose_, f.there_ || o.any (fun s => decide (s.Cell = c) && decide (s.There = true)), f.gone_ || o.any (fun s => decide (s.Cell = c) && decide (s.There = false))⟩ := by
 have key : Ok (vc o c f) (fun r => r = ⟨f.solid_, f.empty_, f.taken_, f.loose_, f.there_ || o.any (fun s => decide (s.Cell = c) && decide (s.There = true)), f.gone_ || o.any (fun s => decide (s.Cell = c) && decide (s.There = false))⟩) := by
  unfold vc
  rw [Ok.bind]
  refine Ok.mono (P := fun r => r = ⟨f.solid_, f.empty_, f.taken_, f.loose_, f.there_ || o.any (fun s => decide (s.Cell = c) && decide (s.There = true)), f.gone_ || o.any (fun s => decide (s.Cell = c) && decide (s.There = false))⟩) ?_ (fun r hr => Ok.pure.2 hr)
  refine Ok.count o.length (fun i s => s.1 = (i : Int) ∧ s.2 = ⟨f.solid_, f.empty_, f.taken_, f.loose_, f.there_ || (o.take i).any (fun s => decide (s.Cell = c) && decide (s.There = true)), f.gone_ || (o.take i).any (fun s => decide (s.Cell = c) && decide (s.There = false))⟩) ⟨rfl, by simp⟩ ?_ ?_
  ·rintro i ⟨s, a⟩ hi ⟨h0, h1⟩
   dsimp only at h0 h1
   subst h0 h1
   have hg := List.getElem?_eq_getElem hi
   show Ok (yY o c (i : Int) _) _
   unfold yY vy
   rw [Ok.ite, if_pos (by simp; omega), Ok.bind, Ok.idxn hg, kZ hg, kZ hg]
   refine Ok.ite_i (fun hk => ?_) (fun hk => ?_)
   ·rw [Ok.pure]
    refine ⟨Comp.zT (by omega), ?_⟩
    rw [decide_eq_true_iff] at hk
    cases o[i].There <;> simp [hk]
   ·rw [Ok.pure]
    refine ⟨Comp.zT (by omega), ?_⟩
    rw [decide_eq_true_iff] at hk
    simp [hk]
  ·rintro ⟨s, a⟩ ⟨h0, h1⟩
   dsimp only at h0 h1
   subst h0 h1
   show Ok (yY o c (o.length : Int) _) _
   unfold yY
   rw [Ok.ite, if_neg (by simp), Ok.pure, List.take_length]
 exact Ok.val key
def fateOf (l : List api_Sight) (S : Nat) (c : Int) (Z : List (api_Claim × Nat)) : court_fate :=
 ⟨!Z.any (qS S c), !Z.any (qE S c), Z.any (qK S c), Z.any (qL S c), Z.any (qT l S c true), Z.any (qT l S c false)⟩
theorem any_filter' (p q : α → Bool) : ∀ l : List α, (l.filter p).any q = l.any fun x => p x && q x
 | [] => rfl
 | x :: l => by
  rw [List.filter_cons, List.any_cons, ← any_filter' p q l]
  cases p x <;> simp
theorem fates_val {C : List api_Claim} {l : List api_Sight} {S : Nat} {m : Int} (c : Int) (hS : S < 1024) (hC : C.length ≤ 10) (hl : l.length ≤ 40) (hs : ∀ x ∈ C, SmallC x) (hg : ∀ x ∈ C, GoodC x m) :
  (Comp.loop (fun s : Int × court_fate => yx (C.map (gB l)) (S : Int) c s.1 s.2) (0, ⟨true, true, false, false, false, false⟩)).val = some (fateOf l S c C.zipIdx) := by
 have key : Ok (Comp.loop (fun s : Int × court_fate => yx (C.map (gB l)) (S : Int) c s.1 s.2) (0, ⟨true, true, false, false, false, false⟩)) (fun r => r = fateOf l S c C.zipIdx) := by
  refine Ok.count C.length (fun i s => s.1 = (i : Int) ∧ s.2 = fateOf l S c (C.zipIdx.take i)) ⟨rfl, by simp [fateOf]⟩ ?_ ?_
  ·rintro i ⟨s, a⟩ hi ⟨h0, h1⟩
   dsimp only at h0 h1
   subst h0 h1
   have hx := List.getElem?_eq_getElem hi
   have hz := zip_get hx
   have hv : (C.map (gB l))[i]? = some (gB l C[i]) := by rw [List.getElem?_map, hx]; rfl
   have hgx := hg _ (List.getElem_mem hi)
   have hsx := hs _ (List.getElem_mem hi)
   have hk := hgx.kind
   show Ok (yx (C.map (gB l)) (S : Int) c (i : Int) _) _
   have e : fateOf l S c (C.zipIdx.take (i + 1)) = ⟨!((C.zipIdx.take i).any (qS S c) || qS S c (C[i], i)), !((C.zipIdx.take i).any (qE S c) || qE S c (C[i], i)), (C.zipIdx.take i).any (qK S c) || qK S c (C[i], i), (C.zipIdx.take i).any (qL S c) || qL S c (C[i], i), (C.zipIdx.take i).any (qT l S c true) || qT l S c true (C[i], i), (C.zipIdx.take i).any (qT l S c false) || qT l S c false (C[i], i)⟩ := by
    unfold fateOf
    rw [kZ hz, kZ hz, kZ hz, kZ hz, kZ hz, kZ hz]
   rw [e]
   unfold fateOf
   generalize (C.zipIdx.take i).any (qS S c) = b1
   generalize (C.zipIdx.take i).any (qE S c) = b2
   generalize (C.zipIdx.take i).any (qK S c) = b3
   generalize (C.zipIdx.take i).any (qL S c) = b4
   generalize (C.zipIdx.take i).any (qT l S c true) = b5
   generalize (C.zipIdx.take i).any (qT l S c false) = b6
   unfold yx gp qS qE qK qL qT
   dsimp only
   rw [Ok.ite, if_pos (by simp; omega), Ok.bind, Ok.idxn hv, Ok.bind, Ok.gw (by omega), Ok.bind, Ok.pure, bit_eq (by omega) (by omega)]
   unfold gB
   by_cases k1 : C[i].Kind = 1
   ·rw [if_pos k1]
    cases ht : S.testBit i with
    | true =>
     rw [Ok.ite, if_pos rfl, Ok.bind]
     show Ok (go ⟨C[i].Touched⟩ c _) _
     unfold go
     rw [Ok.bind, Ok.vh (has_val c hsx.2)]
     cases hc : C[i].Touched.contains c with
     | true => rw [Ok.ite, if_pos rfl, Ok.pure, Ok.pure]; exact ⟨Comp.zT (by omega), by simp [k1]⟩
     | false => rw [Ok.ite, if_neg (by simp), Ok.pure, Ok.pure]; exact ⟨Comp.zT (by omega), by simp [k1]⟩
    | false =>
     rw [Ok.ite, if_neg (by simp), Ok.ite, if_neg (by simp [court_voice.as96]), Ok.pure]
     exact ⟨Comp.zT (by omega), by simp [k1]⟩
   ·rw [if_neg k1]
    by_cases k2 : C[i].Kind = 2
    ·rw [if_pos k2]
     cases ht : S.testBit i with
     | true =>
      rw [Ok.ite, if_pos rfl, Ok.bind]
      show Ok (jb ⟨C[i].Sure, C[i].Touched⟩ c _) _
      unfold jb
      rw [Ok.bind, Ok.gd]
      cases b3 <;> cases b4 <;> simp only [beq_self_eq_true, Bool.true_eq_false, if_true, if_false, reduceIte, Bool.true_beq, Bool.false_eq_true]
      all_goals first | rw [Ok.vh (has_val c hsx.1)] | skip
      all_goals (rw [Ok.bind, Ok.gd]; simp only [beq_self_eq_true, Bool.true_eq_false, if_true, if_false, reduceIte, Bool.true_beq, Bool.false_eq_true])
      all_goals first | rw [Ok.vh (has_val c hsx.2)] | skip
      all_goals (rw [Ok.pure, Ok.pure]; exact ⟨Comp.zT (by omega), by simp [k2]⟩)
     | false =>
      rw [Ok.ite, if_neg (by simp), Ok.ite, if_pos (by simp [court_voice.as96]), Ok.pure]
      exact ⟨Comp.zT (by omega), by simp [k2]⟩
    ·rw [if_neg k2]
     have k3 : C[i].Kind = 3 := by omega
     cases ht : S.testBit i with
     | true =>
      rw [Ok.ite, if_pos rfl, Ok.bind]
      show Ok (vc (l.filter fun y => decide (y.Gauge = C[i].Gauge)) c _) _
      rw [Ok.vh (gspeak_val c _ (Nat.le_trans (List.length_filter_le _ _) hl)), Ok.pure, any_filter', any_filter']
      refine ⟨Comp.zT (by omega), ?_⟩
      simp [k3, saidS, Bool.and_assoc]
     | false =>
      rw [Ok.ite, if_neg (by simp), Ok.ite, if_neg (by simp [court_voice.as96]), Ok.pure]
      exact ⟨Comp.zT (by omega), by simp [k3]⟩
  ·rintro ⟨s, a⟩ ⟨h0, h1⟩
   dsimp only at h0 h1
   subst h0 h1
   show Ok (yx (C.map (gB l)) (S : Int) c (C.length : Int) _) _
   unfold yx
   rw [Ok.ite, if_neg (by simp), Ok.pure, ← zip_len C, List.take_length]
 exact Ok.val key
def ga (C : List api_Claim) (l : List api_Sight) (M S : Nat) : Bool := !(List.range M).any fun c => badB C l S (c : Int)
theorem agrees_val {C : List api_Claim} {l : List api_Sight} {M S : Nat} {m : Int} (hM : M ≤ 16) (hS : S < 1024) (hC : C.length ≤ 10) (hl : l.length ≤ 40) (hs : ∀ x ∈ C, SmallC x) (hg : ∀ x ∈ C, GoodC x m) :
  (jc (C.map (gB l)) (M : Int) (S : Int)).val = some (ga C l M S) := by
 have key : Ok (jc (C.map (gB l)) (M : Int) (S : Int)) (fun b => b = ga C l M S) := by
  unfold jc
  rw [Ok.bind]
  refine Ok.mono (P := fun b => b = ga C l M S) ?_ (fun b hb => by unfold kK; exact Ok.pure.2 hb)
  refine Ok.count M (fun i s => s = (true, (i : Int)) ∧ (List.range i).any (fun c => badB C l S (c : Int)) = false) ⟨rfl, rfl⟩ ?_ ?_
  ·rintro i s hi ⟨rfl, h1⟩
   show Ok (vj (M : Int) (C.map (gB l)) (S : Int) true (i : Int)) _
   unfold vj
   rw [Ok.ite, if_pos (by simp; omega), Ok.bind, Ok.vh (fates_val (i : Int) hS hC hl hs hg)]
   unfold kJ
   rw [Ok.bind, Ok.pure]
   have e : (bif (bif (fateOf l S (i : Int) C.zipIdx).there_ then (bif (bif (fateOf l S (i : Int) C.zipIdx).gone_ then true else (!(fateOf l S (i : Int) C.zipIdx).solid_)) then true else (fateOf l S (i : Int) C.zipIdx).taken_) else false) then true else (bif (bif (fateOf l S (i : Int) C.zipIdx).gone_ then (!(fateOf l S (i : Int) C.zipIdx).empty_) else false) then (!(fateOf l S (i : Int) C.zipIdx).loose_) else false)) = badB C l S (i : Int) := by
    unfold fateOf badB
    dsimp only
    rw [km, km, km, bif_and, bif_and, bif_and, Bool.not_not, Bool.not_not]
   rw [e]
   have hr : (List.range (i + 1)).any (fun c => badB C l S (c : Int)) = badB C l S (i : Int) := by
    rw [List.range_succ, List.any_append, h1]; simp
   refine Ok.ite_i (fun hb => ?_) (fun hb => ?_)
   ·rw [Ok.pure]
    show false = ga C l M S
    unfold ga
    symm
    rw [Bool.not_eq_false', List.any_eq_true]
    exact ⟨i, List.mem_range.2 hi, hb⟩
   ·rw [Ok.pure]
    refine ⟨by rw [Comp.zT (by omega)], ?_⟩
    rw [hr]; simpa using hb
  ·rintro s ⟨rfl, h1⟩
   show Ok (vj (M : Int) (C.map (gB l)) (S : Int) true (M : Int)) _
   unfold vj
   rw [Ok.ite, if_neg (by simp), Ok.pure]
   unfold ga
   rw [h1]; rfl
 exact Ok.val key
end Go.Crt
end
section
set_option linter.unusedVariables false
set_option linter.unusedSimpArgs false
namespace Go.Crt
open Go Go.Lift Go.F Go.Cor
variable {α β : Type}
def SmallL (C : List api_Claim) : Prop := ∀ x ∈ C, SmallC x
theorem pow_len {n : Nat} (h : n ≤ 10) : 2 ^ n ≤ 1024 := Nat.pow_le_pow_right (n := 2) (by omega) h
def agreesE (C : List api_Claim) (l : List api_Sight) (m s : Int) : Bool := decide (jn C l m = 0) && decide (s ≥ 0) && decide (s < ((2 ^ C.length : Nat) : Int)) && ga C l m.toNat s.toNat
theorem Agrees_val {C : List api_Claim} {l : List api_Sight} (m s : Int) (hs : SmallL C) : (gx C l m s).val = some (agreesE C l m s) := by
 unfold gx agreesE
 rw [Comp.zH, Check_val m hs, Option.bind_some]
 simp only [bif_and, Comp.zH, Comp.val_gd, Comp.zL]
 by_cases h : jn C l m = 0
 ·have hG := goodL h
  have hC := hG.len.1
  have hp := pow_len hC
  have hp0 := Nat.two_pow_pos C.length
  rw [decide_eq_true h, shlF_nat (by omega), jg (by omega), voices_val hC hG.len.2]
  by_cases h2 : s ≥ 0
  ·rw [decide_eq_true h2]
   by_cases h3 : s < ((2 ^ C.length : Nat) : Int)
   ·rw [decide_eq_true h3]
    have hv := agrees_val (C := C) (l := l) (M := m.toNat) (S := s.toNat) (m := m) (by have := hG.cells; omega) (by omega) hC hG.len.2 hs hG.each
    rw [show ((m.toNat : Nat) : Int) = m by have := hG.cells; omega, show ((s.toNat : Nat) : Int) = s by omega] at hv
    simp [hv]
   ·rw [decide_eq_false h3]; simp
  ·rw [decide_eq_false h2]; simp
 ·rw [decide_eq_false h]; simp
def okL (C : List api_Claim) (l : List api_Sight) (m : Int) : List Bool := own (2 ^ C.length) (ga C l m.toNat)
theorem own_succ (i : Nat) (P : Nat → Bool) : own (i + 1) P = own i P ++ [P i] := by
 unfold own
 rw [List.range_succ, List.map_append]; rfl
theorem Conflicts_val {C : List api_Claim} {l : List api_Sight} {m : Int} (hs : SmallL C) (h : jn C l m = 0) : (vR C l m).val = (gf (okL C l m)).val := by
 have hG := goodL h
 have hC := hG.len.1
 have hp := pow_len hC
 have hp0 := Nat.two_pow_pos C.length
 have hm : ((m.toNat : Nat) : Int) = m := by have := hG.cells; omega
 have hL : LIM = 1073741824 := rfl
 have key : Ok (Comp.loop (fun s : List Bool × Int => yc (List.replicate (2 ^ C.length) false) (C.map (gB l)) m s.1 s.2) (List.replicate (2 ^ C.length) false, 0)) (fun r => r = okL C l m) := by
  refine Ok.count (2 ^ C.length) (fun i s => s.2 = (i : Int) ∧ s.1.length = 2 ^ C.length ∧ s.1.take i = own i (ga C l m.toNat)) ⟨rfl, by simp, by simp [own]⟩ ?_ ?_
  ·rintro i ⟨a, s⟩ hi ⟨h0, h1, h2⟩
   dsimp only at h0 h1 h2
   subst h0
   show Ok (yc _ _ m a (i : Int)) _
   have hv := agrees_val (C := C) (l := l) (M := m.toNat) (S := i) (m := m) (by have := hG.cells; omega) (by omega) hC hG.len.2 hs hG.each
   rw [hm] at hv
   have hx : i < a.length := by omega
   unfold yc
   rw [Ok.ite, if_pos (by rw [decide_eq_true_iff, List.length_replicate]; omega), Ok.bind, Ok.vh hv, Ok.bind, Ok.idxn (List.getElem?_eq_getElem hx), Ok.bind, Ok.upd (by omega), Int.toNat_natCast, Ok.pure]
   refine ⟨Comp.zT (by omega), by simp [h1], ?_⟩
   rw [List.take_succ_eq_append_getElem (by simpa using hx), List.getElem_set_self, List.take_set_of_le (by omega), h2, own_succ]
  ·rintro ⟨a, s⟩ ⟨h0, h1, h2⟩
   dsimp only at h0 h1 h2
   subst h0
   show Ok (yc _ _ m a ((2 ^ C.length : Nat) : Int)) _
   unfold yc
   rw [Ok.ite, if_neg (by rw [decide_eq_true_iff, List.length_replicate]; omega), Ok.pure]
   rw [← h1, List.take_length, h1] at h2
   exact h2
 unfold vR
 rw [Comp.zH, Check_val m hs, Option.bind_some, h, Comp.ze, if_neg (by simp), Comp.zH, voices_val hC hG.len.2, Option.bind_some, Comp.zH, jg (by omega), Option.bind_some, shlF_nat (by omega), Comp.zH, mk_val (by omega), Option.bind_some, Int.toNat_natCast, Comp.zH, Ok.val key, Option.bind_some]
 unfold jQ
 rw [Comp.zH]
 cases (gf (okL C l m)).val with
 | none => rfl
 | some r => rw [Option.bind_some, Comp.zL]
def bitZ (z : Int) (k : Nat) : Bool := (U z).testBit k
theorem bitZ_eq {z : Int} {k : Nat} (hk : k < 64) : andB .i64 (shrF .i64 z (k : Int)) 1 = if bitZ z k = true then 1 else 0 := by
 rw [low_bit hk]
 unfold bitZ
 rw [Nat.testBit_eq_decide_div_mod_eq]
 have : U z / 2 ^ k % 2 < 2 := Nat.mod_lt _ (by omega)
 generalize U z / 2 ^ k % 2 = n at this
 rcases (by omega : n = 0 ∨ n = 1) with rfl | rfl <;> rfl
def gN (z : Int) (Z : List (api_Claim × Nat)) : Nat := Z.countP fun p => decide (p.1.Kind = 3) && bitZ z p.2
theorem countP_take {p : α → Bool} {L : List α} {k : Nat} {x : α} (h : L[k]? = some x) : (L.take (k + 1)).countP p = (L.take k).countP p + if p x = true then 1 else 0 := by
 have hk := yX h
 rw [List.take_succ_eq_append_getElem hk, List.countP_append]
 have : L[k] = x := by rw [List.getElem?_eq_getElem hk] at h; exact Option.some.inj h
 rw [this, List.countP_cons, List.countP_nil]; omega
theorem f1_val {C : List api_Claim} (z : Int) (n : Int) (hC : C.length ≤ 10) : (vd z C n).val = some (decide ((gN z C.zipIdx : Int) > n)) := by
 have key : Ok (vd z C n) (fun b => b = decide ((gN z C.zipIdx : Int) > n)) := by
  unfold vd
  rw [Ok.bind]
  refine Ok.mono (P := fun n => n = (gN z C.zipIdx : Int)) ?_ (fun r hr => by unfold gk; rw [hr]; exact Ok.pure.2 rfl)
  refine Ok.count C.length (fun i s => s = ((gN z (C.zipIdx.take i) : Int), (i : Int)) ∧ gN z (C.zipIdx.take i) ≤ i) ⟨rfl, by simp [gN]⟩ ?_ ?_
  ·rintro i s hi ⟨rfl, hle⟩
   have hg := List.getElem?_eq_getElem hi
   have hz := zip_get hg
   have hn : gN z (C.zipIdx.take (i + 1)) = gN z (C.zipIdx.take i) + if (decide (C[i].Kind = 3) && bitZ z i) = true then 1 else 0 := countP_take hz
   show Ok (yZ C z _ (i : Int)) _
   unfold yZ gA
   rw [Ok.ite, if_pos (by simp; omega), Ok.bind, Ok.idxn hg, hn]
   have hw := Comp.zT (show i < 9223372036854775807 by omega)
   have hw2 := Comp.zT (show gN z (C.zipIdx.take i) < 9223372036854775807 by omega)
   by_cases k : C[i].Kind = 3
   ·rw [Ok.ite, if_pos (by simp [k]), Ok.bind, Ok.gw (by omega), Ok.bind, Ok.pure, Ok.pure, bitZ_eq (by omega)]
    cases hb : bitZ z i with
    | true =>
     simp only [k, decide_true, Bool.and_self, if_true]
     exact ⟨by rw [hw, hw2], by omega⟩
    | false =>
     simp only [Bool.and_false, Bool.false_eq_true, if_false]
     exact ⟨by rw [hw, IntWalk.i64_in _ ⟨by omega, by omega⟩]; simp, by omega⟩
   ·rw [Ok.ite, if_neg (by simp [k]), Ok.pure]
    simp only [k, decide_false, Bool.false_and, Bool.false_eq_true, if_false]
    exact ⟨by rw [hw]; rfl, by omega⟩
  ·rintro s ⟨rfl, hle⟩
   show Ok (yZ C z _ (C.length : Int)) _
   unfold yZ
   rw [Ok.ite, if_neg (by simp), Ok.pure, ← zip_len C, List.take_length]
 exact Ok.val key
def fewG (C : List api_Claim) (n : Int) (z : Int) : Bool := decide ((gN z C.zipIdx : Int) ≤ n)
def blameB (C : List api_Claim) (p z : Int) : Bool := C.zipIdx.any fun q => bitZ z q.2 && decide (q.1.Party = p)
theorem mask_val {C : List api_Claim} (p : Int) (hC : C.length ≤ 10) : ∃ w : Nat, w < 2 ^ C.length ∧ (Comp.loop (fun s : Int × Int => yi C p s.1 s.2) (0, 0)).val = some (w : Int) ∧ ∀ k, w.testBit k = C.zipIdx.any fun q => decide (q.2 = k) && decide (q.1.Party = p) := by
 have hp := pow_len hC
 have hp0 := Nat.two_pow_pos C.length
 have key : Ok (Comp.loop (fun s : Int × Int => yi C p s.1 s.2) (0, 0)) (fun r => ∃ w : Nat, w < 2 ^ C.length ∧ r = (w : Int) ∧ ∀ k, w.testBit k = C.zipIdx.any fun q => decide (q.2 = k) && decide (q.1.Party = p)) := by
  refine Ok.count C.length (fun i s => s.1 = (i : Int) ∧ ∃ w : Nat, w < 2 ^ C.length ∧ s.2 = (w : Int) ∧ ∀ k, w.testBit k = (C.zipIdx.take i).any fun q => decide (q.2 = k) && decide (q.1.Party = p)) ⟨rfl, 0, by omega, rfl, by simp⟩ ?_ ?_
  ·rintro i ⟨s, a⟩ hi ⟨h0, w, hw, h1, h2⟩
   dsimp only at h0 h1
   subst h0 h1
   have hg := List.getElem?_eq_getElem hi
   have hz := zip_get hg
   show Ok (yi C p (i : Int) (w : Int)) _
   unfold yi jF
   rw [Ok.ite, if_pos (by simp; omega), Ok.bind, Ok.idxn hg]
   refine Ok.ite_i (fun hc => ?_) (fun hc => ?_)
   ·have hc' := of_decide_eq_true hc
    have hpi : 2 ^ i < 2 ^ C.length := Nat.pow_lt_pow_right (by omega) hi
    rw [Ok.bind, Ok.gw (by omega), Ok.pure, shlF_nat (by omega), orB_nat (by omega) (by omega)]
    refine ⟨Comp.zT (by omega), w ||| 2 ^ i, Nat.or_lt_two_pow hw hpi, rfl, fun k => ?_⟩
    rw [kZ hz, Nat.testBit_or, h2, ZB]
    simp [hc']
   ·have hc' : C[i].Party ≠ p := by simpa using hc
    rw [Ok.pure]
    refine ⟨Comp.zT (by omega), w, hw, rfl, fun k => ?_⟩
    rw [kZ hz, h2]
    simp [hc']
  ·rintro ⟨s, a⟩ ⟨h0, w, hw, h1, h2⟩
   dsimp only at h0 h1
   subst h0 h1
   show Ok (yi C p (C.length : Int) (w : Int)) _
   unfold yi
   rw [Ok.ite, if_neg (by simp), Ok.pure]
   rw [← zip_len C, List.take_length] at h2
   exact ⟨w, hw, rfl, h2⟩
 obtain ⟨r, h1, w, hw, rfl, h2⟩ := key
 exact ⟨w, hw, h1, h2⟩
theorem mask_zero {C : List api_Claim} {p z : Int} {w : Nat} (hw : w < 4611686018427387904) (h : ∀ k, w.testBit k = C.zipIdx.any fun q => decide (q.2 = k) && decide (q.1.Party = p)) : decide (andB .i64 z (w : Int) = 0) = !blameB C p z := by
 have hU : U (w : Int) = w := by unfold U; omega
 have e : andB .i64 z (w : Int) = 0 ↔ blameB C p z = false := by
  rw [← U_zero (andB_i64 _ _), U_and, hU]
  rw [← Decidable.not_iff_not, ← ne_eq, meets_iff]
  unfold Meets blameB
  rw [Bool.not_eq_false, List.any_eq_true]
  constructor
  ·rintro ⟨k, h1, h2⟩
   rw [h, List.any_eq_true] at h2
   obtain ⟨q, h3, h4⟩ := h2
   simp only [Bool.and_eq_true, decide_eq_true_iff] at h4
   exact ⟨q, h3, by simp [bitZ, h4.1, h4.2, h1]⟩
  ·rintro ⟨q, h3, h4⟩
   simp only [Bool.and_eq_true, decide_eq_true_iff] at h4
   refine ⟨q.2, h4.1, ?_⟩
   rw [h, List.any_eq_true]
   exact ⟨q, h3, by simp [h4.2]⟩
 cases hb : blameB C p z with
 | false => exact decide_eq_true (e.2 hb)
 | true => exact decide_eq_false fun q => by rw [e.1 q] at hb; cases hb
def kG (C : List api_Claim) (W : List Int) (i : Nat) : List Int := ((List.range i).filter fun (j : Nat) => W.all fun z => blameB C ((j : Int) - 1) z).map fun (j : Nat) => (j : Int) - 1
theorem namesOf_succ (C : List api_Claim) (W : List Int) (i : Nat) : kG C W (i + 1) = if (W.all fun z => blameB C ((i : Int) - 1) z) = true then kG C W i ++ [(i : Int) - 1] else kG C W i := by
 unfold kG
 rw [List.range_succ, List.filter_append, List.map_append, List.filter_cons, List.filter_nil]
 split <;> simp
theorem namesOf_len (C : List api_Claim) (W : List Int) (i : Nat) : (kG C W i).length ≤ i := by
 unfold kG
 rw [List.length_map]
 exact Nat.le_trans (List.length_filter_le _ _) (by simp)
theorem cnames_val {C : List api_Claim} {W : List Int} {f : Int} (hC : C.length ≤ 10) (hW : W.length ≤ LIM) : (Comp.loop (fun s : List Int × Int => yj C (W, f) s.1 s.2) ([], -1)).val = some (kG C W 7) := by
 have hL : LIM = 1073741824 := rfl
 have key : Ok (Comp.loop (fun s : List Int × Int => yj C (W, f) s.1 s.2) ([], -1)) (fun r => r = kG C W 7) := by
  refine Ok.count 7 (fun i s => s = (kG C W i, (i : Int) - 1)) rfl ?_ ?_
  ·rintro i s hi rfl
   obtain ⟨w, hw, h1, h2⟩ := mask_val (C := C) ((i : Int) - 1) hC
   have hp := pow_len hC
   have hp0 := Nat.two_pow_pos C.length
   show Ok (yj C (W, f) _ ((i : Int) - 1)) _
   have hl := namesOf_len C W i
   unfold yj
   rw [Ok.ite, if_pos (by rw [decide_eq_true_iff]; omega), Ok.bind, Ok.vh h1]
   unfold jr jG
   have hc := contains_val hW (f := fun z0 => gU z0 (w : Int)) (p := fun z => !blameB C ((i : Int) - 1) z) (fun z _ => by unfold gU; rw [Comp.zL, mask_zero (by omega) h2])
   rw [Ok.bind, Ok.vh hc]
   have e : (!W.any fun z => !blameB C ((i : Int) - 1) z) = W.all fun z => blameB C ((i : Int) - 1) z := by
    rw [any_all_not]; simp
   rw [e]
   have hw' : IntKind.wrap .i64 ((i : Int) - 1 + 1) = ((i + 1 : Nat) : Int) - 1 := by rw [IntWalk.i64_in _ ⟨by omega, by omega⟩]; omega
   refine Ok.ite_i (fun hb => ?_) (fun hb => ?_)
   ·rw [Ok.bind, Ok.app (by simp; omega), Ok.pure, namesOf_succ, if_pos hb, hw']
   ·rw [Ok.pure, namesOf_succ, if_neg hb, hw']
  ·rintro s rfl
   show Ok (yj C (W, f) _ (((7 : Nat) : Int) - 1)) _
   unfold yj
   rw [Ok.ite, if_neg (by decide), Ok.pure]
 exact Ok.val key
theorem sameInts_val {H : List Int} (h : H.length ≤ LIM) : (zz H H).val = some true := by
 have hL := LIM_lt
 unfold zz
 rw [Comp.zH, Comp.zL, Option.bind_some, Comp.ze, if_neg (by simp), Comp.zH]
 have := Comp.loop_any (body := fun s => yB H H s) H (fun _ => false) false (by
  intro i y hy
  have hi := yX hy
  show (yB H H (i : Int)).val = _
  unfold yB
  rw [gG, Comp.ze, if_pos (by simpa using hi), Comp.zH, gS hy, Option.bind_some, Comp.zH, gS hy, Option.bind_some, Comp.ze, if_neg (by simp), Comp.zL, Comp.zT (by omega)]; rfl) (by
  show (yB H H (H.length : Int)).val = _
  unfold yB
  rw [Comp.ze, if_neg (by simp), Comp.zL])
 rw [this, Option.bind_some]
 simp [gH]
end Go.Crt
end
section
set_option linter.unusedVariables false
set_option linter.unusedSimpArgs false
namespace Go.Crt
open Go Go.Lift Go.F Go.Cor
variable {α β : Type}
theorem next_val {L : List Int} {A : Int} {n : Nat} (hA : 0 ≤ A ∧ A ≤ 100) (hL : L.length ≤ 100) (hn : 0 < n) (hn2 : n ≤ 4611686018427387904) :
  ∃ (A' : Int) (k : Nat), (zZ ⟨L, A⟩ (n : Int)).val = some (⟨L, A'⟩, (k : Int)) ∧ k < n ∧ 0 ≤ A' ∧ A' ≤ 100 := by
 unfold zZ
 rw [Comp.ze]
 by_cases h : decide (A ≥ (L.length : Int)) = true
 ·rw [if_pos h, Comp.zL]
  exact ⟨A, 0, rfl, hn, hA⟩
 ·rw [if_neg h]
  have h' : A < (L.length : Int) := by simpa using h
  dsimp only
  obtain ⟨a, rfl⟩ : ∃ a : Nat, A = (a : Int) := ⟨A.toNat, by omega⟩
  have ha : a < L.length := by omega
  obtain ⟨k, hk, hm⟩ := mod_val (z := L[a]) hn hn2
  rw [Comp.zT (by omega), show IntKind.wrap .i64 (((a + 1 : Nat) : Int) - 1) = (a : Int) by rw [IntWalk.i64_in _ ⟨by omega, by omega⟩]; omega, Comp.zH, gS (List.getElem?_eq_getElem ha), Option.bind_some, Comp.zH, hm, Option.bind_some, Comp.zL]
  exact ⟨_, k, rfl, hk, by omega, by omega⟩
theorem inc_pw : ∀ {l : List Int}, l.Pairwise (· < ·) → incB l = true
 | [], _ => rfl
 | [_], _ => rfl
 | x :: y :: l, h => by
  rw [incB, Bool.and_eq_true, decide_eq_true_iff]
  exact ⟨List.rel_of_pairwise_cons h (by simp), inc_pw (List.Pairwise.of_cons h)⟩
def bitsL (b M : Nat) : List Int := up ((List.range M).filter (b.testBit ·))
theorem bitsL_mem {b M : Nat} {z : Int} : z ∈ bitsL b M ↔ ∃ k : Nat, z = (k : Int) ∧ k < M ∧ b.testBit k = true := by
 unfold bitsL
 rw [mem_up']
 constructor
 ·rintro ⟨x, h1, h2⟩
  rw [List.mem_filter, List.mem_range] at h1
  exact ⟨x, h2, h1⟩
 ·rintro ⟨k, h1, h2⟩
  exact ⟨k, by rw [List.mem_filter, List.mem_range]; exact h2, h1⟩
theorem bitsL_len (b M : Nat) : (bitsL b M).length ≤ M := by
 unfold bitsL
 rw [jS]
 exact Nat.le_trans (List.length_filter_le _ _) (by simp)
theorem bitsL_inc (b M : Nat) : incB (bitsL b M) = true := by
 refine inc_pw ?_
 unfold bitsL up
 rw [List.pairwise_map]
 exact (List.Pairwise.filter _ List.pairwise_lt_range).imp (fun h => by omega)
theorem bitsL_in (b M : Nat) : (bitsL b M).any (outB (M : Int)) = false := by
 rw [List.any_eq_false]
 intro z hz
 obtain ⟨k, rfl, hk, _⟩ := bitsL_mem.1 hz
 unfold outB
 simp only [Bool.or_eq_true, decide_eq_true_iff]
 omega
theorem subset_val {b M : Nat} (hb : b < 4611686018427387904) (hM : M ≤ 60) : (yu (b : Int) (M : Int)).val = some (bitsL b M) := by
 have hL : LIM = 1073741824 := rfl
 have key : Ok (yu (b : Int) (M : Int)) (fun r => r = bitsL b M) := by
  unfold yu
  rw [Ok.bind]
  refine Ok.mono (P := fun r => r = bitsL b M) ?_ (fun r hr => by unfold gW; exact Ok.pure.2 hr)
  refine Ok.count M (fun i s => s = (bitsL b i, (i : Int))) rfl ?_ ?_
  ·rintro i s hi rfl
   have hl := bitsL_len b i
   show Ok (yR (M : Int) (b : Int) (bitsL b i) (i : Int)) _
   have hs : bitsL b (i + 1) = if b.testBit i = true then bitsL b i ++ [(i : Int)] else bitsL b i := by
    unfold bitsL
    rw [List.range_succ, List.filter_append, up_append, List.filter_cons, List.filter_nil]
    split <;> simp [up]
   unfold yR vm
   rw [Ok.ite, if_pos (by simp; omega), Ok.bind, Ok.gw (by omega), Ok.bind, Ok.pure, bit_eq hb (by omega)]
   refine Ok.ite_i (fun h => ?_) (fun h => ?_)
   ·rw [Ok.bind, Ok.app (by simp; omega), Ok.pure, hs, if_pos h, Comp.zT (by omega)]
   ·rw [Ok.pure, hs, if_neg h, Comp.zT (by omega)]
  ·rintro s rfl
   show Ok (yR (M : Int) (b : Int) (bitsL b M) (M : Int)) _
   unfold yR
   rw [Ok.ite, if_neg (by simp), Ok.pure]
 exact Ok.val key
def TinyL (C : List api_Claim) : Prop := ∀ x ∈ C, x.Sure.length ≤ 16 ∧ x.Touched.length ≤ 16
theorem TinyL.small {C : List api_Claim} (h : TinyL C) : SmallL C := fun x hx => by
 have := h x hx
 unfold SmallC LIM
 omega
theorem goE_snoc {m : Int} (x : api_Claim) : ∀ (C pre : List api_Claim), goE m pre C = none → ki x m = 0 → dupB (pre ++ C) x = false → goE m pre (C ++ [x]) = none
 | [], pre, _, h1, h2 => by
  rw [List.nil_append, goE_cons, if_neg (by simpa using h1), if_neg (by rw [List.append_nil] at h2; simp [h2])]; rfl
 | y :: C, pre, h0, h1, h2 => by
  rw [goE_cons] at h0
  rw [List.cons_append, goE_cons]
  split at h0; · cases h0
  split at h0; · cases h0
  rename_i h3 h4
  rw [if_neg h3, if_neg h4]
  exact goE_snoc x C (pre ++ [y]) h0 h1 (by rw [List.append_assoc]; exact h2)
structure MadeC (M : Nat) (C : List api_Claim) (b : Bool) (g : Int) : Prop where
 tiny : TinyL C
 good : goE (M : Int) [] C = none
 blank : b = false → ∀ y ∈ C, y.Kind ≠ 1
 gauge : ∀ y ∈ C, y.Kind = 3 → y.Gauge < g
 num : 0 ≤ g ∧ g ≤ C.length
theorem MadeC.nil (M : Nat) : MadeC M [] false 0 := ⟨(by intro x hx; cases hx), rfl, by simp, by simp, by simp⟩
theorem MadeC.snoc {M : Nat} {C : List api_Claim} {b b' : Bool} {g g' : Int} (h : MadeC M C b g) (x : api_Claim) (hx : x.Sure.length ≤ 16 ∧ x.Touched.length ≤ 16) (hc : ki x (M : Int) = 0) (hd : dupB C x = false)
  (hb : b' = false → b = false ∧ x.Kind ≠ 1) (hg : g ≤ g' ∧ g' ≤ g + 1 ∧ (x.Kind = 3 → x.Gauge < g')) : MadeC M (C ++ [x]) b' g' := by
 have hall : ∀ {P : api_Claim → Prop}, (∀ y ∈ C, P y) → P x → ∀ y ∈ C ++ [x], P y := by
  intro P h1 h2 y hy
  rcases List.mem_append.1 hy with h | h
  ·exact h1 y h
  ·rw [List.mem_singleton] at h; rw [h]; exact h2
 have hn := h.num
 refine ⟨hall h.tiny hx, goE_snoc x C [] h.good hc hd, fun e => hall (h.blank (hb e).1) (hb e).2, hall (fun y hy hk => by have := h.gauge y hy hk; omega) hg.2.2, by simp; omega⟩
theorem claim_zero {x : api_Claim} {m : Int} (h1 : -1 ≤ x.Party ∧ x.Party < 6) (h2 : 1 ≤ x.Kind ∧ x.Kind ≤ 3) (h3 : incB x.Sure = true) (h4 : incB x.Touched = true) (h5 : x.Sure.any (outB m) = false) (h6 : x.Touched.any (outB m) = false)
  (h7 : x.Kind ≠ 3 → x.Gauge = 0) (h8 : x.Kind ≠ 2 → x.Sure = []) (h9 : x.Kind = 3 → x.Touched = []) (h10 : ∀ n ∈ x.Sure, n ∈ x.Touched) (h11 : 0 ≤ x.Gauge ∧ x.Gauge < 8) : ki x m = 0 := by
 unfold ki
 rw [if_neg (by unfold p1; simp; omega), if_neg (by unfold p2; simp; omega), if_neg (by simp [h3, h4]), if_neg (by simp [h5, h6]), if_neg, if_neg (by unfold p6; simp; omega)]
 have hp : partB x.Sure x.Touched = true := by
  unfold partB
  rw [Bool.not_eq_true', List.any_eq_false]
  intro n hn
  simp [h10 n hn]
 rw [hp]
 simp only [Bool.or_eq_true, Bool.and_eq_true, decide_eq_true_iff, Bool.not_true, Bool.false_eq_true, or_false, not_or, not_and]
 refine ⟨⟨fun hk => by have := h7 hk; omega, fun hk => by rw [h8 hk]; simp⟩, fun hk => by rw [h9 hk]; simp⟩
theorem claims_val {M most : Nat} (hM : 1 ≤ M ∧ M ≤ 4) (hmost : most ≤ 6) {L : List (List Int)} (hl : L.length ≤ 6) (hL : ∀ x ∈ L, x.length ≤ 5) :
  ∃ C b g, (vq L (M : Int) (most : Int)).val = some C ∧ MadeC M C b g ∧ C.length ≤ most := by
 have hLIM : LIM = 1073741824 := rfl
 have hp16 : 2 ^ M ≤ 16 := Nat.pow_le_pow_right (n := 2) (by omega) hM.2
 have hp1 := Nat.two_pow_pos M
 have key : Ok (vq L (M : Int) (most : Int)) (fun C => ∃ b g, MadeC M C b g ∧ C.length ≤ most) := by
  unfold vq
  rw [Ok.bind]
  refine Ok.mono (P := fun C => ∃ b g, MadeC M C b g ∧ C.length ≤ most) ?_ (fun r hr => by unfold gY; exact Ok.pure.2 hr)
  refine Ok.loop (fun s : List api_Claim × Bool × Int × Int => ∃ i : Nat, s.2.2.2 = (i : Int) ∧ i ≤ L.length ∧ MadeC M s.1 s.2.1 s.2.2.1 ∧ s.1.length ≤ most) (fun s => L.length - s.2.2.2.toNat) ⟨0, rfl, by omega, MadeC.nil M, by simp⟩ ?_
  rintro ⟨C, b, g, s⟩ ⟨i, h0, hi0, hC, hlen⟩
  dsimp only at h0 hC hlen
  subst h0
  show Ok (vE L (most : Int) (M : Int) C b g (i : Int)) _
  unfold vE
  rw [Ok.bind, Ok.pure, bif_and]
  refine Ok.ite_i (fun hc => ?_) (fun hc => ?_)
  rotate_left
  ·rw [Ok.pure]; exact ⟨b, g, hC, hlen⟩
  rw [Bool.and_eq_true, decide_eq_true_iff, decide_eq_true_iff] at hc
  have hi : i < L.length := by omega
  have hx := List.getElem?_eq_getElem hi
  have hxl := hL _ (List.getElem_mem hi)
  have hw := Comp.zT (show i < 9223372036854775807 by omega)
  obtain ⟨A1, k1, n1, hk1, ha1, hb1⟩ := next_val (L := L[i]) (A := 0) (n := 4) ⟨by omega, by omega⟩ (by omega) (by omega) (by omega)
  obtain ⟨A2, k2, n2, hk2, ha2, hb2⟩ := next_val (L := L[i]) (A := A1) (n := 5) ⟨ha1, hb1⟩ (by omega) (by omega) (by omega)
  obtain ⟨A3, k3, n3, hk3, ha3, hb3⟩ := next_val (L := L[i]) (A := A2) (n := 2 ^ M) ⟨ha2, hb2⟩ (by omega) (by omega) (by omega)
  obtain ⟨A4, k4, n4, hk4, ha4, hb4⟩ := next_val (L := L[i]) (A := A3) (n := 2 ^ M) ⟨ha3, hb3⟩ (by omega) (by omega) (by omega)
  replace n1 : (zZ ⟨L[i], 0⟩ 4).val = some (⟨L[i], A1⟩, (k1 : Int)) := n1
  replace n2 : (zZ ⟨L[i], A1⟩ 5).val = some (⟨L[i], A2⟩, (k2 : Int)) := n2
  have hkind : ∃ kd : Int, [(2 : Int), 2, 3, 1][k1]? = some kd ∧ (kd = 1 ∨ kd = 2 ∨ kd = 3) := by
   rcases (by omega : k1 = 0 ∨ k1 = 1 ∨ k1 = 2 ∨ k1 = 3) with rfl | rfl | rfl | rfl
   ·exact ⟨2, rfl, by omega⟩
   ·exact ⟨2, rfl, by omega⟩
   ·exact ⟨3, rfl, by omega⟩
   ·exact ⟨1, rfl, by omega⟩
  obtain ⟨kd, hkd, hkd3⟩ := hkind
  have hsh : shlF .i64 1 (M : Int) = ((2 ^ M : Nat) : Int) := shlF_nat (by omega)
  have hparty : IntKind.wrap .i64 ((k2 : Int) - 1) = (k2 : Int) - 1 := IntWalk.i64_in _ ⟨by omega, by omega⟩
  have stepM : ∀ C' b' g', MadeC M C' b' g' → C'.length ≤ most → Ok (vF (i : Int) C' b' g') (fun t => match t with
    | .next s' => (∃ i : Nat, s'.2.2.2 = (i : Int) ∧ i ≤ L.length ∧ MadeC M s'.1 s'.2.1 s'.2.2.1 ∧ s'.1.length ≤ most) ∧ L.length - s'.2.2.2.toNat < L.length - ((i : Int)).toNat
    | .done e => ∃ b g, MadeC M e b g ∧ e.length ≤ most) := by
   intro C' b' g' h1 h2
   unfold vF
   rw [Ok.pure, hw]
   exact ⟨⟨i + 1, rfl, by omega, h1, h2⟩, by show L.length - (((i + 1 : Nat) : Int)).toNat < _; omega⟩
  have stepX : ∀ b' g' (x : api_Claim), MadeC M (C ++ [x]) b' g' → Ok (yS C (i : Int) b' g' x.Party x.Kind x.Gauge x.Sure x.Touched) (fun t => match t with
    | .next s' => (∃ i : Nat, s'.2.2.2 = (i : Int) ∧ i ≤ L.length ∧ MadeC M s'.1 s'.2.1 s'.2.2.1 ∧ s'.1.length ≤ most) ∧ L.length - s'.2.2.2.toNat < L.length - ((i : Int)).toNat
    | .done e => ∃ b g, MadeC M e b g ∧ e.length ≤ most) := by
   intro b' g' x h1
   unfold yS
   rw [Ok.bind, Ok.app (by simp; omega)]
   exact stepM _ _ _ h1 (by simp; omega)
  rw [Ok.bind, Ok.idxn hx, Ok.bind, Ok.vh n1, Ok.bind, Ok.idxn hkd, Ok.bind, Ok.vh n2, Ok.bind, Ok.gw (by omega), Ok.bind, hsh, Ok.vh n3, Ok.bind, Ok.gw (by omega), Ok.bind, Ok.vh n4]
  dsimp only
  have ho : k3 ||| k4 < 2 ^ M := Nat.or_lt_two_pow hk3 hk4
  have hn : k3 &&& k4 < 2 ^ M := Nat.lt_of_le_of_lt Nat.and_le_left hk3
  have hnum := hC.num
  rw [hparty]
  rcases hkd3 with rfl | rfl | rfl
  ·rw [Ok.ite, if_pos (by rfl)]
   refine Ok.ite_i (fun hb => ?_) (fun hb => ?_)
   ·exact Ok.mono (stepM C b g hC hlen) (fun t ht => by cases t <;> exact ht)
   ·have hbf : b = false := by simpa using hb
    rw [orB_nat (by omega) (by omega), Ok.bind, Ok.vh (subset_val (by omega) (by omega))]
    have hl1 := bitsL_len (k3 ||| k4) M
    refine Ok.mono (stepX true g ⟨(k2 : Int) - 1, 1, 0, [], bitsL (k3 ||| k4) M⟩ (hC.snoc _ ⟨by simp, by dsimp only; omega⟩ ?_ ?_ (fun e => by cases e) ⟨by omega, by omega, fun e => by cases e⟩)) (fun t ht => by cases t <;> exact ht)
    ·exact claim_zero (by dsimp only; omega) (by dsimp only; omega) rfl (bitsL_inc _ _) rfl (bitsL_in _ _) (fun _ => rfl) (fun _ => rfl) (fun e => by cases e) (fun n hn => by cases hn) (by dsimp only; omega)
    ·unfold dupB
     rw [List.any_eq_false]
     intro y hy
     have := hC.blank hbf y hy
     simp [this]
  ·rw [Ok.ite, if_neg (by decide), Ok.ite, if_pos (by rfl), andB_nat (by omega) (by omega), Ok.bind, Ok.vh (subset_val (by omega) (by omega)), Ok.bind, Ok.vh (subset_val (by omega) (by omega))]
   have hl1 := bitsL_len (k3 &&& k4) M
   have hl2 := bitsL_len k3 M
   refine Ok.mono (stepX b g ⟨(k2 : Int) - 1, 2, 0, bitsL (k3 &&& k4) M, bitsL k3 M⟩ (hC.snoc _ ⟨by dsimp only; omega, by dsimp only; omega⟩ ?_ (dup_two rfl) (fun e => ⟨e, by simp⟩) ⟨by omega, by omega, fun e => by cases e⟩)) (fun t ht => by cases t <;> exact ht)
   refine claim_zero (by dsimp only; omega) (by dsimp only; omega) (bitsL_inc _ _) (bitsL_inc _ _) (bitsL_in _ _) (bitsL_in _ _) (fun _ => rfl) (fun e => absurd rfl e) (fun e => by cases e) (fun n hn => ?_) (by dsimp only; omega)
   obtain ⟨k, rfl, h1, h2⟩ := bitsL_mem.1 hn
   rw [Nat.testBit_and, Bool.and_eq_true] at h2
   exact bitsL_mem.2 ⟨k, rfl, h1, h2.1⟩
  ·have hg1 : IntKind.wrap .i64 (g + 1) = g + 1 := IntWalk.i64_in _ ⟨by omega, by omega⟩
   rw [Ok.ite, if_neg (by decide), Ok.ite, if_neg (by decide), Ok.ite, if_pos (by rfl), hg1]
   refine Ok.mono (stepX b (g + 1) ⟨(k2 : Int) - 1, 3, g, [], []⟩ (hC.snoc _ ⟨by simp, by simp⟩ ?_ ?_ (fun e => ⟨e, by simp⟩) ⟨by omega, by omega, fun _ => by dsimp only; omega⟩)) (fun t ht => by cases t <;> exact ht)
   ·exact claim_zero (by dsimp only; omega) (by dsimp only; omega) rfl rfl rfl rfl (fun e => absurd rfl e) (fun _ => rfl) (fun _ => rfl) (fun n hn => by cases hn) (by dsimp only; omega)
   ·unfold dupB
    rw [List.any_eq_false]
    intro y hy h
    simp only [Bool.and_eq_true, Bool.or_eq_true, decide_eq_true_iff] at h
    have := hC.gauge y hy h.1
    omega
 obtain ⟨C, h1, b, g, h2, h3⟩ := key
 exact ⟨C, b, g, h1, h2, h3⟩
theorem sightsM_val {M : Nat} (hM : 1 ≤ M ∧ M ≤ 4) {L : List Int} (hl : L.length ≤ 30) :
  ∃ l, (vp L (M : Int)).val = some l ∧ l.length ≤ 10 ∧ l.any (farB (M : Int)) = false := by
 have hLIM : LIM = 1073741824 := rfl
 have key : Ok (vp L (M : Int)) (fun l => l.length ≤ 10 ∧ l.any (farB (M : Int)) = false) := by
  unfold vp
  rw [Ok.bind]
  refine Ok.mono (P := fun l => l.length ≤ 10 ∧ l.any (farB (M : Int)) = false) ?_ (fun r hr => by unfold gX; exact Ok.pure.2 hr)
  refine Ok.loop (fun s : List api_Sight × Int × List Int × Int => ∃ i : Nat, s.2.1 = ((3 * i : Nat) : Int) ∧ i ≤ 10 ∧ s.1.length = i ∧ s.2.2.1 = L ∧ 0 ≤ s.2.2.2 ∧ s.2.2.2 ≤ 100 ∧ s.1.any (farB (M : Int)) = false) (fun s => 30 - s.2.1.toNat) ⟨0, rfl, by omega, rfl, rfl, by simp, by simp, rfl⟩ ?_
  rintro ⟨l, s, K, A⟩ ⟨i, h0, hi0, h1, h2, h3, h4, h5⟩
  dsimp only at h0 h1 h2 h3 h4 h5
  subst h0 h2
  show Ok (vD K (M : Int) l ((3 * i : Nat) : Int) K A) _
  unfold vD
  rw [Ok.bind, Ok.pure, bif_and]
  refine Ok.ite_i (fun hc => ?_) (fun hc => ?_)
  rotate_left
  ·rw [Ok.pure]; exact ⟨by omega, h5⟩
  rw [Bool.and_eq_true, decide_eq_true_iff, decide_eq_true_iff] at hc
  obtain ⟨A1, k1, n1, hk1, ha1, hb1⟩ := next_val (L := K) (A := A) (n := 4) ⟨h3, h4⟩ (by omega) (by omega) (by omega)
  obtain ⟨A2, k2, n2, hk2, ha2, hb2⟩ := next_val (L := K) (A := A1) (n := M) ⟨ha1, hb1⟩ (by omega) (by omega) (by omega)
  obtain ⟨A3, k3, n3, hk3, ha3, hb3⟩ := next_val (L := K) (A := A2) (n := 2) ⟨ha2, hb2⟩ (by omega) (by omega) (by omega)
  replace n1 : (zZ ⟨K, A⟩ 4).val = some (⟨K, A1⟩, (k1 : Int)) := n1
  replace n3 : (zZ ⟨K, A2⟩ 2).val = some (⟨K, A3⟩, (k3 : Int)) := n3
  have hg : ∃ kd : Int, [(0 : Int), 0, 1, 2][k1]? = some kd ∧ 0 ≤ kd ∧ kd < 8 := by
   rcases (by omega : k1 = 0 ∨ k1 = 1 ∨ k1 = 2 ∨ k1 = 3) with rfl | rfl | rfl | rfl
   ·exact ⟨0, rfl, by omega⟩
   ·exact ⟨0, rfl, by omega⟩
   ·exact ⟨1, rfl, by omega⟩
   ·exact ⟨2, rfl, by omega⟩
  obtain ⟨kd, hkd, hkd2⟩ := hg
  have hw : IntKind.wrap .i64 (((3 * i : Nat) : Int) + 3) = ((3 * (i + 1) : Nat) : Int) := by rw [IntWalk.i64_in _ ⟨by omega, by omega⟩]; omega
  rw [Ok.bind, Ok.vh n1, Ok.bind, Ok.idxn hkd, Ok.bind, Ok.vh n2, Ok.bind, Ok.vh n3, Ok.bind, Ok.app (by simp; omega), Ok.pure, hw]
  refine ⟨⟨i + 1, rfl, by omega, by simp [h1], rfl, ha3, hb3, ?_⟩, ?_⟩
  ·rw [List.any_append, h5, Bool.false_or, List.any_cons, List.any_nil, Bool.or_false]
   unfold farB
   simp only [Bool.or_eq_false_iff, decide_eq_false_iff_not]
   omega
  ·show 30 - (((3 * (i + 1) : Nat) : Int)).toNat < 30 - (((3 * i : Nat) : Int)).toNat
   omega
 obtain ⟨l, h1, h2, h3⟩ := key
 exact ⟨l, h1, h2, h3⟩
structure Made (most : Nat) (C : List api_Claim) (l : List api_Sight) (M : Nat) : Prop where
 cells : 1 ≤ M ∧ M ≤ 4
 len : C.length ≤ most ∧ l.length ≤ 10
 tiny : TinyL C
 check : jn C l (M : Int) = 0
theorem Made.small {most : Nat} {C : List api_Claim} {l : List api_Sight} {M : Nat} (h : Made most C l M) : SmallL C := h.tiny.small
theorem made_val {x : colletlaw43_Case} {b most : Nat} (hb : x.Cells = (b : Int)) (hb2 : b < 256) (hmost : most ≤ 6) : ∃ (C : List api_Claim) (l : List api_Sight) (M : Nat), (vI x (most : Int)).val = some (C, l, (M : Int)) ∧ Made most C l M ∧ M = 1 + b % 4 := by
 have hLIM : LIM = 1073741824 := rfl
 have hcells : IntKind.wrap .i64 (1 + Int.tmod (IntKind.wrap .i64 x.Cells) 4) = ((1 + b % 4 : Nat) : Int) := by
  have h1 : IntKind.wrap .i64 (b : Int) = (b : Int) := wrap_nat (by omega)
  rw [hb, h1, show Int.tmod (b : Int) 4 = ((b % 4 : Nat) : Int) by rw [Int.tmod_eq_emod_of_nonneg (by omega)]; omega, IntWalk.i64_in _ ⟨by omega, by omega⟩]; omega
 have hcut : Ok (Comp.loop (fun s : List (List Int) × Int => yQ x s.1 s.2) ([], 0)) (fun L => L.length ≤ 6 ∧ ∀ y ∈ L, y.length ≤ 5) := by
  refine Ok.loop (fun s : List (List Int) × Int => ∃ i : Nat, s.2 = (i : Int) ∧ i ≤ 6 ∧ s.1.length = i ∧ ∀ y ∈ s.1, y.length ≤ 5) (fun s => 6 - s.2.toNat) ⟨0, rfl, by omega, rfl, by simp⟩ ?_
  rintro ⟨L, s⟩ ⟨i, h0, hi, h1, h2⟩
  dsimp only at h0 h1 h2
  subst h0
  show Ok (yQ x L (i : Int)) _
  unfold yQ
  rw [Ok.bind, Ok.pure, bif_and]
  refine Ok.ite_i (fun hc => ?_) (fun hc => ?_)
  ·rw [Bool.and_eq_true, decide_eq_true_iff, decide_eq_true_iff] at hc
   have hi : i < x.Claims.length := by omega
   have hx := List.getElem?_eq_getElem hi
   rw [Ok.bind, Ok.idxn hx, Ok.bind, Ok.idxn hx, Ok.bind, Ok.sub (by omega), Ok.bind, Ok.app (by simp; omega), Ok.pure, Comp.zT (by omega)]
   refine ⟨⟨i + 1, rfl, by omega, by simp [h1], ?_⟩, ?_⟩
   ·intro y hy
    rcases List.mem_append.1 hy with h | h
    ·exact h2 y h
    ·rw [List.mem_singleton] at h
     rw [h]
     simp only [Int.toNat_zero, List.drop_zero, List.length_take]
     omega
   ·show 6 - (((i + 1 : Nat) : Int)).toNat < 6 - ((i : Int)).toNat
    omega
  ·rw [Ok.pure]; exact ⟨by omega, h2⟩
 obtain ⟨L, hL, hL1, hL2⟩ := hcut
 have hM : 1 ≤ 1 + b % 4 ∧ 1 + b % 4 ≤ 4 := by omega
 obtain ⟨C, bl, g, hC, hmade, hlen⟩ := claims_val hM hmost hL1 hL2
 have hsub : (sub x.Sights 0 (min (x.Sights.length : Int) 30)).val = some (x.Sights.take (min (x.Sights.length : Int) 30).toNat) := by
  rw [sub_val (by omega)]; rfl
 obtain ⟨l, hl, hl1, hl2⟩ := sightsM_val hM (L := x.Sights.take (min (x.Sights.length : Int) 30).toNat) (by rw [List.length_take]; omega)
 refine ⟨C, l, 1 + b % 4, ?_, ⟨hM, ⟨hlen, hl1⟩, hmade.tiny, ?_⟩, rfl⟩
 ·unfold vI
  rw [Comp.zH, Comp.zL, Option.bind_some, hcells, Comp.zH, hL, Option.bind_some]
  unfold vv
  rw [Comp.zH, hC, Option.bind_some, Comp.zH, hsub, Option.bind_some, Comp.zH, hl, Option.bind_some, Comp.zL]
 ·unfold jn
  rw [if_neg (by simp; omega), if_neg (by simp; omega), hmade.good, hl2]; rfl
end Go.Crt
end
section
set_option linter.unusedVariables false
set_option linter.unusedSimpArgs false
namespace Go.Crt
open Go Go.Lift Go.F Go.Cor
variable {α β : Type}
set_option maxRecDepth 100000 in
theorem sanity_val : jR.val = some true := Comp.val_run (n := 2000) (by kernel_rfl)
theorem loop_none {body : Int → Comp (Comp.Step Int (Sum β Unit))} (xs : List α) (hb : ∀ (i : Nat) x, xs[i]? = some x → (body i).val = some (.next ((i + 1 : Nat) : Int)))
  (he : (body xs.length).val = some (.done (.inr ()))) : (Comp.loop body 0).val = some (.inr ()) := by
 have key : Ok (Comp.loop body 0) (fun e => e = .inr ()) := by
  refine Ok.count xs.length (fun i s => s = (i : Int)) rfl ?_ ?_
  ·rintro i s hi rfl
   rw [Ok.vh (hb i _ (List.getElem?_eq_getElem hi))]
  ·rintro s rfl
   rw [Ok.vh he]
 exact Ok.val key
end Go.Crt
end
section
set_option linter.unusedVariables false
set_option linter.unusedSimpArgs false
namespace Go.Crt
open Go Go.Lift Go.F Go.Cor
variable {α β : Type}
theorem any_mono {p q : α → Bool} {l : List α} (h : ∀ x, p x = true → q x = true) (hp : l.any p = true) : l.any q = true := by
 rw [List.any_eq_true] at hp ⊢
 obtain ⟨x, h1, h2⟩ := hp
 exact ⟨x, h1, h x h2⟩
theorem bad_mono {C : List api_Claim} {l : List api_Sight} {s t : Nat} (hst : Sub t s) (c : Int) (h : badB C l t c = true) : badB C l s c = true := by
 have h1 : ∀ b, C.zipIdx.any (qT l t c b) = true → C.zipIdx.any (qT l s c b) = true := fun b => any_mono fun p hp => by
  unfold qT at hp ⊢; simp only [Bool.and_eq_true] at hp ⊢; exact ⟨⟨hst _ hp.1.1, hp.1.2⟩, hp.2⟩
 have h2 : C.zipIdx.any (qS t c) = true → C.zipIdx.any (qS s c) = true := any_mono fun p hp => by
  unfold qS at hp ⊢; simp only [Bool.and_eq_true] at hp ⊢; exact ⟨⟨hst _ hp.1.1, hp.1.2⟩, hp.2⟩
 have h3 : C.zipIdx.any (qE t c) = true → C.zipIdx.any (qE s c) = true := any_mono fun p hp => by
  unfold qE at hp ⊢; simp only [Bool.and_eq_true] at hp ⊢; exact ⟨⟨hst _ hp.1.1, hp.1.2⟩, hp.2⟩
 have h4 : C.zipIdx.any (qK t c) = true → C.zipIdx.any (qK s c) = true := any_mono fun p hp => by
  unfold qK at hp ⊢; simp only [Bool.and_eq_true] at hp ⊢; exact ⟨⟨hst _ hp.1.1, hp.1.2⟩, hp.2⟩
 have h5 : C.zipIdx.any (qL s c) = true → C.zipIdx.any (qL t c) = true := any_mono fun p hp => by
  unfold qL at hp ⊢; simp only [Bool.and_eq_true, Bool.or_eq_true, Bool.not_eq_true'] at hp ⊢
  refine ⟨hp.1, hp.2.imp (fun h => ?_) id⟩
  cases ht : t.testBit p.2 with
  | false => rfl
  | true => rw [hst _ ht] at h; cases h
 unfold badB at h ⊢
 simp only [Bool.or_eq_true, Bool.and_eq_true, Bool.not_eq_true'] at h ⊢
 rcases h with ⟨a, b⟩ | ⟨⟨a, b⟩, e⟩
 ·exact .inl ⟨h1 _ a, b.imp (fun z => z.imp (h1 _) h2) h4⟩
 ·refine .inr ⟨⟨h1 _ a, h3 b⟩, ?_⟩
  cases f : C.zipIdx.any (qL s c) with
  | false => rfl
  | true => rw [h5 f] at e; cases e
theorem agree_down {C : List api_Claim} {l : List api_Sight} {M : Nat} (s t : Nat) (h : ga C l M s = true) (hst : Sub t s) : ga C l M t = true := by
 unfold ga at h ⊢
 rw [Bool.not_eq_true', List.any_eq_false] at h ⊢
 exact fun c hc hb => h c hc (bad_mono hst _ hb)
def cf (C : List api_Claim) (l : List api_Sight) (M : Nat) : List Nat := conf (ga C l M) C.length
theorem cf_mem {C : List api_Claim} {l : List api_Sight} {M x : Nat} : x ∈ cf C l M ↔ x < 2 ^ C.length ∧ Min (fun s => ga C l M s = false) x := mem_conf agree_down
theorem cf_lt {C : List api_Claim} {l : List api_Sight} {M x : Nat} (h : x ∈ cf C l M) : x < 2 ^ C.length := (cf_mem.1 h).1
theorem cf_inc (C : List api_Claim) (l : List api_Sight) (M : Nat) : Inc (up (cf C l M)) := by
 unfold cf conf up Inc
 rw [List.pairwise_map]
 refine List.Pairwise.filter _ ?_
 exact List.pairwise_lt_range.imp fun h => by omega
theorem pow6 {n : Nat} (h : n ≤ 6) : 2 ^ n ≤ 64 := Nat.pow_le_pow_right (n := 2) (by omega) h
theorem cf_len {C : List api_Claim} {l : List api_Sight} {M : Nat} (hC : C.length ≤ 6) : (cf C l M).length ≤ 64 :=
 Nat.le_trans (inc_up_len (cf_inc C l M) fun _ h => cf_lt h) (pow6 hC)
theorem cf_val {C : List api_Claim} {l : List api_Sight} {M : Nat} (hC : C.length ≤ 6) (hs : SmallL C) (h : jn C l (M : Int) = 0) : (vR C l (M : Int)).val = some (up (cf C l M), 0) := by
 rw [Conflicts_val hs h]
 unfold okL
 rw [Int.toNat_natCast, conflicts_val hC agree_down]; rfl
structure Why (C : List api_Claim) (l : List api_Sight) (M : Nat) (n : Int) (W : List Nat) : Prop where
 mem : ∀ h, h ∈ W ↔ Min (Hits · (cf C l M)) h ∧ fewG C n (h : Int) = true
 inc : Inc (up W)
theorem Why.lt {C : List api_Claim} {l : List api_Sight} {M : Nat} {n : Int} {W : List Nat} (h : Why C l M n W) {x : Nat} (hx : x ∈ W) : x < 2 ^ C.length := min_hits_lt (fun _ => cf_lt) ((h.mem x).1 hx).1
theorem up_filter (p : Int → Bool) (F : List Nat) : (up F).filter p = up (F.filter fun x => p (x : Int)) := by
 unfold up; rw [List.filter_map]; rfl
theorem why_val {C : List api_Claim} {l : List api_Sight} {M : Nat} (n : Int) (hC : C.length ≤ 6) (hs : SmallL C) (h : jn C l (M : Int) = 0) (hn : 0 ≤ n ∧ n ≤ 3) :
  ∃ W, (vL C l (M : Int) n).val = some (up W, 0) ∧ Why C l M n W := by
 obtain ⟨H, h1, h2⟩ := hitting_val (n := C.length) (L := cf C l M) (by omega) (fun _ => cf_lt) (by have := cf_len (l := l) (M := M) hC; unfold LIM; omega)
 obtain ⟨F, rfl, hF⟩ := h2.ex
 have hl : (up F).length ≤ LIM := by
  rw [jS]
  have := inc_up_len h2.inc fun x hx => Fam.lt (L := cf C l M) (fun _ => cf_lt) hF x hx
  have := pow6 hC
  unfold LIM; omega
 refine ⟨F.filter fun x => fewG C n (x : Int), ?_, ?_, ?_⟩
 ·unfold vL
  rw [Comp.zH, cf_val hC hs h, Option.bind_some, Comp.ze, if_neg (by simp), Comp.zH, Comp.zL, Option.bind_some, Comp.ze, if_neg (by rw [km]; simp; omega), Comp.zH]
  show ((jw (up (cf C l M)) (C.length : Int)).val.bind _) = _
  rw [h1, Option.bind_some, Comp.ze, if_neg (by simp), Comp.zH, delete_val hl (p := fun z => decide ((gN z C.zipIdx : Int) > n)) (fun z _ => f1_val z n (by omega)), Option.bind_some, Comp.zL, ← up_filter (fewG C n)]
  congr 3
  funext z
  unfold fewG
  rw [← decide_not]
  exact decide_eq_decide.2 (by omega)
 ·intro x
  rw [List.mem_filter, hF]
 ·rw [← up_filter (fewG C n)]
  exact List.Pairwise.filter _ h2.inc
theorem agrees_in {C : List api_Claim} {l : List api_Sight} {M s : Nat} (hs : SmallL C) (h : jn C l (M : Int) = 0) (hlt : s < 2 ^ C.length) : (gx C l (M : Int) (s : Int)).val = some (ga C l M s) := by
 rw [Agrees_val _ _ hs]
 unfold agreesE
 rw [decide_eq_true h, decide_eq_true (by omega : (s : Int) ≥ 0), decide_eq_true (by omega : (s : Int) < ((2 ^ C.length : Nat) : Int))]
 simp
end Go.Crt
end
section
set_option linter.unusedVariables false
set_option linter.unusedSimpArgs false
namespace Go.Crt
open Go Go.Lift Go.F Go.Cor
variable {α β : Type}
theorem without_zero {a b : Nat} : gy a b = 0 ↔ Sub a b := by
 constructor
 ·intro h i hi
  have := vN a b i
  rw [h, hi] at this
  simpa using this
 ·intro h
  refine Nat.eq_of_testBit_eq fun i => ?_
  rw [vN]
  cases ha : a.testBit i with
  | false => simp
  | true => simp [h i ha]
theorem pow_out {n : Nat} (h : n ≤ 10) : IntKind.wrap .i64 ((shlF .i64 1 (n : Int)) - 1) = ((2 ^ n - 1 : Nat) : Int) := by
 have := pow_len h
 have := Nat.two_pow_pos n
 rw [shlF_nat (by omega), IntWalk.i64_in _ ⟨by omega, by omega⟩]; omega
theorem tmod_u8 {a m : Nat} (ha : a < 256) (hm : 0 < m) : Int.tmod (IntKind.wrap .i64 (a : Int)) (m : Int) = ((a % m : Nat) : Int) := by
 rw [wrap_nat (by omega), Int.tmod_eq_emod_of_nonneg (by omega)]; simp
end Go.Crt
end
section
set_option linter.unusedVariables false
set_option linter.unusedSimpArgs false
namespace Go.Crt
open Go Go.Lift Go.F Go.Cor
variable {α β : Type}
theorem goE_each {m : Int} : ∀ (C pre : List api_Claim), (∀ c, goE m pre C = some c → c = 0 → False) → (∀ c, goE m pre C = some c → c ≠ 0) → goE m pre C = none → ∀ x ∈ C, ki x m = 0
 | [], _, _, _, _ => by simp
 | x :: C, pre, h1, h2, h => by
  rw [goE_cons] at h
  split at h; · cases h
  split at h; · cases h
  rename_i h3 h4
  intro y hy
  rcases List.mem_cons.1 hy with rfl | hy
  ·simpa using h3
  ·exact goE_each C (pre ++ [x]) (fun c hc => by rw [h] at hc; cases hc) (fun c hc => by rw [h] at hc; cases hc) h y hy
theorem goE_pos {m : Int} : ∀ (C pre : List api_Claim) c, goE m pre C = some c → c ≠ 0
 | [], pre, c, h => by cases h
 | x :: C, pre, c, h => by
  rw [goE_cons] at h
  split at h
  ·rename_i h3; cases h; exact h3
  ·split at h
   ·cases h; decide
   ·exact goE_pos C _ c h
theorem check_ranges {C : List api_Claim} {l : List api_Sight} {m : Int} (h : jn C l m = 0) : (∀ x ∈ C, ki x m = 0) ∧ l.any (farB m) = false := by
 unfold jn at h
 split at h; · cases h
 split at h; · cases h
 cases e : goE m [] C with
 | some c =>
  rw [e] at h
  exact absurd h (goE_pos C [] c e)
 | none =>
  rw [e] at h
  refine ⟨goE_each C [] (fun c hc => by rw [e] at hc; cases hc) (fun c hc => by rw [e] at hc; cases hc) e, ?_⟩
  cases hf : l.any (farB m) with
  | false => rfl
  | true =>
   rw [hf] at h
   simp at h
end Go.Crt
end
section
set_option linter.unusedVariables false
set_option linter.unusedSimpArgs false
namespace Go.Crt
open Go Go.Lift Go.F Go.Cor
variable {α β : Type}
theorem certain_val {C : List api_Claim} {l : List api_Sight} {m n : Int} {W : List Nat} (hC : C.length ≤ 10) (hWl : W.length ≤ LIM) (h : (vL C l m n).val = some (up W, 0)) :
  (jD C l m n).val = some (if W = [] then ([], 21) else (kG C (up W) 7, 0)) := by
 unfold jD
 rw [Comp.zH, h, Option.bind_some, Comp.ze, if_neg (by simp), Comp.ze]
 by_cases hW : W = []
 ·rw [if_pos (by simp [hW, up]), if_pos hW, Comp.zL]
 ·have : ((up W).length : Int) ≠ 0 := by
   rw [jS]
   have := List.length_pos_iff.2 hW
   omega
  rw [if_neg (by simpa using this), if_neg hW, Comp.zH, cnames_val hC (by rw [jS]; exact hWl), Option.bind_some]
  exact Comp.zL _
end Go.Crt
end
section
set_option linter.unusedVariables false
set_option linter.unusedSimpArgs false
namespace Go.Crt
open Go Go.Lift Go.F Go.Cor
variable {α β : Type}
theorem check_with {C : List api_Claim} {l l' : List api_Sight} {m : Int} (h : jn C l m = 0) (hl : l'.length ≤ 40) (hf : l'.any (farB m) = false) : jn C l' m = 0 := by
 unfold jn at h ⊢
 split at h; · cases h
 rename_i h1
 split at h; · cases h
 rename_i h2
 rw [if_neg h1, if_neg (by simp only [Bool.or_eq_true, decide_eq_true_iff, not_or] at h2 ⊢; omega), hf]
 cases e : goE m [] C with
 | some c => rw [e] at h; exact h
 | none => rfl
theorem bad_more {C : List api_Claim} {l l' : List api_Sight} (hsub : ∀ y ∈ l, y ∈ l') (s : Nat) (c : Int) (h : badB C l s c = true) : badB C l' s c = true := by
 have h1 : ∀ b, C.zipIdx.any (qT l s c b) = true → C.zipIdx.any (qT l' s c b) = true := fun b => any_mono fun p hp => by
  unfold qT saidS at hp ⊢
  simp only [Bool.and_eq_true, List.any_eq_true] at hp ⊢
  obtain ⟨h1, y, h2, h3⟩ := hp
  exact ⟨h1, y, hsub y h2, h3⟩
 unfold badB at h ⊢
 simp only [Bool.or_eq_true, Bool.and_eq_true, Bool.not_eq_true'] at h ⊢
 rcases h with ⟨a, b⟩ | ⟨⟨a, b⟩, e⟩
 ·exact .inl ⟨h1 _ a, b.imp (fun z => z.imp (h1 _) id) id⟩
 ·exact .inr ⟨⟨h1 _ a, b⟩, e⟩
theorem agree_more {C : List api_Claim} {l l' : List api_Sight} {M : Nat} (hsub : ∀ y ∈ l, y ∈ l') (s : Nat) (h : ga C l M s = false) : ga C l' M s = false := by
 unfold ga at h ⊢
 rw [Bool.not_eq_false'] at h ⊢
 exact any_mono (fun c => bad_more hsub s (c : Int)) h
def strip (x : api_Claim) : api_Claim := ⟨0, x.Kind, x.Gauge, x.Sure, x.Touched⟩
theorem strip_eq {x y : api_Claim} (h : strip x = strip y) : x.Kind = y.Kind ∧ x.Gauge = y.Gauge ∧ x.Sure = y.Sure ∧ x.Touched = y.Touched := by
 unfold strip at h
 injection h with _ h1 h2 h3 h4
 exact ⟨h1, h2, h3, h4⟩
def claimR (x : api_Claim) (m : Int) : Int :=
 if p2 x = true then 4 else if (!incB x.Sure || !incB x.Touched) = true then 7 else if (x.Sure.any (outB m) || x.Touched.any (outB m)) = true then 3
 else if ((decide (x.Kind ≠ 3) && decide (x.Gauge ≠ 0)) || (decide (x.Kind ≠ 2) && decide ((x.Sure.length : Int) > 0)) || (decide (x.Kind = 3) && decide ((x.Touched.length : Int) > 0)) || !partB x.Sure x.Touched) = true then 4
 else if p6 x = true then 3 else 0
theorem claimE_R (x : api_Claim) (m : Int) : ki x m = if p1 x = true then 55 else claimR x m := rfl
theorem claimR_strip (x : api_Claim) (m : Int) : claimR x m = claimR (strip x) m := rfl
theorem claim_other {x y : api_Claim} {m : Int} (h : strip y = strip x) (hp : p1 y = false) (hc : ki x m = 0) : ki y m = 0 := by
 rw [claimE_R] at hc ⊢
 split at hc
 ·cases hc
 ·rw [if_neg (by simp [hp]), claimR_strip, h, ← claimR_strip]; exact hc
theorem dup_strip (pre : List api_Claim) (x : api_Claim) : dupB pre x = dupB (pre.map strip) (strip x) := by
 unfold dupB; rw [List.any_map]; rfl
theorem goE_strip {m : Int} : ∀ (C C' pre pre' : List api_Claim), C'.map strip = C.map strip → pre'.map strip = pre.map strip → (∀ y ∈ C', p1 y = false) → goE m pre C = none → goE m pre' C' = none
 | [], C', pre, pre', h, _, _, _ => by
  have : C' = [] := by simpa using h
  rw [this]; rfl
 | x :: C, [], pre, pre', h, _, _, _ => by simp at h
 | x :: C, y :: C', pre, pre', h, hp, h1, hn => by
  rw [List.map_cons, List.map_cons] at h
  injection h with hxy hC
  rw [goE_cons] at hn ⊢
  split at hn; · cases hn
  split at hn; · cases hn
  rename_i h3 h4
  have hy := claim_other hxy (h1 y (by simp)) (by simpa using h3)
  rw [if_neg (by simpa using hy), if_neg (by rw [dup_strip, hp, hxy, ← dup_strip]; exact h4)]
  exact goE_strip C C' (pre ++ [x]) (pre' ++ [y]) hC (by rw [List.map_append, List.map_append, hp]; simp [hxy]) (fun z hz => h1 z (by simp [hz])) hn
theorem check_strip {C C' : List api_Claim} {l : List api_Sight} {m : Int} (h : C'.map strip = C.map strip) (hp : ∀ y ∈ C', p1 y = false) (hc : jn C l m = 0) : jn C' l m = 0 := by
 have hlen : C'.length = C.length := by simpa using congrArg List.length h
 unfold jn at hc ⊢
 split at hc; · cases hc
 rename_i h1
 split at hc; · cases hc
 rename_i h2
 rw [if_neg h1, if_neg (by rw [hlen]; exact h2)]
 cases e : goE m [] C with
 | some c =>
  rw [e] at hc
  exact absurd hc (goE_pos C [] c e)
 | none =>
  rw [e] at hc
  rw [goE_strip C C' [] [] h rfl hp e]
  exact hc
theorem zip_strip {f : api_Claim × Nat → Bool} (hf : ∀ x i, f (x, i) = f (strip x, i)) (C : List api_Claim) : C.zipIdx.any f = (C.map strip).zipIdx.any f := by
 rw [List.zipIdx_map, List.any_map]
 congr 1
 funext ⟨x, i⟩
 exact hf x i
theorem bad_strip (C : List api_Claim) (l : List api_Sight) (s : Nat) (c : Int) : badB C l s c = badB (C.map strip) l s c := by
 unfold badB
 rw [zip_strip (f := qT l s c true) (fun _ _ => rfl), zip_strip (f := qT l s c false) (fun _ _ => rfl), zip_strip (f := qS s c) (fun _ _ => rfl), zip_strip (f := qK s c) (fun _ _ => rfl), zip_strip (f := qE s c) (fun _ _ => rfl), zip_strip (f := qL s c) (fun _ _ => rfl)]
theorem agree_strip (C : List api_Claim) (l : List api_Sight) (M : Nat) : ga C l M = ga (C.map strip) l M := by
 funext s
 unfold ga
 congr 2
 funext c
 exact bad_strip C l s _
theorem gN_strip (C : List api_Claim) (z : Int) : gN z C.zipIdx = gN z (C.map strip).zipIdx := by
 unfold gN
 rw [List.zipIdx_map, List.countP_map]; rfl
theorem other_val {C : List api_Claim} {a : Nat} (ha : a < 256) (hC : C.length ≤ 10) (hp : ∀ y ∈ C, p1 y = false) : ∃ C', (Comp.loop (fun s : List api_Claim × Int => zk C (a : Int) s.1 s.2) (C, 0)).val = some C' ∧ C'.map strip = C.map strip ∧ ∀ y ∈ C', p1 y = false := by
 have key : Ok (Comp.loop (fun s : List api_Claim × Int => zk C (a : Int) s.1 s.2) (C, 0)) (fun C' => C'.map strip = C.map strip ∧ ∀ y ∈ C', p1 y = false) := by
  refine Ok.count C.length (fun i s => s.2 = (i : Int) ∧ s.1.map strip = C.map strip ∧ ∀ y ∈ s.1, p1 y = false) ⟨rfl, rfl, hp⟩ ?_ ?_
  ·rintro i ⟨D, s⟩ hi ⟨h0, h1, h2⟩
   dsimp only at h0 h1 h2
   subst h0
   have hlen : D.length = C.length := by simpa using congrArg List.length h1
   have hx : i < D.length := by omega
   have hg := List.getElem?_eq_getElem hx
   have hpx := h2 _ (List.getElem_mem hx)
   unfold p1 at hpx
   simp at hpx
   have e1 : IntKind.wrap .i64 (D[i].Party + 1) = D[i].Party + 1 := IntWalk.i64_in _ ⟨by omega, by omega⟩
   have e2 : Int.tmod (IntKind.wrap .i64 (a : Int)) 6 = ((a % 6 : Nat) : Int) := tmod_u8 (m := 6) ha (by omega)
   have e3 : IntKind.wrap .i64 (D[i].Party + 1 + ((a % 6 : Nat) : Int)) = D[i].Party + 1 + ((a % 6 : Nat) : Int) := IntWalk.i64_in _ ⟨by omega, by omega⟩
   have e4 : Int.tmod (D[i].Party + 1 + ((a % 6 : Nat) : Int)) 6 = (D[i].Party + 1 + ((a % 6 : Nat) : Int)) % 6 := Int.tmod_eq_emod_of_nonneg (by omega)
   have e5 : IntKind.wrap .i64 ((D[i].Party + 1 + ((a % 6 : Nat) : Int)) % 6 - 1) = (D[i].Party + 1 + ((a % 6 : Nat) : Int)) % 6 - 1 := IntWalk.i64_in _ ⟨by omega, by omega⟩
   show Ok (zk C (a : Int) D (i : Int)) _
   unfold zk
   rw [Ok.ite, if_pos (by simp; omega), Ok.bind, Ok.idxn hg, Ok.bind, Ok.idxn hg, Ok.bind, Ok.idxn hg, e1, e2, e3, e4, e5, Ok.bind, Ok.upd (by omega), Int.toNat_natCast, Ok.pure]
   refine ⟨Comp.zT (by omega), ?_, fun y hy => ?_⟩
   ·rw [List.map_set, ← h1]
    refine List.ext_getElem? fun j => ?_
    rw [List.getElem?_set]
    by_cases ej : i = j
    ·subst ej
     rw [if_pos rfl, if_pos (by simpa using hx), List.getElem?_map, hg]; rfl
    ·rw [if_neg ej]
   ·rcases List.mem_or_eq_of_mem_set hy with h | h
    ·exact h2 y h
    ·rw [h]
     unfold p1
     simp
     omega
  ·rintro ⟨D, s⟩ ⟨h0, h1, h2⟩
   dsimp only at h0 h1 h2
   subst h0
   show Ok (zk C (a : Int) D (C.length : Int)) _
   unfold zk
   rw [Ok.ite, if_neg (by simp), Ok.pure]
   exact ⟨h1, h2⟩
 obtain ⟨r, h1, h2, h3⟩ := key
 exact ⟨r, h1, h2, h3⟩
theorem more_l2 {F G : List Nat} {n : Nat} (hn : n ≤ 64) (hF : ∀ x ∈ F, x < n) (hG : ∀ x ∈ G, x < n) (hFl : F.length ≤ 64) (hGl : G.length ≤ 64) (h : ∀ x ∈ F, ∃ y ∈ G, Cor.Sub y x) :
  (Comp.loop (fun s => zr (up F, 0) (up G, 0) s) 0).val = some (.inr ()) := by
 refine loop_none (body := fun s => zr (up F, 0) (up G, 0) s) F ?_ ?_
 ·intro i s hi
  have hi2 := yX hi
  have hm := List.mem_of_getElem? hi
  have hs := hF s hm
  have inner : (Comp.loop (fun t : Bool × Int => zq (up G, 0) (s : Int) t.1 t.2) (false, 0)).val = some true := by
   have := Comp.ZF (body := fun t : Bool × Int => zq (up G, 0) (s : Int) t.1 t.2) G (fun b x => b || decide (gy x s = 0)) id (fun _ _ => True) false (by
    intro b k x hk _
    have hk2 := yX hk
    have hxl := hG x (List.mem_of_getElem? hk)
    show (zq (up G, 0) (s : Int) b (k : Int)).val = _
    unfold zq
    have e : decide (((gy x s : Nat) : Int) = 0) = decide (gy x s = 0) := decide_eq_decide.2 (by omega)
    rw [Comp.ze, if_pos (by rw [decide_eq_true_iff, jS]; omega), Comp.zH, gS (mem_up_get hk), Option.bind_some, Comp.zH, Comp.zL, Option.bind_some, andNotB_nat (by omega) (by omega), Comp.zL, km, e, Comp.zT (by omega)])
    (fun _ _ _ _ _ => trivial) (by
    intro b _
    show (zq (up G, 0) (s : Int) b (G.length : Int)).val = _
    unfold zq
    rw [Comp.ze, if_neg (by simp [jS]), Comp.zL]; rfl) trivial
   rw [this, Comp.foldl_any, Bool.false_or]
   congr 1
   obtain ⟨y, h1, h2⟩ := h s hm
   exact List.any_eq_true.2 ⟨y, h1, decide_eq_true (without_zero.2 h2)⟩
  show (zr (up F, 0) (up G, 0) (i : Int)).val = _
  unfold zr vu
  rw [Comp.ze, if_pos (by rw [decide_eq_true_iff, jS]; omega), Comp.zH, gS (mem_up_get hi), Option.bind_some, Comp.zH, inner, Option.bind_some, Comp.ze, if_neg (by simp), Comp.zL, Comp.zT (by omega)]
 ·show (zr (up F, 0) (up G, 0) (F.length : Int)).val = _
  unfold zr
  rw [Comp.ze, if_neg (by simp [jS]), Comp.zL]
theorem more_l6 {F G : List Nat} (hFl : F.length ≤ 64) (hGl : G.length ≤ 64) (h : ∀ x ∈ F, x ∈ G) :
  (Comp.loop (fun s => zp (up F, 0) (up G, 0) s) 0).val = some (.inr ()) := by
 refine loop_none (body := fun s => zp (up F, 0) (up G, 0) s) F ?_ ?_
 ·intro i s hi
  have hi2 := yX hi
  have hm := List.mem_of_getElem? hi
  have inner : (Comp.loop (fun t : Bool × Int => zo (up G, 0) (s : Int) t.1 t.2) (false, 0)).val = some true := by
   have := Comp.ZF (body := fun t : Bool × Int => zo (up G, 0) (s : Int) t.1 t.2) G (fun b x => b || decide (x = s)) id (fun _ _ => True) false (by
    intro b k x hk _
    have hk2 := yX hk
    show (zo (up G, 0) (s : Int) b (k : Int)).val = _
    unfold zo
    have e : decide ((x : Int) = (s : Int)) = decide (x = s) := decide_eq_decide.2 (by omega)
    rw [Comp.ze, if_pos (by rw [decide_eq_true_iff, jS]; omega), Comp.zH, gS (mem_up_get hk), Option.bind_some, Comp.zH, Comp.zL, Option.bind_some, Comp.zL, km, e, Comp.zT (by omega)])
    (fun _ _ _ _ _ => trivial) (by
    intro b _
    show (zo (up G, 0) (s : Int) b (G.length : Int)).val = _
    unfold zo
    rw [Comp.ze, if_neg (by simp [jS]), Comp.zL]; rfl) trivial
   rw [this, Comp.foldl_any, Bool.false_or]
   congr 1
   exact List.any_eq_true.2 ⟨s, h s hm, decide_eq_true rfl⟩
  show (zp (up F, 0) (up G, 0) (i : Int)).val = _
  unfold zp vt
  rw [Comp.ze, if_pos (by rw [decide_eq_true_iff, jS]; omega), Comp.zH, gS (mem_up_get hi), Option.bind_some, Comp.zH, inner, Option.bind_some, Comp.ze, if_neg (by simp), Comp.zL, Comp.zT (by omega)]
 ·show (zp (up F, 0) (up G, 0) (F.length : Int)).val = _
  unfold zp
  rw [Comp.ze, if_neg (by simp [jS]), Comp.zL]
theorem calm_iff {C : List api_Claim} {l : List api_Sight} {M : Nat} : cf C l M = [] ↔ ga C l M (2 ^ C.length - 1) = true := by
 have hp0 := Nat.two_pow_pos C.length
 have h := contains_iff (P := ga C l M) (m := C.length) agree_down (show 2 ^ C.length - 1 < 2 ^ C.length by omega)
 constructor
 ·intro he
  cases hP : ga C l M (2 ^ C.length - 1) with
  | true => rfl
  | false =>
   obtain ⟨x, h1, _⟩ := h.2 hP
   have h1 : x ∈ cf C l M := h1
   rw [he] at h1; cases h1
 ·intro hP
  cases hc : cf C l M with
  | nil => rfl
  | cons x xs =>
   have hx : x ∈ cf C l M := by rw [hc]; simp
   have hsub : Cor.Sub x (2 ^ C.length - 1) := fun i hi => by
    rw [Nat.testBit_two_pow_sub_one]; exact decide_eq_true (bit_lt (cf_lt hx) hi)
   rw [h.1 ⟨x, hx, hsub⟩] at hP; cases hP
theorem why_calm {C : List api_Claim} {l : List api_Sight} {M : Nat} {n : Int} {W : List Nat} (hn : 0 ≤ n) (hW : Why C l M n W) (hc : cf C l M = []) : up W = [0] := by
 refine inc_ext hW.inc (by simp [Inc]) fun z => ?_
 rw [mem_up']
 have h0 : fewG C n ((0 : Nat) : Int) = true := by
  unfold fewG gN
  rw [decide_eq_true_iff, List.countP_eq_zero.2 (by intro q _; simp [bitZ, U])]
  exact hn
 constructor
 ·rintro ⟨w, h1, rfl⟩
  have h2 := ((hW.mem w).1 h1).1
  rw [hc] at h2
  rw [(min_hits_nil w).1 h2]; simp
 ·intro hz
  have hz : z = 0 := by simpa using hz
  refine ⟨0, (hW.mem 0).2 ⟨?_, h0⟩, by rw [hz]; rfl⟩
  rw [hc]
  exact (min_hits_nil 0).2 rfl
theorem names_calm (C : List api_Claim) : kG C [0] 7 = [] := by
 unfold kG
 rw [List.map_eq_nil_iff, List.filter_eq_nil_iff]
 intro j _
 simp [blameB, bitZ, U]
theorem law_CourtMore {x : colletlaw43_Case} {v : Vector Int 2} {n by_ : Int} (hc : (Lit.int .u8 x.Cells).wf = true) (hv2 : ∀ y ∈ v.toList, (Lit.int .u8 y).wf = true) (t : Bool) (hn : (Lit.int .u8 n).wf = true) (hby : (Lit.int .u8 by_).wf = true) : (gZ x v t n by_).val = some true := by
 have hLIM : LIM = 1073741824 := rfl
 obtain ⟨b, hb, hb2⟩ := wf_u8 hc
 obtain ⟨n, hn2, rfl⟩ := wf_u8 hn
 obtain ⟨a, ha2, rfl⟩ := wf_u8 hby
 obtain ⟨C, l, M, hv, hmade, _⟩ := made_val (most := 6) hb2 hb (by omega)
 replace hv : (vI x 6).val = some (C, l, (M : Int)) := hv
 have hC := hmade.len.1
 have hM := hmade.cells
 have hs := hmade.small
 have hck := hmade.check
 obtain ⟨hcl, hfar⟩ := check_ranges hck
 have hp := pow6 hC
 have hp0 := Nat.two_pow_pos C.length
 -- the measurement
 have hl0 : 0 < v.toList.length := by simp
 have hl1 : 1 < v.toList.length := by simp
 obtain ⟨g0, hg0, hg0v⟩ := wf_u8 (hv2 _ (List.getElem_mem hl0))
 obtain ⟨k0, hk0, hk0v⟩ := wf_u8 (hv2 _ (List.getElem_mem hl1))
 have i0 : (idx v.toList 0).val = some (g0 : Int) := by rw [← hg0v]; exact gS (i := 0) (List.getElem?_eq_getElem hl0)
 have i1 : (idx v.toList 1).val = some (k0 : Int) := by rw [← hk0v]; exact gS (i := 1) (List.getElem?_eq_getElem hl1)
 have hg3 : Int.tmod (IntKind.wrap .i64 (g0 : Int)) 3 = ((g0 % 3 : Nat) : Int) := tmod_u8 (m := 3) hg0 (by omega)
 have hkM : (rem (IntKind.wrap .i64 (k0 : Int)) (M : Int)).val = some ((k0 % M : Nat) : Int) := by
  rw [rem_val (by omega), tmod_u8 hk0 (by omega)]
 have hkl : k0 % M < M := Nat.mod_lt _ (by omega)
 have hl := hmade.len.2
 have hck' : jn C (l ++ [⟨((g0 % 3 : Nat) : Int), ((k0 % M : Nat) : Int), t⟩]) (M : Int) = 0 := by
  refine check_with hck (by simp; omega) ?_
  rw [List.any_append, hfar]
  simp [farB]
  omega
 have hn3 : Int.tmod (IntKind.wrap .i64 (n : Int)) 3 = ((n % 3 : Nat) : Int) := tmod_u8 (m := 3) hn2 (by omega)
 have hn4 : IntKind.wrap .i64 (((n % 3 : Nat) : Int) + 1) = ((n % 3 + 1 : Nat) : Int) := Comp.zT (by omega)
 obtain ⟨W, hW1, hW⟩ := why_val (l := l) ((n % 3 : Nat) : Int) hC hs hck (by omega)
 obtain ⟨V, hV1, hV⟩ := why_val (l := l) ((n % 3 + 1 : Nat) : Int) hC hs hck (by omega)
 have hWl : W.length ≤ 64 := Nat.le_trans (inc_up_len hW.inc fun x hx => hW.lt hx) hp
 have hVl : V.length ≤ 64 := Nat.le_trans (inc_up_len hV.inc fun x hx => hV.lt hx) hp
 -- other parties
 have hp1 : ∀ y ∈ C, p1 y = false := by
  intro y hy
  have := hcl y hy
  rw [claimE_R] at this
  split at this
  ·cases this
  ·rename_i h; simpa using h
 obtain ⟨C', hC'v, hC's, hC'p⟩ := other_val ha2 (by omega) hp1
 have hlen' : C'.length = C.length := by simpa using congrArg List.length hC's
 have hs' : SmallL C' := by
  intro y hy
  obtain ⟨i, hi⟩ := List.getElem?_of_mem hy
  have hi2 : i < C.length := by have := yX hi; omega
  have := congrArg (·[i]?) hC's
  simp only [List.getElem?_map, hi, List.getElem?_eq_getElem hi2, Option.map_some] at this
  obtain ⟨_, _, h3, h4⟩ := strip_eq (Option.some.inj this)
  have h5 := hs _ (List.getElem_mem hi2)
  unfold SmallC at h5 ⊢
  rw [h3, h4]; exact h5
 obtain ⟨W', hW1', hW'⟩ := why_val (l := l) ((n % 3 : Nat) : Int) (by omega) hs' (check_strip hC's hC'p hck) (by omega)
 have hcf : cf C' l M = cf C l M := by
  unfold cf
  rw [hlen', agree_strip C', hC's, ← agree_strip C]
 have hWW : up W' = up W := by
  refine inc_ext hW'.inc hW.inc fun z => ?_
  rw [mem_up', mem_up']
  have : ∀ w, w ∈ W' ↔ w ∈ W := by
   intro w
   rw [hW'.mem, hW.mem, hcf]
   unfold fewG
   rw [gN_strip C', hC's, ← gN_strip C]
  exact exists_congr fun w => and_congr_left' (this w)
 have hcert := certain_val (by omega) (by unfold LIM; omega) hW1
 have hcfl := cf_len (l := l) (M := M) hC
 have hcfl' := cf_len (l := l ++ [⟨((g0 % 3 : Nat) : Int), ((k0 % M : Nat) : Int), t⟩]) (M := M) hC
 have hpo := pow_out (n := C.length) (by omega)
 have hag : (gx C l (M : Int) ((2 ^ C.length - 1 : Nat) : Int)).val = some (ga C l M (2 ^ C.length - 1)) := agrees_in hs hck (by omega)
 unfold gZ
 rw [Comp.zH, sanity_val, Option.bind_some, Comp.zH, hv, Option.bind_some, Comp.zH, cf_val hC hs hck, Option.bind_some, Comp.zH, app_val (by simp; omega), Option.bind_some, Comp.zH, i0, Option.bind_some, Comp.zH, i1, Option.bind_some, Comp.zH, hkM, Option.bind_some, hg3, Comp.zH, app_val (by simp; omega), Option.bind_some, List.nil_append, Comp.zH, cf_val hC hs hck', Option.bind_some, hn3, hn4, Comp.zH, hW1, Option.bind_some, Comp.zH, hV1, Option.bind_some, Comp.zH, Comp.zL, Option.bind_some, Comp.ze, if_neg (by simp), Comp.zH]
 rw [more_l2 (n := 2 ^ C.length) hp (fun x hx => cf_lt hx) (fun x hx => cf_lt hx) hcfl hcfl' (fun x hx => ?_), Option.bind_some]
 ·show (vH (up W, 0) (up V, 0) (C, l, (M : Int)) (a : Int) (n : Int) true (up (cf C l M), 0)).val = _
  unfold vH
  rw [Comp.zH, more_l6 hWl hVl (fun x hx => ?_), Option.bind_some]
  ·show (vG (C, l, (M : Int)) (a : Int) (n : Int) (up W, 0) true (up (cf C l M), 0)).val = _
   unfold vG
   rw [Comp.zH, app_val (by simp; omega), Option.bind_some, List.nil_append, Comp.zH, hC'v, Option.bind_some]
   unfold vr
   have hsame : (zz (up W) (up W)).val = some true := sameInts_val (by rw [jS]; unfold LIM; omega)
   rw [hn3, Comp.zH, hW1', Option.bind_some, hWW, Comp.zH, hcert, Option.bind_some, Comp.zH, Comp.val_gd, if_pos (by rfl), hsame, Option.bind_some, Comp.zH, Comp.zL, Option.bind_some]
   have hcond : (bif (bif (decide ((0 : Int) ≠ 0)) then true else (!true)) then true else (decide ((decide ((if W = [] then (([] : List Int), (21 : Int)) else (kG C (up W) 7, 0)).2 = 21)) ≠ (decide (((up W).length : Int) = 0))))) = false := by
    by_cases hW0 : W = []
    ·simp [hW0, up]
    ·have : ((up W).length : Int) ≠ 0 := by
      rw [jS]
      have := List.length_pos_iff.2 hW0
      omega
     have : decide (((up W).length : Int) = 0) = false := decide_eq_false this
     rw [this, if_neg hW0]; rfl
   rw [Comp.ze, if_neg (by rw [hcond]; simp), Comp.zH, Comp.val_gd, if_pos (by rfl), jg (by omega), Option.bind_some, Comp.zH, Comp.val_gd, if_pos (by rfl), hpo, hag, Option.bind_some, cond_true]
   by_cases hcalm : cf C l M = []
   ·have hup := why_calm (by omega) hW hcalm
    have hWne : W ≠ [] := by intro h; rw [h] at hup; simp [up] at hup
    have hnm : kG C (up W) 7 = [] := by rw [hup]; exact names_calm C
    have hs0 : (zz (up W) [0]).val = some true := by rw [← hup]; exact hsame
    rw [calm_iff.1 hcalm, if_neg hWne, hnm, hcalm]
    have hz : decide (((up ([] : List Nat)).length : Int) = 0) = true := rfl
    rw [hz]
    simp only [Comp.zH, Comp.val_gd, Comp.zL, decide_true, Bool.not_true, beq_self_eq_true, Bool.and_self, if_true, hs0, Option.bind_some, cond_true, cond_false, List.length_nil]
    rfl
   ·have hP : ga C l M (2 ^ C.length - 1) = false := by
     cases e : ga C l M (2 ^ C.length - 1) with
     | false => rfl
     | true => exact absurd (calm_iff.2 e) hcalm
    have hl' : ¬ ((up (cf C l M)).length : Int) = 0 := by
     rw [jS]
     have := List.length_pos_iff.2 hcalm
     omega
    rw [hP, decide_eq_false hl']
    simp [Comp.zH, Comp.val_gd, Comp.zL]
  ·have h1 := (hW.mem x).1 hx
   refine (hV.mem x).2 ⟨h1.1, ?_⟩
   have h2 := h1.2
   unfold fewG at h2 ⊢
   rw [decide_eq_true_iff] at h2 ⊢
   omega
 ·obtain ⟨hlt, hmin⟩ := cf_mem.1 hx
  have h1 : ga C (l ++ [⟨((g0 % 3 : Nat) : Int), ((k0 % M : Nat) : Int), t⟩]) M x = false := agree_more (fun y hy => by simp [hy]) x hmin.1
  obtain ⟨y, h2, h3⟩ := (contains_iff (P := ga C (l ++ [⟨((g0 % 3 : Nat) : Int), ((k0 % M : Nat) : Int), t⟩]) M) (m := C.length) agree_down hlt).2 h1
  exact ⟨y, h2, h3⟩
end Go.Crt
end
section
set_option linter.unusedVariables false
set_option linter.unusedSimpArgs false
namespace Go.Lift
open Go Go.RowKit Go.Eng Go.ChangeShapes Go.WideShapes Go.ChangeAt Go.Joins Go.Deep Go.WideElems
variable {H : Type} {enc : TypeId × Value → H} {P : Program} {w : World} {base : Nat} {sp : Nat → Bool} {held : Bool} {α β γ : Type}
abbrev O0 : Tags := fun _ => 0
structure Opens (enc : TypeId × Value → H) (P : Program) (w : World) (base : Nat) (sp : Nat → Bool) (held : Bool) (t : Nat) (r : GR α) (Q : α → Prop) : Prop where
 size : P.cellsOf t = r.sz
 fits : r.fits
 op : ∀ fuel cs x, DataW.trod enc P w base sp held fuel t cs = some x → ∃ y, r.rel O0 w cs y ∧ Q y
theorem opens_int {t : Nat} {k : IntKind} (ht : P.underlying t = some (.int k)) (hs : P.cellsOf t = 1) : Opens enc P w base sp held t (rInt k) fun n => (Lit.int k n).wf = true :=
 ⟨hs, fun _ => rfl, fun fuel cs x h => by obtain ⟨n, h1, _, h2⟩ := DataW.trod_int ht h; exact ⟨n, h1, h2⟩⟩
theorem relL_of {r : GR α} {O : Tags} {Q : α → Prop} : ∀ {vs : List Value}, (∀ v ∈ vs, ∃ y, r.v O w v y ∧ Q y) → ∃ ys, RelL r O w vs ys ∧ ∀ y ∈ ys, Q y
 | [], _ => ⟨[], trivial, by simp⟩
 | v :: vs, h => by
   obtain ⟨y, h1, h2⟩ := h v (by simp)
   obtain ⟨ys, h3, h4⟩ := relL_of (vs := vs) fun u hu => h u (List.mem_cons_of_mem _ hu)
   exact ⟨y :: ys, ⟨h1, h3⟩, fun z hz => (List.mem_cons.1 hz).elim (fun e => by rw [e]; exact h2) (h4 z)⟩
theorem opens_slice {t e : Nat} {r : GR α} {Q : α → Prop} (ht : P.underlying t = some (.slice e)) (hs : P.cellsOf t = 1) (hE : Opens enc P w base sp held e r Q) (hpos : 0 < r.sz) : Opens enc P w base sp held t (rSl r) fun xs => (∀ x ∈ xs, Q x) ∧ xs.length ≤ maxLen := by
 refine ⟨hs, fun _ => rfl, fun fuel cs x h => ?_⟩
 rcases DataW.trod_slice ht h with ⟨rfl, _⟩ | ⟨a, len, cap, elems, rest, n, _, rfl, _, hb, hl, hm, hlen, hel, _, _⟩
 ·exact ⟨[], ⟨_, [], rfl, ⟨none, 0, rfl, by simp, by simp, .inl rfl⟩, trivial, fun h => absurd rfl h⟩, by simp, by simp⟩
 ·have each : ∀ i, i < len → ∃ cs, w.cells? base (a.add (i * r.sz)) r.sz = some cs ∧ ∃ y, r.rel O0 w cs y ∧ Q y := by
   intro i hi
   have := hel i hi
   rw [List.getElem?_eq_getElem (by omega), hE.size, Option.bind_eq_some_iff] at this
   obtain ⟨cs, h1, h2⟩ := this
   exact ⟨cs, h1, hE.op n cs _ h2⟩
  let f : Nat → Value := fun i => packV r.agg ((w.cells? base (a.add (i * r.sz)) r.sz).getD [])
  have hf : ∀ i, i < len → ∃ y, r.v O0 w (f i) y ∧ Q y := by
   intro i hi
   obtain ⟨cs, h1, y, h2, h3⟩ := each i hi
   exact ⟨y, ⟨cs, h2, by show packV r.agg ((w.cells? base (a.add (i * r.sz)) r.sz).getD []) = _; rw [h1]; rfl⟩, h3⟩
  have hfc : ∀ i, i < len → ∀ j, j < r.sz → w.cell? (a.add (i * r.sz + j)) = (f i).cells[j]? := by
   intro i hi j hj
   obtain ⟨cs, h1, y, h2, _⟩ := each i hi
   have h4 := (World.cells?_some h1).2.2 j hj
   have h5 : (f i).cells = cs.toArray := by
    show (packV r.agg ((w.cells? base (a.add (i * r.sz)) r.sz).getD [])).cells = _
    rw [h1]
    exact kS (fun ha => by show cs.length = 1; rw [r.len h2, hE.fits ha]) (r.one h2)
   rw [h5, List.getElem?_toArray, ← h4]
   rw [_root_.Go.Addr.add_add]
  obtain ⟨ys, h1, h2⟩ := relL_of (r := r) (O := O0) (w := w) (Q := Q) (vs := (List.range len).map f) (by
   intro v hv
   obtain ⟨i, hi, rfl⟩ := List.mem_map.1 hv
   exact hf i (List.mem_range.1 hi))
  have hyl : ys.length = len := by have := h1.len; simpa using this.symm
  refine ⟨ys, ⟨_, (List.range len).map f, rfl, ⟨some a, cap, by simp, by simpa using hl, ?_, ?_⟩, h1, ?_⟩, h2, by omega⟩
  ·intro v hv
   obtain ⟨y, hy⟩ : ∃ y, r.v O0 w v y := by
    obtain ⟨i, hi, rfl⟩ := List.mem_map.1 hv
    obtain ⟨y, hy, _⟩ := hf i (List.mem_range.1 hi); exact ⟨y, hy⟩
   exact r.ZA hE.fits hy
  ·by_cases h0 : len = 0
   ·left; simp [h0]
   ·right
    obtain ⟨b, off, spot⟩ := a
    have hc0 : (w.cell? (Addr.add ⟨b, off, spot⟩ (0 * r.sz + 0))).isSome = true := by
     rw [hfc 0 (by omega) 0 hpos]
     obtain ⟨y, hy, _⟩ := hf 0 (by omega)
     have := r.ZA hE.fits hy
     rw [Array.getElem?_eq_getElem (by omega)]; rfl
    obtain ⟨v0, hv0⟩ := Option.isSome_iff_exists.1 hc0
    have hspot : spot = none := by simpa [Addr.add] using World.cell?_spot hv0
    subst hspot
    refine ⟨b, off, rfl, fun i x hx j hj => ?_⟩
    have hi : i < len := by have := (List.getElem?_eq_some_iff.1 hx).1; simpa using this
    have hx' : x = f i := by
     rw [List.getElem?_map, List.getElem?_range hi] at hx
     simpa using hx.symm
    rw [hx', ← hfc i hi j hj]
    unfold Addr.add
    split
    ·rename_i h0; congr 1; simp [h0]
    ·rfl
  ·intro hne g hg
   have h0 : 0 < len := by
    rcases Nat.eq_zero_or_pos len with h0 | h0
    ·subst h0; exact absurd rfl hne
    ·exact h0
   have hgb : g = a.block := by
    have : (Value.slice (some a) len cap).ownBlock = some a.block := rfl
    rw [this] at hg; exact (Option.some.inj hg).symm
   subst hgb
   refine ⟨?_, rfl⟩
   obtain ⟨cs, h3, _⟩ := each 0 h0
   have h4 := (World.cells?_some h3)
   have h5 := h4.2.2 0 hpos
   rw [List.getElem?_eq_getElem (by omega)] at h5
   have he : (a.add (0 * r.sz)).add 0 = a := by simp [Addr.add]
   rw [he] at h5
   exact World.block_lt_of_cell? _ _ h5
theorem open_top {t : Nat} {r : GR α} {Q : α → Prop} {v : Value} {d : DataW H} {ps : List MemPlace} (hE : Opens enc P w base sp held t r Q) (hv : packV r.agg v.cells.toList = v) (h : DataW.Trod enc P w base sp held t v d ps) : ∃ x, r.v O0 w v x ∧ Q x := by
 obtain ⟨fuel, hf⟩ := h
 obtain ⟨y, h1, h2⟩ := hE.op fuel _ _ hf
 exact ⟨y, ⟨_, h1, hv.symm⟩, h2⟩
theorem okO_O0 : OkO O0 w := fun _ _ => rfl
end Go.Lift
end
section
set_option linter.unusedVariables false
set_option linter.unusedSimpArgs false
namespace Go.Lift
open Go Go.RowKit Go.Eng Go.ChangeShapes Go.WideShapes Go.ChangeAt Go.Joins Go.Deep Go.WideElems
variable {H : Type} {enc : TypeId × Value → H} {P : Program} {w : World} {base : Nat} {sp : Nat → Bool} {held : Bool} {α β γ : Type}
theorem chop (cs : List Value) (off s : Nat) : cs.drop off = (cs.drop off).take s ++ cs.drop (off + s) := by
 rw [← List.drop_drop, List.take_append_drop]
theorem Opens.at_ {t : Nat} {r : GR α} {Q : α → Prop} (hE : Opens enc P w base sp held t r Q) {off n : Nat} {cs : List Value} {y} (h : DataW.trod enc P w base sp held n t ((cs.drop off).take (P.cellsOf t)) = some y) : ∃ a, r.rel O0 w ((cs.drop off).take r.sz) a ∧ Q a := by
 rw [hE.size] at h; exact hE.op n _ _ h
theorem rows_of {f : α → List Value} {Q : α → Prop} {k : Nat} : ∀ (n : Nat) (cs : List Value), cs.length = n * k → (∀ i, i < n → ∃ y, (cs.drop (i * k)).take k = f y ∧ Q y) → ∃ ys : List α, ys.length = n ∧ cs = ys.flatMap f ∧ ∀ y ∈ ys, Q y
 | 0, cs, h, _ => ⟨[], rfl, by rw [Nat.zero_mul] at h; rw [List.eq_nil_of_length_eq_zero h]; rfl, by simp⟩
 | n + 1, cs, h, hh => by
  obtain ⟨y, h1, h2⟩ := hh 0 (by omega)
  rw [Nat.zero_mul, List.drop_zero] at h1
  obtain ⟨ys, h3, h4, h5⟩ := rows_of (f := f) (Q := Q) (k := k) n (cs.drop k) (by rw [List.length_drop, h, Nat.add_mul]; omega) (fun i hi => by
   obtain ⟨z, h6, h7⟩ := hh (i + 1) (by omega)
   exact ⟨z, by rw [List.drop_drop, ← h6, Nat.add_mul, Nat.one_mul, Nat.add_comm], h7⟩)
  refine ⟨y :: ys, by simp [h3], ?_, ?_⟩
  ·rw [List.flatMap_cons, ← h1, ← h4, List.take_append_drop]
  ·intro z hz
   rcases List.mem_cons.1 hz with rfl | hz
   ·exact h2
   ·exact h5 z hz
theorem opens_vec {t e n k : Nat} {agg : Bool} {f : α → List Value} {hl ho hl' ho'} {Q : α → Prop} (ht : P.underlying t = some (.array n e)) (hs : P.cellsOf t = n * k) (hE : Opens enc P w base sp held e (rC agg k f hl ho) Q) : Opens enc P w base sp held t (rVec n k f hl' ho') fun x => ∀ y ∈ x.toList, Q y := by
 refine ⟨hs, (fun h => by cases h), fun fuel cs x h => ?_⟩
 obtain ⟨xs, m, rfl, rfl, hlen, hxl, hel⟩ := DataW.trod_array ht h
 obtain ⟨ys, h1, h2, h3⟩ := rows_of (f := f) (Q := Q) (k := k) n cs (by rw [hlen, hs]) (fun i hi => by
  have := hel i hi
  rw [List.getElem?_eq_getElem (by omega)] at this
  have hc : P.cellsOf e = k := hE.size
  rw [hc] at this
  have h4 : (cs.drop (i * k)).take k = (cs.drop (i * k)).take (P.cellsOf e) := by rw [hc]
  rw [h4] at this
  obtain ⟨a, h5, h6⟩ := hE.at_ this
  exact ⟨a, h5, h6⟩)
 exact ⟨⟨ys.toArray, by simpa using h1⟩, h2, by simpa using h3⟩
theorem okWide_array {n e : Nat} {t : TypeId} {r : Reach} {b : Nat} {v : Value} (ht : P.underlying t = some (.array n e)) (h : Value.okWide P w r b t v) : ∃ cs, v = .agg cs ∧ cs.size = P.cellsOf t := by
 simp only [Value.okWide, ht] at h
 obtain ⟨cs, h1, h2, _⟩ := h
 exact ⟨cs, h1, h2⟩
theorem open_struct {t : Nat} {fs : Array Field} {r : GR α} {Q : α → Prop} {re : Reach} {b0 : Nat} {v : Value} {d : DataW H} {ps : List MemPlace} (ht : P.underlying t = some (.struct fs)) (hE : Opens enc P w base sp held t r Q) (ha : r.agg = true) (hval : Value.okWide P w re b0 t v) (h : DataW.Trod enc P w base sp held t v d ps) : ∃ x, r.v O0 w v x ∧ Q x := by
 obtain ⟨cs, rfl, _⟩ := okWide_struct ht hval
 exact open_top hE (by simp [Value.cells, packV, ha]) h
theorem open_array {t n e : Nat} {r : GR α} {Q : α → Prop} {re : Reach} {b0 : Nat} {v : Value} {d : DataW H} {ps : List MemPlace} (ht : P.underlying t = some (.array n e)) (hE : Opens enc P w base sp held t r Q) (ha : r.agg = true) (hval : Value.okWide P w re b0 t v) (h : DataW.Trod enc P w base sp held t v d ps) : ∃ x, r.v O0 w v x ∧ Q x := by
 obtain ⟨cs, rfl, _⟩ := okWide_array ht hval
 exact open_top hE (by simp [Value.cells, packV, ha]) h
end Go.Lift
end
section
namespace Go.Proofs.Ytebmpjdegajhgaa.courtMoreDone
open Go Go.ChangeShapes Go.WideShapes Go.ChangeAt Go.RowKit Go.Eng Go.Lift Go.Joins Go.F
open Go.ChangeMaps (open_string shut_string)
open Go.Proofs.Ytebmpjdegajhgaa
set_option linter.unusedVariables false
set_option linter.unusedSimpArgs false
theorem op_3 {H : Type} {enc : TypeId × Value → H} {w : World} {base : Nat} {sp : Nat → Bool} {held : Bool} : Opens enc Try.prog w base sp held 3 (rInt .i64) (fun z => (Lit.int .i64 z).wf = true) := opens_int Try.underlying3 (by kernel_rfl)
theorem op_23 {H : Type} {enc : TypeId × Value → H} {w : World} {base : Nat} {sp : Nat → Bool} {held : Bool} : Opens enc Try.prog w base sp held 23 (rSl (rInt .i64)) (fun z => (∀ y ∈ z, (fun z => (Lit.int .i64 z).wf = true) y) ∧ z.length ≤ maxLen) := opens_slice Try.underlying23 (by kernel_rfl) op_3 (by decide)
theorem op_22 {H : Type} {enc : TypeId × Value → H} {w : World} {base : Nat} {sp : Nat → Bool} {held : Bool} : Opens enc Try.prog w base sp held 22 (rSl (rSl (rInt .i64))) (fun z => (∀ y ∈ z, (fun z => (∀ y ∈ z, (fun z => (Lit.int .i64 z).wf = true) y) ∧ z.length ≤ maxLen) y) ∧ z.length ≤ maxLen) := opens_slice Try.underlying22 (by kernel_rfl) op_23 (by decide)
theorem op_5 {H : Type} {enc : TypeId × Value → H} {w : World} {base : Nat} {sp : Nat → Bool} {held : Bool} : Opens enc Try.prog w base sp held 5 (rInt .u8) (fun z => (Lit.int .u8 z).wf = true) := opens_int Try.underlying5 (by kernel_rfl)
def Q_colletlaw43_Case (x : colletlaw43_Case) : Prop := ((∀ y ∈ x.Claims, (fun z => (∀ y ∈ z, (fun z => (Lit.int .i64 z).wf = true) y) ∧ z.length ≤ maxLen) y) ∧ x.Claims.length ≤ maxLen) ∧ ((Lit.int .u8 x.Cells).wf = true) ∧ ((∀ y ∈ x.Sights, (fun z => (Lit.int .i64 z).wf = true) y) ∧ x.Sights.length ≤ maxLen) ∧ True
theorem op_25 {H : Type} {enc : TypeId × Value → H} {w : World} {base : Nat} {sp : Nat → Bool} {held : Bool} : Opens enc Try.prog w base sp held 25 zS Q_colletlaw43_Case := by
 refine ⟨by kernel_rfl, zy, fun fuel cs x h => ?_⟩
 obtain ⟨xs, n, rfl, rfl, hl, hlen, hf⟩ := DataW.trod_struct Try.underlying25 h
 have hl' : cs.length = 3 := hl.trans (by kernel_rfl)
 obtain ⟨y0, hy0⟩ : ∃ y, xs[0]? = some y := ⟨_, List.getElem?_eq_getElem (by rw [hlen]; decide)⟩
 obtain ⟨a0, k0, q0⟩ := Opens.at_ (off := 0) (n := n) (cs := cs) (op_22 (enc := enc) (w := w) (base := base) (sp := sp) (held := held)) ((hf 0 _ rfl).trans hy0)
 obtain ⟨y1, hy1⟩ : ∃ y, xs[1]? = some y := ⟨_, List.getElem?_eq_getElem (by rw [hlen]; decide)⟩
 obtain ⟨a1, k1, q1⟩ := Opens.at_ (off := 1) (n := n) (cs := cs) (op_5 (enc := enc) (w := w) (base := base) (sp := sp) (held := held)) ((hf 1 _ rfl).trans hy1)
 obtain ⟨y2, hy2⟩ : ∃ y, xs[2]? = some y := ⟨_, List.getElem?_eq_getElem (by rw [hlen]; decide)⟩
 obtain ⟨a2, k2, q2⟩ := Opens.at_ (off := 2) (n := n) (cs := cs) (op_23 (enc := enc) (w := w) (base := base) (sp := sp) (held := held)) ((hf 2 _ rfl).trans hy2)
 exact ⟨⟨a0, a1, a2⟩, ⟨_, _, chop cs 0 1, k0, ⟨_, _, chop cs 1 1, k1, ⟨_, _, chop cs 2 1, k2, List.drop_of_length_le (by rw [hl']; decide)⟩⟩⟩, ⟨q0, q1, q2, trivial⟩⟩
theorem op_62 {H : Type} {enc : TypeId × Value → H} {w : World} {base : Nat} {sp : Nat → Bool} {held : Bool} : Opens enc Try.prog w base sp held 62 (rVec 2 1 (fun x => [.int .u8 x]) (fun _ => rfl) (fun _ => by simp [Value.oneCell'])) (fun z => ∀ y ∈ z.toList, (fun z => (Lit.int .u8 z).wf = true) y) := opens_vec Try.underlying62 (by kernel_rfl) op_5
theorem own : ownKnob Try.prog.godebug = none := by kernel_rfl
theorem laidOut : laidOutB Try.prog = true := by kernel_rfl
set_option maxRecDepth 100000 in
theorem lifted (os : Os) (started : os.Started) (H : Type) (enc : TypeId × Value → H) :
  ReturnsInHanded {} Try.checked os 7 .any (Rows.courtMoreSpec.pre6 enc Try.prog Try.f7 Rows.courtMoreRow.domain false) (Rows.courtMoreSpec.post enc Try.prog Try.f7 false true false false) := by
 refine returnsInHanded_of_change (C := Try.checked) own started (by kernel_rfl) Try.func7
  (ChangeSpec.witness6 (enc := enc) (C := Try.checked) false ⟨#[], #[.agg #[.slice none 0 0, .int .u8 0, .slice none 0 0], .agg #[.int .u8 0, .int .u8 0], .bool false, .int .u8 0, .int .u8 0], []⟩ 8 (by kernel_rfl) (by kernel_rfl) (by kernel_rfl) (by kernel_rfl)) ?_
 intro W base args ds gs before hval0 hW hcnd _
 have hval : ∀ (j : Nat) t v, Try.f7.params[j]? = some t → args[j]? = some v → Value.okWide Try.prog W .any base t v := hval0
 have hW' := hW
 obtain ⟨p, q, hA0, hV, rfl, hfz, hnd⟩ := hW
 have hA : DataW.TrodAll enc Try.prog W 0 (fun _ => true) true Try.f7.params.toList args.toList ds p := hA0
 rw [Try.params7] at hA hval
 obtain ⟨v0, vs0, d0, ds0, p0, q0_, hargs, rfl, rfl, h0, r0⟩ := trodAll_cons hA
 obtain ⟨v1, vs1, d1, ds1, p1, q1_, rfl, rfl, rfl, h1, r1⟩ := trodAll_cons r0
 obtain ⟨v2, vs2, d2, ds2, p2, q2_, rfl, rfl, rfl, h2, r2⟩ := trodAll_cons r1
 obtain ⟨v3, vs3, d3, ds3, p3, q3_, rfl, rfl, rfl, h3, r3⟩ := trodAll_cons r2
 obtain ⟨v4, vs4, d4, ds4, p4, q4_, rfl, rfl, rfl, h4, r4⟩ := trodAll_cons r3
 obtain ⟨rfl, rfl, rfl⟩ := trodAll_nil r4
 obtain rfl : args = #[v0, v1, v2, v3, v4] := by cases args; simp_all
 obtain ⟨rfl, rfl⟩ := trodVars_none hV
 have k0 := h0
 have lt0 : ∀ x ∈ p0, x.block < W.heap.size := by obtain ⟨m, hm⟩ := k0; exact DataW.trod_lt m _ _ _ hm
 have k1 := h1
 have lt1 : ∀ x ∈ p1, x.block < W.heap.size := by obtain ⟨m, hm⟩ := k1; exact DataW.trod_lt m _ _ _ hm
 have k2 := h2
 have lt2 : ∀ x ∈ p2, x.block < W.heap.size := by obtain ⟨m, hm⟩ := k2; exact DataW.trod_lt m _ _ _ hm
 have k3 := h3
 have lt3 : ∀ x ∈ p3, x.block < W.heap.size := by obtain ⟨m, hm⟩ := k3; exact DataW.trod_lt m _ _ _ hm
 have k4 := h4
 have lt4 : ∀ x ∈ p4, x.block < W.heap.size := by obtain ⟨m, hm⟩ := k4; exact DataW.trod_lt m _ _ _ hm
 obtain ⟨x0, hr0, q0⟩ := open_struct Try.underlying25 op_25 rfl (hval 0 25 v0 rfl rfl) h0
 obtain ⟨x1, hr1, q1⟩ := open_array Try.underlying62 op_62 rfl (hval 1 62 v1 rfl rfl) h1
 have e1 : v1 = .agg (gg (fun x => [.int .u8 x]) x1).toArray := rC_v.1 hr1
 obtain ⟨x2, e2, _, _⟩ := open_bool Try.underlying4 (hval 2 4 v2 rfl rfl) h2
 obtain ⟨x3, e3, _, _, q3⟩ := open_int Try.underlying5 (hval 3 5 v3 rfl rfl) h3
 obtain ⟨x4, e4, _, _, q4⟩ := open_int Try.underlying5 (hval 4 5 v4 rfl rfl) h4
 clear hA0 hval0
 obtain ⟨n_, hn_⟩ := Comp.ko.1 (Go.Crt.law_CourtMore q0.2.1 q1 x2 q3 q4)
 have walk := ok_colletlaw43_CourtMore (w0 := W) okO_O0 hr0 hn_
 refine Calls.mono (R := fun e W' => e = .returned (.bool true) ∧ Below W.heap.size W W') ?_ fun e W' ⟨he, bel⟩ => ?_
 ·rw [e1]; rw [e2]; rw [e3]; rw [e4]; exact Calls.mono walk fun e W' ⟨_, h1, h2, h3⟩ => ⟨by rw [h1]; exact congrArg _ h3, h2⟩
 ·subst he
  exact ⟨_, rfl, _, _, _, [], _, [], hW', trodAll_mk1 (shut_bool Try.underlying4 _), (trodAll_cons_mk (Below.trod laidOut (by kernel_rfl) (of_decide_eq_true (by kernel_rfl)) k0 bel lt0) (trodAll_cons_mk (Below.trod laidOut (by kernel_rfl) (of_decide_eq_true (by kernel_rfl)) k1 bel lt1) (trodAll_cons_mk (Below.trod laidOut (by kernel_rfl) (of_decide_eq_true (by kernel_rfl)) k2 bel lt2) (trodAll_cons_mk (Below.trod laidOut (by kernel_rfl) (of_decide_eq_true (by kernel_rfl)) k3 bel lt3) (trodAll_cons_mk (Below.trod laidOut (by kernel_rfl) (of_decide_eq_true (by kernel_rfl)) k4 bel lt4) trodAll_mk0))))), rfl, bel.frame _, fun h => by cases h⟩
theorem proved : Rows.CourtMoreSaid :=
 OpenClaim.holds_of_wide 7 Try.f7 rfl rfl rfl rfl rfl rfl rfl ⟨rfl, rfl, rfl, rfl, rfl⟩ rfl rfl rfl rfl rfl (by kernel_rfl) Try.func7 (by kernel_rfl)
  (of_decide_eq_true (by kernel_rfl)) (by unfold Func.isWrapper; first | (rw [if_pos (by decide +kernel)]; kernel_rfl) | (rw [if_neg (by decide +kernel)]; exact ⟨rfl, rfl⟩))
  (fun os started H enc _ => lifted os started H enc)
#print axioms proved
end Go.Proofs.Ytebmpjdegajhgaa.courtMoreDone
end
