/- For every case, world and wrong measurements, CourtTrue returns true, and its arguments read afterwards as before; no condition. -/
import Derived.Test.YtebmpjdegajhgaaKCTrueD
import Derived.SliceStrings
import Derived.ChangeSlices
import Derived.Lib.SmallJoins
import Derived.OpenShut
import Derived.ShutString
import Derived.ChangeOld
import Derived.Test.YtebmpjdegajhgaaRows
import Derived.WalkKit
import Derived.ProofKit
import Derived.Below
set_option linter.unusedSimpArgs false
set_option linter.unusedVariables false
section
set_option linter.unusedVariables false
set_option linter.unusedSimpArgs false
namespace Go.Lift
open Go Go.Eng
variable {α β γ δ ε σ τ : Type}
def Ok (c : Comp α) (P : α → Prop) : Prop := ∃ a, c.val = some a ∧ P a
namespace Ok
theorem ve {c : Comp α} {a : α} {P : α → Prop} (h : c.val = some a) : Ok c P ↔ P a := by
 constructor
 ·rintro ⟨b, h1, h2⟩; rw [h] at h1; cases h1; exact h2
 ·exact fun hp => ⟨a, h, hp⟩
theorem val {c : Comp α} {a : α} (h : Ok c (fun x => x = a)) : c.val = some a := by
 obtain ⟨b, h1, h2⟩ := h; rw [h1, h2]
theorem mono {c : Comp α} {P Q : α → Prop} (h : Ok c P) (i : ∀ a, P a → Q a) : Ok c Q := by
 obtain ⟨a, h1, h2⟩ := h; exact ⟨a, h1, i a h2⟩
theorem pure {a : α} {P : α → Prop} : Ok (Comp.pure a) P ↔ P a := ve (Comp.zK a)
theorem bind {c : Comp α} {f : α → Comp β} {P : β → Prop} : Ok (c.bind f) P ↔ Ok c fun a => Ok (f a) P := by
 unfold Ok
 rw [Comp.zH]
 cases hc : c.val with
 | none => simp
 | some a => simp
theorem ite {p : Prop} [Decidable p] {c d : Comp α} {P : α → Prop} : Ok (if p then c else d) P ↔ if p then Ok c P else Ok d P := by split <;> rfl
theorem ite_i {p : Prop} [Decidable p] {c d : Comp α} {P : α → Prop} (h1 : p → Ok c P) (h2 : ¬ p → Ok d P) : Ok (if p then c else d) P := by
 split
 ·rename_i h; exact h1 h
 ·rename_i h; exact h2 h
theorem gd {g : Bool} {c : Comp α} {d : α} {P : α → Prop} : Ok (Comp.gd g c d) P ↔ if g = true then Ok c P else P d := by
 cases g with
 | true => exact Iff.rfl
 | false => exact pure
theorem gd_i {g : Bool} {c : Comp α} {d : α} {P : α → Prop} (h1 : g = true → Ok c P) (h2 : g = false → P d) : Ok (Comp.gd g c d) P := by
 cases g with
 | true => exact h1 rfl
 | false => exact pure.2 (h2 rfl)
theorem idx {xs : List α} {i : Int} {P : α → Prop} {x : α} (h0 : 0 ≤ i) (h : xs[i.toNat]? = some x) : Ok (Lift.idx xs i) P ↔ P x := ve (idx_val' h0 h)
theorem idxn {xs : List α} {i : Nat} {P : α → Prop} {x : α} (h : xs[i]? = some x) : Ok (Lift.idx xs (i : Int)) P ↔ P x := ve (gb h)
theorem app {xs ys : List α} {P : List α → Prop} (h : xs.length + ys.length ≤ LIM) : Ok (Lift.app xs ys) P ↔ P (xs ++ ys) := ve (app_val h)
theorem sub {xs : List α} {l h : Int} {P : List α → Prop} (hr : 0 ≤ l ∧ l ≤ h ∧ h ≤ xs.length) : Ok (Lift.sub xs l h) P ↔ P ((xs.take h.toNat).drop l.toNat) := ve (sub_val hr)
theorem rem {a b : Int} {P : Int → Prop} (h : b ≠ 0) : Ok (Lift.rem a b) P ↔ P (a.tmod b) := ve (rem_val h)
theorem upd {xs : List α} {i : Int} {x : α} {P : List α → Prop} (h : 0 ≤ i ∧ i < xs.length) : Ok (Lift.upd xs i x) P ↔ P (xs.set i.toNat x) := ve (upd_val h)
theorem mk {n : Int} {z : α} {P : List α → Prop} (h : 0 ≤ n ∧ n ≤ LIM) : Ok (Lift.mk n z) P ↔ P (List.replicate n.toNat z) := ve (mk_val h)
theorem vf {n : Int} {P : Unit → Prop} (h : 0 ≤ n) : Ok (Lift.vf n) P ↔ P () := ve (gq h)
theorem loop {body : σ → Comp (Comp.Step σ ε)} (I : σ → Prop) (m : σ → Nat) {P : ε → Prop} {s : σ} (h0 : I s)
  (hb : ∀ s, I s → Ok (body s) fun t => match t with | .next s' => I s' ∧ m s' < m s | .done e => P e) : Ok (Comp.loop body s) P := by
 have key : ∀ k s, m s = k → I s → Ok (Comp.loop body s) P := by
  intro k
  induction k using Nat.strongRecOn with
  | _ k ih =>
   intro s hk hI
   obtain ⟨t, h1, h2⟩ := hb s hI
   cases t with
   | next s' =>
    obtain ⟨e, h3, h4⟩ := ih (m s') (by have := h2.2; omega) s' rfl h2.1
    exact ⟨e, by rw [Comp.val_loop, h1]; exact h3, h4⟩
   | done e => exact ⟨e, by rw [Comp.val_loop, h1]; rfl, h2⟩
 exact key _ s rfl h0
theorem count {body : σ → Comp (Comp.Step σ ε)} (N : Nat) (I : Nat → σ → Prop) {P : ε → Prop} {s : σ} (h0 : I 0 s)
  (hb : ∀ i s, i < N → I i s → Ok (body s) fun t => match t with | .next s' => I (i + 1) s' | .done e => P e)
  (he : ∀ s, I N s → Ok (body s) fun t => match t with | .next _ => False | .done e => P e) : Ok (Comp.loop body s) P := by
 have key : ∀ k i s, i + k = N → I i s → Ok (Comp.loop body s) P := by
  intro k
  induction k with
  | zero =>
   intro i s hi hI
   have : i = N := by omega
   subst this
   obtain ⟨t, h1, h2⟩ := he s hI
   cases t with
   | next _ => exact h2.elim
   | done e => exact ⟨e, by rw [Comp.val_loop, h1]; rfl, h2⟩
  | succ k ih =>
   intro i s hi hI
   obtain ⟨t, h1, h2⟩ := hb i s (by omega) hI
   cases t with
   | next s' =>
    obtain ⟨e, h3, h4⟩ := ih (i + 1) s' (by omega) h2
    exact ⟨e, by rw [Comp.val_loop, h1]; exact h3, h4⟩
   | done e => exact ⟨e, by rw [Comp.val_loop, h1]; rfl, h2⟩
 exact key N 0 s (by omega) h0
end Ok
theorem bif_or (b c : Bool) : (bif b then true else c) = (b || c) := by cases b <;> rfl
theorem bif_and (b c : Bool) : (bif b then c else false) = (b && c) := by cases b <;> rfl
end Go.Lift
end
section
set_option linter.unusedVariables false
set_option linter.unusedSimpArgs false
namespace Go.Crt
open Go Go.Lift Go.F Go.Cor
variable {α : Type}
theorem loop_find {xs : List α} (p : α → Bool) {body : Int → Comp (Comp.Step Int (Sum Int Unit))} (hb : ∀ (i : Nat) x, xs[i]? = some x → (body i).val = some (if p x = true then .done (.inl (i : Int)) else .next ((i + 1 : Nat) : Int)))
  (he : (body xs.length).val = some (.done (.inr ()))) :
  ∃ e, (Comp.loop body 0).val = some e ∧ ((e = .inr () ∧ xs.any p = false) ∨ ∃ i : Nat, e = .inl (i : Int) ∧ i < xs.length ∧ (∃ x, xs[i]? = some x ∧ p x = true) ∧ (xs.take i).any p = false) := by
 have key : Ok (Comp.loop body 0) (fun e => (e = .inr () ∧ xs.any p = false) ∨ ∃ i : Nat, e = .inl (i : Int) ∧ i < xs.length ∧ (∃ x, xs[i]? = some x ∧ p x = true) ∧ (xs.take i).any p = false) := by
  refine Ok.count xs.length (fun i (s : Int) => s = (i : Int) ∧ (xs.take i).any p = false) ⟨rfl, by simp⟩ ?_ ?_
  ·rintro i s hi ⟨rfl, ha⟩
   have hx := List.getElem?_eq_getElem hi
   rw [Ok.ve (hb i _ hx)]
   by_cases h : p xs[i] = true
   ·rw [if_pos h]; exact .inr ⟨i, rfl, hi, ⟨_, hx, h⟩, ha⟩
   ·rw [if_neg h]
    refine ⟨rfl, ?_⟩
    rw [List.take_succ_eq_append_getElem hi, List.any_append, ha]; simpa using h
  ·rintro s ⟨rfl, ha⟩
   rw [Ok.ve he]
   exact .inl ⟨rfl, by rwa [List.take_length] at ha⟩
 obtain ⟨e, h1, h2⟩ := key
 exact ⟨e, h1, h2⟩
theorem any_of_get {xs : List α} {p : α → Bool} {i : Nat} (h : ∃ x, xs[i]? = some x ∧ p x = true) : xs.any p = true := by
 obtain ⟨x, h1, h2⟩ := h
 exact List.any_eq_true.2 ⟨x, List.mem_of_getElem? h1, h2⟩
theorem contains_any (x : Int) : ∀ l : List Int, l.contains x = l.any fun y => decide (x = y)
 | [] => rfl
 | y :: l => by rw [List.contains_cons, List.any_cons, contains_any x l]; rfl
theorem has_val {l : List Int} (x : Int) (hl : l.length ≤ LIM) : (yQ l x).val = some (l.contains x) := by
 have hL := LIM_lt
 obtain ⟨e, h1, h2⟩ := loop_find (xs := l) (fun y => decide (x = y)) (body := fun s => yf l x s) (by
  intro i y hy
  have hi := yZ hy
  unfold yf
  rw [gw, Comp.zb, if_pos (by simpa using hi), Comp.zH, gb hy, Option.bind_some, Comp.zb]
  by_cases h : x = y
  ·simp [h]
  ·simp [h, Comp.zQ (show i < 9223372036854775807 by omega)]) (by
  unfold yf
  rw [Comp.zb, if_neg (by simp), Comp.zK])
 have hc := contains_any x l
 unfold yQ jI
 rw [Comp.zH, Comp.zH, h1, Option.bind_some, hc]
 rcases h2 with ⟨rfl, h3⟩ | ⟨i, rfl, _, h3, _⟩
 ·rw [h3]; simp [gY]
 ·rw [any_of_get h3]; simp
def incB : List Int → Bool
 | [] => true
 | [_] => true
 | x :: y :: l => decide (x < y) && incB (y :: l)
theorem incB_iff : ∀ {l : List Int}, incB l = true ↔ ∀ i, i + 1 < l.length → l[i]! < l[i + 1]!
 | [] => by simp [incB]
 | [_] => by simp [incB]
 | x :: y :: l => by
  rw [incB, Bool.and_eq_true, decide_eq_true_iff, incB_iff]
  constructor
  ·rintro ⟨h1, h2⟩ i hi
   cases i with
   | zero => simpa using h1
   | succ i => simpa using h2 i (by simpa using hi)
  ·intro h
   refine ⟨by simpa using h 0 (by simp), fun i hi => by simpa using h (i + 1) (by simpa using hi)⟩
theorem less_val (a b : Int) : (cmp_Less_int a b).val = some (decide (a < b)) := by
 unfold cmp_Less_int cmp_isNaN_int
 simp [Comp.zH, Comp.zK, Comp.gd]
def sortedB (l : List Int) : Bool := decide (∀ i, i < l.length - 1 → l[i]! ≤ l[i + 1]!)
theorem issorted_val {l : List Int} (hl : l.length ≤ LIM) : (vA l).val = some (sortedB l) := by
 have hL := LIM_lt
 have key : Ok (vA l) (fun b => b = sortedB l) := by
  unfold vA
  rw [Ok.bind, Ok.pure, Ok.bind]
  refine Ok.mono (P := fun e => (e = .inr () ∧ sortedB l = true) ∨ (e = .inl false ∧ sortedB l = false)) ?_ (fun e he => by
   rcases he with ⟨rfl, h⟩ | ⟨rfl, h⟩
   ·unfold vn; exact Ok.pure.2 h.symm
   ·exact Ok.pure.2 h.symm)
  refine Ok.loop (fun s : Int => s < l.length ∧ -1 ≤ s ∧ ∀ j : Nat, s ≤ (j : Int) → j + 1 < l.length → l[j]! ≤ l[j + 1]!) (fun s => (s + 1).toNat) ⟨?_, ?_, ?_⟩ ?_
  ·rw [IntWalk.i64_in _ ⟨by omega, by omega⟩]; omega
  ·rw [IntWalk.i64_in _ ⟨by omega, by omega⟩]; omega
  ·rw [IntWalk.i64_in _ ⟨by omega, by omega⟩]; intro j h1 h2; omega
  rintro s ⟨h1, h2, h3⟩
  unfold vE
  by_cases hs : 0 < s
  ·obtain ⟨i, rfl⟩ : ∃ i : Nat, s = (i : Int) := ⟨s.toNat, by omega⟩
   have hlt : i < l.length := by omega
   have e1 : IntKind.wrap .i64 ((i : Int) - 1) = ((i - 1 : Nat) : Int) := by rw [IntWalk.i64_in _ ⟨by omega, by omega⟩]; omega
   have g1 : l[i]? = some l[i]! := by rw [getElem!_pos l i hlt]; exact List.getElem?_eq_getElem hlt
   have g2 : l[i - 1]? = some l[i - 1]! := by rw [getElem!_pos l (i - 1) (by omega)]; exact List.getElem?_eq_getElem (by omega)
   rw [Ok.ite, if_pos (by simpa using hs), Ok.bind, Ok.idxn g1, Ok.bind, e1, Ok.idxn g2, Ok.bind, Ok.ve (less_val _ _)]
   refine Ok.ite_i (fun hc => ?_) (fun hc => ?_)
   ·rw [decide_eq_true_iff] at hc
    rw [Ok.pure]
    refine .inr ⟨rfl, ?_⟩
    unfold sortedB
    rw [decide_eq_false_iff_not]
    intro ha
    have := ha (i - 1) (by omega)
    rw [show i - 1 + 1 = i by omega] at this
    omega
   ·rw [decide_eq_true_iff] at hc
    rw [Ok.pure]
    refine ⟨⟨by omega, by omega, fun j hj hj2 => ?_⟩, by omega⟩
    by_cases hji : j + 1 = i
    ·subst hji; rw [show j + 1 - 1 = j by omega] at hc; omega
    ·exact h3 j (by omega) hj2
  ·rw [Ok.ite, if_neg (by simpa using hs), Ok.pure]
   refine .inl ⟨rfl, ?_⟩
   unfold sortedB
   rw [decide_eq_true_iff]
   intro j hj
   exact h3 j (by omega) (by omega)
 exact Ok.val key
theorem keeps_all {l : List Int} (hs : sortedB l = true) : (Lib.compact l).length = l.length ↔ incB l = true := by
 unfold sortedB at hs
 rw [decide_eq_true_iff] at hs
 have e : (Lib.compact l).length = l.length ↔ ∀ j ∈ List.range l.length, Lib.keeps l.toArray j = true := by
  have h := List.length_filter_eq_length_iff (l := List.range l.length) (p := fun j => Lib.keeps l.toArray j)
  rw [List.length_range] at h
  unfold Lib.compact Lib.compactUpTo
  rw [List.length_map]
  exact h
 rw [e, incB_iff]
 constructor
 ·intro h i hi
  have h1 := hs i (by omega)
  rcases keeps_iff.1 (h (i + 1) (List.mem_range.2 hi)) with h2 | h2
  ·omega
  ·have h3 : l[i + 1]! ≠ l[i]! := by simpa using h2
   omega
 ·intro h j hj
  rw [keeps_iff]
  have hj' := List.mem_range.1 hj
  by_cases h0 : j = 0
  ·exact .inl h0
  ·right
   have h1 := h (j - 1) (by omega)
   rw [show j - 1 + 1 = j by omega] at h1
   have h2 : l[j]! ≠ l[j - 1]! := by omega
   simpa using h2
theorem inc_sorted {l : List Int} (h : incB l = true) : sortedB l = true := by
 unfold sortedB
 rw [decide_eq_true_iff]
 intro i hi
 have := incB_iff.1 h i (by omega)
 omega
theorem sorted_val {l : List Int} (hl : l.length ≤ LIM) : (court_sorted l).val = some (incB l) := by
 unfold court_sorted
 rw [Comp.zH, issorted_val hl, Option.bind_some]
 cases hs : sortedB l with
 | false =>
  have hi : incB l = false := by
   cases h : incB l with
   | false => rfl
   | true => rw [inc_sorted h] at hs; cases hs
  simp [Comp.zH, Comp.gd, Comp.zK, hi]
 | true =>
  have hc : (yk l).val = some l := by
   unfold yk
   rw [Comp.zH, app_val (by simpa using hl), Option.bind_some, Comp.zK, List.nil_append]
  have hk : (compactI l).val = some (Lib.compact l) := by unfold compactI; rw [if_pos hl, Comp.zK]
  rw [show (true == true) = true from rfl, Comp.zH]
  show ((yk l).val.bind _) = _
  rw [hc, Option.bind_some, Comp.zH]
  show ((compactI l).val.bind _) = _
  rw [hk, Option.bind_some, Comp.zH, Comp.zK, Option.bind_some, Comp.zK]
  congr 1
  show decide (((Lib.compact l).length : Int) = (l.length : Int)) = incB l
  cases h : incB l with
  | true => rw [decide_eq_true_iff, (keeps_all hs).2 h]
  | false =>
   rw [decide_eq_false_iff_not]
   intro e
   have := (keeps_all hs).1 (by omega)
   rw [this] at h; cases h
theorem indexF_val {l : List Int} (hl : l.length ≤ LIM) {f : Int → Comp Bool} {p : Int → Bool} (hf : ∀ x ∈ l, (f x).val = some (p x)) :
  ∃ e, (yU l f).val = some e ∧ ((e = -1 ∧ l.any p = false) ∨ ∃ i : Nat, e = (i : Int) ∧ i < l.length ∧ (∃ x, l[i]? = some x ∧ p x = true) ∧ (l.take i).any p = false) := by
 have hL := LIM_lt
 obtain ⟨e, h1, h2⟩ := loop_find (xs := l) p (body := fun s => ze l f s) (by
  intro i y hy
  have hi := yZ hy
  unfold ze
  rw [gw, Comp.zb, if_pos (by simpa using hi), Comp.zH, gb hy, Option.bind_some, Comp.zH, hf y (List.mem_of_getElem? hy), Option.bind_some, Comp.zb, Comp.zK, Comp.zK, Comp.zQ (show i < 9223372036854775807 by omega)]
  by_cases h : p y = true <;> simp [h]) (by
  unfold ze
  rw [Comp.zb, if_neg (by simp), Comp.zK])
 unfold yU
 rw [Comp.zH, h1, Option.bind_some]
 rcases h2 with ⟨rfl, h3⟩ | ⟨i, rfl, h3, h4, h5⟩
 ·exact ⟨-1, by simp [yu], .inl ⟨rfl, h3⟩⟩
 ·exact ⟨(i : Int), by simp, .inr ⟨i, rfl, h3, h4, h5⟩⟩
theorem delete_val {l : List Int} (hl : l.length ≤ LIM) {f : Int → Comp Bool} {p : Int → Bool} (hf : ∀ x ∈ l, (f x).val = some (p x)) : (vL l f).val = some (l.filter fun x => !p x) := by
 have hL := LIM_lt
 obtain ⟨e, h1, h2⟩ := indexF_val hl hf
 unfold vL
 rw [Comp.zH, h1, Option.bind_some, Comp.zb]
 rcases h2 with ⟨rfl, h3⟩ | ⟨i, rfl, h3, h4, h5⟩
 ·rw [if_pos (by simp), Comp.zK]
  congr 1
  symm
  rw [List.filter_eq_self]
  intro x hx
  have := List.any_eq_false.1 h3 x hx
  simpa using this
 ·rw [if_neg (by simp), Comp.zQ (by omega)]
  have key : Ok (Comp.loop (fun s : List Int × Int × Int => yH f s.1 s.2.1 s.2.2) (l, (i : Int), ((i + 1 : Nat) : Int))) (fun r => ∃ k : Nat, r.2 = (k : Int) ∧ k ≤ l.length ∧ r.1.length = l.length ∧ r.1.take k = l.filter fun x => !p x) := by
   obtain ⟨x0, hx0, hp0⟩ := h4
   refine Ok.loop (fun s => ∃ k j : Nat, s.2.1 = (k : Int) ∧ s.2.2 = (j : Int) ∧ k < j ∧ j ≤ l.length ∧ s.1.length = l.length ∧ s.1.take k = (l.take j).filter (fun x => !p x) ∧ s.1.drop j = l.drop j) (fun s => l.length - s.2.2.toNat) ⟨i, i + 1, rfl, rfl, by omega, by omega, rfl, ?_, rfl⟩ ?_
   ·have hx1 : l[i] = x0 := by rw [List.getElem?_eq_getElem h3] at hx0; exact Option.some.inj hx0
    rw [List.take_succ_eq_append_getElem h3, List.filter_append, hx1]
    rw [List.filter_eq_self.2 (fun x hx => by have := List.any_eq_false.1 h5 x hx; simpa using this)]
    simp [hp0]
   ·rintro ⟨a, u, v⟩ ⟨k, j, rfl, rfl, hkj, hjl, hal, ht, hd⟩
    dsimp only at *
    unfold yH
    by_cases hlt : j < l.length
    ·have hg : a[j]? = some l[j] := by
      have := congrArg (·[0]?) hd
      simpa [List.getElem?_drop, List.getElem?_eq_getElem hlt] using this
     have hx := List.getElem_mem hlt
     rw [Ok.ite, if_pos (by simp; omega), Ok.bind, Ok.idxn hg, Ok.bind, Ok.ve (hf _ hx)]
     have hd2 : ∀ b : List Int, b.length = l.length → (∀ m, j < m → b[m]? = a[m]?) → b.drop (j + 1) = l.drop (j + 1) := by
      intro b hb hm
      apply List.ext_getElem?
      intro m
      rw [List.getElem?_drop, List.getElem?_drop, hm _ (by omega)]
      have := congrArg (·[m + 1]?) hd
      simp only [List.getElem?_drop] at this
      rw [show j + 1 + m = j + (m + 1) by omega]; exact this
     refine Ok.ite_i (fun hc => ?_) (fun hc => ?_)
     ·have hp : p l[j] = false := by simpa using hc
      have hk : k < a.length := by omega
      rw [Ok.bind, Ok.idxn (List.getElem?_eq_getElem hk), Ok.bind, Ok.upd (by omega), Int.toNat_natCast]
      unfold yT
      rw [Ok.pure]
      refine ⟨⟨k + 1, j + 1, Comp.zQ (by omega), Comp.zQ (by omega), by omega, by omega, by simp [hal], ?_, hd2 _ (by simp [hal]) fun m hm => by rw [List.getElem?_set_ne (by omega)]⟩, ?_⟩
      ·rw [List.take_succ_eq_append_getElem (by simpa using hk), List.getElem_set_self, List.take_set_of_le (by omega), ht, List.take_succ_eq_append_getElem hlt, List.filter_append]
       simp [hp]
      ·show l.length - (IntKind.wrap .i64 ((j : Int) + 1)).toNat < l.length - ((j : Int)).toNat
       rw [Comp.zQ (by omega)]; omega
     ·have hp : p l[j] = true := by simpa using hc
      unfold yT
      rw [Ok.pure]
      refine ⟨⟨k, j + 1, rfl, Comp.zQ (by omega), by omega, by omega, hal, ?_, hd2 a hal fun m _ => rfl⟩, ?_⟩
      ·rw [ht, List.take_succ_eq_append_getElem hlt, List.filter_append]
       simp [hp]
      ·show l.length - (IntKind.wrap .i64 ((j : Int) + 1)).toNat < l.length - ((j : Int)).toNat
       rw [Comp.zQ (by omega)]; omega
    ·rw [Ok.ite, if_neg (by simp; omega), Ok.pure]
     refine ⟨k, rfl, by omega, hal, ?_⟩
     rw [ht, List.take_of_length_le (by omega)]
  obtain ⟨⟨a, u⟩, h6, k, h7, h8, h9, h10⟩ := key
  dsimp only at h7 h9 h10
  subst h7
  rw [Comp.zH]
  show ((Comp.loop (fun s : List Int × Int × Int => yH f s.1 s.2.1 s.2.2) (l, (i : Int), ((i + 1 : Nat) : Int))).val.bind _) = _
  rw [h6, Option.bind_some]
  show (yo a (k : Int)).val = _
  unfold yo
  rw [Comp.zH, sub_val ⟨by omega, by omega, by omega⟩, Option.bind_some, Comp.zH, sub_val ⟨by omega, by omega, by simp; omega⟩, Option.bind_some, Comp.zK]
  congr 1
  rw [Int.toNat_natCast, Int.toNat_zero, List.drop_zero, List.take_append_of_le_length (by simp; omega), List.take_take, Nat.min_self, h10]
end Go.Crt
end
section
set_option linter.unusedVariables false
set_option linter.unusedSimpArgs false
namespace Go.Crt
open Go Go.Lift Go.F Go.Cor
variable {α β : Type}
def outB (m n : Int) : Bool := decide (n < 0) || decide (n ≥ m)
theorem outside_val {l : List Int} (m : Int) (hl : l.length ≤ LIM) : (court_outside l m).val = some (l.any (outB m)) := by
 unfold court_outside
 rw [Comp.zH, contains_val hl (p := outB m) (fun x _ => by unfold jh; rw [Comp.zH, Comp.zK, Option.bind_some, Comp.zK, bif_or]; rfl), Option.bind_some, Comp.zK]
def partB (l all : List Int) : Bool := !l.any fun n => !all.contains n
def SmallC (x : api_Claim) : Prop := x.Sure.length ≤ LIM ∧ x.Touched.length ≤ LIM
def p1 (x : api_Claim) : Bool := decide (x.Party < -1) || decide (x.Party ≥ 6)
def p2 (x : api_Claim) : Bool := decide (x.Kind < 1) || decide (x.Kind > 3)
def p6 (x : api_Claim) : Bool := decide (x.Gauge < 0) || decide (x.Gauge ≥ 8)
def claimE (x : api_Claim) (m : Int) : Int :=
 if p1 x = true then 55 else if p2 x = true then 4 else if (!incB x.Sure || !incB x.Touched) = true then 7 else if (x.Sure.any (outB m) || x.Touched.any (outB m)) = true then 3
 else if ((decide (x.Kind ≠ 3) && decide (x.Gauge ≠ 0)) || (decide (x.Kind ≠ 2) && decide ((x.Sure.length : Int) > 0)) || (decide (x.Kind = 3) && decide ((x.Touched.length : Int) > 0)) || !partB x.Sure x.Touched) = true then 4
 else if p6 x = true then 3 else 0
theorem check_val {x : api_Claim} (m : Int) (h : SmallC x) : (court_check x m).val = some (claimE x m) := by
 have h1 := sorted_val h.1
 have h2 := sorted_val h.2
 have h3 := outside_val m h.1
 have h4 := outside_val m h.2
 have h5 := contains_val h.1 (f := fun z0 => jF z0 x) (p := fun n => !x.Touched.contains n) (fun n _ => by unfold jF; rw [Comp.zH, has_val n h.2, Option.bind_some, Comp.zK])
 have h5' : (zi x.Sure (fun z0 => jF z0 x)).val = some (!partB x.Sure x.Touched) := by rw [h5]; unfold partB; rw [Bool.not_not]
 unfold court_check jE claimE
 simp only [Comp.zH, Comp.zK, Option.bind_some, Comp.zb, Comp.val_gd, h1, h2, h3, h4, h5']
 rw [bif_or, bif_or, bif_or, bif_and, bif_and, bif_and]
 change (if p1 x = true then some 55 else if p2 x = true then some 4 else _) = _
 generalize p1 x = b1
 generalize p2 x = b2
 generalize incB x.Sure = b3
 generalize incB x.Touched = b4
 generalize x.Sure.any (outB m) = b5
 generalize x.Touched.any (outB m) = b6
 generalize (decide (x.Kind ≠ 3) && decide (x.Gauge ≠ 0)) = b7
 generalize (decide (x.Kind ≠ 2) && decide ((x.Sure.length : Int) > 0)) = b8
 generalize (decide (x.Kind = 3) && decide ((x.Touched.length : Int) > 0)) = b9
 generalize partB x.Sure x.Touched = b10
 have e6 : (bif decide (x.Gauge < 0) then true else decide (x.Gauge ≥ 8)) = p6 x := by rw [bif_or]; rfl
 have e6b : (decide (x.Gauge < 0) || decide (x.Gauge ≥ 8)) = p6 x := rfl
 first | rw [e6] | rw [e6b]
 generalize p6 x = b11
 cases b1; rotate_left; · rfl
 cases b2; rotate_left; · rfl
 cases b3; · rfl
 cases b4; · rfl
 cases b5; rotate_left; · rfl
 cases b6; rotate_left; · rfl
 cases b7; rotate_left; · rfl
 cases b8; rotate_left; · rfl
 cases b9; rotate_left; · rfl
 cases b10; · rfl
 cases b11 <;> rfl
structure GoodC (x : api_Claim) (m : Int) : Prop where
 party : -1 ≤ x.Party ∧ x.Party < 6
 kind : 1 ≤ x.Kind ∧ x.Kind ≤ 3
 gauge : x.Kind ≠ 3 → x.Gauge = 0
 sure : x.Kind ≠ 2 → x.Sure = []
 touched : x.Kind = 3 → x.Touched = []
 part : ∀ n, n ∈ x.Sure → n ∈ x.Touched
 range : 0 ≤ x.Gauge ∧ x.Gauge < 8
theorem goodC {x : api_Claim} {m : Int} (h : claimE x m = 0) : GoodC x m := by
 unfold claimE at h
 split at h; · cases h
 split at h; · cases h
 split at h; · cases h
 split at h; · cases h
 split at h; · cases h
 split at h; · cases h
 rename_i h1 h2 h3 h4 h5 h6
 simp only [p1, p2, p6, Bool.or_eq_true, Bool.and_eq_true, decide_eq_true_iff, not_or, not_and, Bool.not_eq_true', Bool.not_eq_false] at h1 h2 h5 h6
 obtain ⟨⟨⟨h7, h8⟩, h9⟩, h10⟩ := h5
 refine ⟨by omega, by omega, fun hk => by have := h7 hk; omega, fun hk => ?_, fun hk => ?_, ?_, by omega⟩
 ·have := h8 hk; exact List.eq_nil_of_length_eq_zero (by omega)
 ·have := h9 hk; exact List.eq_nil_of_length_eq_zero (by omega)
 ·intro n hn
  unfold partB at h10
  simp only [Bool.not_eq_true', List.any_eq_false, Bool.not_eq_true, Bool.not_eq_false'] at h10
  have := h10 n hn
  simpa using this
def dupB (pre : List api_Claim) (x : api_Claim) : Bool := pre.any fun y => decide (y.Kind = x.Kind) && (decide (x.Kind = 1) || (decide (x.Kind = 3) && decide (y.Gauge = x.Gauge)))
def goE (m : Int) : List api_Claim → List api_Claim → Option Int
 | _, [] => none
 | pre, x :: xs => if claimE x m ≠ 0 then some (claimE x m) else if dupB pre x = true then some 6 else goE m (pre ++ [x]) xs
theorem goE_cons (m : Int) (pre : List api_Claim) (x : api_Claim) (xs : List api_Claim) : goE m pre (x :: xs) = if claimE x m ≠ 0 then some (claimE x m) else if dupB pre x = true then some 6 else goE m (pre ++ [x]) xs := rfl
def toE : Option Int → Sum Int Unit
 | some c => .inl c
 | none => .inr ()
theorem drop_cons {C : List α} {i : Nat} (h : i < C.length) : C.drop i = C[i] :: C.drop (i + 1) := List.drop_eq_getElem_cons h
theorem take_snoc {C : List α} {i : Nat} (h : i < C.length) : C.take (i + 1) = C.take i ++ [C[i]] := List.take_succ_eq_append_getElem h
theorem mget_mput {κ ν : Type} [DecidableEq κ] (x y : κ) (v : ν) : ∀ m : List (κ × ν), mget (mput m x v) y = if y = x then some v else mget m y
 | [] => by
  unfold mput mget
  by_cases h : y = x
  ·simp [h]
  ·simp [h, mget]
 | p :: ps => by
  unfold mput
  by_cases h : x = p.1
  ·rw [if_pos h]
   by_cases h2 : y = x
   ·simp [mget, h2]
   ·simp [mget, h2, h ▸ h2]
  ·rw [if_neg h]
   unfold mget
   by_cases h2 : y = p.1
   ·rw [if_pos h2, if_pos h2, if_neg (fun e => h (by rw [← e, h2]))]
   ·rw [if_neg h2, if_neg h2]; exact mget_mput x y v ps
theorem v2_eq {a b c d : Int} : ((#v[a, b] : Vector Int 2) = #v[c, d]) ↔ a = c ∧ b = d := by
 constructor
 ·intro h
  have h1 := congrArg (fun v : Vector Int 2 => v[0]) h
  have h2 := congrArg (fun v : Vector Int 2 => v[1]) h
  exact ⟨by simpa using h1, by simpa using h2⟩
 ·rintro ⟨rfl, rfl⟩; rfl
def metB (pre : List api_Claim) (k g : Int) : Bool := pre.any fun y => decide (y.Kind ≠ 2) && (decide (k = y.Kind) && decide (g = y.Gauge))
theorem dup_met {pre : List api_Claim} {x : api_Claim} {m : Int} (hp : ∀ y ∈ pre, GoodC y m) (hx : GoodC x m) (hk : x.Kind ≠ 2) : dupB pre x = metB pre x.Kind x.Gauge := by
 unfold dupB metB
 rw [Bool.eq_iff_iff, List.any_eq_true, List.any_eq_true]
 have hx1 := hx.kind
 have hx2 := hx.gauge
 constructor
 ·rintro ⟨y, h1, h2⟩
  have hy := hp y h1
  have hy2 := hy.gauge
  refine ⟨y, h1, ?_⟩
  simp only [Bool.and_eq_true, Bool.or_eq_true, decide_eq_true_iff] at h2 ⊢
  omega
 ·rintro ⟨y, h1, h2⟩
  have hy := hp y h1
  have hy2 := hy.gauge
  refine ⟨y, h1, ?_⟩
  simp only [Bool.and_eq_true, Bool.or_eq_true, decide_eq_true_iff] at h2 ⊢
  omega
theorem dup_two {pre : List api_Claim} {x : api_Claim} (hk : x.Kind = 2) : dupB pre x = false := by
 unfold dupB
 rw [List.any_eq_false]
 intro y _ h
 simp only [Bool.and_eq_true, Bool.or_eq_true, decide_eq_true_iff] at h
 omega
theorem check_loop {C : List api_Claim} {m : Int} (hC : ∀ x ∈ C, SmallC x) (hl : C.length ≤ 10) : (Comp.loop (fun s : List (Vector Int 2 × Bool) × Int => vb C m s.1 s.2) ([], 0)).val = some (toE (goE m [] C)) := by
 have key : Ok (Comp.loop (fun s : List (Vector Int 2 × Bool) × Int => vb C m s.1 s.2) ([], 0)) (fun e => e = toE (goE m [] C)) := by
  refine Ok.count C.length (fun i s => s.2 = (i : Int) ∧ goE m [] C = goE m (C.take i) (C.drop i) ∧ (∀ y ∈ C.take i, GoodC y m) ∧ ∀ k g, (mget s.1 (#v[k, g] : Vector Int 2)).getD false = metB (C.take i) k g) ⟨rfl, by simp, by simp, fun k g => rfl⟩ ?_ ?_
  ·rintro i ⟨mp, s⟩ hi ⟨h0, h, hpre, hmet⟩
   dsimp only at h0 hmet
   subst h0
   have hg := List.getElem?_eq_getElem hi
   show Ok (vb C m mp (i : Int)) _
   unfold vb
   rw [Ok.ite, if_pos (by simp; omega), Ok.bind, Ok.idxn hg, Ok.bind, Ok.ve (check_val m (hC _ (List.getElem_mem hi)))]
   rw [drop_cons hi, goE_cons] at h
   refine Ok.ite_i (fun hc => ?_) (fun hc => ?_)
   ·rw [decide_eq_true_iff] at hc
    rw [if_pos hc] at h
    rw [Ok.pure, h]; rfl
   ·rw [decide_eq_true_iff] at hc
    rw [if_neg hc] at h
    have hx : GoodC C[i] m := goodC (by omega)
    have hpre2 : ∀ y ∈ C.take (i + 1), GoodC y m := by
     rw [take_snoc hi]
     intro y hy
     rcases List.mem_append.1 hy with h | h
     ·exact hpre y h
     ·rw [List.mem_singleton] at h; subst h; exact hx
    refine Ok.ite_i (fun hk => ?_) (fun hk => ?_)
    ·rw [decide_eq_true_iff] at hk
     rw [Ok.bind, Ok.pure, hmet, ← dup_met hpre hx hk]
     refine Ok.ite_i (fun hb => ?_) (fun hb => ?_)
     ·rw [if_pos hb] at h
      rw [Ok.pure, h]; rfl
     ·rw [if_neg hb] at h
      unfold jk
      rw [Ok.pure]
      refine ⟨Comp.zQ (by omega), by rw [take_snoc hi]; exact h, hpre2, fun k g => ?_⟩
      dsimp only
      rw [mget_mput, take_snoc hi]
      unfold metB
      rw [List.any_append]
      have hm2 := hmet k g
      unfold metB at hm2
      rw [← hm2]
      by_cases e : (#v[k, g] : Vector Int 2) = #v[C[i].Kind, C[i].Gauge]
      ·rw [if_pos e]
       rw [v2_eq] at e
       simp [e.1, e.2, hk]
      ·rw [if_neg e]
       rw [v2_eq] at e
       have : ([C[i]].any fun y => decide (y.Kind ≠ 2) && (decide (k = y.Kind) && decide (g = y.Gauge))) = false := by
        rw [List.any_eq_false]
        intro y hy
        rw [List.mem_singleton] at hy
        subst hy
        simp only [Bool.and_eq_true, decide_eq_true_iff]
        exact fun q => e q.2
       rw [this, Bool.or_false]
    ·rw [decide_eq_true_iff, ne_eq, Decidable.not_not] at hk
     rw [dup_two hk, if_neg (by simp)] at h
     unfold jk
     rw [Ok.pure]
     refine ⟨Comp.zQ (by omega), by rw [take_snoc hi]; exact h, hpre2, fun k g => ?_⟩
     dsimp only
     rw [hmet, take_snoc hi]
     unfold metB
     rw [List.any_append]
     simp [hk]
  ·rintro ⟨mp, s⟩ ⟨h0, h, _⟩
   dsimp only at h0
   subst h0
   show Ok (vb C m mp (C.length : Int)) _
   unfold vb
   rw [Ok.ite, if_neg (by simp), Ok.pure, h]
   rw [List.drop_length]; rfl
 exact Ok.val key
def farB (m : Int) (x : api_Sight) : Bool := ((decide (x.Gauge < 0) || decide (x.Gauge ≥ 8)) || decide (x.Cell < 0)) || decide (x.Cell ≥ m)
theorem sights_val {l : List api_Sight} {m : Int} (hl : l.length ≤ 40) : (court_Check_j1 l m).val = some (if l.any (farB m) then 3 else 0) := by
 have := Comp.loop_any (body := fun s => gC l m s) l (farB m) 3 (by
  intro i y hy
  have hi := yZ hy
  show (gC l m (i : Int)).val = _
  unfold gC
  rw [gw, Comp.zb, if_pos (by simpa using hi), Comp.zH, gb hy, Option.bind_some, Comp.zH, Comp.zK, Option.bind_some, Comp.zb, Comp.zK, Comp.zK, Comp.zQ (by omega), bif_or, bif_or, bif_or]
  unfold farB
  split <;> rfl) (by
  show (gC l m (l.length : Int)).val = _
  unfold gC
  rw [Comp.zb, if_neg (by simp), Comp.zK])
 unfold court_Check_j1
 rw [Comp.zH, this, Option.bind_some]
 cases l.any (farB m)
 ·simp [court_Check_j4]
 ·simp
def checkE (C : List api_Claim) (l : List api_Sight) (m : Int) : Int :=
 if (decide (m < 1) || decide (m > 16)) = true then 3 else if (decide ((C.length : Int) > 10) || decide ((l.length : Int) > 40)) = true then 2
 else match goE m [] C with | some c => c | none => if l.any (farB m) then 3 else 0
theorem Check_val {C : List api_Claim} {l : List api_Sight} (m : Int) (hC : ∀ x ∈ C, SmallC x) : (court_Check C l m).val = some (checkE C l m) := by
 unfold court_Check checkE
 rw [Comp.zH, Comp.zK, Option.bind_some, Comp.zb, bif_or]
 split
 ·rw [Comp.zK]
 rw [Comp.zH, Comp.zK, Option.bind_some, Comp.zb, bif_or]
 split
 ·rw [Comp.zK]
 rename_i h1 h2
 simp only [Bool.or_eq_true, decide_eq_true_iff, not_or] at h2
 rw [Comp.zH, check_loop hC (by omega), Option.bind_some]
 cases goE m [] C with
 | some c => exact Comp.zK c
 | none => exact sights_val (by omega)
structure GoodL (C : List api_Claim) (l : List api_Sight) (m : Int) : Prop where
 cells : 1 ≤ m ∧ m ≤ 16
 len : C.length ≤ 10 ∧ l.length ≤ 40
 each : ∀ x ∈ C, GoodC x m
 one : ∀ (i j : Nat) (x y : api_Claim), C[i]? = some x → C[j]? = some y → x.Kind = 1 → y.Kind = 1 → i = j
theorem goE_good {m : Int} : ∀ (C pre : List api_Claim), goE m pre C = none → (∀ x ∈ C, GoodC x m ∧ ∃ z, z = x) ∧ (∀ i x, C[i]? = some x → x.Kind = 1 → ∀ y, y ∈ pre ++ C.take i → y.Kind ≠ 1)
 | [], pre, _ => ⟨by simp, by simp⟩
 | x :: C, pre, h => by
  unfold goE at h
  split at h; · cases h
  split at h; · cases h
  rename_i h1 h2
  have ih := goE_good C (pre ++ [x]) h
  refine ⟨?_, ?_⟩
  ·intro y hy
   rcases List.mem_cons.1 hy with rfl | hy
   ·exact ⟨goodC (by simpa using h1), _, rfl⟩
   ·exact ih.1 y hy
  ·intro i y hy hk z hz
   cases i with
   | zero =>
    simp at hy; subst hy
    simp at hz
    intro hz1
    apply h2
    unfold dupB
    rw [List.any_eq_true]
    exact ⟨z, hz, by simp [hz1, hk]⟩
   | succ i =>
    exact ih.2 i y (by simpa using hy) hk z (by simpa using hz)
theorem goodL {C : List api_Claim} {l : List api_Sight} {m : Int} (h : checkE C l m = 0) : GoodL C l m := by
 unfold checkE at h
 split at h; · cases h
 split at h; · cases h
 rename_i h1 h2
 simp only [Bool.or_eq_true, decide_eq_true_iff, not_or] at h1 h2
 have hg : goE m [] C = none ∨ ∃ c, goE m [] C = some c ∧ c = 0 := by
  cases e : goE m [] C with
  | none => exact .inl rfl
  | some c => rw [e] at h; exact .inr ⟨c, rfl, h⟩
 have hno : ∀ (C pre : List api_Claim) c, goE m pre C = some c → c ≠ 0 := by
  intro C
  induction C with
  | nil => intro pre c h; cases h
  | cons x C ih =>
   intro pre c h
   unfold goE at h
   split at h
   ·rename_i hx; cases h; exact hx
   split at h
   ·cases h; decide
   ·exact ih _ _ h
 rcases hg with hg | ⟨c, hg, rfl⟩
 ·obtain ⟨h3, h4⟩ := goE_good C [] hg
  refine ⟨by omega, by omega, fun x hx => (h3 x hx).1, ?_⟩
  intro i j x y hx hy hkx hky
  rcases Nat.lt_trichotomy i j with hlt | he | hlt
  ·exact absurd hkx (h4 j y hy hky x (by
    rw [List.nil_append]
    have hj := yZ hy
    exact List.mem_of_getElem? (i := i) (by rw [List.getElem?_take_of_lt hlt]; exact hx)))
  ·exact he
  ·exact absurd hky (h4 i x hx hkx y (by
    rw [List.nil_append]
    exact List.mem_of_getElem? (i := j) (by rw [List.getElem?_take_of_lt hlt]; exact hy)))
 ·exact absurd rfl (hno _ _ _ hg)
end Go.Crt
end
section
set_option linter.unusedVariables false
set_option linter.unusedSimpArgs false
namespace Go.Crt
open Go Go.Lift Go.F Go.Cor
variable {α β : Type}
def saidS (l : List api_Sight) (g c : Int) (t : Bool) : Bool := l.any fun s => (decide (s.Gauge = g) && decide (s.Cell = c)) && decide (s.There = t)
def qT (l : List api_Sight) (S : Nat) (c : Int) (t : Bool) (p : api_Claim × Nat) : Bool := (S.testBit p.2 && decide (p.1.Kind = 3)) && saidS l p.1.Gauge c t
def qS (S : Nat) (c : Int) (p : api_Claim × Nat) : Bool := (S.testBit p.2 && decide (p.1.Kind = 1)) && !p.1.Touched.contains c
def qE (S : Nat) (c : Int) (p : api_Claim × Nat) : Bool := (S.testBit p.2 && decide (p.1.Kind = 1)) && p.1.Touched.contains c
def qK (S : Nat) (c : Int) (p : api_Claim × Nat) : Bool := (S.testBit p.2 && decide (p.1.Kind = 2)) && p.1.Sure.contains c
def qL (S : Nat) (c : Int) (p : api_Claim × Nat) : Bool := decide (p.1.Kind = 2) && (!S.testBit p.2 || p.1.Touched.contains c)
def badB (C : List api_Claim) (l : List api_Sight) (S : Nat) (c : Int) : Bool :=
 (C.zipIdx.any (qT l S c true) && (C.zipIdx.any (qT l S c false) || C.zipIdx.any (qS S c) || C.zipIdx.any (qK S c))) || (C.zipIdx.any (qT l S c false) && C.zipIdx.any (qE S c) && !C.zipIdx.any (qL S c))
theorem zip_get {C : List α} {i : Nat} {x : α} (h : C[i]? = some x) : C.zipIdx[i]? = some (x, i) := by
 rw [List.getElem?_zipIdx, h]; simp
theorem zip_len (C : List α) : C.zipIdx.length = C.length := List.length_zipIdx
def gW (l : List api_Sight) (x : api_Claim) : court_voice :=
 if x.Kind = 1 then .c101 ⟨x.Touched⟩ else if x.Kind = 2 then .c96 ⟨x.Sure, x.Touched⟩ else .c102 (l.filter fun y => decide (y.Gauge = x.Gauge))
theorem own_val {l : List api_Sight} (x : api_Claim) (hl : l.length ≤ 40) : (Comp.loop (fun s : List api_Sight × Int => vM l x s.1 s.2) ([], 0)).val = some (l.filter fun y => decide (y.Gauge = x.Gauge)) := by
 have hL : LIM = 1073741824 := rfl
 have := Comp.loop_fold (body := fun s : List api_Sight × Int => vM l x s.1 s.2) l (fun acc y => if decide (y.Gauge = x.Gauge) = true then acc ++ [y] else acc) id (fun a i => a.length ≤ i) []
  (by
   intro a i y hy hI
   have hi := yZ hy
   show (vM l x a (i : Int)).val = _
   unfold vM kG
   rw [gw, Comp.zb, if_pos (by simpa using hi), Comp.zH, gb hy, Option.bind_some, Comp.zb]
   split
   ·rw [Comp.zH, app_val (by simp; omega), Option.bind_some, Comp.zK, Comp.zQ (by omega)]
   ·rw [Comp.zK, Comp.zQ (by omega)])
  (by
   intro a i y hy hI
   split
   ·simp; omega
   ·omega)
  (by
   intro a _
   show (vM l x a (l.length : Int)).val = _
   unfold vM
   rw [Comp.zb, if_neg (by simp), Comp.zK]; rfl)
  (Nat.le_refl _)
 rw [this, Comp.foldl_filter]; rfl
theorem voices_val {C : List api_Claim} {l : List api_Sight} (hC : C.length ≤ 10) (hl : l.length ≤ 40) : (court_voices C l).val = some (C.map (gW l)) := by
 have hL : LIM = 1073741824 := rfl
 have key : Ok (court_voices C l) (fun v => v = C.map (gW l)) := by
  unfold court_voices
  rw [Ok.bind]
  refine Ok.mono (P := fun v => v = C.map (gW l)) ?_ (fun v hv => by unfold court_voices_j1; exact Ok.pure.2 hv)
  refine Ok.count C.length (fun i s => s.2 = (i : Int) ∧ s.1 = (C.take i).map (gW l)) ⟨rfl, by simp⟩ ?_ ?_
  ·rintro i ⟨a, s⟩ hi ⟨h0, h1⟩
   dsimp only at h0 h1
   subst h0 h1
   have hg := List.getElem?_eq_getElem hi
   show Ok (gF C l ((C.take i).map (gW l)) (i : Int)) _
   have fin : ∀ v, v = gW l C[i] → (C.take i).map (gW l) ++ [v] = (C.take (i + 1)).map (gW l) := by
    intro v hv
    rw [take_snoc hi, List.map_append, hv]; rfl
   unfold gF gl
   rw [Ok.ite, if_pos (by simp; omega), Ok.bind, Ok.idxn hg]
   refine Ok.ite_i (fun hk => ?_) (fun hk => ?_)
   ·rw [decide_eq_true_iff] at hk
    rw [Ok.bind, Ok.app (by simp; omega), Ok.pure]
    exact ⟨Comp.zQ (by omega), fin _ (by unfold gW; rw [if_pos hk])⟩
   ·rw [decide_eq_true_iff] at hk
    refine Ok.ite_i (fun hk2 => ?_) (fun hk2 => ?_)
    ·rw [decide_eq_true_iff] at hk2
     rw [Ok.bind, Ok.app (by simp; omega), Ok.pure]
     exact ⟨Comp.zQ (by omega), fin _ (by unfold gW; rw [if_neg hk, if_pos hk2])⟩
    ·rw [decide_eq_true_iff] at hk2
     rw [Ok.bind, Ok.ve (own_val _ hl)]
     unfold court_voices_j4 gl
     rw [Ok.bind, Ok.app (by simp; omega), Ok.pure]
     exact ⟨Comp.zQ (by omega), fin _ (by unfold gW; rw [if_neg hk, if_neg hk2])⟩
  ·rintro ⟨a, s⟩ ⟨h0, h1⟩
   dsimp only at h0 h1
   subst h0 h1
   show Ok (gF C l ((C.take C.length).map (gW l)) (C.length : Int)) _
   unfold gF
   rw [Ok.ite, if_neg (by simp), Ok.pure, List.take_length]
 exact Ok.val key
theorem gspeak_val {o : List api_Sight} (c : Int) (f : court_fate) (ho : o.length ≤ 40) :
  (vy o c f).val = some ⟨f.solid_, f.empty_, f.taken_, f.loose_, f.there_ || o.any (fun s => decide (s.Cell = c) && decide (s.There = true)), f.gone_ || o.any (fun s => decide (s.Cell = c) && decide (s.There = false))⟩ := by
 have key : Ok (vy o c f) (fun r => r = ⟨f.solid_, f.empty_, f.taken_, f.loose_, f.there_ || o.any (fun s => decide (s.Cell = c) && decide (s.There = true)), f.gone_ || o.any (fun s => decide (s.Cell = c) && decide (s.There = false))⟩) := by
  unfold vy
  rw [Ok.bind]
  refine Ok.mono (P := fun r => r = ⟨f.solid_, f.empty_, f.taken_, f.loose_, f.there_ || o.any (fun s => decide (s.Cell = c) && decide (s.There = true)), f.gone_ || o.any (fun s => decide (s.Cell = c) && decide (s.There = false))⟩) ?_ (fun r hr => Ok.pure.2 hr)
  refine Ok.count o.length (fun i s => s.1 = (i : Int) ∧ s.2 = ⟨f.solid_, f.empty_, f.taken_, f.loose_, f.there_ || (o.take i).any (fun s => decide (s.Cell = c) && decide (s.There = true)), f.gone_ || (o.take i).any (fun s => decide (s.Cell = c) && decide (s.There = false))⟩) ⟨rfl, by simp⟩ ?_ ?_
  ·rintro i ⟨s, a⟩ hi ⟨h0, h1⟩
   dsimp only at h0 h1
   subst h0 h1
   have hg := List.getElem?_eq_getElem hi
   show Ok (yl o c (i : Int) _) _
   unfold yl gT
   rw [Ok.ite, if_pos (by simp; omega), Ok.bind, Ok.idxn hg, jw hg, jw hg]
   refine Ok.ite_i (fun hk => ?_) (fun hk => ?_)
   ·rw [Ok.pure]
    refine ⟨Comp.zQ (by omega), ?_⟩
    rw [decide_eq_true_iff] at hk
    cases o[i].There <;> simp [hk]
   ·rw [Ok.pure]
    refine ⟨Comp.zQ (by omega), ?_⟩
    rw [decide_eq_true_iff] at hk
    simp [hk]
  ·rintro ⟨s, a⟩ ⟨h0, h1⟩
   dsimp only at h0 h1
   subst h0 h1
   show Ok (yl o c (o.length : Int) _) _
   unfold yl
   rw [Ok.ite, if_neg (by simp), Ok.pure, List.take_length]
 exact Ok.val key
def fateOf (l : List api_Sight) (S : Nat) (c : Int) (Z : List (api_Claim × Nat)) : court_fate :=
 ⟨!Z.any (qS S c), !Z.any (qE S c), Z.any (qK S c), Z.any (qL S c), Z.any (qT l S c true), Z.any (qT l S c false)⟩
theorem any_filter' (p q : α → Bool) : ∀ l : List α, (l.filter p).any q = l.any fun x => p x && q x
 | [] => rfl
 | x :: l => by
  rw [List.filter_cons, List.any_cons, ← any_filter' p q l]
  cases p x <;> simp
theorem fates_val {C : List api_Claim} {l : List api_Sight} {S : Nat} {m : Int} (c : Int) (hS : S < 1024) (hC : C.length ≤ 10) (hl : l.length ≤ 40) (hs : ∀ x ∈ C, SmallC x) (hg : ∀ x ∈ C, GoodC x m) :
  (Comp.loop (fun s : Int × court_fate => vN (C.map (gW l)) (S : Int) c s.1 s.2) (0, ⟨true, true, false, false, false, false⟩)).val = some (fateOf l S c C.zipIdx) := by
 have key : Ok (Comp.loop (fun s : Int × court_fate => vN (C.map (gW l)) (S : Int) c s.1 s.2) (0, ⟨true, true, false, false, false, false⟩)) (fun r => r = fateOf l S c C.zipIdx) := by
  refine Ok.count C.length (fun i s => s.1 = (i : Int) ∧ s.2 = fateOf l S c (C.zipIdx.take i)) ⟨rfl, by simp [fateOf]⟩ ?_ ?_
  ·rintro i ⟨s, a⟩ hi ⟨h0, h1⟩
   dsimp only at h0 h1
   subst h0 h1
   have hx := List.getElem?_eq_getElem hi
   have hz := zip_get hx
   have hv : (C.map (gW l))[i]? = some (gW l C[i]) := by rw [List.getElem?_map, hx]; rfl
   have hgx := hg _ (List.getElem_mem hi)
   have hsx := hs _ (List.getElem_mem hi)
   have hk := hgx.kind
   show Ok (vN (C.map (gW l)) (S : Int) c (i : Int) _) _
   have e : fateOf l S c (C.zipIdx.take (i + 1)) = ⟨!((C.zipIdx.take i).any (qS S c) || qS S c (C[i], i)), !((C.zipIdx.take i).any (qE S c) || qE S c (C[i], i)), (C.zipIdx.take i).any (qK S c) || qK S c (C[i], i), (C.zipIdx.take i).any (qL S c) || qL S c (C[i], i), (C.zipIdx.take i).any (qT l S c true) || qT l S c true (C[i], i), (C.zipIdx.take i).any (qT l S c false) || qT l S c false (C[i], i)⟩ := by
    unfold fateOf
    rw [jw hz, jw hz, jw hz, jw hz, jw hz, jw hz]
   rw [e]
   unfold fateOf
   generalize (C.zipIdx.take i).any (qS S c) = b1
   generalize (C.zipIdx.take i).any (qE S c) = b2
   generalize (C.zipIdx.take i).any (qK S c) = b3
   generalize (C.zipIdx.take i).any (qL S c) = b4
   generalize (C.zipIdx.take i).any (qT l S c true) = b5
   generalize (C.zipIdx.take i).any (qT l S c false) = b6
   unfold vN jO qS qE qK qL qT
   dsimp only
   rw [Ok.ite, if_pos (by simp; omega), Ok.bind, Ok.idxn hv, Ok.bind, Ok.vf (by omega), Ok.bind, Ok.pure, bit_eq (by omega) (by omega)]
   unfold gW
   by_cases k1 : C[i].Kind = 1
   ·rw [if_pos k1]
    cases ht : S.testBit i with
    | true =>
     rw [Ok.ite, if_pos rfl, Ok.bind]
     show Ok (jN ⟨C[i].Touched⟩ c _) _
     unfold jN
     rw [Ok.bind, Ok.ve (has_val c hsx.2)]
     cases hc : C[i].Touched.contains c with
     | true => rw [Ok.ite, if_pos rfl, Ok.pure, Ok.pure]; exact ⟨Comp.zQ (by omega), by simp [k1]⟩
     | false => rw [Ok.ite, if_neg (by simp), Ok.pure, Ok.pure]; exact ⟨Comp.zQ (by omega), by simp [k1]⟩
    | false =>
     rw [Ok.ite, if_neg (by simp), Ok.ite, if_neg (by simp [court_voice.as96]), Ok.pure]
     exact ⟨Comp.zQ (by omega), by simp [k1]⟩
   ·rw [if_neg k1]
    by_cases k2 : C[i].Kind = 2
    ·rw [if_pos k2]
     cases ht : S.testBit i with
     | true =>
      rw [Ok.ite, if_pos rfl, Ok.bind]
      show Ok (court_cut_speak ⟨C[i].Sure, C[i].Touched⟩ c _) _
      unfold court_cut_speak
      rw [Ok.bind, Ok.gd]
      cases b3 <;> cases b4 <;> simp only [beq_self_eq_true, Bool.true_eq_false, if_true, if_false, reduceIte, Bool.true_beq, Bool.false_eq_true]
      all_goals first | rw [Ok.ve (has_val c hsx.1)] | skip
      all_goals (rw [Ok.bind, Ok.gd]; simp only [beq_self_eq_true, Bool.true_eq_false, if_true, if_false, reduceIte, Bool.true_beq, Bool.false_eq_true])
      all_goals first | rw [Ok.ve (has_val c hsx.2)] | skip
      all_goals (rw [Ok.pure, Ok.pure]; exact ⟨Comp.zQ (by omega), by simp [k2]⟩)
     | false =>
      rw [Ok.ite, if_neg (by simp), Ok.ite, if_pos (by simp [court_voice.as96]), Ok.pure]
      exact ⟨Comp.zQ (by omega), by simp [k2]⟩
    ·rw [if_neg k2]
     have k3 : C[i].Kind = 3 := by omega
     cases ht : S.testBit i with
     | true =>
      rw [Ok.ite, if_pos rfl, Ok.bind]
      show Ok (vy (l.filter fun y => decide (y.Gauge = C[i].Gauge)) c _) _
      rw [Ok.ve (gspeak_val c _ (Nat.le_trans (List.length_filter_le _ _) hl)), Ok.pure, any_filter', any_filter']
      refine ⟨Comp.zQ (by omega), ?_⟩
      simp [k3, saidS, Bool.and_assoc]
     | false =>
      rw [Ok.ite, if_neg (by simp), Ok.ite, if_neg (by simp [court_voice.as96]), Ok.pure]
      exact ⟨Comp.zQ (by omega), by simp [k3]⟩
  ·rintro ⟨s, a⟩ ⟨h0, h1⟩
   dsimp only at h0 h1
   subst h0 h1
   show Ok (vN (C.map (gW l)) (S : Int) c (C.length : Int) _) _
   unfold vN
   rw [Ok.ite, if_neg (by simp), Ok.pure, ← zip_len C, List.take_length]
 exact Ok.val key
def agreeB (C : List api_Claim) (l : List api_Sight) (M S : Nat) : Bool := !(List.range M).any fun c => badB C l S (c : Int)
theorem agrees_val {C : List api_Claim} {l : List api_Sight} {M S : Nat} {m : Int} (hM : M ≤ 16) (hS : S < 1024) (hC : C.length ≤ 10) (hl : l.length ≤ 40) (hs : ∀ x ∈ C, SmallC x) (hg : ∀ x ∈ C, GoodC x m) :
  (court_agrees (C.map (gW l)) (M : Int) (S : Int)).val = some (agreeB C l M S) := by
 have key : Ok (court_agrees (C.map (gW l)) (M : Int) (S : Int)) (fun b => b = agreeB C l M S) := by
  unfold court_agrees
  rw [Ok.bind]
  refine Ok.mono (P := fun b => b = agreeB C l M S) ?_ (fun b hb => by unfold court_agrees_j1; exact Ok.pure.2 hb)
  refine Ok.count M (fun i s => s = (true, (i : Int)) ∧ (List.range i).any (fun c => badB C l S (c : Int)) = false) ⟨rfl, rfl⟩ ?_ ?_
  ·rintro i s hi ⟨rfl, h1⟩
   show Ok (gG (M : Int) (C.map (gW l)) (S : Int) true (i : Int)) _
   unfold gG
   rw [Ok.ite, if_pos (by simp; omega), Ok.bind, Ok.ve (fates_val (i : Int) hS hC hl hs hg)]
   unfold court_agrees_j3
   rw [Ok.bind, Ok.pure]
   have e : (bif (bif (fateOf l S (i : Int) C.zipIdx).there_ then (bif (bif (fateOf l S (i : Int) C.zipIdx).gone_ then true else (!(fateOf l S (i : Int) C.zipIdx).solid_)) then true else (fateOf l S (i : Int) C.zipIdx).taken_) else false) then true else (bif (bif (fateOf l S (i : Int) C.zipIdx).gone_ then (!(fateOf l S (i : Int) C.zipIdx).empty_) else false) then (!(fateOf l S (i : Int) C.zipIdx).loose_) else false)) = badB C l S (i : Int) := by
    unfold fateOf badB
    dsimp only
    rw [bif_or, bif_or, bif_or, bif_and, bif_and, bif_and, Bool.not_not, Bool.not_not]
   rw [e]
   have hr : (List.range (i + 1)).any (fun c => badB C l S (c : Int)) = badB C l S (i : Int) := by
    rw [List.range_succ, List.any_append, h1]; simp
   refine Ok.ite_i (fun hb => ?_) (fun hb => ?_)
   ·rw [Ok.pure]
    show false = agreeB C l M S
    unfold agreeB
    symm
    rw [Bool.not_eq_false', List.any_eq_true]
    exact ⟨i, List.mem_range.2 hi, hb⟩
   ·rw [Ok.pure]
    refine ⟨by rw [Comp.zQ (by omega)], ?_⟩
    rw [hr]; simpa using hb
  ·rintro s ⟨rfl, h1⟩
   show Ok (gG (M : Int) (C.map (gW l)) (S : Int) true (M : Int)) _
   unfold gG
   rw [Ok.ite, if_neg (by simp), Ok.pure]
   unfold agreeB
   rw [h1]; rfl
 exact Ok.val key
end Go.Crt
end
section
set_option linter.unusedVariables false
set_option linter.unusedSimpArgs false
namespace Go.Crt
open Go Go.Lift Go.F Go.Cor
variable {α β : Type}
def SmallL (C : List api_Claim) : Prop := ∀ x ∈ C, SmallC x
theorem pow_len {n : Nat} (h : n ≤ 10) : 2 ^ n ≤ 1024 := Nat.pow_le_pow_right (n := 2) (by omega) h
def agreesE (C : List api_Claim) (l : List api_Sight) (m s : Int) : Bool := decide (checkE C l m = 0) && decide (s ≥ 0) && decide (s < ((2 ^ C.length : Nat) : Int)) && agreeB C l m.toNat s.toNat
theorem Agrees_val {C : List api_Claim} {l : List api_Sight} (m s : Int) (hs : SmallL C) : (jV C l m s).val = some (agreesE C l m s) := by
 unfold jV agreesE
 rw [Comp.zH, Check_val m hs, Option.bind_some]
 simp only [bif_and, Comp.zH, Comp.val_gd, Comp.zK]
 by_cases h : checkE C l m = 0
 ·have hG := goodL h
  have hC := hG.len.1
  have hp := pow_len hC
  have hp0 := Nat.two_pow_pos C.length
  rw [decide_eq_true h, shlF_nat (by omega), gq (by omega), voices_val hC hG.len.2]
  by_cases h2 : s ≥ 0
  ·rw [decide_eq_true h2]
   by_cases h3 : s < ((2 ^ C.length : Nat) : Int)
   ·rw [decide_eq_true h3]
    have hv := agrees_val (C := C) (l := l) (M := m.toNat) (S := s.toNat) (m := m) (by have := hG.cells; omega) (by omega) hC hG.len.2 hs hG.each
    rw [show ((m.toNat : Nat) : Int) = m by have := hG.cells; omega, show ((s.toNat : Nat) : Int) = s by omega] at hv
    simp [hv]
   ·rw [decide_eq_false h3]; simp
  ·rw [decide_eq_false h2]; simp
 ·rw [decide_eq_false h]; simp
def okL (C : List api_Claim) (l : List api_Sight) (m : Int) : List Bool := own (2 ^ C.length) (agreeB C l m.toNat)
theorem own_succ (i : Nat) (P : Nat → Bool) : own (i + 1) P = own i P ++ [P i] := by
 unfold own
 rw [List.range_succ, List.map_append]; rfl
theorem Conflicts_val {C : List api_Claim} {l : List api_Sight} {m : Int} (hs : SmallL C) (h : checkE C l m = 0) : (gH C l m).val = (jG (okL C l m)).val := by
 have hG := goodL h
 have hC := hG.len.1
 have hp := pow_len hC
 have hp0 := Nat.two_pow_pos C.length
 have hm : ((m.toNat : Nat) : Int) = m := by have := hG.cells; omega
 have hL : LIM = 1073741824 := rfl
 have key : Ok (Comp.loop (fun s : List Bool × Int => yq (List.replicate (2 ^ C.length) false) (C.map (gW l)) m s.1 s.2) (List.replicate (2 ^ C.length) false, 0)) (fun r => r = okL C l m) := by
  refine Ok.count (2 ^ C.length) (fun i s => s.2 = (i : Int) ∧ s.1.length = 2 ^ C.length ∧ s.1.take i = own i (agreeB C l m.toNat)) ⟨rfl, by simp, by simp [own]⟩ ?_ ?_
  ·rintro i ⟨a, s⟩ hi ⟨h0, h1, h2⟩
   dsimp only at h0 h1 h2
   subst h0
   show Ok (yq _ _ m a (i : Int)) _
   have hv := agrees_val (C := C) (l := l) (M := m.toNat) (S := i) (m := m) (by have := hG.cells; omega) (by omega) hC hG.len.2 hs hG.each
   rw [hm] at hv
   have hx : i < a.length := by omega
   unfold yq
   rw [Ok.ite, if_pos (by rw [decide_eq_true_iff, List.length_replicate]; omega), Ok.bind, Ok.ve hv, Ok.bind, Ok.idxn (List.getElem?_eq_getElem hx), Ok.bind, Ok.upd (by omega), Int.toNat_natCast, Ok.pure]
   refine ⟨Comp.zQ (by omega), by simp [h1], ?_⟩
   rw [List.take_succ_eq_append_getElem (by simpa using hx), List.getElem_set_self, List.take_set_of_le (by omega), h2, own_succ]
  ·rintro ⟨a, s⟩ ⟨h0, h1, h2⟩
   dsimp only at h0 h1 h2
   subst h0
   show Ok (yq _ _ m a ((2 ^ C.length : Nat) : Int)) _
   unfold yq
   rw [Ok.ite, if_neg (by rw [decide_eq_true_iff, List.length_replicate]; omega), Ok.pure]
   rw [← h1, List.take_length, h1] at h2
   exact h2
 unfold gH
 rw [Comp.zH, Check_val m hs, Option.bind_some, h, Comp.zb, if_neg (by simp), Comp.zH, voices_val hC hG.len.2, Option.bind_some, Comp.zH, gq (by omega), Option.bind_some, shlF_nat (by omega), Comp.zH, mk_val (by omega), Option.bind_some, Int.toNat_natCast, Comp.zH, Ok.val key, Option.bind_some]
 unfold ju
 rw [Comp.zH]
 cases (jG (okL C l m)).val with
 | none => rfl
 | some r => rw [Option.bind_some, Comp.zK]
def bitZ (z : Int) (k : Nat) : Bool := (U z).testBit k
theorem bitZ_eq {z : Int} {k : Nat} (hk : k < 64) : andB .i64 (shrF .i64 z (k : Int)) 1 = if bitZ z k = true then 1 else 0 := by
 rw [low_bit hk]
 unfold bitZ
 rw [Nat.testBit_eq_decide_div_mod_eq]
 have : U z / 2 ^ k % 2 < 2 := Nat.mod_lt _ (by omega)
 generalize U z / 2 ^ k % 2 = n at this
 rcases (by omega : n = 0 ∨ n = 1) with rfl | rfl <;> rfl
def gN (z : Int) (Z : List (api_Claim × Nat)) : Nat := Z.countP fun p => decide (p.1.Kind = 3) && bitZ z p.2
theorem countP_take {p : α → Bool} {L : List α} {k : Nat} {x : α} (h : L[k]? = some x) : (L.take (k + 1)).countP p = (L.take k).countP p + if p x = true then 1 else 0 := by
 have hk := yZ h
 rw [List.take_succ_eq_append_getElem hk, List.countP_append]
 have : L[k] = x := by rw [List.getElem?_eq_getElem hk] at h; exact Option.some.inj h
 rw [this, List.countP_cons, List.countP_nil]; omega
theorem f1_val {C : List api_Claim} (z : Int) (n : Int) (hC : C.length ≤ 10) : (gA z C n).val = some (decide ((gN z C.zipIdx : Int) > n)) := by
 have key : Ok (gA z C n) (fun b => b = decide ((gN z C.zipIdx : Int) > n)) := by
  unfold gA
  rw [Ok.bind]
  refine Ok.mono (P := fun n => n = (gN z C.zipIdx : Int)) ?_ (fun r hr => by unfold jK; rw [hr]; exact Ok.pure.2 rfl)
  refine Ok.count C.length (fun i s => s = ((gN z (C.zipIdx.take i) : Int), (i : Int)) ∧ gN z (C.zipIdx.take i) ≤ i) ⟨rfl, by simp [gN]⟩ ?_ ?_
  ·rintro i s hi ⟨rfl, hle⟩
   have hg := List.getElem?_eq_getElem hi
   have hz := zip_get hg
   have hn : gN z (C.zipIdx.take (i + 1)) = gN z (C.zipIdx.take i) + if (decide (C[i].Kind = 3) && bitZ z i) = true then 1 else 0 := countP_take hz
   show Ok (ym C z _ (i : Int)) _
   unfold ym gU
   rw [Ok.ite, if_pos (by simp; omega), Ok.bind, Ok.idxn hg, hn]
   have hw := Comp.zQ (show i < 9223372036854775807 by omega)
   have hw2 := Comp.zQ (show gN z (C.zipIdx.take i) < 9223372036854775807 by omega)
   by_cases k : C[i].Kind = 3
   ·rw [Ok.ite, if_pos (by simp [k]), Ok.bind, Ok.vf (by omega), Ok.bind, Ok.pure, Ok.pure, bitZ_eq (by omega)]
    cases hb : bitZ z i with
    | true =>
     simp only [k, decide_true, Bool.and_self, if_true]
     exact ⟨by rw [hw, hw2], by omega⟩
    | false =>
     simp only [Bool.and_false, Bool.false_eq_true, if_false]
     exact ⟨by rw [hw, IntWalk.i64_in _ ⟨by omega, by omega⟩]; simp, by omega⟩
   ·rw [Ok.ite, if_neg (by simp [k]), Ok.pure]
    simp only [k, decide_false, Bool.false_and, Bool.false_eq_true, if_false]
    exact ⟨by rw [hw]; rfl, by omega⟩
  ·rintro s ⟨rfl, hle⟩
   show Ok (ym C z _ (C.length : Int)) _
   unfold ym
   rw [Ok.ite, if_neg (by simp), Ok.pure, ← zip_len C, List.take_length]
 exact Ok.val key
def fewG (C : List api_Claim) (n : Int) (z : Int) : Bool := decide ((gN z C.zipIdx : Int) ≤ n)
def blameB (C : List api_Claim) (p z : Int) : Bool := C.zipIdx.any fun q => bitZ z q.2 && decide (q.1.Party = p)
theorem mask_val {C : List api_Claim} (p : Int) (hC : C.length ≤ 10) : ∃ w : Nat, w < 2 ^ C.length ∧ (Comp.loop (fun s : Int × Int => yx C p s.1 s.2) (0, 0)).val = some (w : Int) ∧ ∀ k, w.testBit k = C.zipIdx.any fun q => decide (q.2 = k) && decide (q.1.Party = p) := by
 have hp := pow_len hC
 have hp0 := Nat.two_pow_pos C.length
 have key : Ok (Comp.loop (fun s : Int × Int => yx C p s.1 s.2) (0, 0)) (fun r => ∃ w : Nat, w < 2 ^ C.length ∧ r = (w : Int) ∧ ∀ k, w.testBit k = C.zipIdx.any fun q => decide (q.2 = k) && decide (q.1.Party = p)) := by
  refine Ok.count C.length (fun i s => s.1 = (i : Int) ∧ ∃ w : Nat, w < 2 ^ C.length ∧ s.2 = (w : Int) ∧ ∀ k, w.testBit k = (C.zipIdx.take i).any fun q => decide (q.2 = k) && decide (q.1.Party = p)) ⟨rfl, 0, by omega, rfl, by simp⟩ ?_ ?_
  ·rintro i ⟨s, a⟩ hi ⟨h0, w, hw, h1, h2⟩
   dsimp only at h0 h1
   subst h0 h1
   have hg := List.getElem?_eq_getElem hi
   have hz := zip_get hg
   show Ok (yx C p (i : Int) (w : Int)) _
   unfold yx ji
   rw [Ok.ite, if_pos (by simp; omega), Ok.bind, Ok.idxn hg]
   refine Ok.ite_i (fun hc => ?_) (fun hc => ?_)
   ·have hc' := of_decide_eq_true hc
    have hpi : 2 ^ i < 2 ^ C.length := Nat.pow_lt_pow_right (by omega) hi
    rw [Ok.bind, Ok.vf (by omega), Ok.pure, shlF_nat (by omega), orB_nat (by omega) (by omega)]
    refine ⟨Comp.zQ (by omega), w ||| 2 ^ i, Nat.or_lt_two_pow hw hpi, rfl, fun k => ?_⟩
    rw [jw hz, Nat.testBit_or, h2, jx]
    simp [hc']
   ·have hc' : C[i].Party ≠ p := by simpa using hc
    rw [Ok.pure]
    refine ⟨Comp.zQ (by omega), w, hw, rfl, fun k => ?_⟩
    rw [jw hz, h2]
    simp [hc']
  ·rintro ⟨s, a⟩ ⟨h0, w, hw, h1, h2⟩
   dsimp only at h0 h1
   subst h0 h1
   show Ok (yx C p (C.length : Int) (w : Int)) _
   unfold yx
   rw [Ok.ite, if_neg (by simp), Ok.pure]
   rw [← zip_len C, List.take_length] at h2
   exact ⟨w, hw, rfl, h2⟩
 obtain ⟨r, h1, w, hw, rfl, h2⟩ := key
 exact ⟨w, hw, h1, h2⟩
theorem mask_zero {C : List api_Claim} {p z : Int} {w : Nat} (hw : w < 4611686018427387904) (h : ∀ k, w.testBit k = C.zipIdx.any fun q => decide (q.2 = k) && decide (q.1.Party = p)) : decide (andB .i64 z (w : Int) = 0) = !blameB C p z := by
 have hU : U (w : Int) = w := by unfold U; omega
 have e : andB .i64 z (w : Int) = 0 ↔ blameB C p z = false := by
  rw [← U_zero (andB_i64 _ _), U_and, hU]
  rw [← Decidable.not_iff_not, ← ne_eq, meets_iff]
  unfold Meets blameB
  rw [Bool.not_eq_false, List.any_eq_true]
  constructor
  ·rintro ⟨k, h1, h2⟩
   rw [h, List.any_eq_true] at h2
   obtain ⟨q, h3, h4⟩ := h2
   simp only [Bool.and_eq_true, decide_eq_true_iff] at h4
   exact ⟨q, h3, by simp [bitZ, h4.1, h4.2, h1]⟩
  ·rintro ⟨q, h3, h4⟩
   simp only [Bool.and_eq_true, decide_eq_true_iff] at h4
   refine ⟨q.2, h4.1, ?_⟩
   rw [h, List.any_eq_true]
   exact ⟨q, h3, by simp [h4.2]⟩
 cases hb : blameB C p z with
 | false => exact decide_eq_true (e.2 hb)
 | true => exact decide_eq_false fun q => by rw [e.1 q] at hb; cases hb
def jn (C : List api_Claim) (W : List Int) (i : Nat) : List Int := ((List.range i).filter fun (j : Nat) => W.all fun z => blameB C ((j : Int) - 1) z).map fun (j : Nat) => (j : Int) - 1
theorem namesOf_succ (C : List api_Claim) (W : List Int) (i : Nat) : jn C W (i + 1) = if (W.all fun z => blameB C ((i : Int) - 1) z) = true then jn C W i ++ [(i : Int) - 1] else jn C W i := by
 unfold jn
 rw [List.range_succ, List.filter_append, List.map_append, List.filter_cons, List.filter_nil]
 split <;> simp
theorem namesOf_len (C : List api_Claim) (W : List Int) (i : Nat) : (jn C W i).length ≤ i := by
 unfold jn
 rw [List.length_map]
 exact Nat.le_trans (List.length_filter_le _ _) (by simp)
theorem cnames_val {C : List api_Claim} {W : List Int} {f : Int} (hC : C.length ≤ 10) (hW : W.length ≤ LIM) : (Comp.loop (fun s : List Int × Int => yy C (W, f) s.1 s.2) ([], -1)).val = some (jn C W 7) := by
 have hL : LIM = 1073741824 := rfl
 have key : Ok (Comp.loop (fun s : List Int × Int => yy C (W, f) s.1 s.2) ([], -1)) (fun r => r = jn C W 7) := by
  refine Ok.count 7 (fun i s => s = (jn C W i, (i : Int) - 1)) rfl ?_ ?_
  ·rintro i s hi rfl
   obtain ⟨w, hw, h1, h2⟩ := mask_val (C := C) ((i : Int) - 1) hC
   have hp := pow_len hC
   have hp0 := Nat.two_pow_pos C.length
   show Ok (yy C (W, f) _ ((i : Int) - 1)) _
   have hl := namesOf_len C W i
   unfold yy
   rw [Ok.ite, if_pos (by rw [decide_eq_true_iff]; omega), Ok.bind, Ok.ve h1]
   unfold court_Certain_j4 jj
   have hc := contains_val hW (f := fun z0 => gr z0 (w : Int)) (p := fun z => !blameB C ((i : Int) - 1) z) (fun z _ => by unfold gr; rw [Comp.zK, mask_zero (by omega) h2])
   rw [Ok.bind, Ok.ve hc]
   have e : (!W.any fun z => !blameB C ((i : Int) - 1) z) = W.all fun z => blameB C ((i : Int) - 1) z := by
    rw [any_all_not]; simp
   rw [e]
   have hw' : IntKind.wrap .i64 ((i : Int) - 1 + 1) = ((i + 1 : Nat) : Int) - 1 := by rw [IntWalk.i64_in _ ⟨by omega, by omega⟩]; omega
   refine Ok.ite_i (fun hb => ?_) (fun hb => ?_)
   ·rw [Ok.bind, Ok.app (by simp; omega), Ok.pure, namesOf_succ, if_pos hb, hw']
   ·rw [Ok.pure, namesOf_succ, if_neg hb, hw']
  ·rintro s rfl
   show Ok (yy C (W, f) _ (((7 : Nat) : Int) - 1)) _
   unfold yy
   rw [Ok.ite, if_neg (by decide), Ok.pure]
 exact Ok.val key
end Go.Crt
end
section
set_option linter.unusedVariables false
set_option linter.unusedSimpArgs false
namespace Go.Crt
open Go Go.Lift Go.F Go.Cor
variable {α β : Type}
theorem next_val {L : List Int} {A : Int} {n : Nat} (hA : 0 ≤ A ∧ A ≤ 100) (hL : L.length ≤ 100) (hn : 0 < n) (hn2 : n ≤ 4611686018427387904) :
  ∃ (A' : Int) (k : Nat), (zf ⟨L, A⟩ (n : Int)).val = some (⟨L, A'⟩, (k : Int)) ∧ k < n ∧ 0 ≤ A' ∧ A' ≤ 100 := by
 unfold zf
 rw [Comp.zb]
 by_cases h : decide (A ≥ (L.length : Int)) = true
 ·rw [if_pos h, Comp.zK]
  exact ⟨A, 0, rfl, hn, hA⟩
 ·rw [if_neg h]
  have h' : A < (L.length : Int) := by simpa using h
  dsimp only
  obtain ⟨a, rfl⟩ : ∃ a : Nat, A = (a : Int) := ⟨A.toNat, by omega⟩
  have ha : a < L.length := by omega
  obtain ⟨k, hk, hm⟩ := mod_val (z := L[a]) hn hn2
  rw [Comp.zQ (by omega), show IntKind.wrap .i64 (((a + 1 : Nat) : Int) - 1) = (a : Int) by rw [IntWalk.i64_in _ ⟨by omega, by omega⟩]; omega, Comp.zH, gb (List.getElem?_eq_getElem ha), Option.bind_some, Comp.zH, hm, Option.bind_some, Comp.zK]
  exact ⟨_, k, rfl, hk, by omega, by omega⟩
theorem inc_pw : ∀ {l : List Int}, l.Pairwise (· < ·) → incB l = true
 | [], _ => rfl
 | [_], _ => rfl
 | x :: y :: l, h => by
  rw [incB, Bool.and_eq_true, decide_eq_true_iff]
  exact ⟨List.rel_of_pairwise_cons h (by simp), inc_pw (List.Pairwise.of_cons h)⟩
def bitsL (b M : Nat) : List Int := up ((List.range M).filter (b.testBit ·))
theorem bitsL_mem {b M : Nat} {z : Int} : z ∈ bitsL b M ↔ ∃ k : Nat, z = (k : Int) ∧ k < M ∧ b.testBit k = true := by
 unfold bitsL
 rw [mem_up']
 constructor
 ·rintro ⟨x, h1, h2⟩
  rw [List.mem_filter, List.mem_range] at h1
  exact ⟨x, h2, h1⟩
 ·rintro ⟨k, h1, h2⟩
  exact ⟨k, by rw [List.mem_filter, List.mem_range]; exact h2, h1⟩
theorem bitsL_len (b M : Nat) : (bitsL b M).length ≤ M := by
 unfold bitsL
 rw [up_len]
 exact Nat.le_trans (List.length_filter_le _ _) (by simp)
theorem bitsL_inc (b M : Nat) : incB (bitsL b M) = true := by
 refine inc_pw ?_
 unfold bitsL up
 rw [List.pairwise_map]
 exact (List.Pairwise.filter _ List.pairwise_lt_range).imp (fun h => by omega)
theorem bitsL_in (b M : Nat) : (bitsL b M).any (outB (M : Int)) = false := by
 rw [List.any_eq_false]
 intro z hz
 obtain ⟨k, rfl, hk, _⟩ := bitsL_mem.1 hz
 unfold outB
 simp only [Bool.or_eq_true, decide_eq_true_iff]
 omega
theorem subset_val {b M : Nat} (hb : b < 4611686018427387904) (hM : M ≤ 60) : (vK (b : Int) (M : Int)).val = some (bitsL b M) := by
 have hL : LIM = 1073741824 := rfl
 have key : Ok (vK (b : Int) (M : Int)) (fun r => r = bitsL b M) := by
  unfold vK
  rw [Ok.bind]
  refine Ok.mono (P := fun r => r = bitsL b M) ?_ (fun r hr => by unfold gy; exact Ok.pure.2 hr)
  refine Ok.count M (fun i s => s = (bitsL b i, (i : Int))) rfl ?_ ?_
  ·rintro i s hi rfl
   have hl := bitsL_len b i
   show Ok (ya (M : Int) (b : Int) (bitsL b i) (i : Int)) _
   have hs : bitsL b (i + 1) = if b.testBit i = true then bitsL b i ++ [(i : Int)] else bitsL b i := by
    unfold bitsL
    rw [List.range_succ, List.filter_append, up_append, List.filter_cons, List.filter_nil]
    split <;> simp [up]
   unfold ya gI
   rw [Ok.ite, if_pos (by simp; omega), Ok.bind, Ok.vf (by omega), Ok.bind, Ok.pure, bit_eq hb (by omega)]
   refine Ok.ite_i (fun h => ?_) (fun h => ?_)
   ·rw [Ok.bind, Ok.app (by simp; omega), Ok.pure, hs, if_pos h, Comp.zQ (by omega)]
   ·rw [Ok.pure, hs, if_neg h, Comp.zQ (by omega)]
  ·rintro s rfl
   show Ok (ya (M : Int) (b : Int) (bitsL b M) (M : Int)) _
   unfold ya
   rw [Ok.ite, if_neg (by simp), Ok.pure]
 exact Ok.val key
def TinyL (C : List api_Claim) : Prop := ∀ x ∈ C, x.Sure.length ≤ 16 ∧ x.Touched.length ≤ 16
theorem TinyL.small {C : List api_Claim} (h : TinyL C) : SmallL C := fun x hx => by
 have := h x hx
 unfold SmallC LIM
 omega
theorem goE_snoc {m : Int} (x : api_Claim) : ∀ (C pre : List api_Claim), goE m pre C = none → claimE x m = 0 → dupB (pre ++ C) x = false → goE m pre (C ++ [x]) = none
 | [], pre, _, h1, h2 => by
  rw [List.nil_append, goE_cons, if_neg (by simpa using h1), if_neg (by rw [List.append_nil] at h2; simp [h2])]; rfl
 | y :: C, pre, h0, h1, h2 => by
  rw [goE_cons] at h0
  rw [List.cons_append, goE_cons]
  split at h0; · cases h0
  split at h0; · cases h0
  rename_i h3 h4
  rw [if_neg h3, if_neg h4]
  exact goE_snoc x C (pre ++ [y]) h0 h1 (by rw [List.append_assoc]; exact h2)
structure MadeC (M : Nat) (C : List api_Claim) (b : Bool) (g : Int) : Prop where
 tiny : TinyL C
 good : goE (M : Int) [] C = none
 blank : b = false → ∀ y ∈ C, y.Kind ≠ 1
 gauge : ∀ y ∈ C, y.Kind = 3 → y.Gauge < g
 num : 0 ≤ g ∧ g ≤ C.length
theorem MadeC.nil (M : Nat) : MadeC M [] false 0 := ⟨(by intro x hx; cases hx), rfl, by simp, by simp, by simp⟩
theorem MadeC.snoc {M : Nat} {C : List api_Claim} {b b' : Bool} {g g' : Int} (h : MadeC M C b g) (x : api_Claim) (hx : x.Sure.length ≤ 16 ∧ x.Touched.length ≤ 16) (hc : claimE x (M : Int) = 0) (hd : dupB C x = false)
  (hb : b' = false → b = false ∧ x.Kind ≠ 1) (hg : g ≤ g' ∧ g' ≤ g + 1 ∧ (x.Kind = 3 → x.Gauge < g')) : MadeC M (C ++ [x]) b' g' := by
 have hall : ∀ {P : api_Claim → Prop}, (∀ y ∈ C, P y) → P x → ∀ y ∈ C ++ [x], P y := by
  intro P h1 h2 y hy
  rcases List.mem_append.1 hy with h | h
  ·exact h1 y h
  ·rw [List.mem_singleton] at h; rw [h]; exact h2
 have hn := h.num
 refine ⟨hall h.tiny hx, goE_snoc x C [] h.good hc hd, fun e => hall (h.blank (hb e).1) (hb e).2, hall (fun y hy hk => by have := h.gauge y hy hk; omega) hg.2.2, by simp; omega⟩
theorem claim_zero {x : api_Claim} {m : Int} (h1 : -1 ≤ x.Party ∧ x.Party < 6) (h2 : 1 ≤ x.Kind ∧ x.Kind ≤ 3) (h3 : incB x.Sure = true) (h4 : incB x.Touched = true) (h5 : x.Sure.any (outB m) = false) (h6 : x.Touched.any (outB m) = false)
  (h7 : x.Kind ≠ 3 → x.Gauge = 0) (h8 : x.Kind ≠ 2 → x.Sure = []) (h9 : x.Kind = 3 → x.Touched = []) (h10 : ∀ n ∈ x.Sure, n ∈ x.Touched) (h11 : 0 ≤ x.Gauge ∧ x.Gauge < 8) : claimE x m = 0 := by
 unfold claimE
 rw [if_neg (by unfold p1; simp; omega), if_neg (by unfold p2; simp; omega), if_neg (by simp [h3, h4]), if_neg (by simp [h5, h6]), if_neg, if_neg (by unfold p6; simp; omega)]
 have hp : partB x.Sure x.Touched = true := by
  unfold partB
  rw [Bool.not_eq_true', List.any_eq_false]
  intro n hn
  simp [h10 n hn]
 rw [hp]
 simp only [Bool.or_eq_true, Bool.and_eq_true, decide_eq_true_iff, Bool.not_true, Bool.false_eq_true, or_false, not_or, not_and]
 refine ⟨⟨fun hk => by have := h7 hk; omega, fun hk => by rw [h8 hk]; simp⟩, fun hk => by rw [h9 hk]; simp⟩
theorem claims_val {M most : Nat} (hM : 1 ≤ M ∧ M ≤ 4) (hmost : most ≤ 6) {L : List (List Int)} (hl : L.length ≤ 6) (hL : ∀ x ∈ L, x.length ≤ 5) :
  ∃ C b g, (gM L (M : Int) (most : Int)).val = some C ∧ MadeC M C b g ∧ C.length ≤ most := by
 have hLIM : LIM = 1073741824 := rfl
 have hp16 : 2 ^ M ≤ 16 := Nat.pow_le_pow_right (n := 2) (by omega) hM.2
 have hp1 := Nat.two_pow_pos M
 have key : Ok (gM L (M : Int) (most : Int)) (fun C => ∃ b g, MadeC M C b g ∧ C.length ≤ most) := by
  unfold gM
  rw [Ok.bind]
  refine Ok.mono (P := fun C => ∃ b g, MadeC M C b g ∧ C.length ≤ most) ?_ (fun r hr => by unfold jA; exact Ok.pure.2 hr)
  refine Ok.loop (fun s : List api_Claim × Bool × Int × Int => ∃ i : Nat, s.2.2.2 = (i : Int) ∧ i ≤ L.length ∧ MadeC M s.1 s.2.1 s.2.2.1 ∧ s.1.length ≤ most) (fun s => L.length - s.2.2.2.toNat) ⟨0, rfl, by omega, MadeC.nil M, by simp⟩ ?_
  rintro ⟨C, b, g, s⟩ ⟨i, h0, hi0, hC, hlen⟩
  dsimp only at h0 hC hlen
  subst h0
  show Ok (vU L (most : Int) (M : Int) C b g (i : Int)) _
  unfold vU
  rw [Ok.bind, Ok.pure, bif_and]
  refine Ok.ite_i (fun hc => ?_) (fun hc => ?_)
  rotate_left
  ·rw [Ok.pure]; exact ⟨b, g, hC, hlen⟩
  rw [Bool.and_eq_true, decide_eq_true_iff, decide_eq_true_iff] at hc
  have hi : i < L.length := by omega
  have hx := List.getElem?_eq_getElem hi
  have hxl := hL _ (List.getElem_mem hi)
  have hw := Comp.zQ (show i < 9223372036854775807 by omega)
  obtain ⟨A1, k1, n1, hk1, ha1, hb1⟩ := next_val (L := L[i]) (A := 0) (n := 4) ⟨by omega, by omega⟩ (by omega) (by omega) (by omega)
  obtain ⟨A2, k2, n2, hk2, ha2, hb2⟩ := next_val (L := L[i]) (A := A1) (n := 5) ⟨ha1, hb1⟩ (by omega) (by omega) (by omega)
  obtain ⟨A3, k3, n3, hk3, ha3, hb3⟩ := next_val (L := L[i]) (A := A2) (n := 2 ^ M) ⟨ha2, hb2⟩ (by omega) (by omega) (by omega)
  obtain ⟨A4, k4, n4, hk4, ha4, hb4⟩ := next_val (L := L[i]) (A := A3) (n := 2 ^ M) ⟨ha3, hb3⟩ (by omega) (by omega) (by omega)
  replace n1 : (zf ⟨L[i], 0⟩ 4).val = some (⟨L[i], A1⟩, (k1 : Int)) := n1
  replace n2 : (zf ⟨L[i], A1⟩ 5).val = some (⟨L[i], A2⟩, (k2 : Int)) := n2
  have hkind : ∃ kd : Int, [(2 : Int), 2, 3, 1][k1]? = some kd ∧ (kd = 1 ∨ kd = 2 ∨ kd = 3) := by
   rcases (by omega : k1 = 0 ∨ k1 = 1 ∨ k1 = 2 ∨ k1 = 3) with rfl | rfl | rfl | rfl
   ·exact ⟨2, rfl, by omega⟩
   ·exact ⟨2, rfl, by omega⟩
   ·exact ⟨3, rfl, by omega⟩
   ·exact ⟨1, rfl, by omega⟩
  obtain ⟨kd, hkd, hkd3⟩ := hkind
  have hsh : shlF .i64 1 (M : Int) = ((2 ^ M : Nat) : Int) := shlF_nat (by omega)
  have hparty : IntKind.wrap .i64 ((k2 : Int) - 1) = (k2 : Int) - 1 := IntWalk.i64_in _ ⟨by omega, by omega⟩
  have stepM : ∀ C' b' g', MadeC M C' b' g' → C'.length ≤ most → Ok (vV (i : Int) C' b' g') (fun t => match t with
    | .next s' => (∃ i : Nat, s'.2.2.2 = (i : Int) ∧ i ≤ L.length ∧ MadeC M s'.1 s'.2.1 s'.2.2.1 ∧ s'.1.length ≤ most) ∧ L.length - s'.2.2.2.toNat < L.length - ((i : Int)).toNat
    | .done e => ∃ b g, MadeC M e b g ∧ e.length ≤ most) := by
   intro C' b' g' h1 h2
   unfold vV
   rw [Ok.pure, hw]
   exact ⟨⟨i + 1, rfl, by omega, h1, h2⟩, by show L.length - (((i + 1 : Nat) : Int)).toNat < _; omega⟩
  have stepX : ∀ b' g' (x : api_Claim), MadeC M (C ++ [x]) b' g' → Ok (yb C (i : Int) b' g' x.Party x.Kind x.Gauge x.Sure x.Touched) (fun t => match t with
    | .next s' => (∃ i : Nat, s'.2.2.2 = (i : Int) ∧ i ≤ L.length ∧ MadeC M s'.1 s'.2.1 s'.2.2.1 ∧ s'.1.length ≤ most) ∧ L.length - s'.2.2.2.toNat < L.length - ((i : Int)).toNat
    | .done e => ∃ b g, MadeC M e b g ∧ e.length ≤ most) := by
   intro b' g' x h1
   unfold yb
   rw [Ok.bind, Ok.app (by simp; omega)]
   exact stepM _ _ _ h1 (by simp; omega)
  rw [Ok.bind, Ok.idxn hx, Ok.bind, Ok.ve n1, Ok.bind, Ok.idxn hkd, Ok.bind, Ok.ve n2, Ok.bind, Ok.vf (by omega), Ok.bind, hsh, Ok.ve n3, Ok.bind, Ok.vf (by omega), Ok.bind, Ok.ve n4]
  dsimp only
  have ho : k3 ||| k4 < 2 ^ M := Nat.or_lt_two_pow hk3 hk4
  have hn : k3 &&& k4 < 2 ^ M := Nat.lt_of_le_of_lt Nat.and_le_left hk3
  have hnum := hC.num
  rw [hparty]
  rcases hkd3 with rfl | rfl | rfl
  ·rw [Ok.ite, if_pos (by rfl)]
   refine Ok.ite_i (fun hb => ?_) (fun hb => ?_)
   ·exact Ok.mono (stepM C b g hC hlen) (fun t ht => by cases t <;> exact ht)
   ·have hbf : b = false := by simpa using hb
    rw [orB_nat (by omega) (by omega), Ok.bind, Ok.ve (subset_val (by omega) (by omega))]
    have hl1 := bitsL_len (k3 ||| k4) M
    refine Ok.mono (stepX true g ⟨(k2 : Int) - 1, 1, 0, [], bitsL (k3 ||| k4) M⟩ (hC.snoc _ ⟨by simp, by dsimp only; omega⟩ ?_ ?_ (fun e => by cases e) ⟨by omega, by omega, fun e => by cases e⟩)) (fun t ht => by cases t <;> exact ht)
    ·exact claim_zero (by dsimp only; omega) (by dsimp only; omega) rfl (bitsL_inc _ _) rfl (bitsL_in _ _) (fun _ => rfl) (fun _ => rfl) (fun e => by cases e) (fun n hn => by cases hn) (by dsimp only; omega)
    ·unfold dupB
     rw [List.any_eq_false]
     intro y hy
     have := hC.blank hbf y hy
     simp [this]
  ·rw [Ok.ite, if_neg (by decide), Ok.ite, if_pos (by rfl), andB_nat (by omega) (by omega), Ok.bind, Ok.ve (subset_val (by omega) (by omega)), Ok.bind, Ok.ve (subset_val (by omega) (by omega))]
   have hl1 := bitsL_len (k3 &&& k4) M
   have hl2 := bitsL_len k3 M
   refine Ok.mono (stepX b g ⟨(k2 : Int) - 1, 2, 0, bitsL (k3 &&& k4) M, bitsL k3 M⟩ (hC.snoc _ ⟨by dsimp only; omega, by dsimp only; omega⟩ ?_ (dup_two rfl) (fun e => ⟨e, by simp⟩) ⟨by omega, by omega, fun e => by cases e⟩)) (fun t ht => by cases t <;> exact ht)
   refine claim_zero (by dsimp only; omega) (by dsimp only; omega) (bitsL_inc _ _) (bitsL_inc _ _) (bitsL_in _ _) (bitsL_in _ _) (fun _ => rfl) (fun e => absurd rfl e) (fun e => by cases e) (fun n hn => ?_) (by dsimp only; omega)
   obtain ⟨k, rfl, h1, h2⟩ := bitsL_mem.1 hn
   rw [Nat.testBit_and, Bool.and_eq_true] at h2
   exact bitsL_mem.2 ⟨k, rfl, h1, h2.1⟩
  ·have hg1 : IntKind.wrap .i64 (g + 1) = g + 1 := IntWalk.i64_in _ ⟨by omega, by omega⟩
   rw [Ok.ite, if_neg (by decide), Ok.ite, if_neg (by decide), Ok.ite, if_pos (by rfl), hg1]
   refine Ok.mono (stepX b (g + 1) ⟨(k2 : Int) - 1, 3, g, [], []⟩ (hC.snoc _ ⟨by simp, by simp⟩ ?_ ?_ (fun e => ⟨e, by simp⟩) ⟨by omega, by omega, fun _ => by dsimp only; omega⟩)) (fun t ht => by cases t <;> exact ht)
   ·exact claim_zero (by dsimp only; omega) (by dsimp only; omega) rfl rfl rfl rfl (fun e => absurd rfl e) (fun _ => rfl) (fun _ => rfl) (fun n hn => by cases hn) (by dsimp only; omega)
   ·unfold dupB
    rw [List.any_eq_false]
    intro y hy h
    simp only [Bool.and_eq_true, Bool.or_eq_true, decide_eq_true_iff] at h
    have := hC.gauge y hy h.1
    omega
 obtain ⟨C, h1, b, g, h2, h3⟩ := key
 exact ⟨C, b, g, h1, h2, h3⟩
theorem sightsM_val {M : Nat} (hM : 1 ≤ M ∧ M ≤ 4) {L : List Int} (hl : L.length ≤ 30) :
  ∃ l, (gL L (M : Int)).val = some l ∧ l.length ≤ 10 ∧ l.any (farB (M : Int)) = false := by
 have hLIM : LIM = 1073741824 := rfl
 have key : Ok (gL L (M : Int)) (fun l => l.length ≤ 10 ∧ l.any (farB (M : Int)) = false) := by
  unfold gL
  rw [Ok.bind]
  refine Ok.mono (P := fun l => l.length ≤ 10 ∧ l.any (farB (M : Int)) = false) ?_ (fun r hr => by unfold gz; exact Ok.pure.2 hr)
  refine Ok.loop (fun s : List api_Sight × Int × List Int × Int => ∃ i : Nat, s.2.1 = ((3 * i : Nat) : Int) ∧ i ≤ 10 ∧ s.1.length = i ∧ s.2.2.1 = L ∧ 0 ≤ s.2.2.2 ∧ s.2.2.2 ≤ 100 ∧ s.1.any (farB (M : Int)) = false) (fun s => 30 - s.2.1.toNat) ⟨0, rfl, by omega, rfl, rfl, by simp, by simp, rfl⟩ ?_
  rintro ⟨l, s, K, A⟩ ⟨i, h0, hi0, h1, h2, h3, h4, h5⟩
  dsimp only at h0 h1 h2 h3 h4 h5
  subst h0 h2
  show Ok (vS K (M : Int) l ((3 * i : Nat) : Int) K A) _
  unfold vS
  rw [Ok.bind, Ok.pure, bif_and]
  refine Ok.ite_i (fun hc => ?_) (fun hc => ?_)
  rotate_left
  ·rw [Ok.pure]; exact ⟨by omega, h5⟩
  rw [Bool.and_eq_true, decide_eq_true_iff, decide_eq_true_iff] at hc
  obtain ⟨A1, k1, n1, hk1, ha1, hb1⟩ := next_val (L := K) (A := A) (n := 4) ⟨h3, h4⟩ (by omega) (by omega) (by omega)
  obtain ⟨A2, k2, n2, hk2, ha2, hb2⟩ := next_val (L := K) (A := A1) (n := M) ⟨ha1, hb1⟩ (by omega) (by omega) (by omega)
  obtain ⟨A3, k3, n3, hk3, ha3, hb3⟩ := next_val (L := K) (A := A2) (n := 2) ⟨ha2, hb2⟩ (by omega) (by omega) (by omega)
  replace n1 : (zf ⟨K, A⟩ 4).val = some (⟨K, A1⟩, (k1 : Int)) := n1
  replace n3 : (zf ⟨K, A2⟩ 2).val = some (⟨K, A3⟩, (k3 : Int)) := n3
  have hg : ∃ kd : Int, [(0 : Int), 0, 1, 2][k1]? = some kd ∧ 0 ≤ kd ∧ kd < 8 := by
   rcases (by omega : k1 = 0 ∨ k1 = 1 ∨ k1 = 2 ∨ k1 = 3) with rfl | rfl | rfl | rfl
   ·exact ⟨0, rfl, by omega⟩
   ·exact ⟨0, rfl, by omega⟩
   ·exact ⟨1, rfl, by omega⟩
   ·exact ⟨2, rfl, by omega⟩
  obtain ⟨kd, hkd, hkd2⟩ := hg
  have hw : IntKind.wrap .i64 (((3 * i : Nat) : Int) + 3) = ((3 * (i + 1) : Nat) : Int) := by rw [IntWalk.i64_in _ ⟨by omega, by omega⟩]; omega
  rw [Ok.bind, Ok.ve n1, Ok.bind, Ok.idxn hkd, Ok.bind, Ok.ve n2, Ok.bind, Ok.ve n3, Ok.bind, Ok.app (by simp; omega), Ok.pure, hw]
  refine ⟨⟨i + 1, rfl, by omega, by simp [h1], rfl, ha3, hb3, ?_⟩, ?_⟩
  ·rw [List.any_append, h5, Bool.false_or, List.any_cons, List.any_nil, Bool.or_false]
   unfold farB
   simp only [Bool.or_eq_false_iff, decide_eq_false_iff_not]
   omega
  ·show 30 - (((3 * (i + 1) : Nat) : Int)).toNat < 30 - (((3 * i : Nat) : Int)).toNat
   omega
 obtain ⟨l, h1, h2, h3⟩ := key
 exact ⟨l, h1, h2, h3⟩
structure Made (most : Nat) (C : List api_Claim) (l : List api_Sight) (M : Nat) : Prop where
 cells : 1 ≤ M ∧ M ≤ 4
 len : C.length ≤ most ∧ l.length ≤ 10
 tiny : TinyL C
 check : checkE C l (M : Int) = 0
theorem Made.small {most : Nat} {C : List api_Claim} {l : List api_Sight} {M : Nat} (h : Made most C l M) : SmallL C := h.tiny.small
theorem made_val {x : colletlaw43_Case} {b most : Nat} (hb : x.Cells = (b : Int)) (hb2 : b < 256) (hmost : most ≤ 6) : ∃ (C : List api_Claim) (l : List api_Sight) (M : Nat), (vZ x (most : Int)).val = some (C, l, (M : Int)) ∧ Made most C l M ∧ M = 1 + b % 4 := by
 have hLIM : LIM = 1073741824 := rfl
 have hcells : IntKind.wrap .i64 (1 + Int.tmod (IntKind.wrap .i64 x.Cells) 4) = ((1 + b % 4 : Nat) : Int) := by
  have h1 : IntKind.wrap .i64 (b : Int) = (b : Int) := wrap_nat (by omega)
  rw [hb, h1, show Int.tmod (b : Int) 4 = ((b % 4 : Nat) : Int) by rw [Int.tmod_eq_emod_of_nonneg (by omega)]; omega, IntWalk.i64_in _ ⟨by omega, by omega⟩]; omega
 have hcut : Ok (Comp.loop (fun s : List (List Int) × Int => yX x s.1 s.2) ([], 0)) (fun L => L.length ≤ 6 ∧ ∀ y ∈ L, y.length ≤ 5) := by
  refine Ok.loop (fun s : List (List Int) × Int => ∃ i : Nat, s.2 = (i : Int) ∧ i ≤ 6 ∧ s.1.length = i ∧ ∀ y ∈ s.1, y.length ≤ 5) (fun s => 6 - s.2.toNat) ⟨0, rfl, by omega, rfl, by simp⟩ ?_
  rintro ⟨L, s⟩ ⟨i, h0, hi, h1, h2⟩
  dsimp only at h0 h1 h2
  subst h0
  show Ok (yX x L (i : Int)) _
  unfold yX
  rw [Ok.bind, Ok.pure, bif_and]
  refine Ok.ite_i (fun hc => ?_) (fun hc => ?_)
  ·rw [Bool.and_eq_true, decide_eq_true_iff, decide_eq_true_iff] at hc
   have hi : i < x.Claims.length := by omega
   have hx := List.getElem?_eq_getElem hi
   rw [Ok.bind, Ok.idxn hx, Ok.bind, Ok.idxn hx, Ok.bind, Ok.sub (by omega), Ok.bind, Ok.app (by simp; omega), Ok.pure, Comp.zQ (by omega)]
   refine ⟨⟨i + 1, rfl, by omega, by simp [h1], ?_⟩, ?_⟩
   ·intro y hy
    rcases List.mem_append.1 hy with h | h
    ·exact h2 y h
    ·rw [List.mem_singleton] at h
     rw [h]
     simp only [Int.toNat_zero, List.drop_zero, List.length_take]
     omega
   ·show 6 - (((i + 1 : Nat) : Int)).toNat < 6 - ((i : Int)).toNat
    omega
  ·rw [Ok.pure]; exact ⟨by omega, h2⟩
 obtain ⟨L, hL, hL1, hL2⟩ := hcut
 have hM : 1 ≤ 1 + b % 4 ∧ 1 + b % 4 ≤ 4 := by omega
 obtain ⟨C, bl, g, hC, hmade, hlen⟩ := claims_val hM hmost hL1 hL2
 have hsub : (sub x.Sights 0 (min (x.Sights.length : Int) 30)).val = some (x.Sights.take (min (x.Sights.length : Int) 30).toNat) := by
  rw [sub_val (by omega)]; rfl
 obtain ⟨l, hl, hl1, hl2⟩ := sightsM_val hM (L := x.Sights.take (min (x.Sights.length : Int) 30).toNat) (by rw [List.length_take]; omega)
 refine ⟨C, l, 1 + b % 4, ?_, ⟨hM, ⟨hlen, hl1⟩, hmade.tiny, ?_⟩, rfl⟩
 ·unfold vZ
  rw [Comp.zH, Comp.zK, Option.bind_some, hcells, Comp.zH, hL, Option.bind_some]
  unfold gQ
  rw [Comp.zH, hC, Option.bind_some, Comp.zH, hsub, Option.bind_some, Comp.zH, hl, Option.bind_some, Comp.zK]
 ·unfold checkE
  rw [if_neg (by simp; omega), if_neg (by simp; omega), hmade.good, hl2]; rfl
end Go.Crt
end
section
set_option linter.unusedVariables false
set_option linter.unusedSimpArgs false
namespace Go.Crt
open Go Go.Lift Go.F Go.Cor
variable {α β : Type}
set_option maxRecDepth 100000 in
theorem sanity_val : jv.val = some true := Comp.val_run (n := 2000) (by kernel_rfl)
theorem loop_none {body : Int → Comp (Comp.Step Int (Sum β Unit))} (xs : List α) (hb : ∀ (i : Nat) x, xs[i]? = some x → (body i).val = some (.next ((i + 1 : Nat) : Int)))
  (he : (body xs.length).val = some (.done (.inr ()))) : (Comp.loop body 0).val = some (.inr ()) := by
 have key : Ok (Comp.loop body 0) (fun e => e = .inr ()) := by
  refine Ok.count xs.length (fun i s => s = (i : Int)) rfl ?_ ?_
  ·rintro i s hi rfl
   rw [Ok.ve (hb i _ (List.getElem?_eq_getElem hi))]
  ·rintro s rfl
   rw [Ok.ve he]
 exact Ok.val key
end Go.Crt
end
section
set_option linter.unusedVariables false
set_option linter.unusedSimpArgs false
namespace Go.Crt
open Go Go.Lift Go.F Go.Cor
variable {α β : Type}
theorem any_mono {p q : α → Bool} {l : List α} (h : ∀ x, p x = true → q x = true) (hp : l.any p = true) : l.any q = true := by
 rw [List.any_eq_true] at hp ⊢
 obtain ⟨x, h1, h2⟩ := hp
 exact ⟨x, h1, h x h2⟩
theorem bad_mono {C : List api_Claim} {l : List api_Sight} {s t : Nat} (hst : Sub t s) (c : Int) (h : badB C l t c = true) : badB C l s c = true := by
 have h1 : ∀ b, C.zipIdx.any (qT l t c b) = true → C.zipIdx.any (qT l s c b) = true := fun b => any_mono fun p hp => by
  unfold qT at hp ⊢; simp only [Bool.and_eq_true] at hp ⊢; exact ⟨⟨hst _ hp.1.1, hp.1.2⟩, hp.2⟩
 have h2 : C.zipIdx.any (qS t c) = true → C.zipIdx.any (qS s c) = true := any_mono fun p hp => by
  unfold qS at hp ⊢; simp only [Bool.and_eq_true] at hp ⊢; exact ⟨⟨hst _ hp.1.1, hp.1.2⟩, hp.2⟩
 have h3 : C.zipIdx.any (qE t c) = true → C.zipIdx.any (qE s c) = true := any_mono fun p hp => by
  unfold qE at hp ⊢; simp only [Bool.and_eq_true] at hp ⊢; exact ⟨⟨hst _ hp.1.1, hp.1.2⟩, hp.2⟩
 have h4 : C.zipIdx.any (qK t c) = true → C.zipIdx.any (qK s c) = true := any_mono fun p hp => by
  unfold qK at hp ⊢; simp only [Bool.and_eq_true] at hp ⊢; exact ⟨⟨hst _ hp.1.1, hp.1.2⟩, hp.2⟩
 have h5 : C.zipIdx.any (qL s c) = true → C.zipIdx.any (qL t c) = true := any_mono fun p hp => by
  unfold qL at hp ⊢; simp only [Bool.and_eq_true, Bool.or_eq_true, Bool.not_eq_true'] at hp ⊢
  refine ⟨hp.1, hp.2.imp (fun h => ?_) id⟩
  cases ht : t.testBit p.2 with
  | false => rfl
  | true => rw [hst _ ht] at h; cases h
 unfold badB at h ⊢
 simp only [Bool.or_eq_true, Bool.and_eq_true, Bool.not_eq_true'] at h ⊢
 rcases h with ⟨a, b⟩ | ⟨⟨a, b⟩, e⟩
 ·exact .inl ⟨h1 _ a, b.imp (fun z => z.imp (h1 _) h2) h4⟩
 ·refine .inr ⟨⟨h1 _ a, h3 b⟩, ?_⟩
  cases f : C.zipIdx.any (qL s c) with
  | false => rfl
  | true => rw [h5 f] at e; cases e
theorem agree_down {C : List api_Claim} {l : List api_Sight} {M : Nat} (s t : Nat) (h : agreeB C l M s = true) (hst : Sub t s) : agreeB C l M t = true := by
 unfold agreeB at h ⊢
 rw [Bool.not_eq_true', List.any_eq_false] at h ⊢
 exact fun c hc hb => h c hc (bad_mono hst _ hb)
def cf (C : List api_Claim) (l : List api_Sight) (M : Nat) : List Nat := conf (agreeB C l M) C.length
theorem cf_mem {C : List api_Claim} {l : List api_Sight} {M x : Nat} : x ∈ cf C l M ↔ x < 2 ^ C.length ∧ Min (fun s => agreeB C l M s = false) x := mem_conf agree_down
theorem cf_lt {C : List api_Claim} {l : List api_Sight} {M x : Nat} (h : x ∈ cf C l M) : x < 2 ^ C.length := (cf_mem.1 h).1
theorem cf_inc (C : List api_Claim) (l : List api_Sight) (M : Nat) : Inc (up (cf C l M)) := by
 unfold cf conf up Inc
 rw [List.pairwise_map]
 refine List.Pairwise.filter _ ?_
 exact List.pairwise_lt_range.imp fun h => by omega
theorem pow6 {n : Nat} (h : n ≤ 6) : 2 ^ n ≤ 64 := Nat.pow_le_pow_right (n := 2) (by omega) h
theorem cf_len {C : List api_Claim} {l : List api_Sight} {M : Nat} (hC : C.length ≤ 6) : (cf C l M).length ≤ 64 :=
 Nat.le_trans (inc_up_len (cf_inc C l M) fun _ h => cf_lt h) (pow6 hC)
theorem cf_val {C : List api_Claim} {l : List api_Sight} {M : Nat} (hC : C.length ≤ 6) (hs : SmallL C) (h : checkE C l (M : Int) = 0) : (gH C l (M : Int)).val = some (up (cf C l M), 0) := by
 rw [Conflicts_val hs h]
 unfold okL
 rw [Int.toNat_natCast, conflicts_val hC agree_down]; rfl
structure Why (C : List api_Claim) (l : List api_Sight) (M : Nat) (n : Int) (W : List Nat) : Prop where
 mem : ∀ h, h ∈ W ↔ Min (Hits · (cf C l M)) h ∧ fewG C n (h : Int) = true
 inc : Inc (up W)
theorem Why.lt {C : List api_Claim} {l : List api_Sight} {M : Nat} {n : Int} {W : List Nat} (h : Why C l M n W) {x : Nat} (hx : x ∈ W) : x < 2 ^ C.length := min_hits_lt (fun _ => cf_lt) ((h.mem x).1 hx).1
theorem up_filter (p : Int → Bool) (F : List Nat) : (up F).filter p = up (F.filter fun x => p (x : Int)) := by
 unfold up; rw [List.filter_map]; rfl
theorem why_val {C : List api_Claim} {l : List api_Sight} {M : Nat} (n : Int) (hC : C.length ≤ 6) (hs : SmallL C) (h : checkE C l (M : Int) = 0) (hn : 0 ≤ n ∧ n ≤ 3) :
  ∃ W, (gi C l (M : Int) n).val = some (up W, 0) ∧ Why C l M n W := by
 obtain ⟨H, h1, h2⟩ := hitting_val (n := C.length) (L := cf C l M) (by omega) (fun _ => cf_lt) (by have := cf_len (l := l) (M := M) hC; unfold LIM; omega)
 obtain ⟨F, rfl, hF⟩ := h2.ex
 have hl : (up F).length ≤ LIM := by
  rw [up_len]
  have := inc_up_len h2.inc fun x hx => Fam.lt (L := cf C l M) (fun _ => cf_lt) hF x hx
  have := pow6 hC
  unfold LIM; omega
 refine ⟨F.filter fun x => fewG C n (x : Int), ?_, ?_, ?_⟩
 ·unfold gi
  rw [Comp.zH, cf_val hC hs h, Option.bind_some, Comp.zb, if_neg (by simp), Comp.zH, Comp.zK, Option.bind_some, Comp.zb, if_neg (by rw [bif_or]; simp; omega), Comp.zH]
  show ((core_Hitting (up (cf C l M)) (C.length : Int)).val.bind _) = _
  rw [h1, Option.bind_some, Comp.zb, if_neg (by simp), Comp.zH, delete_val hl (p := fun z => decide ((gN z C.zipIdx : Int) > n)) (fun z _ => f1_val z n (by omega)), Option.bind_some, Comp.zK, ← up_filter (fewG C n)]
  congr 3
  funext z
  unfold fewG
  rw [← decide_not]
  exact decide_eq_decide.2 (by omega)
 ·intro x
  rw [List.mem_filter, hF]
 ·rw [← up_filter (fewG C n)]
  exact List.Pairwise.filter _ h2.inc
theorem agrees_in {C : List api_Claim} {l : List api_Sight} {M s : Nat} (hs : SmallL C) (h : checkE C l (M : Int) = 0) (hlt : s < 2 ^ C.length) : (jV C l (M : Int) (s : Int)).val = some (agreeB C l M s) := by
 rw [Agrees_val _ _ hs]
 unfold agreesE
 rw [decide_eq_true h, decide_eq_true (by omega : (s : Int) ≥ 0), decide_eq_true (by omega : (s : Int) < ((2 ^ C.length : Nat) : Int))]
 simp
theorem popN_count : ∀ (k n : Nat), popN k n = (List.range k).countP (n.testBit ·)
 | 0, n => rfl
 | k + 1, n => by
  have h : popN (k + 1) n = n % 2 + popN k (n / 2) := rfl
  rw [h, popN_count k (n / 2), List.range_succ_eq_map, List.countP_cons, List.countP_map, bit0]
  have e : ((fun x => n.testBit x) ∘ Nat.succ) = fun x => (n / 2).testBit x := by
   funext x; rw [testBit_div2]; rfl
  rw [e]
  have : n % 2 < 2 := Nat.mod_lt _ (by omega)
  by_cases h1 : n % 2 = 1
  ·simp [h1]; omega
  ·simp [h1]; omega
theorem many_val {a k : Nat} (hk : k ≤ 61) (ha : a < 2 ^ k) : (gu (a : Int)).val = some (popN k a : Int) := by
 have hb : ∀ k, k ≤ 61 → 2 ^ k ≤ 2305843009213693952 := fun k hk => by
  have := Nat.pow_le_pow_right (n := 2) (by omega) hk
  omega
 have key : ∀ k (a b : Nat), k ≤ 61 → a < 2 ^ k → b + k ≤ 100 → (Comp.loop (fun s : Int × Int => zm s.1 s.2) ((a : Int), (b : Int))).val = some ((b + popN k a : Nat) : Int) := by
  intro k
  induction k with
  | zero =>
   intro a b _ ha _
   have : a = 0 := by omega
   subst this
   rw [Comp.val_loop]
   unfold zm
   rw [Comp.zb, if_neg (by simp), Comp.zK]; rfl
  | succ k ih =>
   intro a b hk ha hb2
   have h2 := hb (k + 1) hk
   by_cases h0 : a = 0
   ·subst h0
    have st : (zm ((0 : Nat) : Int) (b : Int)).val = some (.done (b : Int)) := by
     unfold zm
     rw [Comp.zb, if_neg (by simp), Comp.zK]
    rw [Comp.val_loop]
    show ((zm ((0 : Nat) : Int) (b : Int)).val.bind _) = _
    rw [st, popN_zero]; rfl
   ·have e1 : andB .i64 (a : Int) 1 = ((a % 2 : Nat) : Int) := by
     have := andB_nat (a := a) (b := 1) (by omega) (by omega)
     rw [Nat.and_one_is_mod] at this
     exact this
    have e2 : shrF .i64 (a : Int) 1 = ((a / 2 : Nat) : Int) := by
     have := shrF_nat (a := a) (k := 1) (by omega)
     rw [Nat.shiftRight_eq_div_pow, Nat.pow_one] at this
     exact this
    have hm : a % 2 < 2 := Nat.mod_lt _ (by omega)
    have e3 : IntKind.wrap .i64 ((b : Int) + ((a % 2 : Nat) : Int)) = ((b + a % 2 : Nat) : Int) := by
     rw [IntWalk.i64_in _ ⟨by omega, by omega⟩]; omega
    have st : (zm (a : Int) (b : Int)).val = some (.next (((a / 2 : Nat) : Int), ((b + a % 2 : Nat) : Int))) := by
     unfold zm
     rw [Comp.zb, if_pos (by simp; omega), e1, e2, Comp.zH, Comp.zK, Option.bind_some, Comp.zK, e3]
    have h := ih (a / 2) (b + a % 2) (by omega) (by rw [Nat.pow_succ] at ha; omega) (by omega)
    rw [Comp.val_loop]
    show ((zm (a : Int) (b : Int)).val.bind _) = _
    rw [st, Option.bind_some]
    show (Comp.loop (fun s : Int × Int => zm s.1 s.2) (((a / 2 : Nat) : Int), ((b + a % 2 : Nat) : Int))).val = _
    rw [h, show popN (k + 1) a = a % 2 + popN k (a / 2) from rfl, Nat.add_assoc]
 unfold gu jf
 have := key k a 0 hk ha (by omega)
 rw [Comp.zH]
 show ((Comp.loop (fun s : Int × Int => zm s.1 s.2) ((a : Int), ((0 : Nat) : Int))).val.bind _) = _
 rw [this, Option.bind_some, Comp.zK, Nat.zero_add]
theorem gaugesM_val {C : List api_Claim} (hC : C.length ≤ 10) : ∃ w : Nat, w < 2 ^ C.length ∧ (gO C).val = some (w : Int) ∧ ∀ k, w.testBit k = C.zipIdx.any fun q => decide (q.2 = k) && decide (q.1.Kind = 3) := by
 have hp := pow_len hC
 have hp0 := Nat.two_pow_pos C.length
 have key : Ok (gO C) (fun r => ∃ w : Nat, w < 2 ^ C.length ∧ r = (w : Int) ∧ ∀ k, w.testBit k = C.zipIdx.any fun q => decide (q.2 = k) && decide (q.1.Kind = 3)) := by
  unfold gO
  rw [Ok.bind]
  refine Ok.mono (P := fun r => ∃ w : Nat, w < 2 ^ C.length ∧ r = (w : Int) ∧ ∀ k, w.testBit k = C.zipIdx.any fun q => decide (q.2 = k) && decide (q.1.Kind = 3)) ?_ (fun r hr => by unfold jB; exact Ok.pure.2 hr)
  refine Ok.count C.length (fun i s => s.2 = (i : Int) ∧ ∃ w : Nat, w < 2 ^ C.length ∧ s.1 = (w : Int) ∧ ∀ k, w.testBit k = (C.zipIdx.take i).any fun q => decide (q.2 = k) && decide (q.1.Kind = 3)) ⟨rfl, 0, by omega, rfl, by simp⟩ ?_ ?_
  ·rintro i ⟨a, s⟩ hi ⟨h0, w, hw, h1, h2⟩
   dsimp only at h0 h1
   subst h0 h1
   have hg := List.getElem?_eq_getElem hi
   have hz := zip_get hg
   show Ok (yc C (w : Int) (i : Int)) _
   unfold yc gJ
   rw [Ok.ite, if_pos (by simp; omega), Ok.bind, Ok.idxn hg]
   refine Ok.ite_i (fun hc => ?_) (fun hc => ?_)
   ·have hc' := of_decide_eq_true hc
    have hpi : 2 ^ i < 2 ^ C.length := Nat.pow_lt_pow_right (by omega) hi
    rw [Ok.bind, Ok.vf (by omega), Ok.pure, shlF_nat (by omega), orB_nat (by omega) (by omega)]
    refine ⟨Comp.zQ (by omega), w ||| 2 ^ i, Nat.or_lt_two_pow hw hpi, rfl, fun k => ?_⟩
    rw [jw hz, Nat.testBit_or, h2, jx]
    simp [hc']
   ·have hc' : C[i].Kind ≠ 3 := by simpa using hc
    rw [Ok.pure]
    refine ⟨Comp.zQ (by omega), w, hw, rfl, fun k => ?_⟩
    rw [jw hz, h2]
    simp [hc']
  ·rintro ⟨a, s⟩ ⟨h0, w, hw, h1, h2⟩
   dsimp only at h0 h1
   subst h0 h1
   show Ok (yc C (w : Int) (C.length : Int)) _
   unfold yc
   rw [Ok.ite, if_neg (by simp), Ok.pure]
   rw [← zip_len C, List.take_length] at h2
   exact ⟨w, hw, rfl, h2⟩
 obtain ⟨r, h1, w, hw, rfl, h2⟩ := key
 exact ⟨w, hw, h1, h2⟩
theorem zip_any {C : List api_Claim} (p : api_Claim → Bool) (k : Nat) : (C.zipIdx.any fun q => decide (q.2 = k) && p q.1) = match C[k]? with | some x => p x | none => false := by
 cases h : C[k]? with
 | none =>
  rw [List.any_eq_false]
  rintro ⟨x, j⟩ hx
  obtain ⟨i, hi⟩ := List.getElem?_of_mem hx
  rw [List.getElem?_zipIdx] at hi
  cases hc : C[i]? with
  | none => rw [hc] at hi; cases hi
  | some y =>
   rw [hc] at hi
   simp at hi
   by_cases e : j = k
   ·subst e; rw [← hi.2, hc] at h; cases h
   ·simp [e]
 | some y =>
  dsimp only
  cases hp : p y with
  | true => exact List.any_eq_true.2 ⟨(y, k), List.mem_of_getElem? (zip_get h), by simp [hp]⟩
  | false =>
   rw [List.any_eq_false]
   rintro ⟨x, j⟩ hx
   obtain ⟨i, hi⟩ := List.getElem?_of_mem hx
   rw [List.getElem?_zipIdx] at hi
   cases hc : C[i]? with
   | none => rw [hc] at hi; cases hi
   | some z =>
    rw [hc] at hi
    simp at hi
    by_cases e : j = k
    ·subst e
     rw [← hi.2, hc] at h
     obtain rfl := Option.some.inj h
     simp [← hi.1, hp]
    ·simp [e]
theorem U_small {s : Nat} (h : s < 18446744073709551616) : U (s : Int) = s := by unfold U; omega
theorem gN_pop {C : List api_Claim} {s w : Nat} (hC : C.length ≤ 10) (hs : s < 2 ^ C.length) (hw : ∀ k, w.testBit k = C.zipIdx.any fun q => decide (q.2 = k) && decide (q.1.Kind = 3)) : gN (s : Int) C.zipIdx = popN C.length (s &&& w) := by
 have hp := pow_len hC
 rw [popN_count]
 have key : ∀ i, i ≤ C.length → gN (s : Int) (C.zipIdx.take i) = (List.range i).countP ((s &&& w).testBit ·) := by
  intro i
  induction i with
  | zero => intro _; rfl
  | succ i ih =>
   intro hi
   have hg := List.getElem?_eq_getElem (show i < C.length by omega)
   have e : gN (s : Int) (C.zipIdx.take (i + 1)) = gN (s : Int) (C.zipIdx.take i) + if (decide (C[i].Kind = 3) && bitZ (s : Int) i) = true then 1 else 0 := countP_take (zip_get hg)
   rw [e, ih (by omega), List.range_succ, List.countP_append, List.countP_cons, List.countP_nil, Nat.zero_add]
   congr 1
   rw [Nat.testBit_and, hw, zip_any (fun x => decide (x.Kind = 3)), hg]
   unfold bitZ
   rw [U_small (by omega), Bool.and_comm]
 have := key C.length (Nat.le_refl _)
 rw [← zip_len C, List.take_length, zip_len C] at this
 exact this
end Go.Crt
end
section
set_option linter.unusedVariables false
set_option linter.unusedSimpArgs false
namespace Go.Crt
open Go Go.Lift Go.F Go.Cor
variable {α β : Type}
theorem without_zero {a b : Nat} : gR a b = 0 ↔ Sub a b := by
 constructor
 ·intro h i hi
  have := yt a b i
  rw [h, hi] at this
  simpa using this
 ·intro h
  refine Nat.eq_of_testBit_eq fun i => ?_
  rw [yt]
  cases ha : a.testBit i with
  | false => simp
  | true => simp [h i ha]
theorem pow_out {n : Nat} (h : n ≤ 10) : IntKind.wrap .i64 ((shlF .i64 1 (n : Int)) - 1) = ((2 ^ n - 1 : Nat) : Int) := by
 have := pow_len h
 have := Nat.two_pow_pos n
 rw [shlF_nat (by omega), IntWalk.i64_in _ ⟨by omega, by omega⟩]; omega
theorem without_lt {s n : Nat} (t : Nat) (h : s < n) : gR s t < n := Nat.lt_of_le_of_lt (without_le s t) h
end Go.Crt
end
section
set_option linter.unusedVariables false
set_option linter.unusedSimpArgs false
namespace Go.Crt
open Go Go.Lift Go.F Go.Cor
variable {α β : Type}
theorem goE_each {m : Int} : ∀ (C pre : List api_Claim), (∀ c, goE m pre C = some c → c = 0 → False) → (∀ c, goE m pre C = some c → c ≠ 0) → goE m pre C = none → ∀ x ∈ C, claimE x m = 0
 | [], _, _, _, _ => by simp
 | x :: C, pre, h1, h2, h => by
  rw [goE_cons] at h
  split at h; · cases h
  split at h; · cases h
  rename_i h3 h4
  intro y hy
  rcases List.mem_cons.1 hy with rfl | hy
  ·simpa using h3
  ·exact goE_each C (pre ++ [x]) (fun c hc => by rw [h] at hc; cases hc) (fun c hc => by rw [h] at hc; cases hc) h y hy
theorem goE_pos {m : Int} : ∀ (C pre : List api_Claim) c, goE m pre C = some c → c ≠ 0
 | [], pre, c, h => by cases h
 | x :: C, pre, c, h => by
  rw [goE_cons] at h
  split at h
  ·rename_i h3; cases h; exact h3
  ·split at h
   ·cases h; decide
   ·exact goE_pos C _ c h
theorem check_ranges {C : List api_Claim} {l : List api_Sight} {m : Int} (h : checkE C l m = 0) : (∀ x ∈ C, claimE x m = 0) ∧ l.any (farB m) = false := by
 unfold checkE at h
 split at h; · cases h
 split at h; · cases h
 cases e : goE m [] C with
 | some c =>
  rw [e] at h
  exact absurd h (goE_pos C [] c e)
 | none =>
  rw [e] at h
  refine ⟨goE_each C [] (fun c hc => by rw [e] at hc; cases hc) (fun c hc => by rw [e] at hc; cases hc) e, ?_⟩
  cases hf : l.any (farB m) with
  | false => rfl
  | true =>
   rw [hf] at h
   simp at h
theorem in_range {l : List Int} {m : Int} (h : l.any (outB m) = false) {x : Int} (hx : x ∈ l) : 0 ≤ x ∧ x < m := by
 have := List.any_eq_false.1 h x hx
 unfold outB at this
 simp at this
 omega
theorem claim_range {x : api_Claim} {m : Int} (h : claimE x m = 0) : (∀ z ∈ x.Sure, 0 ≤ z ∧ z < m) ∧ ∀ z ∈ x.Touched, 0 ≤ z ∧ z < m := by
 unfold claimE at h
 split at h; · cases h
 split at h; · cases h
 split at h; · cases h
 split at h; · cases h
 rename_i h1 h2 h3 h4
 simp only [Bool.or_eq_true, not_or, Bool.not_eq_true] at h4
 exact ⟨fun z hz => in_range h4.1 hz, fun z hz => in_range h4.2 hz⟩
theorem check_like {C : List api_Claim} {l l' : List api_Sight} {m : Int} (h : checkE C l m = 0) (hl : l'.length = l.length) (hf : l'.any (farB m) = l.any (farB m)) : checkE C l' m = 0 := by
 unfold checkE at h ⊢
 rw [hl, hf]; exact h
theorem bits_val {L : List Int} {M : Nat} (hM : M ≤ 16) (hL : ∀ x ∈ L, 0 ≤ x ∧ x < (M : Int)) (hl : L.length ≤ LIM) : ∃ w : Nat, w < 2 ^ M ∧ (vR L).val = some (w : Int) ∧ ∀ k : Nat, w.testBit k = L.contains (k : Int) := by
 have hLIM : LIM = 1073741824 := rfl
 have hp : 2 ^ M ≤ 65536 := Nat.pow_le_pow_right (n := 2) (by omega) hM
 have hp0 := Nat.two_pow_pos M
 have key : Ok (vR L) (fun r => ∃ w : Nat, w < 2 ^ M ∧ r = (w : Int) ∧ ∀ k : Nat, w.testBit k = L.contains (k : Int)) := by
  unfold vR
  rw [Ok.bind]
  refine Ok.mono (P := fun r => ∃ w : Nat, w < 2 ^ M ∧ r = (w : Int) ∧ ∀ k : Nat, w.testBit k = L.contains (k : Int)) ?_ (fun r hr => by unfold jg; exact Ok.pure.2 hr)
  refine Ok.count L.length (fun i s => s.2 = (i : Int) ∧ ∃ w : Nat, w < 2 ^ M ∧ s.1 = (w : Int) ∧ ∀ k : Nat, w.testBit k = (L.take i).contains (k : Int)) ⟨rfl, 0, by omega, rfl, by simp⟩ ?_ ?_
  ·rintro i ⟨a, s⟩ hi ⟨h0, w, hw, h1, h2⟩
   dsimp only at h0 h1
   subst h0 h1
   have hg := List.getElem?_eq_getElem hi
   have hr := hL _ (List.getElem_mem hi)
   obtain ⟨b, hb⟩ : ∃ b : Nat, L[i] = (b : Int) := ⟨L[i].toNat, by omega⟩
   have hbM : b < M := by omega
   have hpb : 2 ^ b < 2 ^ M := Nat.pow_lt_pow_right (by omega) hbM
   show Ok (yw L (w : Int) (i : Int)) _
   unfold yw
   rw [Ok.ite, if_pos (by simp; omega), Ok.bind, Ok.idxn hg, hb, Ok.bind, Ok.vf (by omega), Ok.pure, shlF_nat (by omega), orB_nat (by omega) (by omega)]
   refine ⟨Comp.zQ (by omega), w ||| 2 ^ b, Nat.or_lt_two_pow hw hpb, rfl, fun k => ?_⟩
   rw [Nat.testBit_or, h2, jx, take_snoc hi, hb]
   by_cases e : b = k
   ·subst e; simp
   ·have : ¬ (k : Int) = (b : Int) := by omega
    simp [e, this]
  ·rintro ⟨a, s⟩ ⟨h0, w, hw, h1, h2⟩
   dsimp only at h0 h1
   subst h0 h1
   show Ok (yw L (w : Int) (L.length : Int)) _
   unfold yw
   rw [Ok.ite, if_neg (by simp), Ok.pure]
   rw [List.take_length] at h2
   exact ⟨w, hw, rfl, h2⟩
 obtain ⟨r, h1, w, hw, rfl, h2⟩ := key
 exact ⟨w, hw, h1, h2⟩
def rm (R : List Nat) (i : Nat) : Nat := R[i]?.getD 0
def cutB (R : List Nat) (k : Nat) (q : api_Claim × Nat) : Bool := decide (q.1.Kind = 2) && (rm R q.2).testBit k
theorem rm_get {R : List Nat} {i : Nat} (h : i < R.length) : (up R)[i]? = some (rm R i : Int) := by
 unfold rm up
 rw [List.getElem?_map, List.getElem?_eq_getElem h]; rfl
theorem rm_lt {R : List Nat} {n : Nat} (hn : 0 < n) (h : ∀ r ∈ R, r < n) (i : Nat) : rm R i < n := by
 unfold rm
 cases hi : R[i]? with
 | none => exact hn
 | some r => exact h r (List.mem_of_getElem? hi)
theorem there_val {C : List api_Claim} {mat M : Nat} {R : List Nat} (hM : M ≤ 16) (hC : C.length ≤ 10) (hR : R.length = C.length) (hm : mat < 2 ^ M) (hr : ∀ r ∈ R, r < 2 ^ M) :
  ∃ e : Nat, e < 2 ^ M ∧ (yI ⟨(mat : Int), up R⟩ C).val = some (e : Int) ∧ ∀ k, e.testBit k = (mat.testBit k && !C.zipIdx.any (cutB R k)) := by
 have hp : 2 ^ M ≤ 65536 := Nat.pow_le_pow_right (n := 2) (by omega) hM
 have key : Ok (yI ⟨(mat : Int), up R⟩ C) (fun r => ∃ e : Nat, e < 2 ^ M ∧ r = (e : Int) ∧ ∀ k, e.testBit k = (mat.testBit k && !C.zipIdx.any (cutB R k))) := by
  unfold yI
  rw [Ok.bind]
  refine Ok.mono (P := fun r => ∃ e : Nat, e < 2 ^ M ∧ r = (e : Int) ∧ ∀ k, e.testBit k = (mat.testBit k && !C.zipIdx.any (cutB R k))) ?_ (fun r hr => by unfold vt; exact Ok.pure.2 hr)
  refine Ok.count C.length (fun i s => s.2 = (i : Int) ∧ ∃ e : Nat, e < 2 ^ M ∧ s.1 = (e : Int) ∧ ∀ k, e.testBit k = (mat.testBit k && !(C.zipIdx.take i).any (cutB R k))) ⟨rfl, mat, hm, rfl, by simp⟩ ?_ ?_
  ·rintro i ⟨a, s⟩ hi ⟨h0, w, hw, h1, h2⟩
   dsimp only at h0 h1
   subst h0 h1
   have hg := List.getElem?_eq_getElem hi
   have hz := zip_get hg
   have hrm := rm_lt (by omega) hr i
   show Ok (yD C ⟨(mat : Int), up R⟩ (w : Int) (i : Int)) _
   unfold yD vG
   rw [Ok.ite, if_pos (by simp; omega), Ok.bind, Ok.idxn hg]
   refine Ok.ite_i (fun hc => ?_) (fun hc => ?_)
   ·have hc' := of_decide_eq_true hc
    rw [Ok.bind, Ok.idxn (rm_get (by omega)), Ok.pure, andNotB_nat (by omega) (by omega)]
    refine ⟨Comp.zQ (by omega), gR w (rm R i), without_lt _ hw, rfl, fun k => ?_⟩
    rw [jw hz, yt, h2]
    simp [cutB, hc', Bool.and_assoc]
   ·have hc' : C[i].Kind ≠ 2 := by simpa using hc
    rw [Ok.pure]
    refine ⟨Comp.zQ (by omega), w, hw, rfl, fun k => ?_⟩
    rw [jw hz, h2]
    simp [cutB, hc']
  ·rintro ⟨a, s⟩ ⟨h0, w, hw, h1, h2⟩
   dsimp only at h0 h1
   subst h0 h1
   show Ok (yD C ⟨(mat : Int), up R⟩ (w : Int) (C.length : Int)) _
   unfold yD
   rw [Ok.ite, if_neg (by simp), Ok.pure]
   rw [← zip_len C, List.take_length] at h2
   exact ⟨w, hw, rfl, h2⟩
 obtain ⟨r, h1, w, hw, rfl, h2⟩ := key
 exact ⟨w, hw, h1, h2⟩
def HoldsP (l : List api_Sight) (mat : Nat) (R : List Nat) (e : Nat) (x : api_Claim) (i : Nat) : Prop :=
 if x.Kind = 1 then ∀ k : Nat, mat.testBit k = x.Touched.contains (k : Int)
 else if x.Kind = 2 then (∀ k : Nat, (k : Int) ∈ x.Sure → (rm R i).testBit k = true) ∧ ∀ k : Nat, (rm R i).testBit k = true → (k : Int) ∈ x.Touched
 else ∀ y ∈ l, y.Gauge = x.Gauge → ∀ k : Nat, y.Cell = (k : Int) → e.testBit k = y.There
theorem holds_val {C : List api_Claim} {l : List api_Sight} {mat M e i : Nat} {R : List Nat} {x : api_Claim} (hM : M ≤ 16) (hC : C.length ≤ 10) (hl : l.length ≤ 40) (hR : R.length = C.length) (hm : mat < 2 ^ M) (hr : ∀ r ∈ R, r < 2 ^ M)
  (hs : SmallL C) (hcl : ∀ x ∈ C, claimE x (M : Int) = 0) (hfar : l.any (farB (M : Int)) = false) (he : e < 2 ^ M) (hev : (yI ⟨(mat : Int), up R⟩ C).val = some (e : Int)) (hx : C[i]? = some x) :
  ∃ b, (vj ⟨(mat : Int), up R⟩ C l (i : Int)).val = some b ∧ (b = true ↔ HoldsP l mat R e x i) := by
 have hp : 2 ^ M ≤ 65536 := Nat.pow_le_pow_right (n := 2) (by omega) hM
 have hi := yZ hx
 have hxm := List.mem_of_getElem? hx
 have hrg := claim_range (hcl x hxm)
 have hsx := hs x hxm
 obtain ⟨ws, hws, hwsv, hwsb⟩ := bits_val hM hrg.1 hsx.1
 obtain ⟨wt, hwt, hwtv, hwtb⟩ := bits_val hM hrg.2 hsx.2
 have hrm := rm_lt (Nat.two_pow_pos M) hr i
 unfold vj HoldsP
 rw [Comp.zH, gb hx, Option.bind_some, Comp.zb, Comp.zb]
 by_cases k1 : x.Kind = 1
 ·rw [if_pos (by simp [k1]), if_pos k1, Comp.zH, hwtv, Option.bind_some, Comp.zK]
  refine ⟨_, rfl, ?_⟩
  rw [decide_eq_true_iff]
  constructor
  ·intro h k
   have : mat = wt := by
    have h' : (mat : Int) = (wt : Int) := h
    omega
   rw [this, hwtb]
  ·intro h
   show (mat : Int) = (wt : Int)
   have : mat = wt := Nat.eq_of_testBit_eq fun k => by rw [h, hwtb]
   omega
 ·rw [if_neg (by simp [k1]), if_neg k1]
  by_cases k2 : x.Kind = 2
  ·rw [if_pos (by simp [k2]), if_pos k2, Comp.zH, hwsv, Option.bind_some, Comp.zH, gb (rm_get (by omega)), Option.bind_some, andNotB_nat (by omega) (by omega)]
   have e1 : decide (((gR ws (rm R i) : Nat) : Int) = 0) = decide (gR ws (rm R i) = 0) := decide_eq_decide.2 (by omega)
   have s1 : Cor.Sub ws (rm R i) ↔ ∀ k : Nat, (k : Int) ∈ x.Sure → (rm R i).testBit k = true := by
    refine forall_congr' fun k => ?_
    rw [hwsb, List.contains_iff_mem]
   have s2 : Cor.Sub (rm R i) wt ↔ ∀ k : Nat, (rm R i).testBit k = true → (k : Int) ∈ x.Touched := by
    refine forall_congr' fun k => ?_
    rw [hwtb, List.contains_iff_mem]
   by_cases h : gR ws (rm R i) = 0
   ·rw [e1, decide_eq_true h, Comp.zH, Comp.val_gd, if_pos (by rfl), gb (rm_get (by omega)), Option.bind_some, Comp.zH, Comp.val_gd, if_pos (by rfl), hwtv, Option.bind_some, andNotB_nat (by omega) (by omega), Comp.zH, Comp.zK, Option.bind_some, Comp.zK]
    refine ⟨_, rfl, ?_⟩
    rw [cond_true, decide_eq_true_iff, ← s1, ← s2, ← without_zero (a := rm R i)]
    constructor
    ·intro h3; exact ⟨without_zero.1 h, by omega⟩
    ·rintro ⟨_, h3⟩; omega
   ·rw [e1, decide_eq_false h, Comp.zH, Comp.val_gd, if_neg (by simp), Option.bind_some, Comp.zH, Comp.val_gd, if_neg (by simp), Option.bind_some, Comp.zH, Comp.zK, Option.bind_some, Comp.zK]
    refine ⟨_, rfl, ?_⟩
    rw [cond_false, ← s1]
    constructor
    ·intro h3; cases h3
    ·intro h3; exact absurd (without_zero.2 h3.1) h
  ·rw [if_neg (by simp [k2]), if_neg k2, Comp.zH, hev, Option.bind_some]
   have hrange : ∀ y ∈ l, 0 ≤ y.Cell ∧ y.Cell < (M : Int) := by
    intro y hy
    have := List.any_eq_false.1 hfar y hy
    unfold farB at this
    simp at this
    omega
   have hlp := Comp.loop_any (body := fun s => zu l x (e : Int) s) l (fun y => decide (y.Gauge = x.Gauge) && decide (e.testBit y.Cell.toNat ≠ y.There)) false (by
    intro j y hy
    have hj := yZ hy
    have hc := hrange y (List.mem_of_getElem? hy)
    obtain ⟨c, hc2⟩ : ∃ c : Nat, y.Cell = (c : Int) := ⟨y.Cell.toNat, by omega⟩
    show (zu l x (e : Int) (j : Int)).val = _
    unfold zu
    rw [Comp.zb, if_pos (by rw [decide_eq_true_iff]; omega), Comp.zH, gb hy, Option.bind_some, hc2, bit_eq (by omega) (by omega), Int.toNat_natCast]
    have hw := Comp.zQ (i := j) (by omega)
    by_cases g : y.Gauge = x.Gauge
    ·rw [decide_eq_true g, Comp.zH, Comp.val_gd, if_pos (by rfl), gq (by omega), Option.bind_some, Comp.zH, Comp.zK, Option.bind_some, Comp.zb, Comp.zK, Comp.zK, cond_true, Bool.true_and, hw]
     split <;> rfl
    ·rw [decide_eq_false g]
     simp [Comp.zH, Comp.val_gd, Comp.zK, Comp.zb, hw]) (by
    show (zu l x (e : Int) (l.length : Int)).val = _
    unfold zu
    rw [Comp.zb, if_neg (by simp), Comp.zK])
   rw [Comp.zH, hlp, Option.bind_some]
   cases ha : l.any fun y => decide (y.Gauge = x.Gauge) && decide (e.testBit y.Cell.toNat ≠ y.There) with
   | true =>
    refine ⟨false, by simp [Comp.zK], ?_⟩
    obtain ⟨y, h1, h2⟩ := List.any_eq_true.1 ha
    simp only [Bool.and_eq_true, decide_eq_true_iff] at h2
    constructor
    ·intro h; cases h
    ·intro h
     exact absurd (h y h1 h2.1 y.Cell.toNat (by have := hrange y h1; omega)) h2.2
   | false =>
    refine ⟨true, by simp [Comp.zK, vu], ?_⟩
    rw [List.any_eq_false] at ha
    refine ⟨fun _ y hy hg k hk => ?_, fun _ => rfl⟩
    have := ha y hy
    simp only [Bool.and_eq_true, decide_eq_true_iff, not_and, ne_eq, Decidable.not_not] at this
    have h2 := this hg
    rw [hk, Int.toNat_natCast] at h2
    exact h2
theorem truth_val {C : List api_Claim} {l : List api_Sight} {mat M : Nat} {R : List Nat} (hM : M ≤ 16) (hC : C.length ≤ 10) (hl : l.length ≤ 40) (hR : R.length = C.length) (hm : mat < 2 ^ M) (hr : ∀ r ∈ R, r < 2 ^ M)
  (hs : SmallL C) (hcl : ∀ x ∈ C, claimE x (M : Int) = 0) (hfar : l.any (farB (M : Int)) = false) {e : Nat} (he : e < 2 ^ M) (hev : (yI ⟨(mat : Int), up R⟩ C).val = some (e : Int)) :
  ∃ t : Nat, t < 2 ^ C.length ∧ (vC ⟨(mat : Int), up R⟩ C l).val = some (t : Int) ∧ ∀ (i : Nat) x, C[i]? = some x → (t.testBit i = true ↔ HoldsP l mat R e x i) := by
 have hp := pow_len hC
 have hp0 := Nat.two_pow_pos C.length
 have key : Ok (vC ⟨(mat : Int), up R⟩ C l) (fun r => ∃ t : Nat, t < 2 ^ C.length ∧ r = (t : Int) ∧ ∀ (i : Nat) x, C[i]? = some x → (t.testBit i = true ↔ HoldsP l mat R e x i)) := by
  unfold vC
  rw [Ok.bind]
  refine Ok.mono (P := fun r => ∃ t : Nat, t < 2 ^ C.length ∧ r = (t : Int) ∧ ∀ (i : Nat) x, C[i]? = some x → (t.testBit i = true ↔ HoldsP l mat R e x i)) ?_ (fun r hr => by unfold vr; exact Ok.pure.2 hr)
  refine Ok.count C.length (fun i s => s.2 = (i : Int) ∧ ∃ t : Nat, t < 2 ^ i ∧ s.1 = (t : Int) ∧ ∀ (j : Nat) x, j < i → C[j]? = some x → (t.testBit j = true ↔ HoldsP l mat R e x j)) ⟨rfl, 0, by omega, rfl, fun j x h => by omega⟩ ?_ ?_
  ·rintro i ⟨a, s⟩ hi ⟨h0, w, hw, h1, h2⟩
   dsimp only at h0 h1
   subst h0 h1
   have hg := List.getElem?_eq_getElem hi
   have hpi : 2 ^ i < 2 ^ C.length := Nat.pow_lt_pow_right (by omega) hi
   have hps : 2 ^ (i + 1) = 2 ^ i * 2 := Nat.pow_succ ..
   obtain ⟨b, hb, hb2⟩ := holds_val hM hC hl hR hm hr hs hcl hfar he hev hg
   show Ok (yC C ⟨(mat : Int), up R⟩ l (w : Int) (i : Int)) _
   unfold yC vF
   rw [Ok.ite, if_pos (by simp; omega), Ok.bind, Ok.ve hb]
   cases b with
   | true =>
    rw [Ok.ite, if_pos rfl, Ok.bind, Ok.vf (by omega), Ok.pure, shlF_nat (by omega), orB_nat (by omega) (by omega)]
    refine ⟨Comp.zQ (by omega), w ||| 2 ^ i, Nat.or_lt_two_pow (by omega) (by omega), rfl, fun j x hj hx => ?_⟩
    rw [Nat.testBit_or, jx]
    by_cases e : i = j
    ·subst e
     rw [hg] at hx
     obtain rfl := Option.some.inj hx
     simp; exact hb2.1 rfl
    ·have := h2 j x (by omega) hx
     simp [e]; exact this
   | false =>
    rw [Ok.ite, if_neg (by simp), Ok.pure]
    refine ⟨Comp.zQ (by omega), w, by omega, rfl, fun j x hj hx => ?_⟩
    by_cases e : i = j
    ·subst e
     rw [hg] at hx
     obtain rfl := Option.some.inj hx
     rw [← hb2, Nat.testBit_lt_two_pow hw]
    ·exact h2 j x (by omega) hx
  ·rintro ⟨a, s⟩ ⟨h0, w, hw, h1, h2⟩
   dsimp only at h0 h1
   subst h0 h1
   show Ok (yC C ⟨(mat : Int), up R⟩ l (w : Int) (C.length : Int)) _
   unfold yC
   rw [Ok.ite, if_neg (by simp), Ok.pure]
   exact ⟨w, hw, rfl, fun j x hx => h2 j x (yZ hx) hx⟩
 obtain ⟨r, h1, w, hw, rfl, h2⟩ := key
 exact ⟨w, hw, h1, h2⟩
theorem zip_mem {C : List api_Claim} {q : api_Claim × Nat} (h : q ∈ C.zipIdx) : C[q.2]? = some q.1 := by
 obtain ⟨i, hi⟩ := List.getElem?_of_mem h
 rw [List.getElem?_zipIdx] at hi
 cases hc : C[i]? with
 | none => rw [hc] at hi; cases hi
 | some z =>
  rw [hc] at hi
  simp at hi
  rw [← hi]; simpa using hc
theorem world_agrees {C : List api_Claim} {l : List api_Sight} {mat M e t : Nat} {R : List Nat} (hG : GoodL C l (M : Int)) (heb : ∀ k, e.testBit k = (mat.testBit k && !C.zipIdx.any (cutB R k)))
  (ht : ∀ (i : Nat) x, C[i]? = some x → t.testBit i = true → HoldsP l mat R e x i) : agreeB C l M t = true := by
 unfold agreeB
 rw [Bool.not_eq_true', List.any_eq_false]
 intro c hc hbad
 have hT : ∀ b, C.zipIdx.any (qT l t (c : Int) b) = true → e.testBit c = b := by
  intro b h
  obtain ⟨q, h1, h2⟩ := List.any_eq_true.1 h
  unfold qT saidS at h2
  simp only [Bool.and_eq_true, decide_eq_true_iff, List.any_eq_true] at h2
  obtain ⟨⟨h3, h4⟩, y, h5, ⟨h6, h7⟩, h8⟩ := h2
  have hh := ht q.2 q.1 (zip_mem h1) h3
  unfold HoldsP at hh
  rw [if_neg (by omega), if_neg (by omega)] at hh
  rw [hh y h5 h6 c h7, h8]
 have hS : C.zipIdx.any (qS t (c : Int)) = true → e.testBit c = false := by
  intro h
  obtain ⟨q, h1, h2⟩ := List.any_eq_true.1 h
  unfold qS at h2
  simp only [Bool.and_eq_true, decide_eq_true_iff, Bool.not_eq_true'] at h2
  obtain ⟨⟨h3, h4⟩, h5⟩ := h2
  have hh := ht q.2 q.1 (zip_mem h1) h3
  unfold HoldsP at hh
  rw [if_pos h4] at hh
  rw [heb, hh, h5]; rfl
 have hE : C.zipIdx.any (qE t (c : Int)) = true → mat.testBit c = true := by
  intro h
  obtain ⟨q, h1, h2⟩ := List.any_eq_true.1 h
  unfold qE at h2
  simp only [Bool.and_eq_true, decide_eq_true_iff] at h2
  obtain ⟨⟨h3, h4⟩, h5⟩ := h2
  have hh := ht q.2 q.1 (zip_mem h1) h3
  unfold HoldsP at hh
  rw [if_pos h4] at hh
  rw [hh, h5]
 have hK : C.zipIdx.any (qK t (c : Int)) = true → e.testBit c = false := by
  intro h
  obtain ⟨q, h1, h2⟩ := List.any_eq_true.1 h
  unfold qK at h2
  simp only [Bool.and_eq_true, decide_eq_true_iff] at h2
  obtain ⟨⟨h3, h4⟩, h5⟩ := h2
  have hh := ht q.2 q.1 (zip_mem h1) h3
  unfold HoldsP at hh
  rw [if_neg (by omega), if_pos h4] at hh
  have hcut : C.zipIdx.any (cutB R c) = true := List.any_eq_true.2 ⟨q, h1, by
   unfold cutB
   simp only [Bool.and_eq_true, decide_eq_true_iff]
   exact ⟨h4, hh.1 c (List.contains_iff_mem.1 h5)⟩⟩
  rw [heb, hcut]; simp
 have hL : C.zipIdx.any (cutB R c) = true → C.zipIdx.any (qL t (c : Int)) = true := by
  intro h
  obtain ⟨q, h1, h2⟩ := List.any_eq_true.1 h
  unfold cutB at h2
  simp only [Bool.and_eq_true, decide_eq_true_iff] at h2
  refine List.any_eq_true.2 ⟨q, h1, ?_⟩
  unfold qL
  simp only [Bool.and_eq_true, decide_eq_true_iff, Bool.or_eq_true, Bool.not_eq_true']
  refine ⟨h2.1, ?_⟩
  cases hb : t.testBit q.2 with
  | false => exact .inl rfl
  | true =>
   have hh := ht q.2 q.1 (zip_mem h1) hb
   unfold HoldsP at hh
   rw [if_neg (by omega), if_pos h2.1] at hh
   exact .inr (List.contains_iff_mem.2 (hh.2 c h2.2))
 unfold badB at hbad
 simp only [Bool.or_eq_true, Bool.and_eq_true, Bool.not_eq_true'] at hbad
 rcases hbad with ⟨a, (b | b) | b⟩ | ⟨⟨a, b⟩, d⟩
 ·have h1 := hT _ a; have h2 := hT _ b; rw [h1] at h2; cases h2
 ·have h1 := hT _ a; rw [hS b] at h1; cases h1
 ·have h1 := hT _ a; rw [hK b] at h1; cases h1
 ·have h1 := hT _ a
  rw [heb, hE b, Bool.true_and, Bool.not_eq_false'] at h1
  rw [hL h1] at d; cases d
end Go.Crt
end
section
set_option linter.unusedVariables false
set_option linter.unusedSimpArgs false
namespace Go.Crt
open Go Go.Lift Go.F Go.Cor
variable {α β : Type}
def gc (x : api_Sight) : Int × Int := (x.Gauge, x.Cell)
theorem far_gc (m : Int) (l : List api_Sight) : l.any (farB m) = (l.map gc).any fun p => ((decide (p.1 < 0) || decide (p.1 ≥ 8)) || decide (p.2 < 0)) || decide (p.2 ≥ m) := by
 rw [List.any_map]; rfl
theorem seen_val {l : List api_Sight} {m : Int} (e f : Int) (hl : l.length ≤ 40) (hfar : l.any (farB m) = false) : ∃ l', (gt l e f).val = some l' ∧ l'.map gc = l.map gc := by
 have hLIM : LIM = 1073741824 := rfl
 have key : Ok (gt l e f) (fun l' => l'.map gc = l.map gc) := by
  unfold gt
  rw [Ok.bind, Ok.app (by simp; omega), List.nil_append, Ok.bind]
  refine Ok.mono (P := fun l' => l'.map gc = l.map gc) ?_ (fun r hr => by unfold je; exact Ok.pure.2 hr)
  refine Ok.count l.length (fun i s => s.2 = (i : Int) ∧ s.1.map gc = l.map gc) ⟨rfl, rfl⟩ ?_ ?_
  ·rintro i ⟨a, s⟩ hi ⟨h0, h1⟩
   dsimp only at h0 h1
   subst h0
   have hlen : a.length = l.length := by simpa using congrArg List.length h1
   have hx : i < a.length := by omega
   have hg := List.getElem?_eq_getElem hx
   have hcell : 0 ≤ a[i].Cell := by
    have hf : a.any (farB m) = false := by rw [far_gc, h1, ← far_gc, hfar]
    have := List.any_eq_false.1 hf a[i] (List.getElem_mem hx)
    unfold farB at this
    simp at this
    omega
   have ht : 0 ≤ Int.tmod (i : Int) 8 := Int.tmod_nonneg 8 (by omega)
   show Ok (yv l f e a (i : Int)) _
   unfold yv
   rw [Ok.ite, if_pos (by simp; omega), Ok.bind, Ok.idxn hg, Ok.bind, Ok.vf hcell, Ok.bind, Ok.vf ht, Ok.bind]
   refine Ok.gd_i (fun _ => ?_) (fun _ => ?_)
   ·rw [Ok.idxn hg, Ok.bind, Ok.idxn hg, Ok.bind, Ok.idxn hg, Ok.bind, Ok.upd (by omega), Int.toNat_natCast, Ok.pure]
    refine ⟨Comp.zQ (by omega), ?_⟩
    rw [List.map_set, ← h1]
    refine List.ext_getElem? fun j => ?_
    rw [List.getElem?_set]
    by_cases ej : i = j
    ·subst ej
     rw [if_pos rfl, if_pos (by simpa using hx), List.getElem?_map, hg]; rfl
    ·rw [if_neg ej]
   ·rw [Ok.bind, Ok.idxn hg, Ok.bind, Ok.idxn hg, Ok.bind, Ok.upd (by omega), Int.toNat_natCast, Ok.pure]
    refine ⟨Comp.zQ (by omega), ?_⟩
    rw [List.map_set, ← h1]
    refine List.ext_getElem? fun j => ?_
    rw [List.getElem?_set]
    by_cases ej : i = j
    ·subst ej
     rw [if_pos rfl, if_pos (by simpa using hx), List.getElem?_map, hg]; rfl
    ·rw [if_neg ej]
  ·rintro ⟨a, s⟩ ⟨h0, h1⟩
   dsimp only at h0 h1
   subst h0
   show Ok (yv l f e a (l.length : Int)) _
   unfold yv
   rw [Ok.ite, if_neg (by simp), Ok.pure]
   exact h1
 obtain ⟨r, h1, h2⟩ := key
 exact ⟨r, h1, h2⟩
theorem certain_val {C : List api_Claim} {l : List api_Sight} {m n : Int} {W : List Nat} (hC : C.length ≤ 10) (hWl : W.length ≤ LIM) (h : (gi C l m n).val = some (up W, 0)) :
  (jc C l m n).val = some (if W = [] then ([], 21) else (jn C (up W) 7, 0)) := by
 unfold jc
 rw [Comp.zH, h, Option.bind_some, Comp.zb, if_neg (by simp), Comp.zb]
 by_cases hW : W = []
 ·rw [if_pos (by simp [hW, up]), if_pos hW, Comp.zK]
 ·have : ((up W).length : Int) ≠ 0 := by
   rw [up_len]
   have := List.length_pos_iff.2 hW
   omega
  rw [if_neg (by simpa using this), if_neg hW, Comp.zH, cnames_val hC (by rw [up_len]; exact hWl), Option.bind_some]
  exact Comp.zK _
theorem wrap8 (z : Int) : ∃ k : Nat, k < 256 ∧ IntKind.wrap .i64 (IntKind.wrap .u8 z) = (k : Int) := by
 have h : IntKind.wrap .u8 z = z % 256 := by simp [IntKind.wrap, IntKind.signed, IntKind.bits]
 refine ⟨(z % 256).toNat, by omega, ?_⟩
 rw [h, IntWalk.i64_in _ ⟨by omega, by omega⟩]; omega
theorem and_out {k M : Nat} (hk : k < 256) (hM : M ≤ 16) : ∃ r : Nat, r < 2 ^ M ∧ andB .i64 (k : Int) ((2 ^ M - 1 : Nat) : Int) = (r : Int) := by
 have hp : 2 ^ M ≤ 65536 := Nat.pow_le_pow_right (n := 2) (by omega) hM
 have hp0 := Nat.two_pow_pos M
 refine ⟨k &&& (2 ^ M - 1), ?_, andB_nat (by omega) (by omega)⟩
 have : k &&& (2 ^ M - 1) ≤ 2 ^ M - 1 := Nat.and_le_right
 omega
theorem pow_all {M : Nat} (hM : M ≤ 16) : IntKind.wrap .i64 ((shlF .i64 1 (M : Int)) - 1) = ((2 ^ M - 1 : Nat) : Int) := by
 have hp : 2 ^ M ≤ 65536 := Nat.pow_le_pow_right (n := 2) (by omega) hM
 have hp0 := Nat.two_pow_pos M
 rw [shlF_nat (by omega), IntWalk.i64_in _ ⟨by omega, by omega⟩]; omega
theorem vidx6 (v : Vector Int 6) {i : Nat} (hi : i < 6) : ∃ z, (idx v.toList (i : Int)).val = some z := ⟨v.toList[i]'(by simpa using hi), gb (List.getElem?_eq_getElem (by simpa using hi))⟩
theorem world_val {C : List api_Claim} {l : List api_Sight} {M : Nat} (v : Vector Int 6) {mat : Int} (hM : M ≤ 16) (hC : C.length ≤ 6) (hs : SmallL C) (hcl : ∀ x ∈ C, claimE x (M : Int) = 0) :
  ∃ R : List Nat, R.length = C.length ∧ (∀ r ∈ R, r < 2 ^ M) ∧ (Comp.loop (fun s : Int × Int × List Int => zt (C, l, (M : Int)) v ((2 ^ M - 1 : Nat) : Int) s.1 s.2.1 s.2.2) (0, mat, List.replicate C.length 0)).val = some (mat, up R) := by
 have key : Ok (Comp.loop (fun s : Int × Int × List Int => zt (C, l, (M : Int)) v ((2 ^ M - 1 : Nat) : Int) s.1 s.2.1 s.2.2) (0, mat, List.replicate C.length 0)) (fun r => r.1 = mat ∧ ∃ R : List Nat, R.length = C.length ∧ (∀ r ∈ R, r < 2 ^ M) ∧ r.2 = up R) := by
  refine Ok.count C.length (fun i s => s.1 = (i : Int) ∧ s.2.1 = mat ∧ ∃ R : List Nat, R.length = C.length ∧ (∀ r ∈ R, r < 2 ^ M) ∧ s.2.2 = up R) ⟨rfl, rfl, List.replicate C.length 0, by simp, fun r hr => by rw [List.mem_replicate] at hr; rw [hr.2]; exact Nat.two_pow_pos M, by simp [up]⟩ ?_ ?_
  ·rintro i ⟨s, m, a⟩ hi ⟨h0, h1, R, h2, h3, h4⟩
   dsimp only at h0 h1 h4
   subst h0 h1 h4
   have hset : ∀ r : Nat, r < 2 ^ M → (R.set i r).length = C.length ∧ (∀ x ∈ R.set i r, x < 2 ^ M) ∧ (up R).set i (r : Int) = up (R.set i r) := by
    intro r hr
    refine ⟨by simp [h2], fun x hx => ?_, by unfold up; rw [List.map_set]⟩
    rcases List.mem_or_eq_of_mem_set hx with h | h
    ·exact h3 x h
    ·rw [h]; exact hr
   obtain ⟨z, hz⟩ := vidx6 v (i := i) (by omega)
   obtain ⟨k, hk, hkv⟩ := wrap8 (Int.tdiv z 2)
   obtain ⟨r, hr, hrv⟩ := and_out hk hM
   have hg := List.getElem?_eq_getElem hi
   have hup : (up R)[i]? = some ((rm R i : Nat) : Int) := rm_get (by omega)
   have hlen : i < (up R).length := by rw [up_len]; omega
   show Ok (zt (C, l, (M : Int)) v ((2 ^ M - 1 : Nat) : Int) (i : Int) m (up R)) _
   unfold zt vX
   rw [Ok.ite, if_pos (by rw [decide_eq_true_iff]; show (i : Int) < (C.length : Int); omega), Ok.bind, Ok.ve hz, Ok.bind, Ok.idxn hup, hkv, hrv, Ok.bind, Ok.upd (by omega), Int.toNat_natCast, Ok.bind, Ok.ve hz]
   obtain ⟨s1, s2, s3⟩ := hset r hr
   rw [s3]
   refine Ok.ite_i (fun _ => ?_) (fun _ => ?_)
   ·have hm := List.getElem_mem hi
    obtain ⟨w, hw, hwv, _⟩ := bits_val hM (claim_range (hcl _ hm)).1 (hs _ hm).1
    rw [Ok.bind, Ok.idxn hg, Ok.bind, Ok.ve hwv, Ok.bind, Ok.idxn (rm_get (by omega)), Ok.bind, Ok.upd (by rw [up_len]; omega), Int.toNat_natCast, Ok.pure]
    refine ⟨Comp.zQ (by omega), rfl, (R.set i r).set i w, by simp [h2], fun x hx => ?_, by simp [up, List.map_set]⟩
    rcases List.mem_or_eq_of_mem_set hx with h | h
    ·exact s2 x h
    ·rw [h]; exact hw
   ·rw [Ok.pure]
    exact ⟨Comp.zQ (by omega), rfl, R.set i r, s1, s2, rfl⟩
  ·rintro ⟨s, m, a⟩ ⟨h0, h1, R, h2, h3, h4⟩
   dsimp only at h0 h1 h4
   subst h0 h1 h4
   show Ok (zt (C, l, (M : Int)) v ((2 ^ M - 1 : Nat) : Int) (C.length : Int) m (up R)) _
   unfold zt
   rw [Ok.ite, if_neg (by simp), Ok.pure]
   exact ⟨rfl, R, h2, h3, rfl⟩
 obtain ⟨⟨a, b⟩, h1, rfl, R, h2, h3, h4⟩ := key
 dsimp only at h4
 subst h4
 exact ⟨R, h2, h3, h1⟩
theorem gN_mono {C : List api_Claim} {s t : Nat} (h : Cor.Sub s t) (ht : t < 18446744073709551616) : gN (s : Int) C.zipIdx ≤ gN (t : Int) C.zipIdx := by
 have hs : s ≤ t := Sub.le h
 unfold gN
 refine List.countP_mono_left fun q hq hp => ?_
 unfold bitZ at hp ⊢
 rw [U_small (by omega)] at hp
 rw [U_small ht]
 rw [Bool.and_eq_true] at hp ⊢
 exact ⟨hp.1, h _ hp.2⟩
theorem true_l5 {C : List api_Claim} {l : List api_Sight} {M t : Nat} (hC : C.length ≤ 6) (ht : t < 2 ^ C.length) (hag : agreeB C l M t = true) :
  (Comp.loop (fun s => zr (up (cf C l M), 0) ((compl C.length t : Nat) : Int) s) 0).val = some (.inr ()) := by
 have hp := pow6 hC
 have hlen := cf_len (l := l) (M := M) hC
 have hcl := compl_lt C.length t
 refine loop_none (body := fun s => zr (up (cf C l M), 0) ((compl C.length t : Nat) : Int) s) (cf C l M) ?_ ?_
 ·intro i s hi
  have hi2 := yZ hi
  have hm := List.mem_of_getElem? hi
  obtain ⟨hlt, hmin⟩ := cf_mem.1 hm
  have hne : s &&& compl C.length t ≠ 0 := by
   intro h0
   have : Cor.Sub s t := by
    intro k hk
    have := Nat.testBit_and s (compl C.length t) k
    rw [h0, testBit_compl, hk, decide_eq_true (bit_lt hlt hk)] at this
    simpa using this
   have := agree_down t s hag this
   rw [hmin.1] at this; cases this
  show (zr (up (cf C l M), 0) ((compl C.length t : Nat) : Int) (i : Int)).val = _
  unfold zr
  rw [Comp.zb, if_pos (by rw [decide_eq_true_iff, up_len]; omega), Comp.zH, gb (mem_up_get hi), Option.bind_some, andB_nat (by omega) (by omega), Comp.zb, if_neg (by rw [decide_eq_true_iff]; omega), Comp.zK, Comp.zQ (by omega)]
 ·show (zr (up (cf C l M), 0) ((compl C.length t : Nat) : Int) ((cf C l M).length : Int)).val = _
  unfold zr
  rw [Comp.zb, if_neg (by simp [up_len]), Comp.zK]
theorem true_l7 {C : List api_Claim} {W : List Nat} {f : Nat} (hC : C.length ≤ 6) (hf : f < 2 ^ C.length) (hW : ∀ w ∈ W, w < 2 ^ C.length) (hWl : W.length ≤ 64) (hex : ∃ w ∈ W, Cor.Sub w f) :
  (Comp.loop (fun s : Bool × Int => zq (up W, 0) (f : Int) s.1 s.2) (false, 0)).val = some true := by
 have hp := pow6 hC
 have := Comp.loop_fold (body := fun s : Bool × Int => zq (up W, 0) (f : Int) s.1 s.2) W (fun b x => b || decide (gR x f = 0)) id (fun _ _ => True) false (by
  intro b k x hk _
  have hk2 := yZ hk
  have hxl := hW x (List.mem_of_getElem? hk)
  show (zq (up W, 0) (f : Int) b (k : Int)).val = _
  unfold zq
  have e : decide (((gR x f : Nat) : Int) = 0) = decide (gR x f = 0) := decide_eq_decide.2 (by omega)
  rw [Comp.zb, if_pos (by rw [decide_eq_true_iff, up_len]; omega), Comp.zH, gb (mem_up_get hk), Option.bind_some, Comp.zH, Comp.zK, Option.bind_some, andNotB_nat (by omega) (by omega), Comp.zK, bif_or, e, Comp.zQ (by omega)])
  (fun _ _ _ _ _ => trivial) (by
  intro b _
  show (zq (up W, 0) (f : Int) b (W.length : Int)).val = _
  unfold zq
  rw [Comp.zb, if_neg (by simp [up_len]), Comp.zK]; rfl) trivial
 rw [this, Comp.foldl_any, Bool.false_or]
 congr 1
 obtain ⟨w, h1, h2⟩ := hex
 exact List.any_eq_true.2 ⟨w, h1, decide_eq_true (without_zero.2 h2)⟩
theorem true_l9 {C : List api_Claim} {l : List api_Sight} {M : Int} {W : List Nat} {f : Nat} (hC : C.length ≤ 6) (hf : f < 2 ^ C.length) (hW : ∀ w ∈ W, w < 2 ^ C.length) (hex : ∃ w ∈ W, Cor.Sub w f) :
  (Comp.loop (fun s => zp (jn C (up W) 7, 0) (C, l, M) (f : Int) s) 0).val = some (.inr ()) := by
 have hp := pow6 hC
 have hnl := namesOf_len C (up W) 7
 refine loop_none (body := fun s => zp (jn C (up W) 7, 0) (C, l, M) (f : Int) s) (jn C (up W) 7) ?_ ?_
 ·intro i p hi
  have hi2 := yZ hi
  have hm := List.mem_of_getElem? hi
  have inner : (Comp.loop (fun s : Bool × Int => zl (C, l, M) p (f : Int) s.1 s.2) (false, 0)).val = some true := by
   have := Comp.loop_fold (body := fun s : Bool × Int => zl (C, l, M) p (f : Int) s.1 s.2) C.zipIdx (fun b q => b || (decide (q.1.Party = p) && f.testBit q.2)) id (fun _ _ => True) false (by
    rintro b k ⟨x, j⟩ hk _
    have hk2 := yZ hk
    rw [zip_len] at hk2
    have hg := List.getElem?_eq_getElem hk2
    have hz := zip_get hg
    rw [hk] at hz
    obtain ⟨rfl, rfl⟩ : x = C[k] ∧ j = k := by cases hz; exact ⟨rfl, rfl⟩
    show (zl (C, l, M) p (f : Int) b (j : Int)).val = _
    unfold zl
    rw [Comp.zb, if_pos (by rw [decide_eq_true_iff]; show (j : Int) < (C.length : Int); omega), bit_eq (by omega) (by omega)]
    have hw := Comp.zQ (i := j) (by omega)
    cases b with
    | true => simp [Comp.zH, Comp.val_gd, Comp.zK, hw]
    | false =>
     by_cases hpq : C[j].Party = p
     ·simp [Comp.zH, Comp.val_gd, Comp.zK, gb hg, hpq, gq (show (0 : Int) ≤ (j : Int) by omega), hw]
     ·simp [Comp.zH, Comp.val_gd, Comp.zK, gb hg, hpq, hw])
    (fun _ _ _ _ _ => trivial) (by
    intro b _
    show (zl (C, l, M) p (f : Int) b (C.zipIdx.length : Int)).val = _
    unfold zl
    rw [zip_len, Comp.zb, if_neg (by simp), Comp.zK]; rfl) trivial
   rw [this, Comp.foldl_any, Bool.false_or]
   congr 1
   obtain ⟨w, h1, h2⟩ := hex
   have hp2 : (up W).all (fun z => blameB C p z) = true := by
    unfold jn at hm
    rw [List.mem_map] at hm
    obtain ⟨j, h3, h4⟩ := hm
    rw [List.mem_filter] at h3
    rw [← h4]; exact h3.2
   have h5 := List.all_eq_true.1 hp2 (w : Int) (mem_up.2 h1)
   unfold blameB bitZ at h5
   obtain ⟨q, h6, h7⟩ := List.any_eq_true.1 h5
   rw [U_small (by have := hW w h1; omega), Bool.and_eq_true] at h7
   exact List.any_eq_true.2 ⟨q, h6, by rw [Bool.and_eq_true]; exact ⟨h7.2, h2 _ h7.1⟩⟩
  show (zp (jn C (up W) 7, 0) (C, l, M) (f : Int) (i : Int)).val = _
  unfold zp
  rw [Comp.zb, if_pos (by rw [decide_eq_true_iff]; show (i : Int) < ((jn C (up W) 7).length : Int); omega), Comp.zH, gb hi, Option.bind_some, Comp.zH, inner, Option.bind_some]
  unfold gD
  rw [Comp.zb, if_neg (by simp), Comp.zK, Comp.zQ (by omega)]
 ·show (zp (jn C (up W) 7, 0) (C, l, M) (f : Int) ((jn C (up W) 7).length : Int)).val = _
  unfold zp
  rw [Comp.zb, if_neg (by simp), Comp.zK]
theorem law_CourtTrue {x : colletlaw43_Case} {a : Int} (hc : (Lit.int .u8 x.Cells).wf = true) (ha : (Lit.int .u8 a).wf = true) (v : Vector Int 6) (wr : Int) : (jC x a v wr).val = some true := by
 have hLIM : LIM = 1073741824 := rfl
 obtain ⟨b, hb, hb2⟩ := wf_u8 hc
 obtain ⟨a, ha2, rfl⟩ := wf_u8 ha
 obtain ⟨C, l, M, hv, hmade, _⟩ := made_val (most := 6) hb2 hb (by omega)
 replace hv : (vZ x 6).val = some (C, l, (M : Int)) := hv
 have hC := hmade.len.1
 have hM := hmade.cells
 have hs := hmade.small
 have hck := hmade.check
 obtain ⟨hcl, hfar⟩ := check_ranges hck
 have hpa := pow_all (M := M) (by omega)
 have hwa : IntKind.wrap .i64 (a : Int) = (a : Int) := wrap_nat (by omega)
 obtain ⟨mat, hmat, hmatv⟩ := and_out ha2 (M := M) (by omega)
 obtain ⟨R, hR1, hR2, hRv⟩ := world_val (l := l) (M := M) v (mat := (mat : Int)) (by omega) hC hs hcl
 obtain ⟨e, he, hev, heb⟩ := there_val (C := C) (M := M) (by omega) (by omega) hR1 hmat hR2
 obtain ⟨l', hlv, hlg⟩ := seen_val (e : Int) wr (by have := hmade.len.2; omega) hfar
 have hlen' : l'.length = l.length := by simpa using congrArg List.length hlg
 have hfar' : l'.any (farB (M : Int)) = false := by rw [far_gc, hlg, ← far_gc, hfar]
 have hck' : checkE C l' (M : Int) = 0 := check_like hck hlen' (by rw [hfar', hfar])
 have hG := goodL hck'
 obtain ⟨t, ht, htv, htb⟩ := truth_val (C := C) (l := l') (M := M) (by omega) (by omega) (by have := hmade.len.2; omega) hR1 hmat hR2 hs hcl hfar' he hev
 have hag := world_agrees hG heb (fun i x hx h => (htb i x hx).1 h)
 have hp := pow6 hC
 have hp0 := Nat.two_pow_pos C.length
 have hpo := pow_out (n := C.length) (by omega)
 have hcomp : andNotB .i64 ((2 ^ C.length - 1 : Nat) : Int) (t : Int) = ((compl C.length t : Nat) : Int) := andNotB_nat (by omega) (by omega)
 have hfl := compl_lt C.length t
 have hAv : (jV C l' (M : Int) (t : Int)).val = some true := by rw [agrees_in hs hck' ht, hag]
 have hCv := cf_val hC hs hck'
 unfold jC
 rw [Comp.zH, sanity_val, Option.bind_some, Comp.zH, hv, Option.bind_some, Comp.zH, gq (by show (0 : Int) ≤ (M : Int); omega), Option.bind_some, hpa, hwa, Comp.zH, Comp.zK, Option.bind_some, Comp.zH, mk_val (by show (0 : Int) ≤ (C.length : Int) ∧ (C.length : Int) ≤ (LIM : Int); omega), Option.bind_some, Int.toNat_natCast, hmatv, Comp.zH, hRv, Option.bind_some]
 show (vY (C, l, (M : Int)) wr true (mat : Int) (up R)).val = _
 unfold vY
 rw [Comp.zH, hev, Option.bind_some, Comp.zH, hlv, Option.bind_some, Comp.zH, htv, Option.bind_some, Comp.zH, gq (by omega), Option.bind_some, hpo, hcomp, Comp.zH, Comp.zK, Option.bind_some, Comp.zH, hAv, Option.bind_some, Comp.zb, if_neg (by simp), Comp.zH, hCv, Option.bind_some, Comp.zb, if_neg (by simp), Comp.zH, true_l5 hC ht hag, Option.bind_some]
 show (vW (C, l, (M : Int)) ((compl C.length t : Nat) : Int) true l').val = _
 obtain ⟨g, hg, hgv, hgb⟩ := gaugesM_val (C := C) (by omega)
 have hmany : (gu (andB .i64 ((compl C.length t : Nat) : Int) (g : Int))).val = some (gN ((compl C.length t : Nat) : Int) C.zipIdx : Int) := by
  rw [andB_nat (by omega) (by omega), many_val (k := C.length) (by omega) (Nat.lt_of_le_of_lt Nat.and_le_left hfl), ← gN_pop (by omega) hfl hgb]
 unfold vW
 rw [Comp.zH, hgv, Option.bind_some, Comp.zH, hmany, Option.bind_some, Comp.zb]
 by_cases h3 : (gN ((compl C.length t : Nat) : Int) C.zipIdx : Int) > 3
 ·rw [if_pos (by simpa using h3), Comp.zK]
 ·rw [if_neg (by simpa using h3)]
  obtain ⟨W, hW1, hW⟩ := why_val (l := l') (gN ((compl C.length t : Nat) : Int) C.zipIdx : Int) hC hs hck' (by omega)
  have hWl : W.length ≤ 64 := Nat.le_trans (inc_up_len hW.inc fun x hx => hW.lt hx) hp
  have hex : ∃ w ∈ W, Cor.Sub w (compl C.length t) := by
   have hh : Hits (compl C.length t) (cf C l' M) := (hits_compl (P := agreeB C l' M) agree_down ht).2 hag
   obtain ⟨w, h1, h2⟩ := exists_min (P := fun h => Hits h (cf C l' M)) _ hh
   refine ⟨w, (hW.mem w).2 ⟨h1, ?_⟩, h2⟩
   unfold fewG
   rw [decide_eq_true_iff]
   have := gN_mono (C := C) h2 (by omega)
   omega
  have hne : W ≠ [] := by
   obtain ⟨w, h1, _⟩ := hex
   intro h; rw [h] at h1; cases h1
  have hcert := certain_val (by omega) (by unfold LIM; omega) hW1
  rw [if_neg hne] at hcert
  rw [Comp.zH, hW1, Option.bind_some, Comp.zH, hcert, Option.bind_some, Comp.zH, true_l7 hC hfl (fun w hw => hW.lt hw) hWl hex, Option.bind_some]
  unfold gP
  rw [Comp.zH, Comp.zK, Option.bind_some, Comp.zb, if_neg (by simp), Comp.zH, true_l9 hC hfl (fun w hw => hW.lt hw) hex, Option.bind_some]
  exact Comp.zK _
end Go.Crt
end
section
set_option linter.unusedVariables false
set_option linter.unusedSimpArgs false
namespace Go.Lift
open Go Go.RowKit Go.Eng Go.ChangeShapes Go.WideShapes Go.ChangeAt Go.Joins Go.Deep Go.WideElems
variable {H : Type} {enc : TypeId × Value → H} {P : Program} {w : World} {base : Nat} {sp : Nat → Bool} {held : Bool} {α β γ : Type}
abbrev O0 : Tags := fun _ => 0
structure Opens (enc : TypeId × Value → H) (P : Program) (w : World) (base : Nat) (sp : Nat → Bool) (held : Bool) (t : Nat) (r : GR α) (Q : α → Prop) : Prop where
 size : P.cellsOf t = r.sz
 fits : r.fits
 op : ∀ fuel cs x, DataW.trod enc P w base sp held fuel t cs = some x → ∃ y, r.rel O0 w cs y ∧ Q y
theorem opens_int {t : Nat} {k : IntKind} (ht : P.underlying t = some (.int k)) (hs : P.cellsOf t = 1) : Opens enc P w base sp held t (rInt k) fun n => (Lit.int k n).wf = true :=
 ⟨hs, fun _ => rfl, fun fuel cs x h => by obtain ⟨n, h1, _, h2⟩ := DataW.trod_int ht h; exact ⟨n, h1, h2⟩⟩
theorem relL_of {r : GR α} {O : Tags} {Q : α → Prop} : ∀ {vs : List Value}, (∀ v ∈ vs, ∃ y, r.v O w v y ∧ Q y) → ∃ ys, RelL r O w vs ys ∧ ∀ y ∈ ys, Q y
 | [], _ => ⟨[], trivial, by simp⟩
 | v :: vs, h => by
   obtain ⟨y, h1, h2⟩ := h v (by simp)
   obtain ⟨ys, h3, h4⟩ := relL_of (vs := vs) fun u hu => h u (List.mem_cons_of_mem _ hu)
   exact ⟨y :: ys, ⟨h1, h3⟩, fun z hz => (List.mem_cons.1 hz).elim (fun e => by rw [e]; exact h2) (h4 z)⟩
theorem opens_slice {t e : Nat} {r : GR α} {Q : α → Prop} (ht : P.underlying t = some (.slice e)) (hs : P.cellsOf t = 1) (hE : Opens enc P w base sp held e r Q) (hpos : 0 < r.sz) : Opens enc P w base sp held t (rSl r) fun xs => (∀ x ∈ xs, Q x) ∧ xs.length ≤ maxLen := by
 refine ⟨hs, fun _ => rfl, fun fuel cs x h => ?_⟩
 rcases DataW.trod_slice ht h with ⟨rfl, _⟩ | ⟨a, len, cap, elems, rest, n, _, rfl, _, hb, hl, hm, hlen, hel, _, _⟩
 ·exact ⟨[], ⟨_, [], rfl, ⟨none, 0, rfl, by simp, by simp, .inl rfl⟩, trivial, fun h => absurd rfl h⟩, by simp, by simp⟩
 ·have each : ∀ i, i < len → ∃ cs, w.cells? base (a.add (i * r.sz)) r.sz = some cs ∧ ∃ y, r.rel O0 w cs y ∧ Q y := by
   intro i hi
   have := hel i hi
   rw [List.getElem?_eq_getElem (by omega), hE.size, Option.bind_eq_some_iff] at this
   obtain ⟨cs, h1, h2⟩ := this
   exact ⟨cs, h1, hE.op n cs _ h2⟩
  let f : Nat → Value := fun i => packV r.agg ((w.cells? base (a.add (i * r.sz)) r.sz).getD [])
  have hf : ∀ i, i < len → ∃ y, r.v O0 w (f i) y ∧ Q y := by
   intro i hi
   obtain ⟨cs, h1, y, h2, h3⟩ := each i hi
   exact ⟨y, ⟨cs, h2, by show packV r.agg ((w.cells? base (a.add (i * r.sz)) r.sz).getD []) = _; rw [h1]; rfl⟩, h3⟩
  have hfc : ∀ i, i < len → ∀ j, j < r.sz → w.cell? (a.add (i * r.sz + j)) = (f i).cells[j]? := by
   intro i hi j hj
   obtain ⟨cs, h1, y, h2, _⟩ := each i hi
   have h4 := (World.cells?_some h1).2.2 j hj
   have h5 : (f i).cells = cs.toArray := by
    show (packV r.agg ((w.cells? base (a.add (i * r.sz)) r.sz).getD [])).cells = _
    rw [h1]
    exact cells_pack (fun ha => by show cs.length = 1; rw [r.len h2, hE.fits ha]) (r.one h2)
   rw [h5, List.getElem?_toArray, ← h4]
   rw [_root_.Go.Addr.add_add]
  obtain ⟨ys, h1, h2⟩ := relL_of (r := r) (O := O0) (w := w) (Q := Q) (vs := (List.range len).map f) (by
   intro v hv
   obtain ⟨i, hi, rfl⟩ := List.mem_map.1 hv
   exact hf i (List.mem_range.1 hi))
  have hyl : ys.length = len := by have := h1.len; simpa using this.symm
  refine ⟨ys, ⟨_, (List.range len).map f, rfl, ⟨some a, cap, by simp, by simpa using hl, ?_, ?_⟩, h1, ?_⟩, h2, by omega⟩
  ·intro v hv
   obtain ⟨y, hy⟩ : ∃ y, r.v O0 w v y := by
    obtain ⟨i, hi, rfl⟩ := List.mem_map.1 hv
    obtain ⟨y, hy, _⟩ := hf i (List.mem_range.1 hi); exact ⟨y, hy⟩
   exact r.cells_size hE.fits hy
  ·by_cases h0 : len = 0
   ·left; simp [h0]
   ·right
    obtain ⟨b, off, spot⟩ := a
    have hc0 : (w.cell? (Addr.add ⟨b, off, spot⟩ (0 * r.sz + 0))).isSome = true := by
     rw [hfc 0 (by omega) 0 hpos]
     obtain ⟨y, hy, _⟩ := hf 0 (by omega)
     have := r.cells_size hE.fits hy
     rw [Array.getElem?_eq_getElem (by omega)]; rfl
    obtain ⟨v0, hv0⟩ := Option.isSome_iff_exists.1 hc0
    have hspot : spot = none := by simpa [Addr.add] using World.cell?_spot hv0
    subst hspot
    refine ⟨b, off, rfl, fun i x hx j hj => ?_⟩
    have hi : i < len := by have := (List.getElem?_eq_some_iff.1 hx).1; simpa using this
    have hx' : x = f i := by
     rw [List.getElem?_map, List.getElem?_range hi] at hx
     simpa using hx.symm
    rw [hx', ← hfc i hi j hj]
    unfold Addr.add
    split
    ·rename_i h0; congr 1; simp [h0]
    ·rfl
  ·intro hne g hg
   have h0 : 0 < len := by
    rcases Nat.eq_zero_or_pos len with h0 | h0
    ·subst h0; exact absurd rfl hne
    ·exact h0
   have hgb : g = a.block := by
    have : (Value.slice (some a) len cap).ownBlock = some a.block := rfl
    rw [this] at hg; exact (Option.some.inj hg).symm
   subst hgb
   refine ⟨?_, rfl⟩
   obtain ⟨cs, h3, _⟩ := each 0 h0
   have h4 := (World.cells?_some h3)
   have h5 := h4.2.2 0 hpos
   rw [List.getElem?_eq_getElem (by omega)] at h5
   have he : (a.add (0 * r.sz)).add 0 = a := by simp [Addr.add]
   rw [he] at h5
   exact World.block_lt_of_cell? _ _ h5
theorem open_top {t : Nat} {r : GR α} {Q : α → Prop} {v : Value} {d : DataW H} {ps : List MemPlace} (hE : Opens enc P w base sp held t r Q) (hv : packV r.agg v.cells.toList = v) (h : DataW.Trod enc P w base sp held t v d ps) : ∃ x, r.v O0 w v x ∧ Q x := by
 obtain ⟨fuel, hf⟩ := h
 obtain ⟨y, h1, h2⟩ := hE.op fuel _ _ hf
 exact ⟨y, ⟨_, h1, hv.symm⟩, h2⟩
theorem okO_O0 : OkO O0 w := fun _ _ => rfl
end Go.Lift
end
section
set_option linter.unusedVariables false
set_option linter.unusedSimpArgs false
namespace Go.Lift
open Go Go.RowKit Go.Eng Go.ChangeShapes Go.WideShapes Go.ChangeAt Go.Joins Go.Deep Go.WideElems
variable {H : Type} {enc : TypeId × Value → H} {P : Program} {w : World} {base : Nat} {sp : Nat → Bool} {held : Bool} {α β γ : Type}
theorem chop (cs : List Value) (off s : Nat) : cs.drop off = (cs.drop off).take s ++ cs.drop (off + s) := by
 rw [← List.drop_drop, List.take_append_drop]
theorem Opens.at_ {t : Nat} {r : GR α} {Q : α → Prop} (hE : Opens enc P w base sp held t r Q) {off n : Nat} {cs : List Value} {y} (h : DataW.trod enc P w base sp held n t ((cs.drop off).take (P.cellsOf t)) = some y) : ∃ a, r.rel O0 w ((cs.drop off).take r.sz) a ∧ Q a := by
 rw [hE.size] at h; exact hE.op n _ _ h
theorem rows_of {f : α → List Value} {Q : α → Prop} {k : Nat} : ∀ (n : Nat) (cs : List Value), cs.length = n * k → (∀ i, i < n → ∃ y, (cs.drop (i * k)).take k = f y ∧ Q y) → ∃ ys : List α, ys.length = n ∧ cs = ys.flatMap f ∧ ∀ y ∈ ys, Q y
 | 0, cs, h, _ => ⟨[], rfl, by rw [Nat.zero_mul] at h; rw [List.eq_nil_of_length_eq_zero h]; rfl, by simp⟩
 | n + 1, cs, h, hh => by
  obtain ⟨y, h1, h2⟩ := hh 0 (by omega)
  rw [Nat.zero_mul, List.drop_zero] at h1
  obtain ⟨ys, h3, h4, h5⟩ := rows_of (f := f) (Q := Q) (k := k) n (cs.drop k) (by rw [List.length_drop, h, Nat.add_mul]; omega) (fun i hi => by
   obtain ⟨z, h6, h7⟩ := hh (i + 1) (by omega)
   exact ⟨z, by rw [List.drop_drop, ← h6, Nat.add_mul, Nat.one_mul, Nat.add_comm], h7⟩)
  refine ⟨y :: ys, by simp [h3], ?_, ?_⟩
  ·rw [List.flatMap_cons, ← h1, ← h4, List.take_append_drop]
  ·intro z hz
   rcases List.mem_cons.1 hz with rfl | hz
   ·exact h2
   ·exact h5 z hz
theorem opens_vec {t e n k : Nat} {agg : Bool} {f : α → List Value} {hl ho hl' ho'} {Q : α → Prop} (ht : P.underlying t = some (.array n e)) (hs : P.cellsOf t = n * k) (hE : Opens enc P w base sp held e (rC agg k f hl ho) Q) : Opens enc P w base sp held t (rVec n k f hl' ho') fun x => ∀ y ∈ x.toList, Q y := by
 refine ⟨hs, (fun h => by cases h), fun fuel cs x h => ?_⟩
 obtain ⟨xs, m, rfl, rfl, hlen, hxl, hel⟩ := DataW.trod_array ht h
 obtain ⟨ys, h1, h2, h3⟩ := rows_of (f := f) (Q := Q) (k := k) n cs (by rw [hlen, hs]) (fun i hi => by
  have := hel i hi
  rw [List.getElem?_eq_getElem (by omega)] at this
  have hc : P.cellsOf e = k := hE.size
  rw [hc] at this
  have h4 : (cs.drop (i * k)).take k = (cs.drop (i * k)).take (P.cellsOf e) := by rw [hc]
  rw [h4] at this
  obtain ⟨a, h5, h6⟩ := hE.at_ this
  exact ⟨a, h5, h6⟩)
 exact ⟨⟨ys.toArray, by simpa using h1⟩, h2, by simpa using h3⟩
theorem okWide_array {n e : Nat} {t : TypeId} {r : Reach} {b : Nat} {v : Value} (ht : P.underlying t = some (.array n e)) (h : Value.okWide P w r b t v) : ∃ cs, v = .agg cs ∧ cs.size = P.cellsOf t := by
 simp only [Value.okWide, ht] at h
 obtain ⟨cs, h1, h2, _⟩ := h
 exact ⟨cs, h1, h2⟩
theorem open_struct {t : Nat} {fs : Array Field} {r : GR α} {Q : α → Prop} {re : Reach} {b0 : Nat} {v : Value} {d : DataW H} {ps : List MemPlace} (ht : P.underlying t = some (.struct fs)) (hE : Opens enc P w base sp held t r Q) (ha : r.agg = true) (hval : Value.okWide P w re b0 t v) (h : DataW.Trod enc P w base sp held t v d ps) : ∃ x, r.v O0 w v x ∧ Q x := by
 obtain ⟨cs, rfl, _⟩ := okWide_struct ht hval
 exact open_top hE (by simp [Value.cells, packV, ha]) h
theorem open_array {t n e : Nat} {r : GR α} {Q : α → Prop} {re : Reach} {b0 : Nat} {v : Value} {d : DataW H} {ps : List MemPlace} (ht : P.underlying t = some (.array n e)) (hE : Opens enc P w base sp held t r Q) (ha : r.agg = true) (hval : Value.okWide P w re b0 t v) (h : DataW.Trod enc P w base sp held t v d ps) : ∃ x, r.v O0 w v x ∧ Q x := by
 obtain ⟨cs, rfl, _⟩ := okWide_array ht hval
 exact open_top hE (by simp [Value.cells, packV, ha]) h
end Go.Lift
end
section
namespace Go.Proofs.Ytebmpjdegajhgaa.courtTrueDone
open Go Go.ChangeShapes Go.WideShapes Go.ChangeAt Go.RowKit Go.Eng Go.Lift Go.Joins Go.F
open Go.ChangeMaps (open_string shut_string)
open Go.Proofs.Ytebmpjdegajhgaa
set_option linter.unusedVariables false
set_option linter.unusedSimpArgs false
theorem op_3 {H : Type} {enc : TypeId × Value → H} {w : World} {base : Nat} {sp : Nat → Bool} {held : Bool} : Opens enc Try.prog w base sp held 3 (rInt .i64) (fun z => (Lit.int .i64 z).wf = true) := opens_int Try.underlying3 (by kernel_rfl)
theorem op_23 {H : Type} {enc : TypeId × Value → H} {w : World} {base : Nat} {sp : Nat → Bool} {held : Bool} : Opens enc Try.prog w base sp held 23 (rSl (rInt .i64)) (fun z => (∀ y ∈ z, (fun z => (Lit.int .i64 z).wf = true) y) ∧ z.length ≤ maxLen) := opens_slice Try.underlying23 (by kernel_rfl) op_3 (by decide)
theorem op_22 {H : Type} {enc : TypeId × Value → H} {w : World} {base : Nat} {sp : Nat → Bool} {held : Bool} : Opens enc Try.prog w base sp held 22 (rSl (rSl (rInt .i64))) (fun z => (∀ y ∈ z, (fun z => (∀ y ∈ z, (fun z => (Lit.int .i64 z).wf = true) y) ∧ z.length ≤ maxLen) y) ∧ z.length ≤ maxLen) := opens_slice Try.underlying22 (by kernel_rfl) op_23 (by decide)
theorem op_5 {H : Type} {enc : TypeId × Value → H} {w : World} {base : Nat} {sp : Nat → Bool} {held : Bool} : Opens enc Try.prog w base sp held 5 (rInt .u8) (fun z => (Lit.int .u8 z).wf = true) := opens_int Try.underlying5 (by kernel_rfl)
def Q_colletlaw43_Case (x : colletlaw43_Case) : Prop := ((∀ y ∈ x.Claims, (fun z => (∀ y ∈ z, (fun z => (Lit.int .i64 z).wf = true) y) ∧ z.length ≤ maxLen) y) ∧ x.Claims.length ≤ maxLen) ∧ ((Lit.int .u8 x.Cells).wf = true) ∧ ((∀ y ∈ x.Sights, (fun z => (Lit.int .i64 z).wf = true) y) ∧ x.Sights.length ≤ maxLen) ∧ True
theorem op_25 {H : Type} {enc : TypeId × Value → H} {w : World} {base : Nat} {sp : Nat → Bool} {held : Bool} : Opens enc Try.prog w base sp held 25 zU Q_colletlaw43_Case := by
 refine ⟨by kernel_rfl, yE, fun fuel cs x h => ?_⟩
 obtain ⟨xs, n, rfl, rfl, hl, hlen, hf⟩ := DataW.trod_struct Try.underlying25 h
 have hl' : cs.length = 3 := hl.trans (by kernel_rfl)
 obtain ⟨y0, hy0⟩ : ∃ y, xs[0]? = some y := ⟨_, List.getElem?_eq_getElem (by rw [hlen]; decide)⟩
 obtain ⟨a0, k0, q0⟩ := Opens.at_ (off := 0) (n := n) (cs := cs) (op_22 (enc := enc) (w := w) (base := base) (sp := sp) (held := held)) ((hf 0 _ rfl).trans hy0)
 obtain ⟨y1, hy1⟩ : ∃ y, xs[1]? = some y := ⟨_, List.getElem?_eq_getElem (by rw [hlen]; decide)⟩
 obtain ⟨a1, k1, q1⟩ := Opens.at_ (off := 1) (n := n) (cs := cs) (op_5 (enc := enc) (w := w) (base := base) (sp := sp) (held := held)) ((hf 1 _ rfl).trans hy1)
 obtain ⟨y2, hy2⟩ : ∃ y, xs[2]? = some y := ⟨_, List.getElem?_eq_getElem (by rw [hlen]; decide)⟩
 obtain ⟨a2, k2, q2⟩ := Opens.at_ (off := 2) (n := n) (cs := cs) (op_23 (enc := enc) (w := w) (base := base) (sp := sp) (held := held)) ((hf 2 _ rfl).trans hy2)
 exact ⟨⟨a0, a1, a2⟩, ⟨_, _, chop cs 0 1, k0, ⟨_, _, chop cs 1 1, k1, ⟨_, _, chop cs 2 1, k2, List.drop_of_length_le (by rw [hl']; decide)⟩⟩⟩, ⟨q0, q1, q2, trivial⟩⟩
theorem op_54 {H : Type} {enc : TypeId × Value → H} {w : World} {base : Nat} {sp : Nat → Bool} {held : Bool} : Opens enc Try.prog w base sp held 54 (rVec 6 1 (fun x => [.int .u8 x]) (fun _ => rfl) (fun _ => by simp [Value.oneCell'])) (fun z => ∀ y ∈ z.toList, (fun z => (Lit.int .u8 z).wf = true) y) := opens_vec Try.underlying54 (by kernel_rfl) op_5
theorem own : ownKnob Try.prog.godebug = none := by kernel_rfl
theorem laidOut : laidOutB Try.prog = true := by kernel_rfl
set_option maxRecDepth 100000 in
theorem lifted (os : Os) (started : os.Started) (H : Type) (enc : TypeId × Value → H) :
  ReturnsInHanded {} Try.checked os 5 .any (Rows.courtTrueSpec.pre6 enc Try.prog Try.f5 Rows.courtTrueRow.domain false) (Rows.courtTrueSpec.post enc Try.prog Try.f5 false true false false) := by
 refine returnsInHanded_of_change (C := Try.checked) own started (by kernel_rfl) Try.func5
  (ChangeSpec.witness6 (enc := enc) (C := Try.checked) false ⟨#[], #[.agg #[.slice none 0 0, .int .u8 0, .slice none 0 0], .int .u8 0, .agg #[.int .u8 0, .int .u8 0, .int .u8 0, .int .u8 0, .int .u8 0, .int .u8 0], .int .u8 0], []⟩ 8 (by kernel_rfl) (by kernel_rfl) (by kernel_rfl) (by kernel_rfl)) ?_
 intro W base args ds gs before hval0 hW hcnd _
 have hval : ∀ (j : Nat) t v, Try.f5.params[j]? = some t → args[j]? = some v → Value.okWide Try.prog W .any base t v := hval0
 have hW' := hW
 obtain ⟨p, q, hA0, hV, rfl, hfz, hnd⟩ := hW
 have hA : DataW.TrodAll enc Try.prog W 0 (fun _ => true) true Try.f5.params.toList args.toList ds p := hA0
 rw [Try.params5] at hA hval
 obtain ⟨v0, vs0, d0, ds0, p0, q0_, hargs, rfl, rfl, h0, r0⟩ := trodAll_cons hA
 obtain ⟨v1, vs1, d1, ds1, p1, q1_, rfl, rfl, rfl, h1, r1⟩ := trodAll_cons r0
 obtain ⟨v2, vs2, d2, ds2, p2, q2_, rfl, rfl, rfl, h2, r2⟩ := trodAll_cons r1
 obtain ⟨v3, vs3, d3, ds3, p3, q3_, rfl, rfl, rfl, h3, r3⟩ := trodAll_cons r2
 obtain ⟨rfl, rfl, rfl⟩ := trodAll_nil r3
 obtain rfl : args = #[v0, v1, v2, v3] := by cases args; simp_all
 obtain ⟨rfl, rfl⟩ := trodVars_none hV
 have k0 := h0
 have lt0 : ∀ x ∈ p0, x.block < W.heap.size := by obtain ⟨m, hm⟩ := k0; exact DataW.trod_lt m _ _ _ hm
 have k1 := h1
 have lt1 : ∀ x ∈ p1, x.block < W.heap.size := by obtain ⟨m, hm⟩ := k1; exact DataW.trod_lt m _ _ _ hm
 have k2 := h2
 have lt2 : ∀ x ∈ p2, x.block < W.heap.size := by obtain ⟨m, hm⟩ := k2; exact DataW.trod_lt m _ _ _ hm
 have k3 := h3
 have lt3 : ∀ x ∈ p3, x.block < W.heap.size := by obtain ⟨m, hm⟩ := k3; exact DataW.trod_lt m _ _ _ hm
 obtain ⟨x0, hr0, q0⟩ := open_struct Try.underlying25 op_25 rfl (hval 0 25 v0 rfl rfl) h0
 obtain ⟨x1, e1, _, _, q1⟩ := open_int Try.underlying5 (hval 1 5 v1 rfl rfl) h1
 obtain ⟨x2, hr2, q2⟩ := open_array Try.underlying54 op_54 rfl (hval 2 54 v2 rfl rfl) h2
 have e2 : v2 = .agg (jH (fun x => [.int .u8 x]) x2).toArray := rC_v.1 hr2
 obtain ⟨x3, e3, _, _, q3⟩ := open_int Try.underlying5 (hval 3 5 v3 rfl rfl) h3
 clear hA0 hval0
 obtain ⟨n_, hn_⟩ := Comp.val_some.1 (Go.Crt.law_CourtTrue q0.2.1 q1 x2 x3)
 have walk := ok_colletlaw43_CourtTrue (w0 := W) okO_O0 hr0 hn_
 refine Calls.mono (R := fun e W' => e = .returned (.bool true) ∧ Below W.heap.size W W') ?_ fun e W' ⟨he, bel⟩ => ?_
 ·rw [e1]; rw [e2]; rw [e3]; exact Calls.mono walk fun e W' ⟨_, h1, h2, h3⟩ => ⟨by rw [h1]; exact congrArg _ h3, h2⟩
 ·subst he
  exact ⟨_, rfl, _, _, _, [], _, [], hW', trodAll_mk1 (shut_bool Try.underlying4 _), (trodAll_cons_mk (Below.trod laidOut (by kernel_rfl) (of_decide_eq_true (by kernel_rfl)) k0 bel lt0) (trodAll_cons_mk (Below.trod laidOut (by kernel_rfl) (of_decide_eq_true (by kernel_rfl)) k1 bel lt1) (trodAll_cons_mk (Below.trod laidOut (by kernel_rfl) (of_decide_eq_true (by kernel_rfl)) k2 bel lt2) (trodAll_cons_mk (Below.trod laidOut (by kernel_rfl) (of_decide_eq_true (by kernel_rfl)) k3 bel lt3) trodAll_mk0)))), rfl, bel.frame _, fun h => by cases h⟩
theorem proved : Rows.CourtTrueSaid :=
 OpenClaim.holds_of_wide 5 Try.f5 rfl rfl rfl rfl rfl rfl rfl ⟨rfl, rfl, rfl, rfl, rfl⟩ rfl rfl rfl rfl rfl (by kernel_rfl) Try.func5 (by kernel_rfl)
  (of_decide_eq_true (by kernel_rfl)) (by unfold Func.isWrapper; first | (rw [if_pos (by decide +kernel)]; kernel_rfl) | (rw [if_neg (by decide +kernel)]; exact ⟨rfl, rfl⟩))
  (fun os started H enc _ => lifted os started H enc)
#print axioms proved
end Go.Proofs.Ytebmpjdegajhgaa.courtTrueDone
end
