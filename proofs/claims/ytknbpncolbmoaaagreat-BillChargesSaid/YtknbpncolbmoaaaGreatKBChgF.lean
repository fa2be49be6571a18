/- For every case, days, number, two bytes and charges, BillCharges returns true, and its arguments read afterwards as before; no condition. -/
import Derived.Test.YtknbpncolbmoaaaGreatKBChgE
import Derived.Test.YtknbpncolbmoaaaGreatProg
import Derived.Calls
import Derived.RunT
import Derived.Shelf.SlSortCmp.NoneTotal
import Derived.Ground.SlsfProg
import Derived.SliceStrings
import Derived.ChangeSlices
import Derived.Lib.SmallJoins
import Derived.OpenShut
import Derived.ShutString
import Derived.ChangeOld
import Derived.Test.YtknbpncolbmoaaaGreatRows
import Derived.WalkKit
import Derived.ProofKit
import Derived.Below
set_option linter.unusedSimpArgs false
set_option linter.unusedVariables false
open Go.Lift.Comp (run_pure zA y7)
section
namespace Go.Geo
open Go Go.Eng Go.Lift Go.Den Go.F
variable {α β γ δ ε σ τ : Type}
theorem tN {k : α → Comp β} {b : (α → Comp β) → Comp β} {P : β → Prop} (h : Ok (b k) P) : Ok (jn k b) P := h
theorem ud {l : List Chg} {p : Int} (hl : l.length < 9223372036854775807) : (vy l p).val = some (smp l p, ()) := by
 unfold vy
 refine Ok.val ?_
 rw [Ok.bind]
 refine (Ok.loop (fun s : Int × Int => (0 ≤ s.2 ∧ s.2 ≤ l.length) ∧ s.1 = (l.take s.2.toNat).foldl (fun a c => if c.2.1 = p then W (a + c.2.2.1) else a) 0) (fun s => (l.length - s.2).toNat) (P := fun r => r = smp l p) ?_ ?_).mono ?_
 ·exact ⟨⟨by show (0:Int) ≤ 0; omega, by show (0:Int) ≤ l.length; omega⟩, rfl⟩
 ·rintro ⟨a, i⟩ ⟨i1, i2⟩
  dsimp only at i1 i2 ⊢
  split
  ·rename_i hc
   rw [zF, zC] at hc
   obtain ⟨c, hc'⟩ := zN (xs := l) (k := i.toNat) (by omega)
   have hn : (l.take (i + 1).toNat).foldl (fun a c => if c.2.1 = p then W (a + c.2.2.1) else a) 0 = if c.2.1 = p then W (a + c.2.2.1) else a := by
    rw [show (i + 1).toNat = i.toNat + 1 by omega, List.take_add_one, hc', List.foldl_append, ← i2]; rfl
   rw [Ok.bind, Ok.idx i1.1 hc']
   refine tN ?_
   split
   ·rename_i he
    rw [yd] at he
    rw [Ok.bind, Ok.idx i1.1 hc', Ok.pure, yC (m := i) (by omega)]
    refine ⟨⟨⟨by omega, by omega⟩, ?_⟩, by omega⟩
    dsimp only
    rw [hn, if_pos he]; rfl
   ·rename_i he
    rw [yd] at he
    rw [Ok.pure, yC (m := i) (by omega)]
    refine ⟨⟨⟨by omega, by omega⟩, ?_⟩, by omega⟩
    dsimp only
    rw [hn, if_neg he]
  ·rename_i hc
   rw [zF, zC] at hc
   rw [Ok.pure, i2, show i.toNat = l.length by omega, List.take_length]; rfl
 ·rintro r rfl
  rw [Ok.pure]
theorem qt {p : Part} {x : Eff} (hn : p.2.1.length ≤ 1000) (hwn : p.2.2.1.length = p.2.1.length) (hc : x.1.length < 9223372036854775807) : (gN p x).val = some (usl p x.1, ()) := by
 unfold gN usl
 have i1 := Yy p.2.1.length (fun k => decide (wt p k = 2) && !sap (cl p k) x.1) (c := (Sum.inr false : Unit ⊕ Bool)) (d := Sum.inl ()) (body := (fun (y : Int) => if ltI y (zD p.2.1) = true then (idx p.2.2.1 y).bind fun x_1 => (Comp.gd (eqI x_1 2) (idx p.2.1 y) []).bind fun x_2 => (Comp.gd (eqI x_1 2) (zd x_2 x.1) (false, ())).bind fun x_3 => if sel (eqI x_1 2) (ntB x_3.1) false = true then Comp.pure (Comp.Step.done (Sum.inr false)) else Comp.pure (Comp.Step.next (zI .i64 y 1)) else Comp.pure (Comp.Step.done (Sum.inl ()))))
  (fun k hk => by
   obtain ⟨w, hw⟩ := zN (xs := p.2.2.1) (k := k) (by omega)
   obtain ⟨c, hc'⟩ := zN (xs := p.2.1) (k := k) hk
   have ew : wt p k = w := yZ hw
   have ec : cl p k = c := yZ hc'
   rw [ew, ec, if_pos (by rw [zF, zC]; omega), zA, zG hw, zFq, zA]
   by_cases h : w = 2
   ·have e2 : eqI w 2 = true := by rw [yd]; exact h
    rw [e2, decide_eq_true h]
    show Option.bind (idx p.2.1 (k : Int)).val _ = _
    rw [zG hc', zFq, zA]
    show Option.bind (zd c x.1).val _ = _
    rw [YO c hc, zFq]
    cases sap c x.1 with
    | true => rw [if_neg (by simp [sel, ntB]), Comp.zB, zM (by omega)]; rfl
    | false => rw [if_pos (by simp [sel, ntB]), Comp.zB]; rfl
   ·have e2 : eqI w 2 = false := by rw [← Bool.not_eq_true, yd]; exact h
    rw [e2, decide_eq_false h]
    show Option.bind (Comp.pure _).val _ = _
    rw [Comp.zB, zFq, zA]
    show Option.bind (Comp.pure _).val _ = _
    rw [Comp.zB, zFq, if_neg (by simp [sel]), Comp.zB, zM (by omega)]; rfl)
  (by rw [if_neg (by rw [zF, zC]; simp), Comp.zB])
 rw [zA]
 refine (congrArg (fun o => Option.bind o _) i1).trans ?_
 rw [zFq]
 cases anyI p.2.1.length fun k => decide (wt p k = 2) && !sap (cl p k) x.1 <;> exact Comp.zB _
theorem rS : ∀ (done seen : List Int), twc seen done = true ↔ ∃ k : Nat, ∃ x, done[k]? = some x ∧ (x ∈ seen ∨ x ∈ done.take k)
 | [], seen => by simp [twc]
 | y :: done, seen => by
  simp only [twc, Bool.or_eq_true, List.contains_iff_mem]
  rw [rS done (seen ++ [y])]
  constructor
  ·rintro (h | ⟨k, x, h1, h2⟩)
   ·exact ⟨0, y, rfl, .inl h⟩
   ·refine ⟨k + 1, x, by simpa using h1, ?_⟩
    simp only [List.mem_append, List.mem_singleton] at h2
    rcases h2 with (h2 | h2) | h2
    ·exact .inl h2
    ·exact .inr (by simp [h2])
    ·exact .inr (by simp [h2])
  ·rintro ⟨k, x, h1, h2⟩
   cases k with
   | zero =>
    simp at h1 h2
    subst h1; exact .inl h2
   | succ k =>
    refine .inr ⟨k, x, by simpa using h1, ?_⟩
    simp only [List.mem_append, List.mem_singleton]
    rcases h2 with h2 | h2
    ·exact .inl (.inl h2)
    ·simp only [List.take_succ_cons, List.mem_cons] at h2
     rcases h2 with h2 | h2
     ·exact .inl (.inr h2)
     ·exact .inr h2
theorem RP {done : List Int} {i : Int} {x : Int} (hi : 0 ≤ i) (hx : done[i.toNat]? = some x) (hd : done.length ≤ 1000) : (Comp.loop (fun (x_2 : Int) => if ltI x_2 i = true then (idx done x_2).bind fun x_3 => (idx done i).bind fun x => if eqI x_3 x = true then Comp.pure (Comp.Step.done (Sum.inr (([], 6) : List Int × Int) : Unit ⊕ List Int × Int)) else Comp.pure (Comp.Step.next (zI .i64 x_2 1)) else Comp.pure (Comp.Step.done (Sum.inl ()))) 0).val = some (if x ∈ done.take i.toNat then .inr ([], 6) else .inl ()) := by
 have hlt := zK hx
 refine Ok.val ?_
 refine Ok.loop (fun s : Int => (0 ≤ s ∧ s ≤ i) ∧ x ∉ done.take s.toNat) (fun s => (i - s).toNat) (P := fun r => r = if x ∈ done.take i.toNat then (Sum.inr ([], 6) : Unit ⊕ List Int × Int) else .inl ()) ?_ ?_
 ·exact ⟨⟨by omega, hi⟩, by simp⟩
 ·rintro s ⟨s1, s2⟩
  split
  ·rename_i hs
   rw [zF] at hs
   obtain ⟨z, hz⟩ := zN (xs := done) (k := s.toNat) (by omega)
   rw [Ok.bind, Ok.idx s1.1 hz, Ok.bind, Ok.idx hi hx]
   split
   ·rename_i he
    rw [yd] at he
    subst he
    rw [Ok.pure]
    dsimp only
    rw [if_pos]
    rw [List.mem_take_iff_getElem]
    obtain ⟨h1, h2⟩ := List.getElem?_eq_some_iff.1 hz
    exact ⟨s.toNat, by omega, h2⟩
   ·rename_i he
    rw [yd] at he
    rw [Ok.pure, yC (by omega)]
    refine ⟨⟨⟨by omega, by omega⟩, ?_⟩, by omega⟩
    rw [show (s + 1).toNat = s.toNat + 1 by omega, List.take_add_one, hz]
    simp only [Option.toList_some, List.mem_append, List.mem_singleton, not_or]
    exact ⟨s2, fun e => he e.symm⟩
  ·rename_i hs
   rw [zF] at hs
   rw [Ok.pure]
   dsimp only
   rw [if_neg]
   rw [show i.toNat = s.toNat by omega]; exact s2
theorem E6 {L : List Eff} {done : List Int} (hd : done.length ≤ 1000) (hs : ∀ x ∈ L, SmE x) (hin : ∀ k ∈ done, 0 ≤ k ∧ k < L.length) : (Comp.loop (fun (x : List Cell × List Cell × Int) => if ltI x.2.2 (zD done) = true then (Comp.loop (fun (x_2 : Int) => if ltI x_2 x.2.2 = true then (idx done x_2).bind fun x_3 => (idx done x.2.2).bind fun x => if eqI x_3 x = true then Comp.pure (Comp.Step.done (Sum.inr (([], 6) : List Int × Int) : Unit ⊕ List Int × Int)) else Comp.pure (Comp.Step.next (zI .i64 x_2 1)) else Comp.pure (Comp.Step.done (Sum.inl ()))) 0).bind fun (x_2 : Unit ⊕ List Int × Int) => match x_2 with
       | Sum.inl x_3 => (idx done x.2.2).bind fun x_4 => (idx L x_4).bind fun x_5 => (app x.1 x_5.1).bind fun zs => (idx done x.2.2).bind fun x_6 => (idx L x_6).bind fun x_7 => (app x.2.1 x_7.2.1).bind fun zs_1 => Comp.pure (Comp.Step.next (zs, zs_1, zI .i64 x.2.2 1))
       | Sum.inr x => Comp.pure (Comp.Step.done (Sum.inr (x.1, x.2))) else Comp.pure (Comp.Step.done (Sum.inl (x.1, x.2.1) : List Cell × List Cell ⊕ List Int × Int))) ([], [], 0)).val = some (bif twc [] done then .inr ([], 6) else .inl (jk L done, YY L done)) := by
 refine Ok.val ?_
 refine Ok.loop (fun s : List Cell × List Cell × Int => (0 ≤ s.2.2 ∧ s.2.2 ≤ done.length) ∧ (∀ k : Nat, ∀ x, (k : Int) < s.2.2 → done[k]? = some x → x ∉ done.take k) ∧ s.1 = jk L (done.take s.2.2.toNat) ∧ s.2.1 = YY L (done.take s.2.2.toNat)) (fun s => (done.length - s.2.2).toNat)
  (P := fun r => r = bif twc [] done then (Sum.inr ([], 6) : List Cell × List Cell ⊕ List Int × Int) else .inl (jk L done, YY L done)) ?_ ?_
 ·refine ⟨⟨by show (0:Int) ≤ 0; omega, by show (0:Int) ≤ done.length; omega⟩, fun k x h => ?_, rfl, rfl⟩
  have h : (k : Int) < 0 := h
  omega
 ·rintro ⟨A, B, i⟩ ⟨i1, i2, i3, i4⟩
  dsimp only at i1 i2 i3 i4 ⊢
  split
  ·rename_i hc
   rw [zF, zC] at hc
   obtain ⟨x, hx⟩ := zN (xs := done) (k := i.toNat) (by omega)
   have hxd := List.mem_of_getElem? hx
   obtain ⟨x1, x2⟩ := hin x hxd
   have hsm := Zo hs x
   rw [Ok.zl (RP i1.1 hx hd)]
   by_cases hm : x ∈ done.take i.toNat
   ·rw [if_pos hm]
    dsimp only
    rw [Ok.pure]
    dsimp only
    rw [show twc [] done = true from (rS done []).2 ⟨i.toNat, x, hx, .inr hm⟩]; rfl
   ·rw [if_neg hm]
    dsimp only
    have hz1 : (jk L (done.take i.toNat)).length ≤ (done.take i.toNat).length * 100000 := vu (fun k => (Zo hs k).1) _
    have hz2 : (YY L (done.take i.toNat)).length ≤ (done.take i.toNat).length * 100000 := vu (fun k => (Zo hs k).2.1) _
    have hs1 := hsm.1
    have hs2 := hsm.2.1
    have htl : (done.take i.toNat).length ≤ 1000 := by rw [List.length_take]; omega
    rw [Ok.bind, Ok.idx i1.1 hx, Ok.zl (XG ⟨x1, x2⟩), Ok.bind, Ok.app (by rw [i3]; unfold LIM; omega), Ok.bind, Ok.idx i1.1 hx, Ok.zl (XG ⟨x1, x2⟩), Ok.bind, Ok.app (by rw [i4]; unfold LIM; omega), Ok.pure, yC (m := i) (by omega)]
    dsimp only
    refine ⟨⟨⟨by omega, by omega⟩, fun k y hk hy => ?_, ?_, ?_⟩, by omega⟩
    ·by_cases hki : (k : Int) = i
     ·have : k = i.toNat := by omega
      subst this
      rw [hx] at hy; cases hy; exact hm
     ·exact i2 k y (by omega) hy
    ·rw [show (i + 1).toNat = i.toNat + 1 by omega, List.take_add_one, hx, i3]
     unfold jk; simp
    ·rw [show (i + 1).toNat = i.toNat + 1 by omega, List.take_add_one, hx, i4]
     unfold YY; simp
  ·rename_i hc
   rw [zF, zC] at hc
   rw [Ok.pure]
   dsimp only
   have hno : twc [] done = false := by
    rw [← Bool.not_eq_true, rS]
    rintro ⟨k, x, h1, h2 | h2⟩
    ·cases h2
    ·have := zK h1
     exact i2 k x (by omega) h1 h2
   rw [hno, i3, i4, show i.toNat = done.length by omega, List.take_length]; rfl
theorem E7 {j : Job} {want done : List Int} (hj : SmJ j) (hwt : want.length < 9223372036854775807) (hd : done.length ≤ 1000) : (jY j want done).val = some ((kY j want done).1, (kY j want done).2, ()) := by
 refine Ok.val ?_
 unfold jY
 rw [Ok.zl (XB hj.w hj.e), Ok.zl (show (Zd j want).val = some (gw j want, ()) from Comp.zB _)]
 refine tN ?_
 dsimp only
 by_cases h1 : ckJ j = 0
 ·rw [if_pos (by rw [yd]; exact h1), Ok.zl (jX (p := gw j want) hwt)]
  dsimp only
  by_cases h2 : ckP (gw j want) = 0
  ·rw [if_neg (by rw [zX]; simp [h2])]
   have l1 := jC done (fun k => !YZ j.2.2.1.length k) (c := (Sum.inr ([], 5) : Unit ⊕ List Int × Int)) (d := Sum.inl ()) (body := (fun (x : Int) => if ltI x (zD done) = true then (idx done x).bind fun x_2 => (Comp.gd (ntB (ltI x_2 0)) (idx done x) (Int.ofNat 0)).bind fun x_3 => if sel (ltI x_2 0) true (geI x_3 (zD j.2.2.1)) = true then Comp.pure (Comp.Step.done (Sum.inr ([], 5))) else Comp.pure (Comp.Step.next (zI .i64 x 1)) else Comp.pure (Comp.Step.done (Sum.inl ()))))
    (fun i x hx => by
     have hlt := zK hx
     rw [if_pos (by rw [zF, zC]; omega), zA, zG hx, zFq, zA]
     unfold YZ
     by_cases hx0 : x < 0
     ·have e : ltI x 0 = true := by rw [zF]; exact hx0
      rw [e]
      show Option.bind (Comp.pure _).val _ = _
      rw [Comp.zB, zFq, if_pos (by simp [sel]), Comp.zB, decide_eq_true hx0]; rfl
     ·have e : ltI x 0 = false := by rw [← Bool.not_eq_true, zF]; exact hx0
      rw [e]
      show Option.bind (idx done (i : Int)).val _ = _
      rw [zG hx, zFq, decide_eq_false hx0, zC]
      by_cases hx1 : (j.2.2.1.length : Int) ≤ x
      ·rw [if_pos (by simp [sel, geI, hx1]), Comp.zB, decide_eq_true hx1]; rfl
      ·rw [if_neg (by simp [sel, geI]; omega), Comp.zB, decide_eq_false hx1, zM (by omega)]; rfl)
    (by rw [if_neg (by rw [zF, zC]; simp), Comp.zB])
   rw [Ok.zl l1]
   cases ho : done.any (YZ j.2.2.1.length) with
   | true =>
    have : (done.all fun k => !YZ j.2.2.1.length k) = false := by rw [List.all_eq_not_any_not]; simpa using ho
    rw [this]
    show Ok (Comp.pure _) _
    rw [Ok.pure]
    unfold kY lsd
    rw [if_pos h1, if_pos h2, ho]; rfl
   | false =>
    have : (done.all fun k => !YZ j.2.2.1.length k) = true := by rw [List.all_eq_not_any_not]; simpa using ho
    rw [this]
    have hin : ∀ k ∈ done, 0 ≤ k ∧ k < j.2.2.1.length := by
     rw [List.any_eq_false] at ho
     intro k hk
     have := ho k hk
     unfold YZ at this
     simp at this
     omega
    refine (Ok.zl (E6 hd hj.e hin)).2 ?_
    cases ht : twc [] done with
    | true =>
     show Ok (Comp.pure _) _
     rw [Ok.pure]
     unfold kY lsd
     rw [if_pos h1, if_pos h2, ho, ht]; rfl
    | false =>
     have h3 : lsd j.2.2.1.length done = 0 := by unfold lsd; rw [ho, ht]; rfl
     have hc1 : (jk j.2.2.1 done).length ≤ 100000000 := by have := vu (fun k => (Zo hj.e k).1) done; unfold jk; omega
     have hc2 : (YY j.2.2.1 done).length ≤ 100000000 := by have := vu (fun k => (Zo hj.e k).2.1) done; unfold YY; omega
     refine (Ok.zl (uC (p := gw j want) (x := j.2.1) hwt hc1 hc2)).2 ?_
     dsimp only
     by_cases h4 : (apl (gw j want) j.2.1 (jk j.2.2.1 done) (YY j.2.2.1 done)).2 = 0
     ·rw [if_neg (by rw [zX]; simp [h4]), Ok.zl (qq (p := gw j want) hwt)]
      have hpw : (gw j want).2.2.1.length = (gw j want).2.1.length ∧ (gw j want).2.1.length ≤ 16 := by
       unfold ckP at h2
       split at h2
       ·cases h2
       ·split at h2
        ·cases h2
        ·omega
      generalize hv : vd (gw j want) (apl (gw j want) j.2.1 (jk j.2.2.1 done) (YY j.2.2.1 done)).1 = q
      rw [Ok.bind]
      refine (Ok.loop (fun s : List Int × Int => (0 ≤ s.2 ∧ s.2 ≤ done.length) ∧ s.1 = (done.take s.2.toNat).filter fun k => decide (q = 35) || usl (gw j want) (opn j.2.2.1 k).1) (fun s => (done.length - s.2).toNat) (P := fun r => r = done.filter fun k => decide (q = 35) || usl (gw j want) (opn j.2.2.1 k).1) ?_ ?_).mono ?_
      ·exact ⟨⟨by show (0:Int) ≤ 0; omega, by show (0:Int) ≤ done.length; omega⟩, rfl⟩
      ·rintro ⟨A, i⟩ ⟨i1, i2⟩
       dsimp only at i1 i2 ⊢
       split
       ·rename_i hc
        rw [zF, zC] at hc
        obtain ⟨x, hx⟩ := zN (xs := done) (k := i.toNat) (by omega)
        have hxd := hin x (List.mem_of_getElem? hx)
        have hal : A.length ≤ 1000 := by rw [i2]; refine Nat.le_trans (List.length_filter_le _ _) ?_; rw [List.length_take]; omega
        have hnx : (done.take (i + 1).toNat).filter (fun k => decide (q = 35) || usl (gw j want) (opn j.2.2.1 k).1) = A ++ if (decide (q = 35) || usl (gw j want) (opn j.2.2.1 x).1) = true then [x] else [] := by
         rw [show (i + 1).toNat = i.toNat + 1 by omega, List.take_add_one, hx, List.filter_append, ← i2]
         congr 1
         simp only [Option.toList_some, List.filter_cons, List.filter_nil]
        have fin : ∀ b : Bool, (decide (q = 35) || usl (gw j want) (opn j.2.2.1 x).1) = b → Ok (if b = true then (idx done i).bind fun x => (app A [x]).bind fun zs => Comp.pure (Comp.Step.next (zs, zI .i64 i 1)) else Comp.pure (Comp.Step.next (A, zI .i64 i 1))) fun st => match (st : Comp.Step (List Int × Int) (List Int)) with
          | .next s' => ((0 ≤ s'.2 ∧ s'.2 ≤ done.length) ∧ s'.1 = (done.take s'.2.toNat).filter fun k => decide (q = 35) || usl (gw j want) (opn j.2.2.1 k).1) ∧ (done.length - s'.2).toNat < (done.length - i).toNat
          | .done r => r = done.filter fun k => decide (q = 35) || usl (gw j want) (opn j.2.2.1 k).1 := by
         intro b hb
         rw [hb] at hnx
         cases b with
         | true =>
          rw [if_pos rfl, Ok.bind, Ok.idx i1.1 hx, Ok.bind, Ok.app (by simp; unfold LIM; omega), Ok.pure, yC (m := i) (by omega)]
          dsimp only
          exact ⟨⟨⟨by omega, by omega⟩, hnx.symm⟩, by omega⟩
         | false =>
          rw [if_neg (by decide), Ok.pure, yC (m := i) (by omega)]
          dsimp only
          exact ⟨⟨⟨by omega, by omega⟩, by rw [hnx]; simp⟩, by omega⟩
        by_cases hq : q = 35
        ·have e : eqI q 35 = true := by rw [yd]; exact hq
         rw [e]
         simp only [ntB, Bool.not_true, Comp.gd]
         rw [Ok.bind, Ok.pure, Ok.bind, Ok.pure, Ok.bind, Ok.pure]
         refine tN ?_
         exact (fin true (by rw [decide_eq_true hq]; rfl)).mono fun st h => by cases st <;> exact h
        ·have e : eqI q 35 = false := by rw [← Bool.not_eq_true, yd]; exact hq
         rw [e]
         simp only [ntB, Bool.not_false, Comp.gd]
         rw [Ok.bind, Ok.idx i1.1 hx, Ok.zl (XG hxd), Ok.zl (qt (p := gw j want) (by omega) hpw.1 (by have := (Zo hj.e x).1; omega))]
         refine tN ?_
         exact (fin (usl (gw j want) (opn j.2.2.1 x).1) (by rw [decide_eq_false hq, Bool.false_or])).mono fun st h => by cases st <;> exact h
       ·rename_i hc
        rw [zF, zC] at hc
        rw [Ok.pure, i2, show i.toNat = done.length by omega, List.take_length]
      ·rintro r rfl
       rw [Ok.pure]
       unfold kY
       rw [if_pos h1, if_pos h2, if_pos h3, if_pos h4, hv]
       by_cases hq : q = 35
       ·rw [if_pos hq, decide_eq_true hq]
        have : (done.filter fun k => true || usl (gw j want) (opn j.2.2.1 k).1) = done := List.filter_eq_self.2 fun _ _ => rfl
        rw [this]
       ·rw [if_neg hq, decide_eq_false hq]
        simp only [Bool.false_or]
     ·rw [if_pos (by rw [zX]; exact h4), Ok.pure]
      unfold kY
      rw [if_pos h1, if_pos h2, if_pos h3, if_neg h4]
  ·rw [if_pos (by rw [zX]; exact h2), Ok.pure]
   unfold kY
   rw [if_pos h1, if_neg h2]
 ·rw [if_neg (by rw [yd]; exact h1), if_pos (by rw [zX]; exact h1), Ok.pure]
  unfold kY
  rw [if_neg h1]
theorem qP {l : List Int} (hl : l.length < 9223372036854775807) : (vh l).val = some (!l.any never, ()) := by
 unfold vh
 have l1 := jC l (fun k => !never k) (c := (Sum.inr false : Unit ⊕ Bool)) (d := Sum.inl ()) (body := (fun (x : Int) => if ltI x (zD l) = true then (idx l x).bind fun x_1 => (Comp.gd (ntB (ltI x_1 0)) (idx l x) (Int.ofNat 0)).bind fun x_2 => if sel (ltI x_1 0) true (gtI x_2 100000) = true then Comp.pure (Comp.Step.done (Sum.inr false)) else Comp.pure (Comp.Step.next (zI .i64 x 1)) else Comp.pure (Comp.Step.done (Sum.inl ()))))
  (fun i x hx => by
   have hlt := zK hx
   rw [if_pos (by rw [zF, zC]; omega), zA, zG hx, zFq, zA]
   unfold never
   by_cases hx0 : x < 0
   ·have e : ltI x 0 = true := by rw [zF]; exact hx0
    rw [e]
    show Option.bind (Comp.pure _).val _ = _
    rw [Comp.zB, zFq, if_pos (by simp [sel]), Comp.zB, decide_eq_true hx0]; rfl
   ·have e : ltI x 0 = false := by rw [← Bool.not_eq_true, zF]; exact hx0
    rw [e]
    show Option.bind (idx l (i : Int)).val _ = _
    rw [zG hx, zFq, decide_eq_false hx0]
    by_cases hx1 : (100000 : Int) < x
    ·rw [if_pos (by simp [sel, gtI, hx1]), Comp.zB, decide_eq_true hx1]; rfl
    ·rw [if_neg (by simp [sel, gtI]; omega), Comp.zB, decide_eq_false hx1, zM (by omega)]; rfl)
  (by rw [if_neg (by rw [zF, zC]; simp), Comp.zB])
 rw [zA]
 refine (congrArg (fun o => Option.bind o _) l1).trans ?_
 rw [zFq]
 cases ho : l.any never with
 | true =>
  have : (l.all fun k => !never k) = false := by rw [List.all_eq_not_any_not]; simpa using ho
  rw [this]; exact Comp.zB _
 | false =>
  have : (l.all fun k => !never k) = true := by rw [List.all_eq_not_any_not]; simpa using ho
  rw [this]; exact Comp.zB _
theorem BH {done : List Int} {n : Int} (hn : n ∈ done) (hd : done.length ≤ 1000) : (jJ done n).val = some (((ix done n : Nat) : Int), ()) := by
 obtain ⟨g1, g2⟩ := pA hn
 have hil := zK g2
 obtain ⟨_, x, _, _, hbef⟩ := J0 g1
 unfold jJ
 refine Ok.val ?_
 rw [Ok.bind]
 refine (Ok.loop (fun s : Int => 0 ≤ s ∧ s ≤ ix done n) (fun s => ((ix done n : Int) - s).toNat) (P := fun r => r = ((ix done n : Nat) : Int)) ?_ ?_).mono ?_
 ·exact ⟨by omega, by omega⟩
 ·rintro s ⟨s1, s2⟩
  obtain ⟨z, hz⟩ := zN (xs := done) (k := s.toNat) (by omega)
  rw [Ok.bind, Ok.idx s1 hz]
  split
  ·rename_i he
   rw [zX] at he
   rw [Ok.pure, yC (by omega)]
   have : s.toNat ≠ ix done n := fun e => by rw [e, g2] at hz; cases hz; exact he rfl
   exact ⟨⟨by omega, by omega⟩, by omega⟩
  ·rename_i he
   rw [zX] at he
   have hzn : z = n := by simpa using he
   rw [Ok.pure]
   dsimp only
   by_cases hlt : s.toNat < ix done n - 0
   ·have := hbef s.toNat z hlt hz
    rw [hzn] at this
    simp at this
   ·omega
 ·rintro r rfl
  rw [Ok.pure]
theorem Hj {l : List Chg} (hl : l.length < 9223372036854775807) : (yy l l).val = some (true, ()) := by
 unfold yy
 rw [if_neg (by rw [zX]; simp)]
 have l1 := jC l (fun _ => true) (c := (Sum.inr false : Unit ⊕ Bool)) (d := Sum.inl ()) (body := (fun (x : Int) => if ltI x (zD l) = true then (idx l x).bind fun x_1 => (idx l x).bind fun x_2 => if ntB (adB (eqI x_1.1 x_2.1) (adB (eqI x_1.2.1 x_2.2.1) (eqI x_1.2.2.1 x_2.2.2.1))) = true then Comp.pure (Comp.Step.done (Sum.inr false)) else Comp.pure (Comp.Step.next (zI .i64 x 1)) else Comp.pure (Comp.Step.done (Sum.inl ()))))
  (fun i x hx => by
   have hlt := zK hx
   rw [if_pos (by rw [zF, zC]; omega), zA, zG hx, zFq, zA, zG hx, zFq, if_neg (by simp [ntB, adB, eqI]), Comp.zB, zM (by omega)]; rfl)
  (by rw [if_neg (by rw [zF, zC]; simp), Comp.zB])
 rw [zA]
 refine (congrArg (fun o => Option.bind o _) l1).trans ?_
 rw [zFq, List.all_eq_true.2 (fun _ _ => rfl)]
 exact Comp.zB _
theorem qv {j : Job} {want done shops days told : List Int} (hj : SmJ j) (hwt : want.length < 9223372036854775807) (hd : done.length ≤ 1000) (hs : shops.length < 9223372036854775807) (hy : days.length < 9223372036854775807) (ht : told.length < 9223372036854775807) :
  (gO j want done shops days told).val = some ((chg j want done shops days told).1, (chg j want done shops days told).2, ()) := by
 refine Ok.val ?_
 unfold gO chg
 rw [Ok.zl (E7 hj hwt hd)]
 by_cases h0 : (kY j want done).2 = 0
 ·rw [if_neg (by rw [zX]; simp [h0]), if_pos h0]
  by_cases h1 : shops.length ≠ done.length ∨ days.length ≠ done.length
  ·rw [if_pos (by rw [vk, Bool.or_eq_true, zX, zX, zC, zC, zC]; omega), if_pos h1, Ok.pure]
  ·rw [if_neg (by rw [vk, Bool.or_eq_true, zX, zX, zC, zC, zC]; omega), if_neg h1]
   by_cases h2 : 6 < told.length
   ·rw [if_pos (by rw [z8, zC]; omega), if_pos h2, Ok.pure]
   ·rw [if_neg (by rw [z8, zC]; omega), if_neg h2]
    have l1 := jC shops (fun k => !YZ told.length k) (c := (Sum.inr ([], 55) : Unit ⊕ List Chg × Int)) (d := Sum.inl ()) (body := (fun (x : Int) => if ltI x (zD shops) = true then (idx shops x).bind fun x_1 => (Comp.gd (ntB (ltI x_1 0)) (idx shops x) (Int.ofNat 0)).bind fun x_2 => if sel (ltI x_1 0) true (geI x_2 (zD told)) = true then Comp.pure (Comp.Step.done (Sum.inr ([], 55))) else Comp.pure (Comp.Step.next (zI .i64 x 1)) else Comp.pure (Comp.Step.done (Sum.inl ()))))
     (fun i x hx => by
      have hlt := zK hx
      rw [if_pos (by rw [zF, zC]; omega), zA, zG hx, zFq, zA]
      unfold YZ
      by_cases hx0 : x < 0
      ·have e : ltI x 0 = true := by rw [zF]; exact hx0
       rw [e]
       show Option.bind (Comp.pure _).val _ = _
       rw [Comp.zB, zFq, if_pos (by simp [sel]), Comp.zB, decide_eq_true hx0]; rfl
      ·have e : ltI x 0 = false := by rw [← Bool.not_eq_true, zF]; exact hx0
       rw [e]
       show Option.bind (idx shops (i : Int)).val _ = _
       rw [zG hx, zFq, decide_eq_false hx0, zC]
       by_cases hx1 : (told.length : Int) ≤ x
       ·rw [if_pos (by simp [sel, geI, hx1]), Comp.zB, decide_eq_true hx1]; rfl
       ·rw [if_neg (by simp [sel, geI]; omega), Comp.zB, decide_eq_false hx1, zM (by omega)]; rfl)
     (by rw [if_neg (by rw [zF, zC]; simp), Comp.zB])
    refine (Ok.zl l1).2 ?_
    cases h3 : shops.any (YZ told.length) with
    | true =>
     have : (shops.all fun k => !YZ told.length k) = false := by rw [List.all_eq_not_any_not]; simpa using h3
     rw [this, if_pos rfl]
     show Ok (Comp.pure _) _
     rw [Ok.pure]
    | false =>
     have : (shops.all fun k => !YZ told.length k) = true := by rw [List.all_eq_not_any_not]; simpa using h3
     rw [this, if_neg (by decide)]
     refine (Ok.zl (qP hy)).2 ?_
     have hgd : (Comp.gd (ntB (ntB (!days.any never))) (vh told) (false, ())).val = some (bif days.any never then false else !told.any never, ()) := by
      cases days.any never with
      | true => exact Comp.zB _
      | false => exact qP ht
     refine (Ok.zl hgd).2 ?_
     by_cases h4 : days.any never = true ∨ told.any never = true
     ·rw [if_pos h4, if_pos (by
       show sel (ntB (!days.any never)) true (ntB (bif days.any never then false else !told.any never)) = true
       cases hh : days.any never with
       | true => rfl
       | false => rw [hh] at h4; simpa [sel, ntB] using h4), Ok.pure]
     ·have a1 : days.any never = false := by rw [not_or] at h4; simpa using h4.1
      have a2 : told.any never = false := by rw [not_or] at h4; simpa using h4.2
      rw [if_neg h4, if_neg (by
       show ¬ sel (ntB (!days.any never)) true (ntB (bif days.any never then false else !told.any never)) = true
       rw [a1, a2]; simp [sel, ntB])]
      obtain ⟨hl0, hck⟩ := Co h0
      have hin := Cb hl0
      have hsub := nx (j := j) (want := want) (done := done)
      have hvl := uY (j := j) (want := want) (done := done)
      dsimp only
      generalize hv : (kY j want done).1 = v at hsub hvl ⊢
      rw [Ok.bind]
      refine (Ok.loop (fun s : List Chg × Int => (0 ≤ s.2 ∧ s.2 ≤ v.length) ∧ s.1 = pQ j done shops days told (v.take s.2.toNat)) (fun s => (v.length - s.2).toNat) (P := fun r => r = pQ j done shops days told v) ?_ ?_).mono ?_
      ·exact ⟨⟨by show (0:Int) ≤ 0; omega, by show (0:Int) ≤ v.length; omega⟩, rfl⟩
      ·rintro ⟨A, i⟩ ⟨i1, i2⟩
       dsimp only at i1 i2 ⊢
       split
       ·rename_i hc
        rw [zF, zC] at hc
        obtain ⟨n, hn⟩ := zN (xs := v) (k := i.toNat) (by omega)
        have hnd := hsub n (List.mem_of_getElem? hn)
        obtain ⟨g1, g2⟩ := pA hnd
        have hil := zK g2
        obtain ⟨s, hs'⟩ := zN (xs := shops) (k := ix done n) (by omega)
        obtain ⟨d, hd'⟩ := zN (xs := days) (k := ix done n) (by omega)
        have hsr : 0 ≤ s ∧ s < told.length := by
         rw [List.any_eq_false] at h3
         have := h3 s (List.mem_of_getElem? hs')
         unfold YZ at this
         simp at this
         omega
        obtain ⟨t, ht'⟩ := zN (xs := told) (k := s.toNat) (by omega)
        have hpay : tc done shops days told n = if t < d then s else -1 := by
         unfold tc
         rw [yZ hs', yZ hd', yZ ht']
        have hAl : A.length ≤ 1000 := by rw [i2]; unfold pQ; rw [List.length_map, List.length_take]; omega
        have hnx : pQ j done shops days told (v.take (i + 1).toNat) = A ++ [(n, tc done shops days told n, (opn j.2.2.1 n).2.2.1, ())] := by
         rw [show (i + 1).toNat = i.toNat + 1 by omega, List.take_add_one, hn, i2]; unfold pQ; simp
        rw [Ok.bind, Ok.idx i1.1 hn, Ok.zl (BH hnd hd), Ok.bind, Ok.idx i1.1 hn, Ok.bind, Ok.idx i1.1 hn, Ok.zl (XG (hin n hnd)), Ok.bind, Ok.W8 hd', Ok.bind, Ok.W8 hs', Ok.bind, Ok.idx hsr.1 ht']
        refine tN ?_
        by_cases hlt : t < d
        ·rw [if_pos (by rw [z8]; exact hlt), Ok.bind, Ok.W8 hs', Ok.bind, Ok.app (by simp; unfold LIM; omega), Ok.pure, yC (m := i) (by omega)]
         refine ⟨⟨⟨by omega, by omega⟩, ?_⟩, by omega⟩
         rw [hnx, hpay, if_pos hlt]
        ·rw [if_neg (by rw [z8]; exact hlt), Ok.bind, Ok.app (by simp; unfold LIM; omega), Ok.pure, yC (m := i) (by omega)]
         refine ⟨⟨⟨by omega, by omega⟩, ?_⟩, by omega⟩
         rw [hnx, hpay, if_neg hlt]
       ·rename_i hc
        rw [zF, zC] at hc
        rw [Ok.pure, i2, show i.toNat = v.length by omega, List.take_length]
      ·rintro r rfl
       rw [Ok.pure]
 ·rw [if_pos (by rw [zX]; exact h0), if_neg h0, Ok.pure]
theorem Rg {j : Job} {want done shops days told : List Int} : (chg j want done shops days told).1.length ≤ done.length := by
 have h := uY (j := j) (want := want) (done := done)
 unfold chg
 repeat' split
 all_goals first
  | exact Nat.zero_le _
  | (unfold pQ; rw [List.length_map]; exact h)
theorem uo (n : Int) : neI n n = false := by rw [← Bool.not_eq_true, zX]; simp
theorem lY (n : Int) : eqI n n = true := by rw [yd]
theorem qL {j : Job} {want done shops days told : List Int} (hj : SmJ j) (hwt : want.length < 9223372036854775807) (hd : done.length ≤ 1000) (hs : shops.length < 9223372036854775807) (hy : days.length < 9223372036854775807) (ht : told.length < 9223372036854775807) :
  (yI j want done shops days told).val = some (true, ()) := by
 refine Ok.val ?_
 unfold yI
 have hl := Rg (j := j) (want := want) (done := done) (shops := shops) (days := days) (told := told)
 rw [Ok.zl (XY hj hwt hd hs hy ht), Ok.zl (qv hj hwt hd hs hy ht)]
 dsimp only
 generalize (chg j want done shops days told).1 = l at hl
 generalize (chg j want done shops days told).2 = e
 have hg : (Comp.gd (ntB (neI e e)) (yy l l) (false, ())).val = some (true, ()) := by rw [uo]; exact Hj (by omega)
 rw [Ok.zl hg, if_neg (by rw [uo]; simp [sel, ntB]), Ok.bind]
 refine (Ok.loop (fun s : Int => -1 ≤ s ∧ s ≤ 4) (fun s => (4 - s).toNat) (P := fun r => r = (Sum.inl () : Unit ⊕ Bool)) ?_ ?_).mono ?_
 ·exact ⟨by omega, by omega⟩
 ·rintro s ⟨s1, s2⟩
  split
  ·rename_i h
   rw [zF] at h
   rw [Ok.zl (rT (by omega)), Ok.zl (ud (by omega)), if_neg (by rw [uo]; decide), Ok.pure, yC (by omega)]
   exact ⟨⟨by omega, by omega⟩, by omega⟩
  ·rw [Ok.pure]
 ·rintro r rfl
  show Ok (Comp.pure _) _
  rw [Ok.pure]
theorem nU (c : Case) (d : zAL) {x2 x3 x4 : Int} {x5 : List Chg} (hd : d.2.2.1.length = 4) (h3 : 0 ≤ x3 ∧ x3 < 256) : Ok (gU c d x2 x3 x4 x5) fun r => r.1 = true := by
 unfold gU
 rw [Ok.zl BC, Ok.bind]
 refine (Q6 c).mono ?_
 rintro ⟨j, want, done, u⟩ ⟨hj, hw, hdn⟩
 dsimp only at hj hw hdn ⊢
 rw [Ok.bind, zC]
 refine (IF (n := done.length) (by omega) hd).mono ?_
 rintro ⟨shops, days, told, u'⟩ hD
 obtain ⟨k1, k2, k3, k4, k5, k6⟩ := hD
 dsimp only at k1 k2 k3 k4 k5 k6 ⊢
 rw [Ok.zl (qL hj.sm (by omega) (by omega) (by omega) (by omega) (by omega)), if_neg (by simp [ntB]), Ok.bind, Ok.rem (by decide)]
 generalize x4.tmod 6 = w
 have c3 : tq .i64 x3 = x3 := HC (by omega)
 have hrem : ∀ n : Nat, 0 < n → 0 ≤ x3.tmod (n : Int) ∧ x3.tmod (n : Int) < n := fun n hn => ⟨Int.tmod_nonneg _ h3.1, Int.tmod_lt_of_pos _ (by omega)⟩
 have hset : ∀ (l : List Int) (i v : Int), (jv l i v).length = l.length := fun l i v => by unfold jv; rw [List.length_set]
 have put : ∀ (l : List Int) (jj : List Int → Comp (Bool × Unit)) (P : Bool × Unit → Prop), l.length ≤ 2000 → (∀ x : List Int, x.length ≤ 2000 → Ok (jj x) P) → Ok (if gtI (zD l) 0 = true then (rem (tq .i64 x3) (zD l)).bind fun x => (inb l.length x).bind fun _ => jj (jv l x x2) else jj l) P := by
  intro l jj P hl hjj
  split
  ·rename_i h
   rw [z8, zC] at h
   have hr := hrem l.length (by omega)
   rw [c3, zC, Ok.bind, Ok.rem (by omega), Ok.zl (Yc (by omega))]
   exact hjj _ (by rw [hset]; exact hl)
  ·exact hjj _ hl
 refine vw (fun x : List Int × List Int × List Int => x.1.length ≤ 2000 ∧ x.2.1.length ≤ 2000 ∧ x.2.2.length ≤ 2000) (fun jj hjj => ?_) (fun x hx => ?_)
 ·split
  ·exact vw (fun x : List Int => x.length ≤ 2000) (fun j1 hj1 => put shops j1 _ (by omega) hj1) (fun x hx => hjj _ ⟨hx, by show days.length ≤ 2000; omega, by show told.length ≤ 2000; omega⟩)
  ·refine vw (fun x : List Int × List Int × List Int => x.1.length ≤ 2000 ∧ x.2.1.length ≤ 2000 ∧ x.2.2.length ≤ 2000) (fun j1 hj1 => ?_) (fun x hx => hjj _ hx)
   split
   ·exact vw (fun x : List Int => x.length ≤ 2000) (fun j2 hj2 => put days j2 _ (by omega) hj2) (fun x hx => hj1 _ ⟨by show shops.length ≤ 2000; omega, hx, by show told.length ≤ 2000; omega⟩)
   ·refine vw (fun x : List Int × List Int => x.1.length ≤ 2000 ∧ x.2.length ≤ 2000) (fun j2 hj2 => ?_) (fun x hx => hj1 _ ⟨hx.1, by show days.length ≤ 2000; omega, hx.2⟩)
    split
    ·have hr : 0 ≤ x3.tmod 4 ∧ x3.tmod 4 < 4 := hrem 4 (by omega)
     rw [c3, Ok.bind, Ok.rem (by decide), Ok.zl (Yc (by have := hr; omega))]
     exact hj2 _ ⟨by show shops.length ≤ 2000; omega, by show (jv told _ _).length ≤ 2000; rw [hset]; omega⟩
    ·refine vw (fun x : List Int × List Int => x.1.length ≤ 2000 ∧ x.2.length ≤ 2000) (fun j3 hj3 => ?_) (fun x hx => hj2 _ hx)
     split
     ·refine gC (by simp; omega) ?_
      exact hj3 _ ⟨by show (shops ++ [0]).length ≤ 2000; simp; omega, by show told.length ≤ 2000; omega⟩
     ·refine vw (fun x : List Int => x.length ≤ 2000) (fun j4 hj4 => ?_) (fun x hx => hj3 _ ⟨by show shops.length ≤ 2000; omega, hx⟩)
      split
      ·refine gC (by simp; omega) ?_
       exact hj4 _ (by simp; omega)
      ·refine vw (fun x : List Int => x.length ≤ 2000) (fun j5 hj5 => ?_) (fun x hx => hj4 _ hx)
       split
       ·refine vw (fun x : List Int => x.length ≤ 2000) (fun j6 hj6 => ?_) (fun x hx => hj5 _ hx)
        have hr : 0 ≤ x3.tmod 4 ∧ x3.tmod 4 < 4 := hrem 4 (by omega)
        rw [c3, Ok.bind, Ok.rem (by decide)]
        refine Jf ⟨by decide, by have := hr; omega, by have := hr; omega⟩ fun ys hys => hj6 _ (by have := hr; omega)
       ·exact hj5 _ (by omega)
 ·obtain ⟨y1, y2, y3⟩ := hx
  refine Jf ⟨by decide, by rw [jx, zC]; omega, by rw [jx, zC]; omega⟩ fun raw hraw => ?_
  have hr5 : raw.length ≤ 5 := by rw [hraw, jx, zC]; omega
  simp only [Comp.gd]
  rw [Ok.zl (qL hj.sm (by omega) (by omega) (by omega) (by omega) (by omega))]
  simp only [sel, cond_true, Comp.gd]
  rw [Ok.zl (rT (by omega)), Ok.zl (ud (by omega)), lY]
  simp only [cond_true, Comp.gd]
  rw [Ok.zl (rT (by omega)), Ok.zl (ud (by omega)), Ok.pure, lY]
end Go.Geo
end
noncomputable section
namespace Go.Dn
open Go Go.Proofs Go.RowKit Go.Eng Go.Lift Go.Den
abbrev prog : Program := Tryz.prog
theorem mixed : prog.follows .mixedOrders = true := by kernel_rfl
def t3 : Ty := .int .i64
def t4 : Ty := .bool
def t5 : Ty := .int .u8
def t9 : Ty := .str
def t23 : Ty := .sl t3
def t22 : Ty := .sl t23
def t25 : Ty := .cons t22 (.cons t23 (.cons t23 .nil))
def t26 : Ty := .arr 3 t3
def t104 : Ty := .cons t3 (.cons t3 (.cons t3 .nil))
def t106 : Ty := .cons t104 (.cons t3 .nil)
def t107 : Ty := .sl t106
def t28 : Ty := .sl t107
def t30 : Ty := .cons t9 (.cons t28 (.cons t23 .nil))
def t31 : Ty := .sl t4
def t33 : Ty := .cons t31 (.cons t31 (.cons t28 .nil))
def t62 : Ty := .cons t28 (.cons t28 (.cons t3 (.cons t23 .nil)))
def t34 : Ty := .sl t62
def t36 : Ty := .cons t30 (.cons t33 (.cons t34 .nil))
def t41 : Ty := .arr 2 t23
def t43 : Ty := .int .i64
def t48 : Ty := .arr 4 t3
def t50 : Ty := .cons t23 (.cons t23 (.cons t48 .nil))
def t60 : Ty := .cons t3 (.cons t3 (.cons t3 .nil))
def t51 : Ty := .sl t60
def t109 : Ty := .fn (.nil) (.cons t43 .nil)
def t112 : Ty := .sl t109
def t117 : Ty := .fn (.cons t3 .nil) (.cons t4 .nil)
def t122 : Ty := .mp t3 t3
def t130 : Ty := .cons t23 (.cons t3 .nil)
def t162 : Ty := .cons t30 (.cons t33 .nil)
def t163 : Ty := .cons t117 (.cons t43 .nil)
def t164 : Ty := .sl t163
def t166 : Ty := .fn (.cons t107 .nil) (.cons t4 .nil)
def t173 : Ty := .fn (.cons t3 (.cons t107 .nil)) (.cons t4 .nil)
def t189 : Ty := .sl t106
def t191 : Ty := .sl t28
def t198 : Ty := .fn (.cons t106 .nil) (.cons t4 .nil)
def t202 : Ty := .sl t104
def t208 : Ty := .cons t3 (.cons t3 (.cons t3 (.cons t3 .nil)))
def t203 : Ty := .sl t208
def t210 : Ty := .fn (.cons t208 .nil) (.cons t4 .nil)
def t220 : Ty := .mp t208 t4
def t224 : Ty := .arr 3 t106
def t233 : Ty := .fn (.cons t106 (.cons t106 .nil)) (.cons t3 .nil)
def t245 : Ty := .int .u64
def t246 : Ty := .arr 2 t3
def t247 : Ty := .sl t246
theorem eq3 : EqT prog 3 t3 1 := wc (z := .int .i64 0) (sz := 1) (by_ := 8) ⟨by kernel_rfl, by kernel_rfl⟩
def i3 : TI := ⟨.int .i64, .int .i64 0, 1, 8, [], t3, 1, true⟩
theorem ok3 : i3.ok prog 3 := yV ⟨by kernel_rfl, by kernel_rfl⟩ rfl (fun _ => ⟨eq3, by decide, fun _ => by kernel_rfl⟩) (fun _ => KeyB.int (z := .int .i64 0) (sz := 1) (by_ := 8) ⟨by kernel_rfl, by kernel_rfl⟩)
theorem eq4 : EqT prog 4 t4 1 := IZ (z := .bool false) (sz := 1) (by_ := 1) ⟨by kernel_rfl, by kernel_rfl⟩
def i4 : TI := ⟨.bool, .bool false, 1, 1, [], t4, 1, false⟩
theorem ok4 : i4.ok prog 4 := yV ⟨by kernel_rfl, by kernel_rfl⟩ rfl (fun _ => ⟨eq4, by decide, fun _ => by kernel_rfl⟩) (yb rfl)
theorem eq5 : EqT prog 5 t5 1 := wc (z := .int .u8 0) (sz := 1) (by_ := 1) ⟨by kernel_rfl, by kernel_rfl⟩
def i5 : TI := ⟨.int .u8, .int .u8 0, 1, 1, [], t5, 1, false⟩
theorem ok5 : i5.ok prog 5 := yV ⟨by kernel_rfl, by kernel_rfl⟩ rfl (fun _ => ⟨eq5, by decide, fun _ => by kernel_rfl⟩) (yb rfl)
theorem eq9 : EqT prog 9 t9 1 := RJ (z := .string ⟨#[]⟩) (sz := 1) (by_ := 16) ⟨by kernel_rfl, by kernel_rfl⟩
def i9 : TI := ⟨.string, .string ⟨#[]⟩, 1, 16, [], t9, 1, false⟩
theorem ok9 : i9.ok prog 9 := yV ⟨by kernel_rfl, by kernel_rfl⟩ rfl (fun _ => ⟨eq9, by decide, fun _ => by kernel_rfl⟩) (yb rfl)
def i22 := iS 23 t22
theorem zFU : i22.ok prog 22 := Yk ⟨by kernel_rfl, by kernel_rfl⟩
def i23 := iS 3 t23
theorem zFT : i23.ok prog 23 := Yk ⟨by kernel_rfl, by kernel_rfl⟩
def i25 : TI := ⟨.struct (prog.fieldsOf 25), .agg #[.slice none 0 0, .slice none 0 0, .slice none 0 0], 3, 72, [(22, 0, 0), (23, 1, 0), (23, 2, 0)], t25, 0, false⟩
theorem zFS : i25.ok prog 25 := vm ⟨by kernel_rfl, by kernel_rfl⟩ (⟨⟨by kernel_rfl, by kernel_rfl, by kernel_rfl⟩, ⟨⟨by kernel_rfl, by kernel_rfl, by kernel_rfl⟩, ⟨⟨by kernel_rfl, by kernel_rfl, by kernel_rfl⟩, trivial⟩⟩⟩) ⟨by kernel_rfl, fun w => by kernel_rfl⟩ (kc rfl) (yb rfl)
theorem zFc : EqT prog 26 t26 2 := wg (z := .agg #[.int .i64 0, .int .i64 0, .int .i64 0]) (sz := 3) (by_ := 24) ⟨by kernel_rfl, by kernel_rfl⟩ (dd' := .int .i64) (z' := .int .i64 0) (k := 1) (by_' := 8) ⟨by kernel_rfl, by kernel_rfl⟩ rfl rfl eq3
def i26 : TI := ⟨.array 3 3, .agg #[.int .i64 0, .int .i64 0, .int .i64 0], 3, 24, [], t26, 2, false⟩
theorem zFR : i26.ok prog 26 := yV ⟨by kernel_rfl, by kernel_rfl⟩ rfl (fun _ => ⟨zFc, by decide, fun _ => by kernel_rfl⟩) (yb rfl)
def i28 := iS 107 t28
theorem zFQ : i28.ok prog 28 := Yk ⟨by kernel_rfl, by kernel_rfl⟩
def i30 : TI := ⟨.struct (prog.fieldsOf 30), .agg #[.string ⟨#[]⟩, .slice none 0 0, .slice none 0 0], 3, 64, [(9, 0, 0), (28, 1, 0), (23, 2, 0)], t30, 0, false⟩
theorem zFP : i30.ok prog 30 := vm ⟨by kernel_rfl, by kernel_rfl⟩ (⟨⟨by kernel_rfl, by kernel_rfl, by kernel_rfl⟩, ⟨⟨by kernel_rfl, by kernel_rfl, by kernel_rfl⟩, ⟨⟨by kernel_rfl, by kernel_rfl, by kernel_rfl⟩, trivial⟩⟩⟩) ⟨by kernel_rfl, fun w => by kernel_rfl⟩ (kc rfl) (yb rfl)
def i31 := iS 4 t31
theorem zFO : i31.ok prog 31 := Yk ⟨by kernel_rfl, by kernel_rfl⟩
def i33 : TI := ⟨.struct (prog.fieldsOf 33), .agg #[.slice none 0 0, .slice none 0 0, .slice none 0 0], 3, 72, [(31, 0, 0), (31, 1, 0), (28, 2, 0)], t33, 0, false⟩
theorem zFN : i33.ok prog 33 := vm ⟨by kernel_rfl, by kernel_rfl⟩ (⟨⟨by kernel_rfl, by kernel_rfl, by kernel_rfl⟩, ⟨⟨by kernel_rfl, by kernel_rfl, by kernel_rfl⟩, ⟨⟨by kernel_rfl, by kernel_rfl, by kernel_rfl⟩, trivial⟩⟩⟩) ⟨by kernel_rfl, fun w => by kernel_rfl⟩ (kc rfl) (yb rfl)
def i34 := iS 62 t34
theorem zFM : i34.ok prog 34 := Yk ⟨by kernel_rfl, by kernel_rfl⟩
def i36 : TI := ⟨.struct (prog.fieldsOf 36), .agg #[.string ⟨#[]⟩, .slice none 0 0, .slice none 0 0, .slice none 0 0, .slice none 0 0, .slice none 0 0, .slice none 0 0], 7, 160, [(30, 0, 2), (33, 3, 2), (34, 6, 0)], t36, 0, false⟩
theorem zFL : i36.ok prog 36 := vm ⟨by kernel_rfl, by kernel_rfl⟩ (⟨⟨by kernel_rfl, by kernel_rfl, by kernel_rfl⟩, ⟨⟨by kernel_rfl, by kernel_rfl, by kernel_rfl⟩, ⟨⟨by kernel_rfl, by kernel_rfl, by kernel_rfl⟩, trivial⟩⟩⟩) ⟨by kernel_rfl, fun w => by kernel_rfl⟩ (kc rfl) (yb rfl)
def i41 : TI := ⟨.array 2 23, .agg #[.slice none 0 0, .slice none 0 0], 2, 48, [], t41, 0, false⟩
theorem zFK : i41.ok prog 41 := yV ⟨by kernel_rfl, by kernel_rfl⟩ rfl (kc rfl) (yb rfl)
theorem zFb : EqT prog 43 t43 1 := wc (z := .int .i64 0) (sz := 1) (by_ := 8) ⟨by kernel_rfl, by kernel_rfl⟩
def i43 : TI := ⟨.int .i64, .int .i64 0, 1, 8, [], t43, 1, false⟩
theorem zFJ : i43.ok prog 43 := yV ⟨by kernel_rfl, by kernel_rfl⟩ rfl (fun _ => ⟨zFb, by decide, fun _ => by kernel_rfl⟩) (yb rfl)
theorem zFa : EqT prog 48 t48 2 := wg (z := .agg #[.int .i64 0, .int .i64 0, .int .i64 0, .int .i64 0]) (sz := 4) (by_ := 32) ⟨by kernel_rfl, by kernel_rfl⟩ (dd' := .int .i64) (z' := .int .i64 0) (k := 1) (by_' := 8) ⟨by kernel_rfl, by kernel_rfl⟩ rfl rfl eq3
def i48 : TI := ⟨.array 4 3, .agg #[.int .i64 0, .int .i64 0, .int .i64 0, .int .i64 0], 4, 32, [], t48, 2, false⟩
theorem zFI : i48.ok prog 48 := yV ⟨by kernel_rfl, by kernel_rfl⟩ rfl (fun _ => ⟨zFa, by decide, fun _ => by kernel_rfl⟩) (yb rfl)
def i50 : TI := ⟨.struct (prog.fieldsOf 50), .agg #[.slice none 0 0, .slice none 0 0, .int .i64 0, .int .i64 0, .int .i64 0, .int .i64 0], 6, 80, [(23, 0, 0), (23, 1, 0), (48, 2, 3)], t50, 0, false⟩
theorem zFH : i50.ok prog 50 := vm ⟨by kernel_rfl, by kernel_rfl⟩ (⟨⟨by kernel_rfl, by kernel_rfl, by kernel_rfl⟩, ⟨⟨by kernel_rfl, by kernel_rfl, by kernel_rfl⟩, ⟨⟨by kernel_rfl, by kernel_rfl, by kernel_rfl⟩, trivial⟩⟩⟩) ⟨by kernel_rfl, fun w => by kernel_rfl⟩ (kc rfl) (yb rfl)
def i51 := iS 60 t51
theorem zFG : i51.ok prog 51 := Yk ⟨by kernel_rfl, by kernel_rfl⟩
theorem zFZ : EqT prog 60 t60 2 := Y7 (fs := prog.fieldsOf 60) (z := .agg #[.int .i64 0, .int .i64 0, .int .i64 0]) (sz := 3) (by_ := 24) ⟨by kernel_rfl, by kernel_rfl⟩ rfl rfl (by kernel_rfl) (KB (D := 1) (Z6 eq3 (Xy _)) (by kernel_rfl))
def i60 : TI := ⟨.struct (prog.fieldsOf 60), .agg #[.int .i64 0, .int .i64 0, .int .i64 0], 3, 24, [(3, 0, 0), (3, 1, 0), (3, 2, 0)], t60, 2, false⟩
theorem zFF : i60.ok prog 60 := vm ⟨by kernel_rfl, by kernel_rfl⟩ (⟨⟨by kernel_rfl, by kernel_rfl, by kernel_rfl⟩, ⟨⟨by kernel_rfl, by kernel_rfl, by kernel_rfl⟩, ⟨⟨by kernel_rfl, by kernel_rfl, by kernel_rfl⟩, trivial⟩⟩⟩) ⟨by kernel_rfl, fun w => by kernel_rfl⟩ (fun _ => ⟨zFZ, by decide, fun _ => by kernel_rfl⟩) (yb rfl)
def i62 : TI := ⟨.struct (prog.fieldsOf 62), .agg #[.slice none 0 0, .slice none 0 0, .int .i64 0, .slice none 0 0], 4, 80, [(28, 0, 0), (28, 1, 0), (3, 2, 0), (23, 3, 0)], t62, 0, false⟩
theorem zFE : i62.ok prog 62 := vm ⟨by kernel_rfl, by kernel_rfl⟩ (⟨⟨by kernel_rfl, by kernel_rfl, by kernel_rfl⟩, ⟨⟨by kernel_rfl, by kernel_rfl, by kernel_rfl⟩, ⟨⟨by kernel_rfl, by kernel_rfl, by kernel_rfl⟩, ⟨⟨by kernel_rfl, by kernel_rfl, by kernel_rfl⟩, trivial⟩⟩⟩⟩) ⟨by kernel_rfl, fun w => by kernel_rfl⟩ (kc rfl) (yb rfl)
theorem Sz : EqT prog 104 t104 2 := Y7 (fs := prog.fieldsOf 104) (z := .agg #[.int .i64 0, .int .i64 0, .int .i64 0]) (sz := 3) (by_ := 24) ⟨by kernel_rfl, by kernel_rfl⟩ rfl rfl (by kernel_rfl) (KB (D := 1) (Z6 eq3 (Xy _)) (by kernel_rfl))
def zCg : TI := ⟨.struct (prog.fieldsOf 104), .agg #[.int .i64 0, .int .i64 0, .int .i64 0], 3, 24, [(3, 0, 0), (3, 1, 0), (3, 2, 0)], t104, 2, false⟩
theorem zBp : zCg.ok prog 104 := vm ⟨by kernel_rfl, by kernel_rfl⟩ (⟨⟨by kernel_rfl, by kernel_rfl, by kernel_rfl⟩, ⟨⟨by kernel_rfl, by kernel_rfl, by kernel_rfl⟩, ⟨⟨by kernel_rfl, by kernel_rfl, by kernel_rfl⟩, trivial⟩⟩⟩) ⟨by kernel_rfl, fun w => by kernel_rfl⟩ (fun _ => ⟨Sz, by decide, fun _ => by kernel_rfl⟩) (yb rfl)
theorem Sy : EqT prog 106 t106 3 := Y7 (fs := prog.fieldsOf 106) (z := .agg #[.int .i64 0, .int .i64 0, .int .i64 0, .int .i64 0]) (sz := 4) (by_ := 32) ⟨by kernel_rfl, by kernel_rfl⟩ rfl rfl (by kernel_rfl) (KB (D := 2) (Z6 eq3 (Z6 Sz (Xy _))) (by kernel_rfl))
def W9 : TI := ⟨.struct (prog.fieldsOf 106), .agg #[.int .i64 0, .int .i64 0, .int .i64 0, .int .i64 0], 4, 32, [(104, 0, 2), (3, 3, 0)], t106, 3, false⟩
theorem zBo : W9.ok prog 106 := vm ⟨by kernel_rfl, by kernel_rfl⟩ (⟨⟨by kernel_rfl, by kernel_rfl, by kernel_rfl⟩, ⟨⟨by kernel_rfl, by kernel_rfl, by kernel_rfl⟩, trivial⟩⟩) ⟨by kernel_rfl, fun w => by kernel_rfl⟩ (fun _ => ⟨Sy, by decide, fun _ => by kernel_rfl⟩) (yb rfl)
def i107 := iS 106 t107
theorem zBn : i107.ok prog 107 := Yk ⟨by kernel_rfl, by kernel_rfl⟩
def i109 : TI := ⟨.func #[] #[43] false, .nilFunc, 1, 8, [], t109, 0, false⟩
theorem zBm : i109.ok prog 109 := yV ⟨by kernel_rfl, by kernel_rfl⟩ rfl (kc rfl) (yb rfl)
def zCf := iS 109 t112
theorem zBl : zCf.ok prog 112 := Yk ⟨by kernel_rfl, by kernel_rfl⟩
def i117 : TI := ⟨.func #[3] #[4] false, .nilFunc, 1, 8, [], t117, 0, false⟩
theorem zBk : i117.ok prog 117 := yV ⟨by kernel_rfl, by kernel_rfl⟩ rfl (kc rfl) (yb rfl)
def zCe : TI := ⟨.map 3 3, .map none, 1, 8, [], t122, 0, false⟩
theorem zBj : zCe.ok prog 122 := yV ⟨by kernel_rfl, by kernel_rfl⟩ rfl (kc rfl) (yb rfl)
def i130 : TI := ⟨.struct (prog.fieldsOf 130), .agg #[.slice none 0 0, .int .i64 0], 2, 32, [(23, 0, 0), (3, 1, 0)], t130, 0, false⟩
theorem zBi : i130.ok prog 130 := vm ⟨by kernel_rfl, by kernel_rfl⟩ (⟨⟨by kernel_rfl, by kernel_rfl, by kernel_rfl⟩, ⟨⟨by kernel_rfl, by kernel_rfl, by kernel_rfl⟩, trivial⟩⟩) ⟨by kernel_rfl, fun w => by kernel_rfl⟩ (kc rfl) (yb rfl)
def i162 : TI := ⟨.struct (prog.fieldsOf 162), .agg #[.string ⟨#[]⟩, .slice none 0 0, .slice none 0 0, .slice none 0 0, .slice none 0 0, .slice none 0 0], 6, 136, [(30, 0, 2), (33, 3, 2)], t162, 0, false⟩
theorem zBh : i162.ok prog 162 := vm ⟨by kernel_rfl, by kernel_rfl⟩ (⟨⟨by kernel_rfl, by kernel_rfl, by kernel_rfl⟩, ⟨⟨by kernel_rfl, by kernel_rfl, by kernel_rfl⟩, trivial⟩⟩) ⟨by kernel_rfl, fun w => by kernel_rfl⟩ (kc rfl) (yb rfl)
def zCd : TI := ⟨.struct (prog.fieldsOf 163), .agg #[.nilFunc, .int .i64 0], 2, 16, [(117, 0, 0), (43, 1, 0)], t163, 0, false⟩
theorem zBg : zCd.ok prog 163 := vm ⟨by kernel_rfl, by kernel_rfl⟩ (⟨⟨by kernel_rfl, by kernel_rfl, by kernel_rfl⟩, ⟨⟨by kernel_rfl, by kernel_rfl, by kernel_rfl⟩, trivial⟩⟩) ⟨by kernel_rfl, fun w => by kernel_rfl⟩ (kc rfl) (yb rfl)
def i164 := iS 163 t164
theorem zBf : i164.ok prog 164 := Yk ⟨by kernel_rfl, by kernel_rfl⟩
def zCc : TI := ⟨.func #[107] #[4] false, .nilFunc, 1, 8, [], t166, 0, false⟩
theorem zBe : zCc.ok prog 166 := yV ⟨by kernel_rfl, by kernel_rfl⟩ rfl (kc rfl) (yb rfl)
def i173 : TI := ⟨.func #[3, 107] #[4] false, .nilFunc, 1, 8, [], t173, 0, false⟩
theorem zBd : i173.ok prog 173 := yV ⟨by kernel_rfl, by kernel_rfl⟩ rfl (kc rfl) (yb rfl)
def zCb := iS 106 t189
theorem zBc : zCb.ok prog 189 := Yk ⟨by kernel_rfl, by kernel_rfl⟩
def zCa := iS 28 t191
theorem zBb : zCa.ok prog 191 := Yk ⟨by kernel_rfl, by kernel_rfl⟩
def i198 : TI := ⟨.func #[106] #[4] false, .nilFunc, 1, 8, [], t198, 0, false⟩
theorem zBa : i198.ok prog 198 := yV ⟨by kernel_rfl, by kernel_rfl⟩ rfl (kc rfl) (yb rfl)
def zCZ := iS 104 t202
theorem zBZ : zCZ.ok prog 202 := Yk ⟨by kernel_rfl, by kernel_rfl⟩
def i203 := iS 208 t203
theorem zBY : i203.ok prog 203 := Yk ⟨by kernel_rfl, by kernel_rfl⟩
theorem Sx : EqT prog 208 t208 2 := Y7 (fs := prog.fieldsOf 208) (z := .agg #[.int .i64 0, .int .i64 0, .int .i64 0, .int .i64 0]) (sz := 4) (by_ := 32) ⟨by kernel_rfl, by kernel_rfl⟩ rfl rfl (by kernel_rfl) (KB (D := 1) (Z6 eq3 (Xy _)) (by kernel_rfl))
def i208 : TI := ⟨.struct (prog.fieldsOf 208), .agg #[.int .i64 0, .int .i64 0, .int .i64 0, .int .i64 0], 4, 32, [(3, 0, 0), (3, 1, 0), (3, 2, 0), (3, 3, 0)], t208, 2, true⟩
theorem zBX : i208.ok prog 208 := vm ⟨by kernel_rfl, by kernel_rfl⟩ (⟨⟨by kernel_rfl, by kernel_rfl, by kernel_rfl⟩, ⟨⟨by kernel_rfl, by kernel_rfl, by kernel_rfl⟩, ⟨⟨by kernel_rfl, by kernel_rfl, by kernel_rfl⟩, ⟨⟨by kernel_rfl, by kernel_rfl, by kernel_rfl⟩, trivial⟩⟩⟩⟩) ⟨by kernel_rfl, fun w => by kernel_rfl⟩ (fun _ => ⟨Sx, by decide, fun _ => by kernel_rfl⟩) (fun _ => KeyB.agg Sx (by decide) rfl rfl (dd := .struct (prog.fieldsOf 208)) (z := .agg #[.int .i64 0, .int .i64 0, .int .i64 0, .int .i64 0]) (sz := 4) (by_ := 32) ⟨by kernel_rfl, by kernel_rfl⟩ rfl (fun e x w => by kernel_rfl))
def i210 : TI := ⟨.func #[208] #[4] false, .nilFunc, 1, 8, [], t210, 0, false⟩
theorem zBW : i210.ok prog 210 := yV ⟨by kernel_rfl, by kernel_rfl⟩ rfl (kc rfl) (yb rfl)
def zCY : TI := ⟨.map 208 4, .map none, 1, 8, [], t220, 0, false⟩
theorem zBV : zCY.ok prog 220 := yV ⟨by kernel_rfl, by kernel_rfl⟩ rfl (kc rfl) (yb rfl)
theorem zBy : EqT prog 224 t224 4 := wg (z := .agg #[.int .i64 0, .int .i64 0, .int .i64 0, .int .i64 0, .int .i64 0, .int .i64 0, .int .i64 0, .int .i64 0, .int .i64 0, .int .i64 0, .int .i64 0, .int .i64 0]) (sz := 12) (by_ := 96) ⟨by kernel_rfl, by kernel_rfl⟩ (dd' := .struct (prog.fieldsOf 106)) (z' := .agg #[.int .i64 0, .int .i64 0, .int .i64 0, .int .i64 0]) (k := 4) (by_' := 32) ⟨by kernel_rfl, by kernel_rfl⟩ rfl rfl Sy
def zCX : TI := ⟨.array 3 106, .agg #[.int .i64 0, .int .i64 0, .int .i64 0, .int .i64 0, .int .i64 0, .int .i64 0, .int .i64 0, .int .i64 0, .int .i64 0, .int .i64 0, .int .i64 0, .int .i64 0], 12, 96, [], t224, 4, false⟩
theorem zBU : zCX.ok prog 224 := yV ⟨by kernel_rfl, by kernel_rfl⟩ rfl (fun _ => ⟨zBy, by decide, fun _ => by kernel_rfl⟩) (yb rfl)
def i233 : TI := ⟨.func #[106, 106] #[3] false, .nilFunc, 1, 8, [], t233, 0, false⟩
theorem zBT : i233.ok prog 233 := yV ⟨by kernel_rfl, by kernel_rfl⟩ rfl (kc rfl) (yb rfl)
theorem zBx : EqT prog 245 t245 1 := wc (z := .int .u64 0) (sz := 1) (by_ := 8) ⟨by kernel_rfl, by kernel_rfl⟩
def zCW : TI := ⟨.int .u64, .int .u64 0, 1, 8, [], t245, 1, false⟩
theorem zBS : zCW.ok prog 245 := yV ⟨by kernel_rfl, by kernel_rfl⟩ rfl (fun _ => ⟨zBx, by decide, fun _ => by kernel_rfl⟩) (yb rfl)
theorem zBw : EqT prog 246 t246 2 := wg (z := .agg #[.int .i64 0, .int .i64 0]) (sz := 2) (by_ := 16) ⟨by kernel_rfl, by kernel_rfl⟩ (dd' := .int .i64) (z' := .int .i64 0) (k := 1) (by_' := 8) ⟨by kernel_rfl, by kernel_rfl⟩ rfl rfl eq3
def zCV : TI := ⟨.array 2 3, .agg #[.int .i64 0, .int .i64 0], 2, 16, [], t246, 2, false⟩
theorem zBR : zCV.ok prog 246 := yV ⟨by kernel_rfl, by kernel_rfl⟩ rfl (fun _ => ⟨zBw, by decide, fun _ => by kernel_rfl⟩) (yb rfl)
def zCU := iS 246 t247
theorem zBQ : zCU.ok prog 247 := Yk ⟨by kernel_rfl, by kernel_rfl⟩
def T : TE := [(3, i3), (4, i4), (5, i5), (9, i9), (22, i22), (23, i23), (25, i25), (26, i26), (28, i28), (30, i30), (31, i31), (33, i33), (34, i34), (36, i36), (41, i41), (43, i43), (48, i48), (50, i50), (51, i51), (60, i60), (62, i62), (104, zCg), (106, W9), (107, i107), (109, i109), (112, zCf), (117, i117), (122, zCe), (130, i130), (162, i162), (163, zCd), (164, i164), (166, zCc), (173, i173), (189, zCb), (191, zCa), (198, i198), (202, zCZ), (203, i203), (208, i208), (210, i210), (220, zCY), (224, zCX), (233, i233), (245, zCW), (246, zCV), (247, zCU)]
theorem zCs : TOk prog T := zU ok3 (zU ok4 (zU ok5 (zU ok9 (zU zFU (zU zFT (zU zFS (zU zFR (zU zFQ (zU zFP (zU zFO (zU zFN (zU zFM (zU zFL (zU zFK (zU zFJ (zU zFI (zU zFH (zU zFG (zU zFF (zU zFE (zU zBp (zU zBo (zU zBn (zU zBm (zU zBl (zU zBk (zU zBj (zU zBi (zU zBh (zU zBg (zU zBf (zU zBe (zU zBd (zU zBc (zU zBb (zU zBa (zU zBZ (zU zBY (zU zBX (zU zBW (zU zBV (zU zBU (zU zBT (zU zBS (zU zBR (zU zBQ (QG _)))))))))))))))))))))))))))))))))))))))))))))))
theorem E0 : EK prog T [] [] [] [] [] := e0 zCs mixed
end Go.Dn
end
section
namespace Go.Up
open Go
def EG (d : Nat) {β : Type} (e : Except String (World × β)) : Prop := ∀ r, e = .ok r → r.1.drawn = d
theorem EG.bind {d : Nat} {α β : Type} {x : Except String α} {f : α → Except String (World × β)} (h : ∀ a, EG d (f a)) : EG d (x >>= f) := by
 intro r hr
 cases x with
 | error e => cases hr
 | ok a => exact h a r hr
theorem EG.throw {d : Nat} {β : Type} {s : String} : EG d (MonadExcept.throw s : Except String (World × β)) := fun r hr => by cases hr
theorem qo (p : Program) (w : World) (a : Addr) (u : TypeId) (k : Addr) (v : Value) (b : Bool) : EG w.drawn (w.viewStore p a u k v b) := by
 unfold World.viewStore
 dsimp only
 repeat' first
  | exact EG.throw
  | exact EG.error
  | (intro r hr; cases hr; rfl)
  | refine EG.bind fun _ => ?_
  | split
theorem Gm (w : World) (a : Addr) (n : Nat) : (w.freeze a n).drawn = w.drawn := by unfold World.freeze; split <;> rfl
theorem Wd {α : Type} (k : Ask α) : ∀ (w : World), w.drawn ≤ (w.ask k).2.drawn := by
 induction k with
 | done a => intro w; exact zFu _
 | ask what range k ih =>
  intro w
  unfold World.ask
  simp only []
  split
  ·exact ih _ _
  ·exact Nat.le_trans (Nat.le_succ _) (ih _ { w with drawn := w.drawn + 1 })
theorem S6 (w : World) (c : Sys) : w.drawn ≤ (w.sys c).2.drawn := by
 unfold World.sys
 have h := Wd (Kernel.perform c w.os) w
 split
 ·exact zFu _
 ·rename_i r os w' heq
  rw [heq] at h; exact h
def RU (d : Nat) {α : Type} : Result α → Prop
 | .ok _ w => d ≤ w.drawn
 | .halt _ w => d ≤ w.drawn
theorem RU.le {d d' : Nat} {α : Type} {r : Result α} (h : RU d r) (hd : d' ≤ d) : RU d' r := by
 cases r <;> exact Nat.le_trans hd h
theorem nW {p : Program} {w w' : World} {a : Addr} {v : Value} {b : Bool} {l : List Addr} (h : w.farStore p a v b = .ok (w', l)) : w'.drawn = w.drawn := by
 unfold World.farStore at h
 split at h
 ·split at h
  ·rename_i r hr
   cases h
   exact qo _ _ _ _ _ _ _ _ hr
  ·cases h
 ·cases h
theorem pU {α : Type} (p : Program) (e : Sem α) : ∀ w : World, RU w.drawn (e.run p w) := by
 induction e with
 | pure a => intro w; exact zFu _
 | load m a k ih =>
  intro w
  simp only [Sem.run]
  split
  ·exact ih _ _
  ·split
   ·exact ih _ _
   ·exact zFu _
 | store m a v k ih =>
  intro w
  have key : RU w.drawn (match w.cell? a with
   | some _ => if w.frozen? a then .halt (.unsupported (.unsafePointer "a write to bytes that a string shares")) w else k.run p (w.setCell a v)
   | none => match w.farStore p a v (m == .atomic) with
    | .ok (w, _) => k.run p w
    | .error h => .halt h w) := by
   split
   ·split
    ·exact zFu _
    ·exact (ih (w.setCell a v)).le (by unfold World.setCell; exact zFu _)
   ·split
    ·rename_i w' l hw
     exact (ih _).le (by rw [nW hw]; exact zFu _)
    ·exact zFu _
  cases v <;> first | exact key | exact zFu _
 | new o k ih => intro w; exact ih _ { w with heap := w.heap.push o }
 | shape r k ih => intro w; exact ih _ _
 | freeze a n k ih => intro w; exact (ih (w.freeze a n)).le (by rw [Gm]; exact zFu _)
 | frozen a k ih => intro w; exact ih _ _
 | getObj r k ih =>
  intro w
  simp only [Sem.run]
  split
  ·exact zFu _
  ·exact ih _ _
  ·exact zFu _
 | setObj r o k ih =>
  intro w
  simp only [Sem.run]
  split
  ·exact zFu _
  ·exact ih { w with heap := w.heap.setIfInBounds r o }
  ·exact zFu _
 | choose q k ih =>
  intro w
  simp only [Sem.run]
  split
  ·exact ih _ _
  ·exact (ih _ { w with drawn := w.drawn + 1 }).le (Nat.le_succ _)
 | sys c k ih => intro w; exact (ih _ _).le (S6 w c)
 | program k ih => intro w; exact ih _ _
 | mark m k ih => intro w; exact ih _
 | halt h => intro w; exact zFu _
theorem C4 {α : Type} (p : Program) (e : Sem α) (w : World) (es : Array Event) : RU w.drawn (e.runT p w es).1 := by
 rw [Sem.runT_fst]; exact pU p e w
theorem kM {α : Type} {p : Program} {e : Sem α} {w w' : World} {a : α} (h : e.run p w = .ok a w') : w.drawn ≤ w'.drawn := by
 have := pU p e w; rw [h] at this; exact this
theorem QD {α : Type} {p : Program} {e : Sem α} {w w' : World} {a : Halt} (h : e.run p w = .halt a w') : w.drawn ≤ w'.drawn := by
 have := pU p e w; rw [h] at this; exact this
def GU (d : Nat) : GStep → Prop
 | .go _ w _ | .comm _ _ _ _ w _ | .spawn _ _ w _ | .count _ w _ | .timer _ _ w _ | .alone _ _ w _ | .newcoro _ _ _ w _ | .coroswitch _ _ _ w _ | .collect _ w _ | .watch _ w _ => d ≤ w.drawn
 | .ended _ _ _ => True
theorem GU.le {d d' : Nat} {s : GStep} (h : GU d s) (hd : d' ≤ d) : GU d' s := by
 cases s <;> first | exact Nat.le_trans hd h | trivial
theorem GU.after {d : Nat} {es : Array Event} {s : GStep} (h : GU d s) : GU d (GStep.after es s) := by
 cases s <;> exact h
theorem Ie (fr : Frame) (a : List ByteArray) (m : String) (b : Bool) (w : World) : GU w.drawn (dieOf fr a m b w) := zFu _
theorem ZN (fr : Frame) (m : String) (w : World) : GU w.drawn (endThrow fr m w) := zFu _
theorem XT (p : Program) (fr : Frame) (v : Value) (w : World) : GU w.drawn (endPrinting p fr v w) := by
 unfold endPrinting; dsimp only; split
 ·exact ZN _ _ _
 ·trivial
theorem Bh (w : World) (fd : Nat) (t : ByteArray) (o : Outcome) : GU w.drawn (endWith w fd t o) := by
 unfold endWith; dsimp only
 split
 ·split <;> trivial
 ·trivial
 ·trivial
theorem Kt (p : Program) (fr : Frame) (callers : List Frame) (dying : Option Dying) (m : String) (w : World) : GU w.drawn (endFatal p fr callers dying m w) := by
 unfold endFatal; dsimp only
 split
 ·rename_i h; exact (Ie _ _ _ _ _).le (kM h)
 ·trivial
 ·trivial
theorem KK {α : Type} {p : Program} {e : Sem α} {w : World} {es : Array Event} {r : Result α × Array Event} (h : e.runT p w es = r) : RU w.drawn r.1 := by rw [← h]; exact C4 p e w es
theorem An (p : Program) (fr : Frame) (d : Dying) (f : Fatal) (w : World) : GU w.drawn (writeOn p fr d f w) := by
 unfold writeOn; dsimp only
 split
 ·trivial
 ·split
  ·rename_i h; exact KK h
  ·rename_i h; exact KK h
  ·trivial
  ·trivial
theorem YS (p : Program) (main : Bool) (fr : Frame) (callers : List Frame) (dying : Option Dying) (v : Value) (w : World) : GU w.drawn (doReturn p main fr callers dying v w) := by
 unfold doReturn
 split
 ·split <;> exact zFu _
 ·split
  ·exact zFu _
  ·trivial
  ·split
   ·exact zFu _
   ·split
    ·exact zFu _
    ·trivial
theorem WW (p : Program) (fr : Frame) (d : Dying) (w : World) : GU w.drawn (die p fr d w) := by
 unfold die; dsimp only
 split
 ·exact An _ _ _ _ _
 ·split
  ·split
   ·exact zFu _
   ·exact Bh _ _ _ _
  ·split
   ·exact zFu _
   ·split
    ·rename_i h; exact kM h
    ·trivial
   ·refine GU.after ?_
    generalize hr : (Sem.runT p _ w #[]) = r
    have h := KK hr
    clear hr
    split <;> rename_i h' <;> first | trivial | skip
    ·rw [h'] at h; exact h
    ·rw [h'] at h; exact h
    ·rw [h'] at h; exact (XT _ _ _ _).le h
   ·trivial
theorem GU.ite {d : Nat} {p : Prop} [Decidable p] {a b : GStep} (h1 : GU d a) (h2 : GU d b) : GU d (if p then a else b) := by split <;> assumption
theorem K6 (p : Program) (fr : Frame) (callers : List Frame) (dying : Option Dying) (d : Deferred) (w : World) : GU w.drawn (callDeferred p fr callers dying d w) := by
 unfold callDeferred
 refine GU.ite trivial ?_
 dsimp only
 refine GU.after ?_
 generalize hr : (Sem.runT p _ w #[]) = r
 have h := KK hr
 clear hr
 split <;> rename_i h' <;> rw [h'] at h <;> first
  | trivial
  | exact h
  | exact (Kt _ _ _ _ _ _).le h
  | exact (ZN _ _ _).le h
  | (split <;> exact h)
theorem Et (p : Program) (main : Bool) (fr : Frame) (callers : List Frame) (dying : Option Dying) (w : World) : GU w.drawn (unwind p main fr callers dying w) := by
 unfold unwind
 split
 ·dsimp only
  refine GU.after ?_
  generalize hr : (Sem.runT p _ w #[]) = r
  have h := KK hr
  clear hr
  split <;> rename_i h' <;> rw [h'] at h <;> first | trivial | exact h
 ·exact K6 _ _ _ _ _ _
 ·split
  ·trivial
  ·split
   ·trivial
   ·split
    ·exact zFu _
    ·split
     ·split
      ·exact zFu _
      ·split
       ·rename_i h; exact kM h
       ·trivial
       ·trivial
     ·split
      ·exact XT _ _ _ _
      ·trivial
  ·split
   ·exact YS _ _ _ _ _ _ _
   ·dsimp only
    refine GU.after ?_
    generalize hr : (Sem.runT p _ w #[]) = r
    have h := KK hr
    clear hr
    split <;> rename_i h' <;> rw [h'] at h <;> first | trivial | exact (YS _ _ _ _ _ _ _).le h
theorem Ib (p : Program) (fr : Frame) (callers : List Frame) (dying : Option Dying) (g : Nat) (w : World) : GU w.drawn (early p fr callers dying g w) := by
 have nY : ∀ w' : World, w.drawn ≤ w'.drawn → GU w.drawn (match w'.heap[g]? with
  | some (.pending c elem) => GStep.go { frame := fr, callers, status := .running, dying } { w' with heap := w'.heap.setIfInBounds g (.cells c elem) }
  | _ => .ended (.stuck "early: the variable does not wait" (fr.pos p)) w') := by
  intro w' h
  split
  ·exact h
  ·trivial
 unfold early; dsimp only
 repeat' first
  | exact nY _ (zFu _)
  | trivial
  | exact zFu _
  | (rename_i h; exact nY _ (kM h))
  | (rename_i h; exact kM h)
  | split
theorem J3 (p : Program) (listen : Bool) (fr : Frame) (callers : List Frame) (dying : Option Dying) (s : Sem Next) (w : World) : GU w.drawn (stepG.apply p listen fr callers dying s w) := by
 unfold stepG.apply; dsimp only
 refine GU.after ?_
 have h : RU w.drawn (if listen then s.runT p w #[] else (s.run p w, #[])).1 := by
  split
  ·exact C4 _ _ _ _
  ·exact pU _ _ _
 generalize (if listen then s.runT p w #[] else (s.run p w, #[])) = r at h
 clear s
 split <;> rename_i h' <;> rw [h'] at h <;> first
  | trivial
  | exact h
  | exact (Kt _ _ _ _ _ _).le h
  | exact (ZN _ _ _).le h
  | exact (Ib _ _ _ _ _ _).le h
  | exact GU.ite ((ZN _ _ _).le h) h
  | (split <;> first | exact h | exact (ZN _ _ _).le h)
theorem Qe (p : Program) (listen : Bool) (fr : Frame) (callers : List Frame) (dying : Option Dying) (w : World) : GU w.drawn (stepG.oper p listen fr callers dying w) := by
 unfold stepG.oper
 split
 ·trivial
 ·split <;> exact J3 _ _ _ _ _ _ _
theorem GU.elim {d : Nat} {α : Type} {o : Option α} {a : GStep} {f : α → GStep} (h1 : GU d a) (h2 : ∀ x, GU d (f x)) : GU d (o.elim a f) := by
 cases o
 ·exact h1
 ·exact h2 _
theorem RH (p : Program) (main : Bool) (listen : Bool) (fr : Frame) (callers : List Frame) (dying : Option Dying) (w : World) : GU w.drawn (stepG.exec p main listen fr callers dying w) := by
 unfold stepG.exec; dsimp only
 split
 all_goals first
  | exact zFu _
  | trivial
  | exact J3 _ _ _ _ _ _ _
  | (refine GU.elim ?_ (fun _ => zFu _); split; exact GU.ite (zFu _) trivial; refine GU.after ?_; generalize hr : (Sem.runT _ _ _ #[]) = r; have h := KK hr; clear hr; split <;> rename_i h' <;> rw [h'] at h <;> first | trivial | exact (YS _ _ _ _ _ _ _).le h)
  | (refine GU.elim trivial fun _ => J3 _ _ _ _ _ _ _; done)
  | (split; exact GU.ite (zFu _) trivial; refine GU.after ?_; generalize hr : (Sem.runT _ _ _ #[]) = r; have h := KK hr; clear hr; split <;> rename_i h' <;> rw [h'] at h <;> first | trivial | exact (YS _ _ _ _ _ _ _).le h)
  | (refine GU.ite (Qe _ _ _ _ _ _) (zFu _); done)
  | (refine GU.ite (zFu _) ?_; split <;> rename_i h <;> first | trivial | exact kM h)
  | (refine GU.after ?_; generalize hr : (Sem.runT p _ w #[]) = r; have h := KK hr; clear hr; split <;> rename_i h' <;> rw [h'] at h <;> first | trivial | exact h | exact (J3 _ _ _ _ _ _ _).le h)
  | (split <;> first | exact zFu _ | trivial)
theorem HU (p : Program) (main : Bool) (g : Goroutine) (w : World) (listen : Bool) : GU w.drawn (stepG p main g w listen) := by
 unfold stepG; dsimp only
 split
 ·exact WW _ _ _ _
 ·exact RH _ _ _ _ _ _ _
 ·exact Et _ _ _ _ _ _
def SU (d : Nat) : Stepped → Prop
 | .next m => d ≤ m.world.drawn
 | .ended _ _ => True
theorem SU.le {d d' : Nat} {s : Stepped} (h : SU d s) (hd : d' ≤ d) : SU d' s := by
 cases s <;> first | exact Nat.le_trans hd h | trivial
theorem SU.ite {d : Nat} {p : Prop} [Decidable p] {a b : Stepped} (h1 : SU d a) (h2 : SU d b) : SU d (if p then a else b) := by split <;> assumption
theorem SU.W7 {d : Nat} {β : Type} {p : Prop} [Decidable p] {a b : Stepped × β} (h1 : SU d a.1) (h2 : SU d b.1) : SU d (if p then a else b).1 := by split <;> assumption
theorem DP (p : Program) (gs : Array Goroutine) (rest : Rest) (w : World) : SU w.drawn (look p gs rest w) := by
 unfold look; dsimp only
 split
 ·refine SU.ite trivial ?_
  split
  ·trivial
  ·split <;> rename_i h <;> first
    | trivial
    | (have h1 := kM h; exact h1)
 ·trivial
theorem qn {rest : Rest} {cases : Array CommCase} {w w' : World} (h : waitingAt rest cases w = some w') : w'.drawn = w.drawn := by
 unfold waitingAt at h
 split at h
 ·split at h <;> cases h; rfl
 ·cases h; rfl
theorem w5 (p : Program) (rest : Rest) (gs : Array Goroutine) (i : Nat) (g : Goroutine) (cases : Array CommCase) (blocking : Bool) (shape : CommShape) (w : World) : SU w.drawn (communicate p rest gs i g cases blocking shape w).1 := by
 unfold communicate; dsimp only
 refine SU.W7 trivial (SU.W7 (SU.W7 ?_ (zFu _)) ?_)
 ·split
  ·rename_i h; show _ ≤ _; rw [qn h]; exact zFu _
  ·trivial
 ·split
  ·trivial
  ·rename_i h
   have hu := kM h
   clear h
   split
   ·split
    ·rename_i h2; exact Nat.le_trans hu (QD h2)
    ·trivial
   ·exact hu
   ·exact hu
   ·split
    ·exact hu
    ·split
     ·rename_i h2
      have h3 := Nat.le_trans hu (kM h2)
      exact h3
     ·trivial
   ·exact hu
   ·exact hu
   ·trivial
theorem Ic (w : World) (c : Nat) : (drain w c).2.drawn = w.drawn := by unfold drain; split <;> rfl
theorem qN (m : Machine) (k : Nat) (t : Timer) (a b : Nat) : (retime m k t a b).2.world.drawn = m.world.drawn := by
 unfold retime; dsimp only
 split
 ·exact Ic _ _
 ·rfl
theorem GK {m m' : Machine} {v : Addr} (h : timerOp.opened m v = some m') : m'.world.drawn = m.world.drawn := by
 unfold timerOp.opened at h
 split at h
 ·split at h <;> cases h; rfl
 ·cases h; rfl
theorem mc {m m1 m' : Machine} {v : Addr} {f : Nat → Timer → Value × Machine} {u : Value} (hf : ∀ k t, (f k t).2.world.drawn = m1.world.drawn) (h : timerOp.named m v f = .ok (u, m')) : m'.world.drawn = m1.world.drawn := by
 unfold timerOp.named at h
 split at h
 ·rename_i k hk
  have h3 := hf k (m.rest.timers.getD k default)
  injection h with h
  rw [h] at h3; exact h3
 ·cases h
theorem Ap {m m' : Machine} {op : TimerOp} {v : Value} (h : timerOp m op = .ok (v, m')) : m'.world.drawn = m.world.drawn := by
 unfold timerOp at h
 split at h
 ·split at h
  ·cases h; rfl
  ·split at h
   ·split at h
    ·cases h
    ·cases h; rfl
   ·cases h
 ·exact mc (fun k t => qN _ _ _ _ _) h
 ·split at h
  ·rename_i h1
   have := mc (m1 := _) (fun k t => qN _ _ _ _ _) h
   rw [this]; exact GK h1
  ·cases h
 ·cases h; rfl
theorem E8 (p : Program) (m : Machine) (i : Nat) (listen : Bool) : SU m.world.drawn (runT p m i listen).1 := by
 unfold runT; dsimp only
 have h := HU p (i == 0) (m.gs.swapAt! i { (default : Goroutine) with status := .finished }).1 m.world listen
 generalize stepG p (i == 0) (m.gs.swapAt! i { (default : Goroutine) with status := .finished }).1 m.world listen = s at h
 cases s with
 | ended => trivial
 | comm => exact (w5 _ _ _ _ _ _ _ _ _).le h
 | go => exact h
 | spawn => exact h
 | count => exact SU.ite trivial h
 | alone => exact h
 | collect => exact (DP _ _ _ _).le h
 | watch => exact h
 | newcoro => exact h
 | coroswitch g c exit w es =>
  dsimp only
  split
  ·exact h
  ·exact h
  ·trivial
 | timer g op w es =>
  dsimp only
  split
  ·rename_i h2
   have h3 := Ap h2
   show _ ≤ _
   rw [h3]; exact h
  ·exact h
  ·trivial
  ·trivial
theorem Hi (p : Program) (m : Machine) (k : Nat) : SU m.world.drawn (serve p m k) := by
 unfold serve; dsimp only
 split
 ·trivial
 ·exact zFu _
 ·split
  ·trivial
  ·exact zFu _
def VU (d : Nat) : Move → Prop
 | .goroutine m _ => d ≤ m.world.drawn
 | .machine s _ => SU d s
theorem VU.le {d d' : Nat} {s : Move} (h : VU d s) (hd : d' ≤ d) : VU d' s := by
 cases s with
 | goroutine m i => exact Nat.le_trans hd h
 | machine s ops => exact SU.le h hd
theorem VU.ite {d : Nat} {p : Prop} [Decidable p] {a b : Move} (h1 : VU d a) (h2 : VU d b) : VU d (if p then a else b) := by split <;> assumption
theorem uz (p : Program) (m : Machine) : VU m.world.drawn (askOn p m) := by
 unfold askOn; dsimp only
 split
 ·trivial
 ·rename_i h
  have hu := kM h
  clear h
  refine VU.ite ((Hi _ _ _).le hu) ?_
  split
  ·split
   ·exact hu
   ·refine VU.ite hu ?_
    split <;> trivial
  ·split
   ·split
    ·trivial
    ·rename_i h
     have h1 := kM h
     refine VU.ite (Nat.le_trans hu h1) ?_
     split
     ·trivial
     ·rename_i h; have h2 := kM h; exact Nat.le_trans hu (Nat.le_trans h1 h2)
   ·split
    ·trivial
    ·rename_i h
     have h0 := kM h
     split
     ·trivial
     ·rename_i h
      have h1 := kM h
      refine VU.ite (Nat.le_trans hu (Nat.le_trans h0 h1)) ?_
      split
      ·trivial
      ·rename_i h; have h2 := kM h; exact Nat.le_trans hu (Nat.le_trans h0 (Nat.le_trans h1 h2))
    ·rename_i h
     have h0 := kM h
     exact Nat.le_trans hu h0
    ·rename_i h
     have h0 := kM h
     split
     ·trivial
     ·rename_i h
      have h1 := kM h
      refine VU.ite (Nat.le_trans hu (Nat.le_trans h0 h1)) ?_
      split
      ·trivial
      ·rename_i h; have h2 := kM h; exact Nat.le_trans hu (Nat.le_trans h0 (Nat.le_trans h1 h2))
theorem lr (p : Program) (m : Machine) : VU m.world.drawn (ask p m) := by
 unfold ask
 split
 ·split
  ·trivial
  ·rename_i h
   have h1 := kM h
   have h2 := DP p m.gs m.rest ‹World›
   split
   ·rename_i m' h3; rw [h3] at h2; exact (uz _ _).le (Nat.le_trans h1 h2)
   ·exact h2.le h1
  ·rename_i h
   have h1 := kM h
   exact (uz _ _).le h1
 ·exact uz _ _
theorem Q3 (p : Program) (m : Machine) : VU m.world.drawn (move p m) := by
 unfold move
 split
 ·exact VU.ite (zFu _) trivial
 ·split
  ·exact VU.ite (zFu _) (lr p _)
  ·exact lr p m
theorem QJ {p : Program} {m m' : Machine} (h : step p m = .next m') : m.world.drawn ≤ m'.world.drawn := by
 unfold step stepT at h
 have h1 := Q3 p m
 split at h
 ·rename_i h2
  rw [h2] at h1
  have h3 := E8 p ‹Machine› ‹Nat› true
  rw [h] at h3
  exact Nat.le_trans h1 h3
 ·rename_i h2
  rw [h2] at h1
  dsimp only at h
  rw [h] at h1
  exact h1
theorem QS {p : Program} {n : Nat} : ∀ {m m' : Machine}, runN p n m = .next m' → m.world.drawn ≤ m'.world.drawn := by
 induction n with
 | zero => intro m m' h; cases h; exact zFu _
 | succ n ih =>
  intro m m' h
  unfold runN at h
  split at h
  ·rename_i h1; exact Nat.le_trans (QJ h1) (ih h)
  ·rename_i h1; exact absurd h (h1 _)
theorem lp {P : Program} {f : FuncId} {args : Array Value} {w : World} {R : Ending → World → Prop} (h : Calls P f args w R) : Calls P f args w fun e w' => R e w' ∧ (∀ v, e = .returned v → w.drawn ≤ w'.drawn) := by
 intro cs
 obtain ⟨e, w', fr, h1, h2, h3⟩ := h cs
 refine ⟨e, w', fr, ⟨h1, ?_⟩, h2, h3⟩
 rintro v rfl
 obtain ⟨n, hn⟩ := h2
 exact QS hn
end Go.Up
#print axioms Go.Up.lp
end
section
namespace Go.Den
open Go Go.RowKit Go.Eng Go.Lift
open Go.Sort (SWO grow ahead putRow Holds HoldsK flatK putRowK)
open Go.Proofs (ltOf CmpLays sortWorldK)
theorem uv : ∀ {t : Ty}, t.nar = true → ∀ x : t.D, (jO t x).length = t.sz := by
 intro t
 induction t with
 | int k => intro _ x; rfl
 | bool => intro _ x; rfl
 | str => intro _ x; rfl
 | nil => intro _ x; rfl
 | cons a b iha ihb =>
  intro h x
  simp only [Ty.nar, zFs] at h
  simp only [jO, zFt, iha h.1, ihb h.2, Ty.sz]
 | _ => intro h; cases h
theorem Ia : ∀ {t : Ty}, t.nar = true → ∀ x : t.D, ∀ v ∈ jO t x, v.oneCell' = true := by
 intro t h x v hv
 have := Dd (rv h) v hv
 cases v <;> first | rfl | cases this
theorem IY {w w' : World} (h : Ext w w') (hd : w.drawn ≤ w'.drawn) : ∃ q os, w' = grow (w.drewN q) os := by
 refine ⟨w'.drawn - w.drawn, w'.heap.extract w.heap.size w'.heap.size, ?_⟩
 have h1 := h.os
 have h2 := h.tape
 have h3 := h.output
 have h4 := h.size
 have h5 := h.block
 obtain ⟨hp, tp, dr, os, ou⟩ := w
 obtain ⟨hp', tp', dr', os', ou'⟩ := w'
 simp only at h1 h2 h3 h4 h5 hd
 subst h1 h2 h3
 unfold grow World.drewN
 simp only
 congr 1
 ·apply Array.ext_getElem?
  intro i
  by_cases hi : i < hp.size
  ·rw [Array.getElem?_append_left hi]; exact h5 i hi
  ·rw [Array.getElem?_append_right (by omega), Array.getElem?_extract]
   by_cases h6 : i < hp'.size
   ·rw [if_pos (by omega)]; congr 1; omega
   ·rw [if_neg (by omega), Array.getElem?_eq_none (by omega)]
 ·omega
theorem Ik {P : Program} {e : Ty} (hn : e.nar = true) (ha : e.agg = true) [Inhabited e.D] {cf : e.D → e.D → Int} {F : e.D × e.D × Unit → Comp (Int × Unit)} (hF : ∀ x y, ∃ n, (F (x, y, ())).run n = some (cf x y, ()))
  {O : zS} {w : World} (hO : OkO O w) {g : Nat} {cb : Array Value} (hg : FnOk P g)
  (h4 : ∀ O' w', OkO O' w' → zj 0 O w O' w' → ∀ vs x, (Ty.cons e (.cons e .nil)).args P O' w' vs x → ∀ n y, (F x).run n = some y → Ej P (.func (.func g) #[] cb) vs.toArray w' (fun w'' v => ∃ rs, YV rs v ∧ (Ty.cons (.int .i64) .nil).args P O' w'' rs y))
  {b : Nat} (hb : b < w.heap.size) (hob : O b ≠ 0) (size : Nat) : CmpLays P g cb (jO e) e.sz cf b 0 size w := by
 intro m os dk hdk x y
 obtain ⟨n, hn'⟩ := hF x y
 have hsz : w.heap.size ≤ (sortWorldK (jO e) e.sz w b 0 m dk os).heap.size := by simp [sortWorldK, grow, putRowK, putRow, Go.Sort.mapBlock, ahead]
 have hold : ∀ c, c < w.heap.size → c ≠ b → (sortWorldK (jO e) e.sz w b 0 m dk os).heap[c]? = w.heap[c]? := by
  intro c hc hne
  unfold sortWorldK
  rw [Go.Sort.heap_grow_old _ _ (by simpa [putRowK, putRow, Go.Sort.mapBlock, ahead] using hc)]
  simp [putRowK, putRow, Go.Sort.mapBlock, ahead, Array.getElem?_modify, Ne.symm hne]
 have hk : zj 0 O w O (sortWorldK (jO e) e.sz w b 0 m dk os) := ⟨hsz, fun c hc h0 => ⟨h0, hold c hc (fun e => hob (e ▸ h0))⟩⟩
 have ho : OkO O (sortWorldK (jO e) e.sz w b 0 m dk os) := fun c hc => hO c (by omega)
 have hv : ∀ x : e.D, (e.gr P).v O (sortWorldK (jO e) e.sz w b 0 m dk os) (.agg (jO e x).toArray) x := fun x => ⟨_, wO hn x, by rw [Ty.jq, ha]; rfl⟩
 obtain ⟨f, ys, h5, h6⟩ := h4 O _ ho hk [.agg (jO e x).toArray, .agg (jO e y).toArray] (x, y, ()) ⟨_, _, rfl, hv x, _, _, rfl, hv y, rfl⟩ n _ hn'
 obtain ⟨fn, g1, g2, g3⟩ := hg.h
 simp only [Deferred.ofValue, Sem.run_bind, Sem.run_pure, Result.andThen, invoke, callFunc, run_program, g1] at h5
 simp [g2, g3] at h5
 obtain ⟨rfl, rfl⟩ := h5
 refine Calls.mono (Go.Up.lp h6) ?_
 rintro e' w' ⟨⟨v, rfl, hE, rs, ht, v1, vs1, rfl, hv1, hvs⟩, hd⟩
 obtain ⟨cs, hc1, hc2⟩ := hv1
 rw [show cs = [Value.int .i64 (cf x y)] from hc1] at hc2
 have hvs' : vs1 = [] := hvs
 subst hvs'
 refine ⟨?_, IY hE (hd _ rfl)⟩
 rcases ht with ht | ht
 ·cases ht
 ·rw [ht]; show Ending.returned v1 = _; rw [hc2]; rfl
theorem uO {e : Ty} (ha : e.agg = true) (x : e.D) : (gR e x).cells = (jO e x).toArray := by unfold gR; rw [ha]; rfl
theorem mL {e : Ty} (hn : e.nar = true) {P : Program} {O : zS} {w : World} : ∀ {vs : List Value} {xs : List e.D}, ym (e.gr P) O w vs xs → vs = xs.map (gR e)
 | [], [], _ => rfl
 | v :: vs, x :: xs, h => by rw [List.map_cons, ← mL hn h.2, NY (rv hn) h.1]
 | [], _ :: _, h => h.elim
 | _ :: _, [], h => h.elim
theorem qO {e : Ty} (hn : e.nar = true) {P : Program} {O : zS} {w : World} : ∀ (xs : List e.D), ym (e.gr P) O w (xs.map (gR e)) xs
 | [] => trivial
 | x :: xs => ⟨⟨_, wO hn x, by rw [Ty.jq]; rfl⟩, qO hn xs⟩
section enc
variable {e : Ty} (hn : e.nar = true) (ha : e.agg = true)
include hn ha
theorem Gn (x : e.D) : (gR e x).cells.size = e.sz := by rw [uO ha]; simp [uv hn]
theorem pf (xs : List e.D) : ∀ v ∈ xs.map (gR e), v.cells.size = e.sz := by
 intro v hv
 obtain ⟨x, _, rfl⟩ := List.mem_map.1 hv
 exact Gn hn ha x
theorem lI [Inhabited e.D] (xs : List e.D) {t : Nat} (ht : t < xs.length * e.sz) : (flat (xs.map (gR e)))[t]? = some ((flatK (jO e) e.sz xs.toArray)[t]!) := by
 have h0 : 0 < e.sz := Nat.pos_of_ne_zero fun h => by rw [h] at ht; omega
 have hq : t / e.sz < xs.length := Nat.div_lt_of_lt_mul (by rw [Nat.mul_comm]; exact ht)
 have hr : t % e.sz < e.sz := Nat.mod_lt _ h0
 rw [Go.Sort.get_flatK _ _ _ _ (by simpa using ht)]
 have h1 := ZU (pf hn ha xs) (t / e.sz) (gR e xs[t / e.sz]) (by simp [hq]) (t % e.sz) hr
 rw [show t / e.sz * e.sz + t % e.sz = t from Nat.div_add_mod' t e.sz] at h1
 rw [h1, uO ha]
 have h2 : t % e.sz < (jO e xs[t / e.sz]).length := by rw [uv hn]; exact hr
 simp [hq, h2]
theorem Bg [Inhabited e.D] (xs : List e.D) : (flatK (jO e) e.sz xs.toArray).toList = flat (xs.map (gR e)) := by
 apply List.ext_getElem?
 intro t
 by_cases ht : t < xs.length * e.sz
 ·rw [lI hn ha xs ht, Array.getElem?_toList]
  have : t < (flatK (jO e) e.sz xs.toArray).size := by simpa using ht
  rw [Array.getElem?_eq_getElem this, getElem!_pos _ t this]
 ·rw [List.getElem?_eq_none (by simpa using ht), List.getElem?_eq_none (by rw [vu (pf hn ha xs), List.length_map]; omega)]
theorem Gk [Inhabited e.D] {w : World} {b : Nat} {cur : Array Value} {T : TypeId} {xs : List e.D} (hb : w.heap[b]? = some (.cells cur T (0, 0))) (h : cur.toList.take (xs.length * e.sz) = flat (xs.map (gR e))) : HoldsK (jO e) e.sz w b 0 xs.toArray := by
 intro j hj
 have hj' : j < xs.length * e.sz := by simpa using hj
 refine ⟨?_, by simp [World.frozen?, hb]⟩
 have h1 := lI hn ha xs hj'
 rw [← h, List.getElem?_take_of_lt hj'] at h1
 simp only [World.cell?, hb, Nat.zero_add]
 simp only [Option.isSome_none, Bool.false_eq_true, if_false]
 rw [← Array.getElem?_toList, h1]
 rfl
theorem IQ {P : Program} {ρ : Go.Shelf.Ren} (L : Go.Proofs.SlLaysF0.n6 P ρ) (aE : ∀ w, (isAgg (ρ.t 24)).run P w = .ok true w) (zE : ∀ w, (Go.sizeOf (ρ.t 24)).run P w = .ok e.sz w) [Inhabited e.D] {T : TypeId}
  {cf : e.D → e.D → Int} (hO : SWO (ltOf cf)) (hT : ∀ x y, (ltOf cf) x y = false → (ltOf cf) y x = false → x = y) {F : e.D × e.D × Unit → Comp (Int × Unit)} (hF : ∀ x y, ∃ n, (F (x, y, ())).run n = some (cf x y, ()))
  {O : zS} {w : World} (hw : OkO O w) {u v : Value} {xs : List e.D} (hA : SM (e.gr P) T O w u xs) (hv : ((Ty.fn (.cons e (.cons e .nil)) (.cons (.int .i64) .nil)).gr P).v O w v F) (hl : xs.length ≤ LIM) :
  Calls P (ρ.f 6) #[u, v] w (pv (e.gr P) T O w u (xs.mergeSort fun x y => !(ltOf cf) y x) (Wv false u)) := by
 obtain ⟨⟨vs, h1, h2⟩, h3⟩ := hA
 have hvs := mL hn h2
 subst hvs
 obtain ⟨cs, ⟨u', e1, ⟨e2, e3⟩, e4⟩, e5⟩ := hv
 obtain ⟨g, cb, rfl, hg⟩ := e3 rfl
 have hvu : v = .func (.func g) #[] cb := by rw [e5, e1]; rfl
 subst hvu
 have hlen : (xs.map (gR e)).length = xs.length := List.length_map _
 have hsz : (e.gr P).sz = e.sz := Ty.yc P e
 rcases h1.row.2 with ⟨f1, f2⟩ | ⟨b, cap, cur, f1, f2, f3, f4, f5, f6, f7⟩
 ·have hx : xs = [] := List.eq_nil_of_length_eq_zero (by omega)
  subst hx
  subst f1
  refine Calls.mono (Go.Proofs.AnyF.slices_SortFunc_none L none 0 _ w) ?_
  rintro e' w' ⟨he, rfl⟩
  exact ⟨_, .slice none 0 0, he, ⟨⟨rfl, rfl, rfl, zFu _, fun _ _ _ => rfl⟩, .inl rfl⟩, ⟨[], OwnS.nil _ _ _ _, by simp [ym]⟩, rfl, rfl⟩
 ·unfold LIM at hl
  subst f1
  rw [hlen] at f4 f7 h1 ⊢
  rw [hsz] at f6 f7
  have hb : b < w.heap.size := (Array.getElem?_eq_some_iff.1 f3).1
  have hob : O b ≠ 0 := h3 b rfl
  have eg : ∀ args w, (callFunc g args).run P w = .ok (.enter g args) w := by
   intro args w
   obtain ⟨fn, g1, g2, g3⟩ := hg.h
   simp only [callFunc, Sem.run_bind, Sem.run_pure, Result.andThen, run_program, g1]
   simp [g2, g3]
  have hlays := Ik (P := P) hn ha hF hw (cb := cb) hg e4 hb hob xs.toArray.size
  have hcall := Go.Proofs.AnyQ.slices_SortFunc_total L e.sz aE zE (jO e) (uv hn) (Ia hn) cf hO g cb b 0 cap xs.toArray w eg hlays (Gk hn ha f3 f7) hb (by simp; omega) hT
  rw [List.size_toArray] at hcall
  refine Calls.mono hcall ?_
  rintro e' w' ⟨he, n, os, rfl⟩
  simp only []
  generalize hys : (xs.mergeSort fun x y => !(ltOf cf) y x) = ys
  have hyl : ys.length = xs.length := by rw [← hys]; exact List.length_mergeSort xs
  have hheap : (sortWorldK (jO e) e.sz w b 0 n ys.toArray os).heap[b]? = some (.cells (Go.Sort.putCells id 0 (flatK (jO e) e.sz ys.toArray) cur) T (0, 0)) := by
   unfold sortWorldK
   rw [Go.Sort.heap_grow_old _ _ (by simpa [putRowK, putRow, Go.Sort.mapBlock, ahead] using hb)]
   simp [putRowK, putRow, Go.Sort.mapBlock, ahead, Array.getElem?_modify, f3, Go.Sort.onCells]
  have hgr : w.grownBy (sortWorldK (jO e) e.sz w b 0 n ys.toArray os) (some b) := by
   refine ⟨rfl, rfl, rfl, by simp [sortWorldK, grow, putRowK, putRow, Go.Sort.mapBlock, ahead], fun k hk hne => ?_⟩
   unfold sortWorldK
   rw [Go.Sort.heap_grow_old _ _ (by simpa [putRowK, putRow, Go.Sort.mapBlock, ahead] using hk)]
   have : b ≠ k := fun e => hne (by rw [e])
   simp [putRowK, putRow, Go.Sort.mapBlock, ahead, Array.getElem?_modify, this]
  have htake : (Go.Sort.putCells id 0 (flatK (jO e) e.sz ys.toArray) cur).toList.take (xs.length * e.sz) = flat (ys.map (gR e)) := by
   rw [← Bg hn ha ys]
   have hle : xs.length * e.sz ≤ cur.size := by rw [f6]; exact Nat.mul_le_mul_right _ f4
   apply List.ext_getElem?
   intro j
   by_cases hj : j < xs.length * e.sz
   ·have h5 : j < cur.size := by omega
    have h6 : j < (flatK (jO e) e.sz ys.toArray).size := by simpa [hyl] using hj
    rw [List.getElem?_take_of_lt hj, Array.getElem?_toList, Array.getElem?_toList, Array.getElem?_eq_getElem h6]
    simp only [Go.Sort.putCells, Array.getElem?_mapIdx, Array.getElem?_eq_getElem h5, Option.map_some, Nat.zero_le, true_and, Nat.zero_add, Nat.sub_zero]
    rw [if_pos h6, getElem!_pos _ j h6]; rfl
   ·rw [List.getElem?_take_eq_none (by omega), List.getElem?_eq_none (by simpa [hyl] using hj)]
  refine ⟨_, .slice (some ⟨b, 0, none⟩) xs.length cap, he, ⟨hgr, .inl rfl⟩, ⟨ys.map (gR e), ⟨?_, ?_⟩, qO hn ys⟩, rfl, rfl⟩
  ·rw [hsz]; exact pf hn ha ys
  ·rw [hsz, List.length_map, hyl]
   refine ⟨by rw [vu (pf hn ha ys), List.length_map, hyl], .inr ⟨b, cap, _, rfl, Nat.zero_le _, hheap, f4, f5, ?_, htake⟩⟩
   simp [Go.Sort.putCells, f6]
end enc
instance : Inhabited Pln := ⟨((0, 0, 0, ()), 0, ())⟩
abbrev Nf : Ty := .cons (.cons (.int .i64) (.cons (.int .i64) (.cons (.int .i64) .nil))) (.cons (.int .i64) .nil)
instance : Inhabited Nf.D := ⟨(((0 : Int), (0 : Int), (0 : Int), ()), (0 : Int), ())⟩
theorem Xd (x y : Pln) : ltOf YI x y = true ↔ LtP x y := by unfold ltOf; rw [decide_eq_true_iff]; exact Je
theorem Yq (x y : Pln) : ltOf YI x y = false ↔ ¬ LtP x y := by rw [← Xd]; simp
theorem Cu : SWO (ltOf YI) where
 irrefl x := (Yq x x).2 LtP.irr
 trans x y z h1 h2 := (Xd x z).2 (((Xd x y).1 h1).trans ((Xd y z).1 h2))
 ntrans x y z h1 h2 := by
  rw [Yq] at *
  intro h3
  rcases LtP.tri y z with h | h | h
  ·exact h2 h
  ·subst h; exact h1 h3
  ·exact h1 (h3.trans h)
theorem Gq (x y : Pln) (h1 : ltOf YI x y = false) (h2 : ltOf YI y x = false) : x = y := by
 rw [Yq] at h1 h2
 rcases LtP.tri x y with h | h | h
 ·exact absurd h h1
 ·exact h
 ·exact absurd h h2
theorem GZ (l : List Pln) : (l.mergeSort fun x y => !(ltOf YI) y x) = JC l := by
 refine List.Perm.eq_of_pairwise (le := fun p q => ¬ LtP q p) (fun a b _ _ h1 h2 => ?_) ?_ (mF l) ((List.mergeSort_perm _ _).trans (qJ l).symm)
 ·rcases LtP.tri a b with h | h | h
  ·exact absurd h h2
  ·exact h
  ·exact absurd h h1
 ·have := List.pairwise_mergeSort (le := fun x y : Pln => !(ltOf YI) y x) (fun a b c h1 h2 => ?_) (fun a b => ?_) l
  ·refine this.imp fun {a b} h => ?_
   rw [← Yq]; simpa using h
  ·simp only [Bool.not_eq_true'] at *
   exact Cu.ntrans c b a h2 h1
  ·cases h1 : ltOf YI b a with
   | false => rfl
   | true => rw [(Yq a b).2 fun h => LtP.asym ((Xd b a).1 h1) h]; rfl
theorem He {P : Program} {ρ : Go.Shelf.Ren} (L : Go.Proofs.SlLaysF0.n6 P ρ) {dd : TypeDesc} {z : Value} {by_ : Nat} (hT : Eng.Ty P (ρ.t 24) dd z 4 by_) (hd : vA dd = true) {T : TypeId} (hf : FnOk P (ρ.f 6)) :
  FO.ok P (ρ.f 6) ⟨Nf, T, .cons (.fn (.cons Nf (.cons Nf .nil)) (.cons (.int .i64) .nil)) .nil, false, fun xs x => AJ xs x.1⟩ := by
 refine ⟨hf, fun O w hw u xs hA vs z hz n ys hy => ?_⟩
 obtain ⟨v, vs1, rfl, hv, hvs⟩ := hz
 rw [show vs1 = [] from hvs]
 have hy' : (AJ xs z.1).run n = some ys := hy
 unfold AJ at hy'
 split at hy'
 ·rename_i h
  have := run_pure hy'
  subst this
  have hm := GZ xs
  have := IQ (P := P) (e := Nf) rfl rfl L (fun w => by rw [hT.Zt, hd]) hT.zn (T := T) Cu Gq h.2 hw hA hv h.1
  refine Calls.mono this fun e w' he => ?_
  rw [← hm]
  exact he
 ·cases hy'
end Go.Den
end
section
namespace Go.Proofs
open Go.Shelf
def Tryz.qK : Go.Shelf.Ren := ⟨fun | 6 => 203 | 15 => 222 | 14 => 221 | 28 => 241 | 29 => 242 | 20 => 233 | 21 => 234 | 22 => 235 | 23 => 236 | 24 => 237 | 25 => 238 | 26 => 239 | 27 => 240 | 46 => 244 | 47 => 245 | 48 => 246 | 49 => 247 | 50 => 248 | 57 => 249 | n => n, fun | 22 => 107 | 24 => 106 | 25 => 233 | 3 => 3 | 39 => 245 | 0 => 0 | 53 => 257 | 55 => 259 | 4 => 4 | 46 => 250 | 45 => 249 | 50 => 254 | 5 => 5 | 9 => 9 | 66 => 260 | 70 => 264 | 76 => 266 | 77 => 267 | n => n, fun | n => n⟩
theorem Tryz.zAQ : Go.Proofs.SlLaysF0.n6 Tryz.prog Tryz.qK := {
 mixed := by kernel_rfl
 f6 := ⟨Tryz.f203.name, by decide, Tryz.func203.trans (congrArg some (by kernel_rfl))⟩
 f14 := ⟨Tryz.f221.name, by decide, Tryz.func221.trans (congrArg some (by kernel_rfl))⟩
 f15 := Tryz.func222.trans (congrArg some (by kernel_rfl))
 f20 := ⟨Tryz.f233.name, by decide, Tryz.func233.trans (congrArg some (by kernel_rfl))⟩
 f21 := ⟨Tryz.f234.name, by decide, Tryz.func234.trans (congrArg some (by kernel_rfl))⟩
 f22 := ⟨Tryz.f235.name, by decide, Tryz.func235.trans (congrArg some (by kernel_rfl))⟩
 f23 := ⟨Tryz.f236.name, by decide, Tryz.func236.trans (congrArg some (by kernel_rfl))⟩
 f24 := ⟨Tryz.f237.name, by decide, Tryz.func237.trans (congrArg some (by kernel_rfl))⟩
 f25 := ⟨Tryz.f238.name, by decide, Tryz.func238.trans (congrArg some (by kernel_rfl))⟩
 f26 := ⟨Tryz.f239.name, by decide, Tryz.func239.trans (congrArg some (by kernel_rfl))⟩
 f27 := ⟨Tryz.f240.name, by decide, Tryz.func240.trans (congrArg some (by kernel_rfl))⟩
 f28 := Tryz.func241.trans (congrArg some (by kernel_rfl))
 f29 := Tryz.func242.trans (congrArg some (by kernel_rfl))
 f46 := ⟨Tryz.f244.name, by decide, Tryz.func244.trans (congrArg some (by kernel_rfl))⟩
 f47 := Tryz.func245.trans (congrArg some (by kernel_rfl))
 f48 := Tryz.func246.trans (congrArg some (by kernel_rfl))
 f49 := ⟨Tryz.f247.name, by decide, Tryz.func247.trans (congrArg some (by kernel_rfl))⟩
 f50 := ⟨Tryz.f248.name, by decide, Tryz.func248.trans (congrArg some (by kernel_rfl))⟩
 f57 := ⟨Tryz.f249.name, by decide, Tryz.func249.trans (congrArg some (by kernel_rfl))⟩
 t0 := Tryz.underlying0
 a0 := Tryz.isAgg0
 z0 := Tryz.sizeOf0
 v0 := Tryz.zeroValue0
 t3 := Tryz.underlying3
 a3 := Tryz.isAgg3
 z3 := Tryz.sizeOf3
 v3 := Tryz.zeroValue3
 t4 := Tryz.underlying4
 a4 := Tryz.isAgg4
 z4 := Tryz.sizeOf4
 v4 := Tryz.zeroValue4
 t5 := Tryz.underlying5
 a5 := Tryz.isAgg5
 z5 := Tryz.sizeOf5
 v5 := Tryz.zeroValue5
 t9 := Tryz.underlying9
 a9 := Tryz.isAgg9
 z9 := Tryz.sizeOf9
 v9 := Tryz.zeroValue9
 t22 := Tryz.underlying107
 a22 := Tryz.isAgg107
 z22 := Tryz.sizeOf107
 v22 := Tryz.zeroValue107
 t25 := Tryz.underlying233
 a25 := Tryz.isAgg233
 z25 := Tryz.sizeOf233
 v25 := Tryz.zeroValue233
 t39 := Tryz.underlying245
 a39 := Tryz.isAgg245
 z39 := Tryz.sizeOf245
 v39 := Tryz.zeroValue245
 t45 := Tryz.underlying249
 a45 := Tryz.isAgg249
 z45 := Tryz.sizeOf249
 v45 := Tryz.zeroValue249
 t46 := Tryz.underlying250
 a46 := Tryz.isAgg250
 z46 := Tryz.sizeOf250
 v46 := Tryz.zeroValue250
 t50 := Tryz.underlying254
 a50 := Tryz.isAgg254
 z50 := Tryz.sizeOf254
 v50 := Tryz.zeroValue254
 t53 := Tryz.underlying257
 a53 := Tryz.isAgg257
 z53 := Tryz.sizeOf257
 v53 := Tryz.zeroValue257
 t55 := Tryz.underlying259
 a55 := Tryz.isAgg259
 z55 := Tryz.sizeOf259
 v55 := Tryz.zeroValue259
 t66 := Tryz.underlying260
 a66 := Tryz.isAgg260
 z66 := Tryz.sizeOf260
 v66 := Tryz.zeroValue260
 t70 := Tryz.underlying264
 a70 := Tryz.isAgg264
 z70 := Tryz.sizeOf264
 v70 := Tryz.zeroValue264
 t76 := Tryz.underlying266
 a76 := Tryz.isAgg266
 z76 := Tryz.sizeOf266
 v76 := Tryz.zeroValue266
 t77 := Tryz.underlying267
 a77 := Tryz.isAgg267
 z77 := Tryz.sizeOf267
 v77 := Tryz.zeroValue267 }
end Go.Proofs
end
noncomputable section
set_option maxRecDepth 200000
namespace Go.Dn
open Go Go.Proofs Go.RowKit Go.Eng Go.Lift Go.Den
def t222 : Ty := .seq (.cons t224 .nil)
def t235 : Ty := .seq (.cons (.slo t106) .nil)
open Go.F Go.Proofs.Tryz
abbrev sz (h : H) : H := .s .z h
abbrev kv (n : Nat) (t : Ty) : Bool × Nat × Knd := (false, n, .v t)
abbrev kw (n : Nat) (t : Ty) : Bool × Nat × Knd := (true, n, .v t)
abbrev ko (n : Nat) (t : Ty) (T : Nat) : Bool × Nat × Knd := (false, n, .o true t T)
def s55 : FS := ⟨(.cons t104 (.cons t104 .nil)), (.cons t107 .nil), [some 106], fun x => z7 x.1 x.2.1⟩
theorem EJ : s55.ok prog 55 := fS (E0) .z func55
def s48 : FS := ⟨.nil, (.cons t36 .nil), [none], fun x => gQ ⟩
theorem zBD : s48.ok prog 48 := fS ((E0).S EJ) (sz (.s (.xr [0, 6, 7] [2, 3, 4, 0, 1, 5, 6, 7] [(1, []), (2, []), (3, []), (4, []), (5, [])]) (.s (sz (.b (.l ⟨[kv 2 t3, (true, 1, (.ag (.pr (.ag (.pr (.v t9) (.pr (.o true t107 107) (.pr (.o true t3 3) .un)))) (.pr (.ag (.pr (.v t31) (.pr (.v t31) (.pr (.o true t107 107) .un)))) (.pr (.o true t62 62) .un)))))], [0, 1], [2]⟩ [(some 0, ⟨[(true, 1, (.ag (.pr (.ag (.pr (.v t9) (.pr (.o true t107 107) (.pr (.o true t3 3) .un)))) (.pr (.ag (.pr (.v t31) (.pr (.v t31) (.pr (.o true t107 107) .un)))) (.pr (.o true t62 62) .un)))))], [0, 1], []⟩)] .z))) (sz (.s (.f [3] .z) .z))))) func48
def zEs : FS := ⟨(.cons t3 .nil), (.cons t4 .nil), [none], fun x => vn x.1⟩
theorem VZ : zEs.ok prog 117 := fS (E0) .z func117
def zEg : FS := ⟨(.cons t23 (.cons t117 .nil)), (.cons t3 .nil), [none], fun x => gL x.1 x.2.1⟩
theorem MQ : zEg.ok prog 129 := fS (E0) (sz (.s (sz (.b (.l ⟨[kv 8 t3], [0, 1, 7], [8]⟩ [(some 0, ⟨[], [], []⟩), (none, ⟨[kv 4 t3], [], [4]⟩)] .z))) .z)) func129
def s72 : FS := ⟨(.cons t23 (.cons t117 .nil)), (.cons t4 .nil), [none], fun x => zR x.1 x.2.1⟩
theorem NM : s72.ok prog 72 := fS ((E0).S MQ) .z func72
def zEE : FS := ⟨(.cons t28 (.cons t166 .nil)), (.cons t3 .nil), [none], fun x => yu x.1 x.2.1⟩
theorem VD : zEE.ok prog 168 := fS (E0) (sz (.s (sz (.b (.l ⟨[kv 8 t3], [0, 1, 7], [8]⟩ [(some 0, ⟨[], [], []⟩), (none, ⟨[kv 4 t3], [], [4]⟩)] .z))) .z)) func168
def zEW : FS := ⟨(.cons t28 (.cons t166 .nil)), (.cons t4 .nil), [none], fun x => zQ x.1 x.2.1⟩
theorem CT : zEW.ok prog 140 := fS ((E0).S VD) .z func140
def zDm : FS := ⟨(.cons t107 (.cons t198 .nil)), (.cons t3 .nil), [none], fun x => yA x.1 x.2.1⟩
theorem MD : zDm.ok prog 188 := fS (E0) (sz (.s (sz (.b (.l ⟨[kv 8 t3], [0, 1, 7], [8]⟩ [(some 0, ⟨[], [], []⟩), (none, ⟨[kv 4 t3], [], [4]⟩)] .z))) .z)) func188
def zEH : FS := ⟨(.cons t107 (.cons t198 .nil)), (.cons t4 .nil), [none], fun x => zY x.1 x.2.1⟩
theorem MI : zEH.ok prog 165 := fS ((E0).S MD) .z func165
def zDl : FS := ⟨(.cons t3 (.cons t23 .nil)), (.cons t4 .nil), [none], fun x => gy x.1 x.2.1⟩
theorem U2 : zDl.ok prog 189 := fS (E0) (sz (.s (sz (.b (.l ⟨[kv 9 t3], [0, 7, 8], [9]⟩ [(some 0, ⟨[], [], []⟩), (none, ⟨[kv 4 t4], [], [4]⟩)] .z))) .z)) func189
def zDN : FS := ⟨(.cons t3 .nil), (.cons t3 .nil), [none], fun x => jT x.1⟩
theorem Uf : zDN.ok prog 213 := fS (E0) .z func213
def zDk : FS := ⟨(.cons t23 .nil), (.cons t3 .nil), [none], fun x => ZF x.1⟩
theorem U1 : zDk.ok prog 190 := fS ((E0).S Uf) (sz (sz (.s (sz (.b (.l ⟨[kv 3 t3, kv 8 t3], [6, 7], [3, 8]⟩ [(some 0, ⟨[kv 3 t3], [], [3]⟩), (none, ⟨[kv 2 t3], [], [2]⟩)] (sz (sz (.s (.b (sz (sz (sz (.b (.l ⟨[kv 3 t3, kv 5 t3], [6, 7, 8], [3, 5]⟩ [(some 2, ⟨[kv 3 t3], [6, 7, 8], [3]⟩)] .z)))))) .z)))))) .z))) func190
def zEF : FS := ⟨(.cons t106 .nil), (.cons t4 .nil), [none], fun x => YQ x.1⟩
theorem VF : zEF.ok prog 167 := fS (((E0).S U1).S U2) (sz (.s (.xg ⟨[kv 2 t4], [], [2]⟩) .z)) func167
def zEG : FS := ⟨(.cons t106 .nil), (.cons t4 .nil), [none], fun x => jG x.1⟩
theorem VG : zEG.ok prog 166 := fS ((E0).S VF) .z func166
def zEX : FS := ⟨(.cons t107 .nil), (.cons t43 .nil), [none], fun x => vV x.1⟩
theorem Kz : zEX.ok prog 139 := fS (((E0).S VG).S MI) .z func139
def zEC : FS := ⟨(.cons t107 .nil), (.cons t4 .nil), [none], fun x => jF x.1⟩
theorem VB : zEC.ok prog 172 := fS ((E0).S Kz) .z func172
def zES : FS := ⟨(.cons t28 .nil), (.cons t4 .nil), [none], fun x => k9 x.1⟩
theorem CS : zES.ok prog 154 := fS (((E0).S VB).S CT) .z func154
def zDh : FS := ⟨(.cons t3 .nil), (.cons t107 .nil), [some 106], fun x => vY x.1⟩
theorem Uz : zDh.okN prog 193 := fN (E0) (sz (.s (sz (.j ⟨[], [0, 1], []⟩ .z .z)) (.s (sz (sz (.j ⟨[ko 0 t106 106], [], []⟩ (.xg ⟨[ko 0 t106 106], [], []⟩) .z))) .z))) func193
def zEB : FS := ⟨(.cons t28 .nil), (.cons t107 .nil), [some 106], fun x => zO x.1⟩
theorem MH : zEB.ok prog 173 := fS ((E0).N Uz) (sz (sz (.s (sz (.b (.l ⟨[kv 3 t3, kv 11 t3], [0, 9, 10], [3, 11]⟩ [(some 0, ⟨[kv 3 t3], [0], [3]⟩)] (sz (sz (.s (.b (sz (sz (sz (.j ⟨[], [0, 3, 9, 10, 11], []⟩ .z .z))))) .z)))))) (sz (.s (sz (.b (.l ⟨[ko 6 t106 106, kv 27 t3], [25, 26], [27]⟩ [(some 2, ⟨[ko 6 t106 106], [], []⟩)] .z))) .z))))) func173
def zER : FS := ⟨(.cons t28 .nil), (.cons t189 .nil), [some 106], fun x => cell_of x.1⟩
theorem CR : zER.ok prog 155 := fS ((E0).S MH) (sz (sz (.s (sz (.b (.l ⟨[ko 3 t106 106, kv 16 t3], [14, 15], [16]⟩ [(some 0, ⟨[ko 3 t106 106], [], []⟩)] .z))) .z))) func155
def zDL : GS := ⟨(.cons (.box t189) .nil), (.cons t224 .nil), fun x => vX x.1⟩
theorem Ud : zDL.ok prog 215 := fQ (E0) (sz (.b (.l ⟨[kv 11 t3], [0, 1, 9, 10], [11]⟩ [(some 0, ⟨[], [], []⟩), (none, ⟨[], [], []⟩)] (sz (sz (.s (.b (sz (.s (.f [4] .z) (.b (.l ⟨[kv 21 t3], [0, 1, 3, 4, 9, 10, 11, 19, 20], [21]⟩ [(some 2, ⟨[], [0, 1, 9, 10, 11], []⟩), (none, ⟨[], [], []⟩)] (sz (sz (.s (.b (sz (.s (.f [6] .z) (.b (.l ⟨[kv 33 t3], [0, 1, 3, 4, 6, 9, 10, 11, 19, 20, 21, 31, 32], [33]⟩ [(some 4, ⟨[], [0, 1, 3, 4, 9, 10, 11, 19, 20, 21], []⟩), (none, ⟨[], [], []⟩)] (sz (sz (.s (.b (sz (.s (.f [8] .y) .z))) .z)))))))) .z)))))))) .z)))))) func215
def zDg : FS := ⟨(.cons t189 .nil), (.cons t222 .nil), [none], fun x => jm x.1⟩
theorem Uy : zDg.ok prog 194 := fS ((E0).Q Ud) (sz (.s (.f [1] .z) .z)) func194
def zDK : FS := ⟨(.cons t104 (.cons t104 .nil)), (.cons t104 .nil), [none], fun x => ZL x.1 x.2.1⟩
theorem Uc : zDK.ok prog 216 := fS (E0) .z func216
def zDb : FS := ⟨(.cons t104 (.cons t104 .nil)), (.cons t3 .nil), [none], fun x => ZB x.1 x.2.1⟩
theorem MB : zDb.ok prog 199 := fS (E0) .z func199
def zDI : FS := ⟨(.cons t104 (.cons t3 .nil)), (.cons t104 .nil), [none], fun x => Z7 x.1 x.2.1⟩
theorem Ua : zDI.ok prog 218 := fS (E0) .z func218
def zDJ : FS := ⟨(.cons t104 (.cons t104 .nil)), (.cons t104 .nil), [none], fun x => Yp x.1 x.2.1⟩
theorem Ub : zDJ.ok prog 217 := fS (E0) .z func217
def zDH : FS := ⟨(.cons t23 .nil), (.cons t3 .nil), [none], fun x => J2 x.1⟩
theorem UZ : zDH.ok prog 219 := fS (E0) (sz (sz (.s (sz (.b (.l ⟨[kv 3 t3, kv 8 t3], [6, 7], [3, 8]⟩ [(some 0, ⟨[kv 3 t3], [], [3]⟩)] (sz (sz (.s (.b (sz (.b (.l ⟨[kv 3 t3, kv 5 t3], [6, 7, 8], [3, 5]⟩ [(some 2, ⟨[kv 3 t3], [6, 7, 8], [3]⟩)] .z)))) .z)))))) .z))) func219
def zDf : FS := ⟨(.cons t224 .nil), (.cons t208 (.cons t4 .nil)), [none, none], fun x => Yu x.1⟩
theorem Ux : zDf.ok prog 195 := fS ((((((E0).S UZ).S Ub).S Ua).S MB).S Uc) (sz (sz (sz (.s (sz (.b (.l ⟨[kv 5 t3, kv 11 t3, kw 4 t104], [1, 2, 4, 10], [5, 11, 4]⟩ [(some 0, ⟨[kv 5 t3, kw 4 t104], [2, 4], [5, 4]⟩)] (sz (sz (.s (.b (sz (.s (.xr [13, 14] [0, 1, 2, 3, 4, 5, 6, 7, 8, 9, 10, 11, 12, 13, 14] [(0, []), (1, []), (2, []), (3, []), (4, []), (5, []), (6, []), (7, []), (8, []), (9, []), (10, []), (11, []), (12, [])]) .z))) .z)))))) (sz (sz (.s (sz (.j ⟨[kv 9 t3], [2, 4, 5], [9]⟩ .z .z)) .z))))))) func195
def zDv : FS := ⟨(.cons t106 (.cons t208 .nil)), (.cons t3 .nil), [none], fun x => ZD x.1 x.2.1⟩
theorem CP : zDv.ok prog 179 := fS ((E0).S MB) .z func179
def zDG : FS := ⟨(.cons t106 (.cons (.box t208) .nil)), (.cons t4 .nil), [none], fun x => ga x.1 x.2.1⟩
theorem UY : zDG.ok prog 220 := fS ((E0).S CP) .z func220
def zDe : FS := ⟨(.cons t107 (.cons t208 .nil)), (.cons t4 .nil), [none], fun x => ZO x.1 x.2.1⟩
theorem Uw : zDe.ok prog 196 := fS (((E0).S MI).S UY) .z func196
def zEA : FS := ⟨(.cons t189 .nil), (.cons t203 .nil), [some 208], fun x => vU x.1⟩
theorem MG : zEA.ok prog 174 := fS ((((E0).S Uw).S Ux).S Uy) (sz (sz (sz (.s (sz (.b (.l ⟨[(true, 3, (.o true t208 208)), (true, 4, (.m true t208 t4))], [1, 3, 4, 10], []⟩ [] (sz (.b (sz (sz (.j ⟨[(true, 3, (.o true t208 208)), (true, 4, (.m true t208 t4))], [1, 3, 4, 10], []⟩ .z .z)))))))) .z)))) func174
def zDw : FS := ⟨(.cons t208 (.cons (.box t106) .nil)), (.cons t4 .nil), [none], fun x => yM x.1 x.2.1⟩
theorem U7 : zDw.ok prog 178 := fS ((E0).S CP) .z func178
def zDc : FS := ⟨(.cons t203 (.cons t210 .nil)), (.cons t3 .nil), [none], fun x => vQ x.1 x.2.1⟩
theorem Uu : zDc.ok prog 198 := fS (E0) (sz (.s (sz (.b (.l ⟨[kv 8 t3], [0, 1, 7], [8]⟩ [(some 0, ⟨[], [], []⟩), (none, ⟨[kv 4 t3], [], [4]⟩)] .z))) .z)) func198
def zDx : FS := ⟨(.cons t203 (.cons t210 .nil)), (.cons t4 .nil), [none], fun x => yE x.1 x.2.1⟩
theorem U8 : zDx.ok prog 177 := fS ((E0).S Uu) .z func177
def zDy : FS := ⟨(.cons t106 (.cons (.box t203) .nil)), (.cons t4 .nil), [none], fun x => yk x.1 x.2.1⟩
theorem U9 : zDy.ok prog 176 := fS (((E0).S U8).S U7) .z func176
def zDd : FS := ⟨(.cons t189 (.cons t198 .nil)), (.cons t3 .nil), [none], fun x => vD x.1 x.2.1⟩
theorem Uv : zDd.ok prog 197 := fS (E0) (sz (.s (sz (.b (.l ⟨[kv 8 t3], [0, 1, 7], [8]⟩ [(some 0, ⟨[], [], []⟩), (none, ⟨[kv 4 t3], [], [4]⟩)] .z))) .z)) func197
def zDz : FS := ⟨(.cons t189 (.cons t198 .nil)), (.cons t4 .nil), [none], fun x => zz x.1 x.2.1⟩
theorem VA : zDz.ok prog 175 := fS ((E0).S Uv) .z func175
def zEQ : FS := ⟨(.cons t189 .nil), (.cons t4 .nil), [none], fun x => gY x.1⟩
theorem ML : zEQ.ok prog 156 := fS ((((E0).S VA).S U9).S MG) .z func156
def zEr : FS := ⟨(.cons t107 .nil), (.cons t4 .nil), [none], fun x => jl x.1⟩
theorem pZ : zEr.ok prog 118 := fS ((((E0).S ML).S CR).S CS) (sz (.s (.xg ⟨[kv 2 t4], [], [2]⟩) .z)) func118
def zEi : FS := ⟨(.cons t107 (.cons t107 .nil)), (.cons t4 .nil), [none], fun x => kF x.1 x.2.1⟩
theorem CV : zEi.ok prog 127 := fS ((((E0).S ML).S CR).S CS) (sz (.s (.xg ⟨[kv 4 t4], [], [4]⟩) .z)) func127
def zEP : FS := ⟨(.cons t107 (.cons (.box t107) .nil)), (.cons t4 .nil), [none], fun x => gZ x.1 x.2.1⟩
theorem VL : zEP.ok prog 157 := fS ((E0).S CV) .z func157
def zEq : FS := ⟨(.cons t107 (.cons t28 .nil)), (.cons t4 .nil), [none], fun x => yD x.1 x.2.1⟩
theorem pY : zEq.ok prog 119 := fS (((E0).S CT).S VL) .z func119
def s58 : FS := ⟨(.cons t30 .nil), (.cons t43 .nil), [none], fun x => kJ x.1⟩
theorem NN : s58.ok prog 58 := fS (((((E0).S pY).S pZ).S NM).S VZ) (sz (sz (sz (sz (.s (sz (.b (.l ⟨[kv 32 t3], [1, 30, 31], [32]⟩ [(some 1, ⟨[], [], []⟩), (none, ⟨[kv 2 t43], [], [2]⟩)] .z))) .z))))) func58
def zEY : FS := ⟨(.cons t107 .nil), (.cons t4 .nil), [none], fun x => gz x.1⟩
theorem VO : zEY.ok prog 138 := fS ((E0).S Kz) .z func138
def s87 : FS := ⟨(.cons t30 (.cons t33 .nil)), (.cons t4 .nil), [none], fun x => Xv x.1 x.2.1⟩
theorem zAf : s87.ok prog 87 := fS (((E0).S CT).S VO) .z func87
def zEO : FS := ⟨(.cons t3 .nil), (.cons t28 .nil), [some 107], fun x => vZ x.1⟩
theorem VK : zEO.okN prog 158 := fN (E0) (sz (.s (sz (.j ⟨[], [0, 1], []⟩ .z .z)) (.s (sz (sz (.j ⟨[ko 0 t107 107], [], []⟩ (.xg ⟨[ko 0 t107 107], [], []⟩) .z))) .z))) func158
def zEn : FS := ⟨(.cons t191 .nil), (.cons t28 .nil), [some 107], fun x => zT x.1⟩
theorem MR : zEn.ok prog 122 := fS ((E0).N VK) (sz (sz (.s (sz (.b (.l ⟨[kv 3 t3, kv 11 t3], [0, 9, 10], [3, 11]⟩ [(some 0, ⟨[kv 3 t3], [0], [3]⟩)] (sz (sz (.s (.b (sz (sz (sz (.j ⟨[], [0, 3, 9, 10, 11], []⟩ .z .z))))) .z)))))) (sz (.s (sz (.b (.l ⟨[ko 6 t107 107, kv 27 t3], [25, 26], [27]⟩ [(some 2, ⟨[ko 6 t107 107], [], []⟩)] .z))) .z))))) func122
def zEV : FS := ⟨(.cons t23 .nil), (.cons t4 .nil), [none], fun x => kQ x.1⟩
theorem VN : zEV.ok prog 141 := fS (E0) (sz (.s (sz (.b (.l ⟨[kv 3 t3], [0], [3]⟩ [(some 0, ⟨[], [], []⟩), (none, ⟨[kv 2 t4], [], [2]⟩)] .z))) .z)) func141
def s88 : FS := ⟨(.cons t34 (.cons t3 .nil)), (.cons t43 .nil), [none], fun x => ZM x.1 x.2.1⟩
theorem zAe : s88.ok prog 88 := fS ((((E0).S VN).S Kz).S MR) (sz (sz (.s (sz (.b (.l ⟨[kv 22 t3], [0, 1, 5, 20, 21], [22]⟩ [(some 0, ⟨[], [0, 1, 5], []⟩), (none, ⟨[kv 4 t43], [], [4]⟩)] .z))) (sz (.s (sz (.b (.l ⟨[kv 43 t3], [0, 1, 5, 41, 42], [43]⟩ [(some 2, ⟨[], [5], []⟩), (none, ⟨[kv 4 t43], [], [4]⟩)] .z))) .z))))) func88
def s30 : FS := ⟨(.cons t36 .nil), (.cons t43 .nil), [none], fun x => Y5 x.1⟩
theorem zBG : s30.ok prog 30 := fS ((((E0).S zAe).S zAf).S NN) (sz (sz (sz (sz (.s (sz (.b (.l ⟨[kv 4 t3, kv 33 t3], [1, 31, 32], [4, 33]⟩ [(some 1, ⟨[kv 4 t3], [], [4]⟩), (none, ⟨[kv 2 t43], [], [2]⟩)] .z))) .z))))) func30
def s56 : FS := ⟨(.cons (.box t36) .nil), (.cons t43 .nil), [none], fun x => kX x.1⟩
theorem zAy : s56.ok prog 56 := fS ((E0).S zBG) .z func56
def s57 : FS := ⟨(.cons (.box t30) .nil), (.cons t43 .nil), [none], fun x => kW x.1⟩
theorem zAx : s57.ok prog 57 := fS ((E0).S NN) .z func57
def zEp : FS := ⟨(.cons t3 (.cons (.box t3) .nil)), (.cons t4 .nil), [none], fun x => gh x.1 x.2.1⟩
theorem VY : zEp.ok prog 120 := fS (E0) .z func120
def s60 : FS := ⟨(.cons t3 (.cons t23 .nil)), (.cons t43 .nil), [none], fun x => YU x.1 x.2.1⟩
theorem zAv : s60.ok prog 60 := fS (((E0).S NM).S VY) (sz (.b (sz (sz (sz (.s (sz (.b (.l ⟨[kv 5 t43, kv 15 t3], [1, 13, 14], [5, 15]⟩ [(some 0, ⟨[kv 5 t43], [], [5]⟩)] (sz (sz (.s (.b (sz (sz (.b (.l ⟨[kv 5 t43, kv 24 t3], [1, 7, 13, 14, 15, 22, 23], [5, 24]⟩ [(some 0, ⟨[kv 5 t43], [], [5]⟩), (some 2, ⟨[kv 5 t43], [1, 13, 14, 15], [5]⟩)] .z))))) .z)))))) .z)))))) func60
def s59 : FS := ⟨(.cons (.box t36) (.cons (.box t23) .nil)), (.cons t43 .nil), [none], fun x => kV x.1 x.2.1⟩
theorem zAw : s59.ok prog 59 := fS ((E0).S zAv) .z func59
def zEo : FS := ⟨(.cons t28 .nil), (.cons t43 .nil), [none], fun x => jD x.1⟩
theorem MT : zEo.ok prog 121 := fS ((E0).S Kz) (sz (.s (sz (.b (.l ⟨[kv 8 t3], [6, 7], [8]⟩ [(some 0, ⟨[], [], []⟩), (none, ⟨[kv 2 t43], [], [2]⟩)] .z))) .z)) func121
def zEw : FS := ⟨(.cons t30 (.cons t33 .nil)), (.cons t43 .nil), [none], fun x => kS x.1 x.2.1⟩
theorem MU : zEw.ok prog 112 := fS (((E0).S MT).S NN) .z func112
def zEm : FS := ⟨(.cons t31 .nil), (.cons t31 .nil), [some 4], fun x => yf x.1⟩
theorem VX : zEm.ok prog 123 := fS (E0) .z func123
def zEN : FS := ⟨(.cons t107 .nil), (.cons t107 .nil), [some 106], fun x => zZ x.1⟩
theorem MK : zEN.ok prog 159 := fS (E0) .z func159
def zEl : FS := ⟨(.cons t28 .nil), (.cons t28 .nil), [some 107], fun x => Zj x.1⟩
theorem VW : zEl.ok prog 124 := fS ((E0).S MK) (sz (sz (.s (sz (.b (.l ⟨[ko 3 t107 107, kv 8 t3], [6, 7], [8]⟩ [(some 0, ⟨[ko 3 t107 107], [], []⟩)] .z))) .z))) func124
def zEj : FS := ⟨(.cons t3 (.cons t107 (.cons (.box t107) .nil))), (.cons t4 .nil), [none], fun x => vH x.1 x.2.1 x.2.2.1⟩
theorem VT : zEj.ok prog 126 := fS ((E0).S CV) .z func126
def zEk : FS := ⟨(.cons t28 (.cons t173 .nil)), (.cons t28 .nil), [some 107], fun x => yW x.1 x.2.1⟩
theorem VV : zEk.ok prog 125 := fS (E0) (sz (sz (.s (sz (.b (.l ⟨[ko 5 t107 107, kv 10 t3], [1, 8, 9], [10]⟩ [(some 0, ⟨[ko 5 t107 107], [], []⟩)] (sz (sz (.s (.b (sz (sz (.j ⟨[ko 5 t107 107], [1, 8, 9, 10], []⟩ .z .z)))) .z)))))) .z))) func125
def zDu : FS := ⟨(.cons t28 .nil), (.cons t43 .nil), [none], fun x => YM x.1⟩
theorem U6 : zDu.ok prog 180 := fS ((E0).S Kz) (sz (sz (.s (sz (.b (.l ⟨[kv 11 t3], [9, 10], [11]⟩ [(some 0, ⟨[], [], []⟩), (none, ⟨[kv 2 t43], [], [2]⟩)] .z))) .z))) func180
def zDa : FS := ⟨(.cons t107 .nil), (.cons t203 .nil), [some 208], fun x => YT x.1⟩
theorem Ut : zDa.ok prog 200 := fS ((((E0).S MG).S CR).S CS) .z func200
def zDY : FS := ⟨(.cons t106 (.cons (.box t203) .nil)), (.cons t4 .nil), [none], fun x => jf x.1 x.2.1⟩
theorem Ur : zDY.ok prog 202 := fS ((E0).S CP) (sz (sz (.s (sz (.b (.l ⟨[kv 4 t3, kv 9 t3], [2, 7, 8], [4, 9]⟩ [(some 0, ⟨[kv 4 t3], [], [4]⟩)] (sz (sz (.s (.b (sz (sz (.j ⟨[kv 4 t3], [2, 7, 8, 9], [4]⟩ .z .z)))) .z)))))) .z))) func202
def zDZ : FO := ⟨t106, 106, (.cons t198 .nil), true, fun xs x => zy xs x.1⟩
theorem Us : zDZ.ok prog 201 := fO ((E0).S MD) (sz (sz (sz (.s (sz (.b (.l ⟨[kw 0 t107, kv 5 t3, kv 6 t3], [0, 1], [5, 6]⟩ [(some 0, ⟨[kw 0 t107, kv 5 t3], [0], [5]⟩)] (sz (.s (.b (sz (sz (.j ⟨[kw 0 t107, kv 5 t3], [0, 1, 6], [5]⟩ .z .z)))) .z))))) (.s (.f [0] .z) (.s (.xg ⟨[(false, 4, (.o false t106 106))], [], []⟩) .z)))))) func201
def zDX : FO := ⟨t106, 106, (.cons t233 .nil), false, fun xs x => zq xs x.1⟩
theorem Uq : zDX.ok prog 203 := He (ρ := Go.Proofs.Tryz.qK) Go.Proofs.Tryz.zAQ (zCs 106 W9 (by kernel_rfl)).ty rfl ⟨_, func203, rfl, by kernel_rfl⟩
def zDF : FS := ⟨(.cons t3 (.cons t3 .nil)), (.cons t3 .nil), [none], fun x => ZK x.1 x.2.1⟩
theorem UX : zDF.ok prog 223 := fS (E0) .z func223
def zDW : FS := ⟨(.cons t106 (.cons t106 .nil)), (.cons t3 .nil), [none], fun x => j7 x.1 x.2.1⟩
theorem Uo : zDW.ok prog 204 := fS ((E0).S UX) (sz (.b (sz (sz (.s (sz (.b (.l ⟨[kv 5 t3, kv 36 t3], [34, 35], [5, 36]⟩ [(some 0, ⟨[kv 5 t3], [], [5]⟩)] .z))) .z))))) func204
def zDV : FO := ⟨t106, 106, .nil, true, fun xs x => zt xs ⟩
theorem Un : zDV.ok prog 205 := fO (E0) (sz (sz (.s (sz (.b (.l ⟨[kw 0 t107, kv 3 t3], [0], [3]⟩ [(some 0, ⟨[kw 0 t107], [0], []⟩), (none, ⟨[(false, 2, (.o false t106 106))], [], []⟩)] (sz (.s (.b (sz (.s (.s (.f [0] .z) (.s (sz (.b (.l ⟨[kw 0 t107, kv 3 t3, kv 5 t3], [0, 4], [3, 5]⟩ [(some 2, ⟨[kw 0 t107, kv 3 t3], [0], [3]⟩)] (sz (.s (.b (sz (.j ⟨[kw 0 t107, kv 3 t3], [0, 4, 5], [3]⟩ .z .z))) .z))))) (.s (.f [0] .z) (.s (.xg ⟨[(false, 2, (.o false t106 106))], [], []⟩) .z)))) .z))) .z))))) .z))) func205
def zDt : FS := ⟨(.cons t107 .nil), (.cons t107 .nil), [some 106], fun x => gJ x.1⟩
theorem CN : zDt.ok prog 181 := fS (((((((((E0).O Un).S Uo).O Uq).O Us).S Ur).S MK).S Ut).S pZ) .z func181
def zCv : FS := ⟨(.cons t104 (.cons t104 .nil)), (.cons t104 .nil), [none], fun x => KS x.1 x.2.1⟩
theorem UJ : zCv.ok prog 243 := fS (E0) .z func243
def zDD : FS := ⟨(.cons t106 .nil), (.cons t106 .nil), [none], fun x => Z4 x.1⟩
theorem UV : zDD.ok prog 225 := fS ((E0).S UJ) .z func225
def zDE : GS := ⟨(.cons (.box t107) (.cons (.box t107) .nil)), (.cons (.slo t106) .nil), fun x => jS x.1 x.2.1⟩
theorem UW : zDE.ok prog 224 := fQ ((((E0).S CN).S MH).S UV) (sz (sz (.b (.l ⟨[kv 4 t107, kv 11 t3], [0, 9, 10], [4, 11]⟩ [(some 0, ⟨[], [], []⟩), (none, ⟨[], [], []⟩)] (sz (sz (.s (.b (sz (.s (.s (.f [6] .z) (.s (.s .y .z) .z)) (.s (sz (.s .y .z)) .z)))) .z))))))) func224
def zDU : FS := ⟨(.cons t107 (.cons t107 .nil)), (.cons t235 .nil), [none], fun x => ZI x.1 x.2.1⟩
theorem Um : zDU.ok prog 206 := fS ((E0).Q UW) (sz (.s (.f [2, 3] .z) .z)) func206
def zDs : FS := ⟨(.cons t28 (.cons t107 .nil)), (.cons t28 (.cons t43 .nil)), [none, none], fun x => j0 x.1 x.2.1⟩
theorem U5 : zDs.ok prog 182 := fS (((((E0).S Um).S CV).S CN).S pZ) (sz (sz (sz (.s (.f [16, 6] .z) (.s (sz (.b (.l ⟨[kv 19 t3, kw 4 t28, kw 5 t43, (true, 7, (.o true t107 107))], [1, 4, 5, 6, 7, 17, 18], [19, 4, 5]⟩ [(some 0, ⟨[kw 4 t28, kw 5 t43, (true, 7, (.o true t107 107))], [4, 5, 7], [4, 5]⟩), (none, ⟨[kw 4 t28, kw 5 t43], [4, 5], [4, 5]⟩)] (sz (sz (.s (.jb ⟨[kw 4 t28, kw 5 t43, (true, 7, (.o true t107 107))], [1, 4, 5, 6, 7, 17, 18, 19], [4, 5]⟩ (sz (sz (sz (.b (.l ⟨[kw 4 t28, kw 5 t43, (true, 7, (.o true t107 107))], [1, 4, 5, 6, 7, 17, 18, 19, 32], [4, 5]⟩ [(none, ⟨[kw 4 t28, kw 5 t43], [4, 5], [4, 5]⟩)] (sz .z))))))) .z)))))) .z))))) func182
def zEM : FS := ⟨(.cons t107 (.cons t28 .nil)), (.cons t28 (.cons t43 .nil)), [none, none], fun x => YL x.1 x.2.1⟩
theorem VJ : zEM.ok prog 160 := fS ((((((E0).S U5).S CN).S pZ).S U6).S Kz) (sz (sz (sz (sz (sz (.s (.s (.f [27] .z) (.b (.l ⟨[kv 8 t28, kv 30 t3], [28, 29], [8, 30]⟩ [(some 0, ⟨[kv 8 t28], [], [8]⟩), (none, ⟨[kv 4 t28, kv 5 t43], [], [4, 5]⟩)] .z))) .z)))))) func160
def zEh : FS := ⟨(.cons t28 (.cons t107 .nil)), (.cons t4 (.cons t43 .nil)), [none, none], fun x => je x.1 x.2.1⟩
theorem VS : zEh.ok prog 128 := fS ((E0).S VJ) .z func128
def s61 : FS := ⟨(.cons t30 (.cons t33 (.cons t28 (.cons t28 .nil)))), (.cons t33 (.cons t43 .nil)), [none, none], fun x => YK x.1 x.2.1 x.2.2.1 x.2.2.2.1⟩
theorem zAu : s61.ok prog 61 := fS ((((((((((E0).S VS).S VV).S VT).S pY).S VW).S VX).S MT).S MR).S MU) (sz (sz (sz (sz (.s (.xr [2, 5, 11, 13, 14] [0, 1, 3, 4, 6, 7, 8, 9, 2, 5, 10, 11, 12, 13, 14] [(0, []), (1, []), (3, []), (4, []), (6, []), (7, []), (8, []), (9, []), (10, []), (12, [])]) (.s (sz (.b (.l ⟨[kv 58 t3, kw 8 t33, (true, 12, (.ag (.pr (.o true t4 4) (.pr (.o true t4 4) (.pr (.v t28) .un)))))], [2, 3, 8, 12, 56, 57], [58, 8]⟩ [(some 0, ⟨[kw 8 t33, (true, 12, (.ag (.pr (.o true t4 4) (.pr (.o true t4 4) (.pr (.v t28) .un)))))], [8, 12], [8]⟩), (none, ⟨[kv 9 t43, kw 8 t33], [8], [9, 8]⟩)] (sz (sz (.s (.jb ⟨[kw 8 t33, (true, 12, (.ag (.pr (.o true t4 4) (.pr (.o true t4 4) (.pr (.v t28) .un)))))], [2, 3, 8, 12, 56, 57, 58], [8]⟩ (sz (sz (sz (.s (.f [14] .z) .z))))) .z)))))) .z)))))) func61
def zEv : FS := ⟨(.cons t162 (.cons t3 .nil)), (.cons t4 .nil), [none], fun x => yJ x.1 x.2.1⟩
theorem Vd : zEv.ok prog 113 := fS ((E0).S pY) .z func113
def zEu : FS := ⟨(.cons t162 (.cons t3 .nil)), (.cons t4 .nil), [none], fun x => yK x.1 x.2.1⟩
theorem Vc : zEu.ok prog 114 := fS (E0) .z func114
def zEt : FS := ⟨(.cons t162 (.cons t3 .nil)), (.cons t4 .nil), [none], fun x => yY x.1 x.2.1⟩
theorem Vb : zEt.ok prog 115 := fS (E0) .z func115
def s47 : FS := ⟨(.cons t30 (.cons t33 .nil)), (.cons t43 .nil), [none], fun x => ZE x.1 x.2.1⟩
theorem zBE : s47.ok prog 47 := fS (((((E0).S Vb).S Vc).S Vd).S MU) (sz (sz (sz (.s (sz (.b (.l ⟨[kv 30 t3], [2, 28, 29], [30]⟩ [(some 0, ⟨[], [], []⟩), (none, ⟨[kv 4 t43], [], [4]⟩)] (sz (sz (.s (.b (sz (sz (.b (.l ⟨[kv 37 t3], [2, 8, 28, 29, 30, 36], [37]⟩ [(some 2, ⟨[], [2, 28, 29, 30], []⟩), (none, ⟨[kv 4 t43], [], [4]⟩)] .z))))) .z)))))) .z)))) func47
def s62 : FS := ⟨(.cons t23 .nil), (.cons t23 .nil), [some 3], fun x => gD x.1⟩
theorem zAt : s62.ok prog 62 := fS (E0) .z func62
def s65 : FS := ⟨(.cons t30 (.cons t62 .nil)), (.cons t4 .nil), [none], fun x => Zl x.1 x.2.1⟩
theorem zAq : s65.ok prog 65 := fS ((E0).S pY) (sz (.s (sz (.b (.l ⟨[kv 10 t3], [2, 3, 8, 9], [10]⟩ [(some 0, ⟨[], [], []⟩), (none, ⟨[kv 4 t4], [], [4]⟩)] .z))) .z)) func65
def s64 : FS := ⟨(.cons t3 (.cons (.box t30) (.cons (.box t36) .nil))), (.cons t4 .nil), [none], fun x => jg x.1 x.2.1 x.2.2.1⟩
theorem zAr : s64.ok prog 64 := fS ((E0).S zAq) .z func64
def s63 : FO := ⟨t3, 3, (.cons t117 .nil), true, fun xs x => vv xs x.1⟩
theorem zAs : s63.ok prog 63 := fO ((E0).S MQ) (sz (sz (sz (.s (sz (.b (.l ⟨[kw 0 t23, kv 5 t3, kv 6 t3], [0, 1], [5, 6]⟩ [(some 0, ⟨[kw 0 t23, kv 5 t3], [0], [5]⟩)] (sz (.s (.b (sz (sz (.j ⟨[kw 0 t23, kv 5 t3], [0, 1, 6], [5]⟩ .z .z)))) .z))))) (.s (.f [0] .z) (.s (.xg ⟨[(false, 4, (.o false t3 3))], [], []⟩) .z)))))) func63
def s17 : FS := ⟨(.cons t36 (.cons t23 (.cons t23 .nil))), (.cons t23 (.cons t43 .nil)), [some 3, none], fun x => Z1 x.1 x.2.1 x.2.2.1⟩
theorem NR : s17.ok prog 17 := fS (((((((((E0).O zAs).S zAr).S zAt).S zBE).S zAu).S zAw).S zAx).S zAy) (sz (sz (.s (.s (.f [3, 8, 5] .z) (.b (.l ⟨[kv 31 t3], [3, 5, 8, 29, 30], [31]⟩ [(some 0, ⟨[], [3, 5, 8], []⟩), (none, ⟨[ko 6 t3 3, kv 7 t43], [], [7]⟩)] .z))) (sz (.s (sz (.b (.l ⟨[ko 12 t107 107, ko 13 t107 107, kv 43 t3], [3, 5, 8, 41, 42], [43]⟩ [(some 2, ⟨[ko 12 t107 107, ko 13 t107 107], [3, 5, 8], []⟩)] (sz (sz (.s (.b (sz (.xr [7, 15] [0, 1, 2, 3, 4, 5, 6, 8, 9, 10, 11, 12, 13, 14, 7, 15, 16, 17] [(8, [47, 12, 54]), (9, [47, 12, 54]), (10, [47, 12, 54]), (11, [47, 12, 54]), (12, [47, 12, 54]), (13, [47, 12, 54]), (14, [47, 12, 54])]))) .z)))))) .z))))) func17
def s19 : FS := ⟨(.cons t23 (.cons t23 .nil)), (.cons t4 .nil), [none], fun x => vG x.1 x.2.1⟩
theorem zBL : s19.ok prog 19 := fS (E0) (sz (sz (.s (sz (.b (.l ⟨[kv 5 t3], [0, 1], [5]⟩ [(some 0, ⟨[], [], []⟩), (none, ⟨[kv 4 t4], [], [4]⟩)] .z))) .z))) func19
def s49 : FS := ⟨(.cons t36 (.cons t23 (.cons t23 (.cons t23 .nil)))), (.cons t4 .nil), [none], fun x => vp x.1 x.2.1 x.2.2.1 x.2.2.2.1⟩
theorem zBC : s49.ok prog 49 := fS (((E0).S zBL).S NR) .z func49
def s50 : FS := ⟨(.cons t36 (.cons t23 (.cons t23 (.cons t43 .nil)))), (.cons t4 .nil), [none], fun x => vN x.1 x.2.1 x.2.2.1 x.2.2.2.1⟩
theorem zBB : s50.ok prog 50 := fS ((E0).S NR) .z func50
def s71 : FS := ⟨(.cons t3 .nil), (.cons t4 .nil), [none], fun x => yr x.1⟩
theorem zAm : s71.ok prog 71 := fS (E0) .z func71
def s73 : FS := ⟨(.cons t3 (.cons (.box t23) .nil)), (.cons t4 .nil), [none], fun x => gA x.1 x.2.1⟩
theorem zAl : s73.ok prog 73 := fS (E0) .z func73
def s74 : FS := ⟨(.cons t23 (.cons t3 .nil)), (.cons t3 .nil), [none], fun x => yX x.1 x.2.1⟩
theorem zAk : s74.ok prog 74 := fS (E0) (sz (.s (sz (.b (.l ⟨[kv 8 t3], [0, 1, 7], [8]⟩ [(some 0, ⟨[], [], []⟩), (none, ⟨[kv 4 t3], [], [4]⟩)] .z))) .z)) func74
def s22 : FS := ⟨(.cons t36 (.cons t23 (.cons t23 (.cons t23 (.cons t23 (.cons t23 .nil)))))), (.cons t51 (.cons t43 .nil)), [some 60, none], fun x => jh x.1 x.2.1 x.2.2.1 x.2.2.2.1 x.2.2.2.2.1 x.2.2.2.2.2.1⟩
theorem Sg : s22.ok prog 22 := fS ((((((E0).S zAk).S NM).S zAl).S zAm).S NR) (sz (sz (sz (sz (sz (.s (sz (.b (.l ⟨[ko 17 t60 60, kv 66 t3], [2, 3, 4, 6, 11, 64, 65], [66]⟩ [(some 1, ⟨[ko 17 t60 60], [], []⟩)] (sz (sz (.s (.b (sz (sz (sz (.s (sz (sz (.j ⟨[kv 21 t3], [2, 3, 4, 6, 11, 17, 19, 64, 65, 66], [21]⟩ .z .z))) .z))))) .z)))))) .z)))))) func22
def s24 : FS := ⟨(.cons t51 (.cons t51 .nil)), (.cons t4 .nil), [none], fun x => yy x.1 x.2.1⟩
theorem Sf : s24.ok prog 24 := fS (E0) (sz (sz (.s (sz (.b (.l ⟨[kv 5 t3], [0, 1], [5]⟩ [(some 0, ⟨[], [], []⟩), (none, ⟨[kv 4 t4], [], [4]⟩)] .z))) .z))) func24
def s25 : FS := ⟨(.cons t51 (.cons t3 .nil)), (.cons t3 .nil), [none], fun x => ZY x.1 x.2.1⟩
theorem NQ : s25.ok prog 25 := fS (E0) (sz (sz (.s (sz (.b (.l ⟨[(false, 5, (.m true t3 t3)), kv 11 t3], [1, 9, 10], [11]⟩ [(some 0, ⟨[(false, 5, (.m true t3 t3))], [1], []⟩)] .z))) .z))) func25
def s14 : FS := ⟨.nil, (.cons t4 .nil), [none], fun x => gv ⟩
theorem zBO : s14.ok prog 14 := fS (((((((E0).S NQ).S Sf).S Sg).S zBB).S zBC).S zBD) (sz (sz (sz (sz (.s (.xg ⟨[kv 5 t4], [1, 2, 3, 4], [5]⟩) (.s (.xg ⟨[kv 6 t4], [1, 3, 4, 5], [6]⟩) (sz (sz (.s (.xg ⟨[kv 0 t4], [], [0]⟩) .z))))))))) func14
def s41 : FS := ⟨(.cons t3 (.cons t3 .nil)), (.cons t3 .nil), [none], fun x => yR x.1 x.2.1⟩
theorem NO : s41.ok prog 41 := fS (E0) .z func41
def s85 : FM := ⟨(.cons (.box t130) (.cons t3 .nil)), [some 130, none], (.cons t3 .nil), fun x => zJ x.1 x.2.1⟩
theorem Ab : s85.ok prog 85 := fM ((E0).S NO) .z func85
def zEI : FS := ⟨(.cons t104 (.cons t104 .nil)), (.cons t104 .nil), [none], fun x => Ze x.1 x.2.1⟩
theorem VH : zEI.ok prog 164 := fS (E0) .z func164
def zEZ : FS := ⟨(.cons t106 .nil), (.cons t106 .nil), [none], fun x => y6 x.1⟩
theorem MM : zEZ.ok prog 137 := fS ((E0).S VH) .z func137
def zDj : FS := ⟨(.cons t104 .nil), (.cons t26 .nil), [none], fun x => zu x.1⟩
theorem MC : zDj.ok prog 191 := fS (E0) .z func191
def zDM : FS := ⟨(.cons t3 .nil), (.cons t3 .nil), [none], fun x => vF x.1⟩
theorem Ue : zDM.ok prog 214 := fS (E0) .z func214
def zDi : FS := ⟨(.cons t104 .nil), (.cons t104 (.cons t3 .nil)), [none, none], fun x => gX x.1⟩
theorem U0 : zDi.ok prog 192 := fS (((E0).S Ue).S MC) (sz (sz (sz (.s (sz (.b (.l ⟨[kv 5 t3, kv 6 t3, kw 2 t104], [1, 2, 4], [5, 6, 2]⟩ [(some 0, ⟨[kv 5 t3, kw 2 t104], [1, 2], [5, 2]⟩), (none, ⟨[kv 3 t3, kw 2 t104], [2], [3, 2]⟩)] (sz (.s (.b (sz (sz (.b (.l ⟨[kv 5 t3, kv 7 t3], [1, 2, 4, 6], [5, 7]⟩ [(some 2, ⟨[kv 5 t3], [1, 2, 4, 6], [5]⟩)] .z))))) .z))))) (sz (.s (.xr [14] [0, 1, 2, 3, 4, 5, 6, 7, 8, 9, 10, 11, 12, 13, 14, 15] [(13, [2])]) .z)))))) func192
def zED : FS := ⟨(.cons t106 .nil), (.cons t4 .nil), [none], fun x => gH x.1⟩
theorem VC : zED.ok prog 169 := fS (((E0).S U0).S MC) (sz (sz (.s (sz (.b (.l ⟨[kv 4 t3], [1, 3], [4]⟩ [(some 0, ⟨[], [1], []⟩), (none, ⟨[kv 2 t4], [], [2]⟩)] .z))) .z))) func169
def zEU : FS := ⟨(.cons t107 .nil), (.cons t43 .nil), [none], fun x => za x.1⟩
theorem Jc : zEU.ok prog 142 := fS ((E0).S VC) (sz (sz (.s (sz (.b (.l ⟨[kv 3 t3], [0], [3]⟩ [(some 0, ⟨[], [], []⟩), (none, ⟨[kv 2 t43], [], [2]⟩)] .z))) .z))) func142
def zEK : FS := ⟨(.cons t107 .nil), (.cons t107 .nil), [some 106], fun x => vz x.1⟩
theorem CQ : zEK.ok prog 162 := fS ((E0).S EJ) (sz (sz (sz (.s (.xr [0, 2, 6] [1, 3, 4, 0, 2, 5, 6, 7] [(1, []), (3, [7]), (4, [7])]) .z)))) func162
def zDB : FS := ⟨(.cons t104 (.cons t104 .nil)), (.cons t104 .nil), [none], fun x => vM x.1 x.2.1⟩
theorem US : zDB.ok prog 227 := fS (E0) .z func227
def zDC : FS := ⟨(.cons t104 (.cons t104 .nil)), (.cons t3 .nil), [none], fun x => Zf x.1 x.2.1⟩
theorem UU : zDC.ok prog 226 := fS (E0) .z func226
def zDA : FS := ⟨(.cons t104 (.cons t3 .nil)), (.cons t104 .nil), [none], fun x => yU x.1 x.2.1⟩
theorem UQ : zDA.ok prog 228 := fS (E0) .z func228
def zCz : FS := ⟨(.cons t104 (.cons t104 .nil)), (.cons t104 .nil), [none], fun x => kB x.1 x.2.1⟩
theorem UP : zCz.ok prog 229 := fS (E0) .z func229
def zCy : FS := ⟨(.cons t3 (.cons t3 .nil)), (.cons t3 .nil), [none], fun x => zm x.1 x.2.1⟩
theorem UO : zCy.ok prog 230 := fS (E0) (sz (.s (.b (.l ⟨[kv 0 t3, kv 1 t3], [], [0, 1]⟩ [(some 0, ⟨[kv 0 t3], [], [0]⟩)] .z)) .z)) func230
def zDT : FS := ⟨(.cons t106 (.cons t106 (.cons t106 .nil))), (.cons t208 (.cons t4 .nil)), [none, none], fun x => y5 x.1 x.2.1 x.2.2.1⟩
theorem Ul : zDT.ok prog 207 := fS ((((((E0).S UO).S UP).S UQ).S UU).S US) (sz (sz (sz (.s (.xr [8, 9] [0, 1, 2, 3, 4, 5, 6, 7, 8, 9] [(0, []), (1, []), (2, []), (3, []), (4, []), (5, []), (6, []), (7, [])]) (sz (sz (.s (sz (.j ⟨[kv 8 t3, kw 9 t104], [6, 9], [8, 9]⟩ .z .z)) .z))))))) func207
def zDq : FS := ⟨(.cons t106 (.cons t208 .nil)), (.cons t3 .nil), [none], fun x => zf x.1 x.2.1⟩
theorem CM : zDq.ok prog 184 := fS (E0) .z func184
def zDS : FS := ⟨(.cons t107 (.cons t208 .nil)), (.cons t4 .nil), [none], fun x => vo x.1 x.2.1⟩
theorem Uk : zDS.ok prog 208 := fS ((E0).S CM) (sz (.s (sz (.b (.l ⟨[kv 5 t3], [0, 3], [5]⟩ [(some 0, ⟨[], [], []⟩), (none, ⟨[kv 4 t4], [], [4]⟩)] .z))) .z)) func208
def zDR : FS := ⟨(.cons t203 (.cons t208 .nil)), (.cons t4 .nil), [none], fun x => yh x.1 x.2.1⟩
theorem Uj : zDR.ok prog 209 := fS (E0) (sz (.s (sz (.b (.l ⟨[kv 5 t3], [0, 3], [5]⟩ [(some 0, ⟨[], [], []⟩), (none, ⟨[kv 4 t4], [], [4]⟩)] .z))) .z)) func209
def zDr : FS := ⟨(.cons t107 .nil), (.cons t203 .nil), [some 208], fun x => vR x.1⟩
theorem MF : zDr.ok prog 183 := fS ((((E0).S Uj).S Uk).S Ul) (sz (sz (.s (sz (.b (.l ⟨[ko 3 t208 208, kv 4 t3], [0], [4]⟩ [(some 0, ⟨[ko 3 t208 208], [], []⟩)] (sz (.s (.b (sz (.b (.l ⟨[ko 3 t208 208, kv 5 t3], [0, 4], [5]⟩ [(some 2, ⟨[ko 3 t208 208], [0, 4], []⟩)] (sz (.s (.b (sz (.b (.l ⟨[ko 3 t208 208, kv 6 t3], [0, 4, 5], [6]⟩ [(some 4, ⟨[ko 3 t208 208], [0, 4, 5], []⟩)] (sz (.s (.b (.s (.xr [16, 17] [0, 1, 2, 3, 4, 5, 6, 7, 8, 9, 10, 11, 12, 13, 14, 15, 16, 17, 18] [(0, []), (1, []), (2, []), (3, []), (4, []), (5, []), (6, []), (7, []), (8, []), (9, []), (10, []), (11, []), (12, []), (13, []), (14, []), (15, [7])]) (sz (.j ⟨[ko 3 t208 208], [0, 4, 5, 6], []⟩ .z .z)))) .z)))))) .z)))))) .z))))) .z))) func183
def zEL : FS := ⟨(.cons t107 .nil), (.cons t4 .nil), [none], fun x => gW x.1⟩
theorem MJ : zEL.ok prog 161 := fS (((E0).S CM).S MF) (sz (sz (.s (sz (.b (.l ⟨[kv 4 t3], [0, 3], [4]⟩ [(some 0, ⟨[], [], []⟩), (none, ⟨[kv 2 t4], [], [2]⟩)] (sz (.s (.b (sz (.s (sz (.b (.l ⟨[kv 5 t4, kv 6 t3], [0, 3, 4], [5, 6]⟩ [(some 2, ⟨[kv 5 t4], [0, 3, 4], [5]⟩)] .z))) .z))) .z))))) .z))) func161
def zEf : FS := ⟨(.cons t107 .nil), (.cons t4 .nil), [none], fun x => zp x.1⟩
theorem tD : zEf.ok prog 130 := fS ((((E0).S MJ).S CQ).S Jc) (sz (.s (.xg ⟨[kv 2 t4], [], [2]⟩) .z)) func130
def s83 : FS := ⟨(.cons t22 .nil), (.cons t30 .nil), [none], fun x => jc x.1⟩
theorem zAh : s83.ok prog 83 := fS (((((E0).S tD).S MM).S EJ).M Ab) (sz (sz (.s (sz (.b (.l ⟨[kv 4 t3, kw 3 t41], [0, 2, 3], [4, 3]⟩ [(some 0, ⟨[kw 3 t41], [2, 3], [3]⟩)] .z))) (sz (sz (sz (.s (.xg ⟨[kv 8 t4, kw 5 t130], [2, 3, 5, 6, 7], [8, 5]⟩) (sz (sz (.s (sz (.b (.l ⟨[kv 9 t3, kv 11 t3, (true, 6, (.ag (.pr (.v t9) (.pr (.o true t107 107) (.pr (.o true t3 3) .un))))), kw 5 t130], [2, 3, 5, 6, 7, 8, 10], [9, 11, 5]⟩ [(some 2, ⟨[(true, 6, (.ag (.pr (.v t9) (.pr (.o true t107 107) (.pr (.o true t3 3) .un))))), kw 5 t130], [2, 3, 5, 6], [5]⟩)] (sz (.s (.b (sz (sz (.s (sz (.j ⟨[(true, 6, (.ag (.pr (.v t9) (.pr (.o true t107 107) (.pr (.o true t3 3) .un)))))], [2, 3, 5, 6, 7, 8, 9, 10, 11, 12], []⟩ .z .z)) .z)))) .z))))) (.s (.s (.xg ⟨[kv 102 t4, kw 5 t130], [2, 3, 5, 6], [102, 5]⟩) (.j ⟨[(true, 6, (.ag (.pr (.v t9) (.pr (.o true t107 107) (.pr (.o true t3 3) .un)))))], [2, 3, 6], []⟩ (sz (sz (.s (.xr [0, 6, 9] [1, 2, 3, 4, 5, 7, 8, 0, 6, 9, 10] [(1, []), (2, []), (3, []), (4, []), (5, []), (7, [113]), (8, [113])]) (.s (.xr [0, 6, 10] [1, 2, 3, 4, 5, 7, 0, 6, 8, 9, 10, 11] [(1, []), (2, []), (3, []), (4, []), (5, []), (7, [123])]) (sz (.j ⟨[(true, 6, (.ag (.pr (.v t9) (.pr (.o true t107 107) (.pr (.o true t3 3) .un)))))], [2, 3, 6], []⟩ .z .z)))))) .z)) (sz (.s (sz (.b (.l ⟨[kv 18 t3, (true, 6, (.ag (.pr (.v t9) (.pr (.o true t107 107) (.pr (.o true t3 3) .un))))), kw 17 t130], [2, 6, 17], [18, 17]⟩ [(some 4, ⟨[(true, 6, (.ag (.pr (.v t9) (.pr (.o true t107 107) (.pr (.o true t3 3) .un)))))], [2, 6], []⟩)] (sz (.s (.b (.xr [4, 8, 10] [0, 1, 2, 3, 4, 5, 6, 7, 8, 9, 10] [(0, [165, 17, 154]), (1, [165, 17, 154]), (2, [165, 17, 154])])) .z))))) .z))))))))))))) func83
def s84 : FS := ⟨(.cons t30 .nil), (.cons t33 .nil), [none], fun x => j9 x.1⟩
theorem zAg : s84.ok prog 84 := fS (E0) (sz (.s (.xr [3, 9] [0, 1, 2, 4, 5, 6, 7, 3, 8, 9] [(4, []), (5, []), (6, []), (7, [])]) .z)) func84
def s86 : FS := ⟨(.cons t22 (.cons t30 .nil)), (.cons t28 .nil), [some 107], fun x => y4 x.1 x.2.1⟩
theorem SZ : s86.ok prog 86 := fS (((E0).S EJ).M Ab) (sz (sz (.s (sz (.b (.l ⟨[ko 5 t107 107, kv 6 t3], [0, 3], [6]⟩ [(some 0, ⟨[ko 5 t107 107], [], []⟩)] (sz (.s (.b (sz (sz (.s (.xr [7, 10] [0, 1, 2, 3, 4, 5, 6, 7, 8, 9, 10, 11] [(0, [33, 7, 27]), (1, [33, 7, 27]), (2, [33, 7, 27])]) (.s (sz (.j ⟨[kv 9 t107, kw 7 t130], [0, 3, 5, 6, 7, 8], [9, 7]⟩ (sz (.xr [5, 10] [0, 1, 2, 3, 4, 5, 6, 7, 8, 9, 10, 11] [(0, [52, 7, 27]), (1, [52, 7, 27]), (2, [52, 7, 27]), (3, [52, 7, 27])])) .z)) (.s (sz (.j ⟨[kv 9 t107], [0, 3, 5, 6], [9]⟩ (sz (.xr [5, 11, 17, 20] [0, 1, 2, 3, 4, 7, 8, 9, 10, 13, 14, 15, 16, 5, 6, 11, 12, 17, 18, 19, 20, 21] [(0, [75, 7, 27, 81, 87]), (1, [75, 7, 27, 81, 87]), (2, [75, 7, 27, 81, 87]), (3, [75, 7, 27, 81, 87]), (6, [81, 7, 27, 87]), (7, [75, 7, 27, 81, 87]), (8, [75, 7, 27, 81, 87]), (9, [75, 7, 27, 81, 87]), (10, [75, 7, 27]), (12, [87, 7, 27]), (13, [75, 7, 27, 81, 87]), (14, [75, 7, 27, 81, 87]), (15, [75, 7, 27, 81, 87]), (16, [75, 7, 27, 81])])) .z)) .z)))))) .z))))) .z))) func86
def zEe : FS := ⟨(.cons t107 (.cons t107 .nil)), (.cons t4 .nil), [none], fun x => ze x.1 x.2.1⟩
theorem pX : zEe.ok prog 131 := fS ((((E0).S MJ).S CQ).S Jc) .z func131
def s67 : FS := ⟨(.cons t30 .nil), (.cons t43 .nil), [none], fun x => yg x.1⟩
theorem EH : s67.ok prog 67 := fS (((E0).S pX).S tD) (sz (sz (sz (.s (sz (.b (.l ⟨[kv 3 t3], [1], [3]⟩ [(some 0, ⟨[], [1], []⟩), (none, ⟨[kv 2 t43], [], [2]⟩)] .z))) (.s (sz (.b (.l ⟨[kv 4 t3], [1], [4]⟩ [(some 2, ⟨[], [], []⟩), (none, ⟨[kv 2 t43], [], [2]⟩)] (sz (.s (.b (sz (sz (.b (.l ⟨[kv 5 t3], [1, 4], [5]⟩ [(some 4, ⟨[], [1, 4], []⟩), (none, ⟨[kv 2 t43], [], [2]⟩)] .z))))) .z))))) .z))))) func67
def zEd : FS := ⟨(.cons t28 .nil), (.cons t43 .nil), [none], fun x => yP x.1⟩
theorem MN : zEd.ok prog 132 := fS ((E0).S Jc) (sz (.s (sz (.b (.l ⟨[kv 3 t3], [0], [3]⟩ [(some 0, ⟨[], [], []⟩), (none, ⟨[kv 2 t43], [], [2]⟩)] .z))) .z)) func132
def s89 : FS := ⟨(.cons t30 (.cons t33 .nil)), (.cons t4 .nil), [none], fun x => vi x.1 x.2.1⟩
theorem NL : s89.ok prog 89 := fS ((E0).S MN) .z func89
def zEx : FS := ⟨(.cons t28 .nil), (.cons t28 .nil), [some 107], fun x => gV x.1⟩
theorem Ve : zEx.ok prog 111 := fS (E0) (sz (sz (.s (sz (.b (.l ⟨[ko 3 t107 107, kv 4 t3], [0], [4]⟩ [(some 0, ⟨[ko 3 t107 107], [], []⟩)] .z))) .z))) func111
def zEc : FS := ⟨(.cons t107 (.cons t28 .nil)), (.cons t4 .nil), [none], fun x => zd x.1 x.2.1⟩
theorem CU : zEc.ok prog 133 := fS ((E0).S pX) (sz (.s (sz (.b (.l ⟨[kv 5 t3], [0, 1], [5]⟩ [(some 0, ⟨[], [], []⟩), (none, ⟨[kv 4 t4], [], [4]⟩)] .z))) .z)) func133
def zEa : FS := ⟨(.cons t28 (.cons t107 .nil)), (.cons t28 .nil), [some 107], fun x => vK x.1 x.2.1⟩
theorem VP : zEa.ok prog 135 := fS ((E0).S pX) (sz (sz (.s (sz (.b (.l ⟨[ko 5 t107 107, kv 6 t3], [0, 1], [6]⟩ [(some 0, ⟨[ko 5 t107 107], [], []⟩)] (sz (.s (.b (sz (.j ⟨[ko 5 t107 107], [0, 1, 6], []⟩ .z .z))) .z))))) .z))) func135
def zDp : FS := ⟨(.cons t28 .nil), (.cons t43 .nil), [none], fun x => jM x.1⟩
theorem U4 : zDp.ok prog 185 := fS ((E0).S Jc) (sz (sz (.s (sz (.b (.l ⟨[kv 3 t3], [0], [3]⟩ [(some 0, ⟨[], [], []⟩), (none, ⟨[kv 2 t43], [], [2]⟩)] .z))) .z))) func185
def zDQ : FS := ⟨(.cons t107 .nil), (.cons t203 .nil), [some 208], fun x => gq x.1⟩
theorem Ui : zDQ.ok prog 210 := fS ((((E0).S MF).S CQ).S Jc) .z func210
def zCx : FS := ⟨(.cons t106 (.cons t106 .nil)), (.cons t3 .nil), [none], fun x => yj x.1 x.2.1⟩
theorem UN : zCx.ok prog 231 := fS (E0) (sz (sz (sz (.s (sz (.b (.l ⟨[kv 7 t3], [5, 6], [7]⟩ [(some 0, ⟨[], [], []⟩), (none, ⟨[kv 4 t3], [], [4]⟩)] .z))) .z)))) func231
def zDP : FS := ⟨(.cons t107 (.cons t106 .nil)), (.cons t107 .nil), [none], fun x => jB x.1 x.2.1⟩
theorem Uh : zDP.ok prog 211 := fS ((E0).S UN) (sz (sz (.s (.b (.l ⟨[kv 5 t3], [0, 3], [5]⟩ [(some 0, ⟨[kv 5 t3], [0, 3], [5]⟩)] .z)) .z))) func211
def zDo : FS := ⟨(.cons t107 .nil), (.cons t107 .nil), [none], fun x => zh x.1⟩
theorem CL : zDo.ok prog 186 := fS (((((E0).S Uh).S CM).S Ui).S tD) (sz (sz (sz (sz (.s (sz (.b (.l ⟨[kv 4 t107, kv 5 t3], [0, 3], [4, 5]⟩ [(some 0, ⟨[kv 4 t107], [], [4]⟩)] (sz (.s (.b (sz (.s (sz (.b (.l ⟨[kv 6 t3, kv 7 t3], [0, 3, 4, 5], [6, 7]⟩ [(some 2, ⟨[kv 6 t3], [0, 3, 4, 5], [6]⟩)] (sz (.s (.b (sz (.j ⟨[kv 6 t3], [0, 3, 4, 5, 7], [6]⟩ .z .z))) .z))))) (sz (.j ⟨[kv 4 t107], [0, 3, 5], [4]⟩ .z .z))))) .z))))) .z))))) func186
def zCw : FS := ⟨(.cons t107 (.cons t106 .nil)), (.cons t107 .nil), [some 106], fun x => yB x.1 x.2.1⟩
theorem UK : zCw.ok prog 232 := fS (E0) (sz (.s (.xr [0, 2, 5] [1, 3, 4, 0, 2, 5, 6] [(1, []), (3, [5]), (4, [5])]) .z)) func232
def zDO : FS := ⟨(.cons t107 (.cons t107 .nil)), (.cons t28 (.cons t43 .nil)), [some 107, none], fun x => gG x.1 x.2.1⟩
theorem Ug : zDO.ok prog 212 := fS ((((E0).S CL).S UK).S MM) (sz (sz (sz (.s (sz (.b (.l ⟨[ko 6 t107 107, kv 7 t107, kv 8 t3], [1], [7, 8]⟩ [(some 0, ⟨[ko 6 t107 107], [], []⟩), (none, ⟨[ko 4 t107 107, kv 5 t43], [], [5]⟩)] (sz (.s (.b (sz (sz (.s (sz (.j ⟨[ko 6 t107 107], [1, 7, 8], []⟩ .z .z)) .z)))) .z))))) .z)))) func212
def zDn : FS := ⟨(.cons t28 (.cons t107 .nil)), (.cons t28 (.cons t43 .nil)), [none, none], fun x => yi x.1 x.2.1⟩
theorem U3 : zDn.ok prog 187 := fS (((((E0).S Ug).S CL).S pX).S tD) (sz (sz (sz (.s (sz (.b (.l ⟨[ko 6 t107 107, kv 7 t3], [0, 1], [7]⟩ [(some 0, ⟨[ko 6 t107 107], [], []⟩), (none, ⟨[kv 4 t28, kv 5 t43], [], [4, 5]⟩)] (sz (.s (.jb ⟨[ko 6 t107 107], [0, 1, 7], []⟩ .z) .z))))) .z)))) func187
def zEJ : FS := ⟨(.cons t107 (.cons t28 .nil)), (.cons t28 (.cons t43 .nil)), [none, none], fun x => jL x.1 x.2.1⟩
theorem VI : zEJ.ok prog 163 := fS ((((((E0).S U3).S CL).S tD).S U4).S Jc) (sz (sz (.s (sz (.j ⟨[kv 6 t43], [0, 1], [6]⟩ .z .z)) (sz (sz (.s (sz (.j ⟨[kv 7 t28], [1], [7]⟩ .z .z)) (.s (.s (.f [26] .z) (.b (.l ⟨[kv 7 t28, kv 8 t3], [1], [7, 8]⟩ [(some 0, ⟨[kv 7 t28], [], [7]⟩), (none, ⟨[kv 4 t28, kv 5 t43], [], [4, 5]⟩)] .z))) .z))))))) func163
def zEb : FS := ⟨(.cons t28 (.cons t107 .nil)), (.cons t4 (.cons t43 .nil)), [none, none], fun x => yx x.1 x.2.1⟩
theorem VQ : zEb.ok prog 134 := fS ((E0).S VI) .z func134
def s68 : FS := ⟨(.cons t30 (.cons t33 (.cons t28 (.cons t28 .nil)))), (.cons t33 (.cons t43 .nil)), [none, none], fun x => gE x.1 x.2.1 x.2.2.1 x.2.2.2.1⟩
theorem Sb : s68.ok prog 68 := fS ((((((((E0).S VQ).S VP).S CU).S Ve).S MN).S NL).S EH) (sz (sz (sz (sz (sz (.s (sz (.j ⟨[kv 10 t43], [2, 3, 4, 5, 8], [10]⟩ .z .z)) (sz (sz (sz (.s (sz (.b (.l ⟨[kv 12 t3, kw 8 t33, (true, 11, (.ag (.pr (.o true t4 4) (.pr (.o true t4 4) (.pr (.v t28) .un)))))], [2, 3, 4, 5, 8, 11], [12, 8]⟩ [(some 0, ⟨[kw 8 t33, (true, 11, (.ag (.pr (.o true t4 4) (.pr (.o true t4 4) (.pr (.v t28) .un)))))], [8, 11], [8]⟩), (none, ⟨[kv 9 t43, kw 8 t33], [8], [9, 8]⟩)] (sz (.s (.b (sz (sz (sz (.s (sz (.j ⟨[kv 14 t4, kw 8 t33], [2, 3, 4, 5, 8, 11, 12], [14, 8]⟩ .z .z)) .z))))) .z))))) .z)))))))))) func68
def s44 : FS := ⟨(.cons t30 (.cons t23 (.cons t3 .nil))), (.cons t62 .nil), [none], fun x => yw x.1 x.2.1 x.2.2.1⟩
theorem zBF : s44.ok prog 44 := fS (((E0).S SZ).M Ab) (sz (sz (sz (.s (.s (.xg ⟨[kv 25 t4, kw 7 t130], [1, 2, 3, 6, 7, 8], [25, 7]⟩) (.j ⟨[(true, 8, (.ag (.pr (.o true t107 107) (.pr (.o true t107 107) (.pr (.v t3) (.pr (.o true t3 3) .un))))))], [1, 3, 6, 7, 8], []⟩ .z .z)) (sz (.s (sz (.b (.l ⟨[kv 10 t3, (true, 8, (.ag (.pr (.o true t107 107) (.pr (.o true t107 107) (.pr (.v t3) (.pr (.o true t3 3) .un)))))), kw 7 t130], [1, 3, 6, 7, 8, 9], [10, 7]⟩ [(some 0, ⟨[(true, 8, (.ag (.pr (.o true t107 107) (.pr (.o true t107 107) (.pr (.v t3) (.pr (.o true t3 3) .un))))))], [1, 3, 6, 8, 9], []⟩)] (sz (.s (.b (sz (.s (sz (.j ⟨[kv 11 t4, kw 7 t130], [1, 3, 6, 7, 8, 9, 10], [11, 7]⟩ (.xg ⟨[kv 11 t4, kw 7 t130], [1, 3, 6, 7, 8, 9, 10], [11, 7]⟩) .z)) (sz (.j ⟨[(true, 8, (.ag (.pr (.o true t107 107) (.pr (.o true t107 107) (.pr (.v t3) (.pr (.o true t3 3) .un))))))], [1, 3, 6, 7, 8, 9, 10], []⟩ (.xr [2, 8, 9, 10, 12] [0, 1, 3, 4, 5, 6, 7, 2, 8, 9, 10, 11, 12] [(0, [58]), (1, [58]), (3, []), (4, []), (5, []), (6, []), (7, [])]) .z))))) .z))))) (.s (sz (.j ⟨[(true, 8, (.ag (.pr (.o true t107 107) (.pr (.o true t107 107) (.pr (.v t3) (.pr (.o true t3 3) .un))))))], [1, 3, 6, 8, 9], []⟩ .z .z)) (.s (sz (.j ⟨[(true, 8, (.ag (.pr (.o true t107 107) (.pr (.o true t107 107) (.pr (.v t3) (.pr (.o true t3 3) .un))))))], [6, 8], []⟩ .z .z)) .z)))))))) func44
def zET : FS := ⟨(.cons t23 .nil), (.cons t4 .nil), [none], fun x => jI x.1⟩
theorem VM : zET.ok prog 143 := fS (E0) (sz (.s (sz (.b (.l ⟨[kv 3 t3], [0], [3]⟩ [(some 0, ⟨[], [], []⟩), (none, ⟨[kv 2 t4], [], [2]⟩)] .z))) .z)) func143
def s90 : FS := ⟨(.cons t34 (.cons t3 .nil)), (.cons t43 .nil), [none], fun x => vj x.1 x.2.1⟩
theorem zAd : s90.ok prog 90 := fS (((E0).S VM).S Jc) (sz (sz (.s (.xr [0, 3, 6] [1, 2, 4, 5, 0, 3, 6, 7] [(1, []), (2, []), (4, [14]), (5, [14])]) (.s (sz (.b (.l ⟨[kv 7 t3], [0, 1, 5, 6], [7]⟩ [(some 0, ⟨[], [0, 1, 5], []⟩), (none, ⟨[kv 4 t43], [], [4]⟩)] .z))) (sz (.s (sz (.b (.l ⟨[kv 9 t3], [0, 1, 5], [9]⟩ [(some 2, ⟨[], [5], []⟩), (none, ⟨[kv 4 t43], [], [4]⟩)] .z))) .z)))))) func90
def s31 : FS := ⟨(.cons t36 .nil), (.cons t43 .nil), [none], fun x => vJ x.1⟩
theorem Sc : s31.ok prog 31 := fS ((((E0).S zAd).S NL).S EH) (sz (sz (sz (sz (sz (sz (.s (sz (.b (.l ⟨[kv 4 t3, kv 5 t3], [1], [4, 5]⟩ [(some 0, ⟨[kv 4 t3], [], [4]⟩), (none, ⟨[kv 2 t43], [], [2]⟩)] .z))) .z))))))) func31
def s28 : FS := ⟨(.cons t22 .nil), (.cons t36 .nil), [none], fun x => ja x.1⟩
theorem zBH : s28.ok prog 28 := fS ((((((((E0).S Sc).S zBF).S Sb).S SZ).M Ab).S zAg).S zAh) (sz (sz (.s (.xr [2, 4, 5] [0, 1, 2, 3, 4, 5] [(0, []), (1, []), (3, [])]) (.s (sz (.j ⟨[(true, 4, (.ag (.pr (.v t30) (.pr (.v t33) (.pr (.o true t62 62) .un)))))], [0, 2, 3, 4], []⟩ (sz (sz (.j ⟨[(true, 4, (.ag (.pr (.v t30) (.pr (.v t33) (.pr (.o true t62 62) .un)))))], [0, 2, 3, 4], []⟩ (.s (.xr [19, 20] [0, 1, 2, 3, 4, 5, 6, 7, 8, 9, 10, 11, 12, 13, 14, 15, 16, 17, 18, 19, 20, 21] [(0, []), (1, []), (2, []), (3, []), (4, []), (5, []), (6, []), (7, []), (8, []), (9, []), (10, []), (11, []), (12, []), (13, []), (14, []), (15, []), (16, []), (17, []), (18, [6])]) (sz (.j ⟨[(true, 4, (.ag (.pr (.v t30) (.pr (.v t33) (.pr (.o true t62 62) .un)))))], [0, 2, 3, 4], []⟩ .z .z))) .z))) .z)) (.s (sz (.b (.l ⟨[kv 8 t3, (true, 4, (.ag (.pr (.v t30) (.pr (.v t33) (.pr (.o true t62 62) .un)))))], [0, 2, 3, 4], [8]⟩ [(some 0, ⟨[(true, 4, (.ag (.pr (.v t30) (.pr (.v t33) (.pr (.o true t62 62) .un)))))], [2, 3, 4], []⟩)] .z))) (.s (sz (.j ⟨[(true, 4, (.ag (.pr (.v t30) (.pr (.v t33) (.pr (.o true t62 62) .un)))))], [2, 4], []⟩ .z .z)) (.s (.b (.l ⟨[(true, 4, (.ag (.pr (.v t30) (.pr (.v t33) (.pr (.o true t62 62) .un)))))], [2, 4], []⟩ [(some 2, ⟨[(true, 4, (.ag (.pr (.v t30) (.pr (.v t33) (.pr (.o true t62 62) .un)))))], [2, 4], []⟩)] (sz (.b (.xg ⟨[(true, 4, (.ag (.pr (.v t30) (.pr (.v t33) (.pr (.o true t62 62) .un)))))], [2, 4], []⟩))))) .z))))))) func28
def s51 : FS := ⟨(.cons t36 (.cons t23 .nil)), (.cons t23 .nil), [some 3], fun x => jK x.1 x.2.1⟩
theorem zBA : s51.ok prog 51 := fS ((E0).M Ab) (sz (sz (sz (.s (sz (.b (.l ⟨[ko 6 t3 3, kv 7 t3, kw 5 t130], [2, 5], [7, 5]⟩ [(some 0, ⟨[ko 6 t3 3], [], []⟩)] (sz (.s (.b (sz (sz (.s (sz (.j ⟨[kv 9 t3], [2, 5, 6, 7], [9]⟩ .z .z)) .z)))) .z))))) .z)))) func51
def s52 : FS := ⟨(.cons t36 (.cons t23 .nil)), (.cons t23 .nil), [some 3], fun x => jZ x.1 x.2.1⟩
theorem zAz : s52.ok prog 52 := fS ((E0).S NO) (sz (sz (.s (sz (.b (.l ⟨[ko 5 t3 3, kv 6 t3], [1, 2], [6]⟩ [(some 0, ⟨[ko 5 t3 3], [], []⟩)] (sz (.s (.b (sz (sz (.s (sz (.b (.l ⟨[kv 8 t4, kv 9 t3], [1, 2, 5, 6, 7], [8, 9]⟩ [(some 2, ⟨[kv 8 t4], [1, 2, 5, 6, 7], [8]⟩)] .z))) (sz (.j ⟨[ko 5 t3 3], [1, 2, 6], []⟩ .z .z)))))) .z))))) .z))) func52
def s15 : FS := ⟨(.cons t25 .nil), (.cons t36 (.cons t23 (.cons t23 .nil))), [none, none, none], fun x => vq x.1⟩
theorem zBN : s15.ok prog 15 := fS ((((E0).S zAz).S zBA).S zBH) (sz (sz (.s (.xr [4, 8, 9] [0, 1, 2, 3, 5, 6, 7, 4, 8, 9, 10, 11] [(0, []), (5, []), (6, []), (7, [])]) .z))) func15
def s20 : FS := ⟨(.cons t50 (.cons t3 .nil)), (.cons t23 (.cons t23 (.cons t23 .nil))), [some 3, some 3, some 3], fun x => vW x.1 x.2.1⟩
theorem zBK : s20.ok prog 20 := fS ((E0).S NO) (sz (sz (.s (sz (.b (.l ⟨[ko 7 t3 3, ko 8 t3 3, kv 10 t3], [1, 2, 9], [10]⟩ [(some 0, ⟨[ko 7 t3 3, ko 8 t3 3], [2, 9], []⟩)] (sz (.s (.b (sz (.s (sz (.j ⟨[kv 11 t3], [1, 2, 7, 8, 9, 10, 12], [11]⟩ .z .z)) (.s (sz (.j ⟨[kv 12 t3], [1, 2, 7, 8, 9, 10, 11], [12]⟩ .z .z)) .z)))) .z))))) (.s (sz (.b (.l ⟨[ko 9 t3 3, kv 55 t3], [7, 8, 54], [55]⟩ [(some 2, ⟨[ko 9 t3 3], [7, 8], []⟩)] .z))) .z)))) func20
def s66 : FS := ⟨(.cons t36 (.cons t23 .nil)), (.cons t30 .nil), [none], fun x => Zd x.1 x.2.1⟩
theorem zAp : s66.ok prog 66 := fS (E0) .z func66
def s69 : FS := ⟨(.cons t30 (.cons t33 .nil)), (.cons t43 .nil), [none], fun x => gP x.1 x.2.1⟩
theorem zAo : s69.ok prog 69 := fS ((((E0).S CU).S NL).S EH) (sz (sz (sz (sz (.s (sz (.b (.l ⟨[kv 6 t3], [2, 3], [6]⟩ [(some 0, ⟨[], [2, 3], []⟩), (none, ⟨[kv 4 t43], [], [4]⟩)] .z))) (.s (sz (.b (.l ⟨[kv 7 t3], [2, 3], [7]⟩ [(some 2, ⟨[], [2, 3], []⟩), (none, ⟨[kv 4 t43], [], [4]⟩)] .z))) (.s (sz (.b (.l ⟨[kv 8 t3], [2, 3], [8]⟩ [(some 4, ⟨[], [], []⟩), (none, ⟨[kv 4 t43], [], [4]⟩)] .z))) .z))))))) func69
def s70 : FS := ⟨(.cons t30 (.cons t62 .nil)), (.cons t4 .nil), [none], fun x => gN x.1 x.2.1⟩
theorem zAn : s70.ok prog 70 := fS ((E0).S CU) (sz (.s (sz (.b (.l ⟨[kv 5 t3], [2, 3], [5]⟩ [(some 0, ⟨[], [], []⟩), (none, ⟨[kv 4 t4], [], [4]⟩)] .z))) .z)) func70
def s18 : FS := ⟨(.cons t36 (.cons t23 (.cons t23 .nil))), (.cons t23 (.cons t43 .nil)), [some 3, none], fun x => jY x.1 x.2.1 x.2.2.1⟩
theorem zBM : s18.ok prog 18 := fS (((((((E0).S zAn).S zAo).S Sb).S EH).S zAp).S Sc) (sz (sz (sz (.s (sz (.j ⟨[kv 8 t43], [2, 3, 9], [8]⟩ .z .z)) (sz (sz (.s (sz (.b (.l ⟨[kv 12 t3], [2, 3, 9, 10, 11], [12]⟩ [(some 0, ⟨[], [2, 3, 9, 10, 11], []⟩), (none, ⟨[ko 6 t3 3, kv 7 t43], [], [7]⟩)] .z))) (.s (sz (.b (.l ⟨[ko 10 t107 107, ko 11 t107 107, kv 13 t3], [2, 3, 9], [13]⟩ [(some 2, ⟨[ko 10 t107 107, ko 11 t107 107], [2, 3, 9], []⟩), (none, ⟨[ko 6 t3 3, kv 7 t43], [], [7]⟩)] (sz (.s (.b (.s (sz (.b (.l ⟨[kv 14 t3], [2, 3, 9, 10, 11, 13], [14]⟩ [(some 4, ⟨[], [2, 3, 9, 10, 11, 13], []⟩), (none, ⟨[ko 6 t3 3, kv 7 t43], [], [7]⟩)] .z))) .z)) .z))))) (sz (sz (sz (sz (.s (sz (.b (.l ⟨[ko 17 t3 3, kv 18 t3], [2, 3, 9, 16], [18]⟩ [(some 6, ⟨[ko 17 t3 3], [], []⟩)] (sz (.s (.b (sz (.j ⟨[ko 17 t3 3], [2, 3, 9, 16, 18], []⟩ .z .z))) .z))))) .z))))))))))))) func18
def s75 : FS := ⟨(.cons t23 .nil), (.cons t4 .nil), [none], fun x => vh x.1⟩
theorem zAj : s75.ok prog 75 := fS (E0) (sz (.s (sz (.b (.l ⟨[kv 3 t3], [0], [3]⟩ [(some 0, ⟨[], [], []⟩), (none, ⟨[kv 2 t4], [], [2]⟩)] .z))) .z)) func75
def s76 : FS := ⟨(.cons t23 (.cons t3 .nil)), (.cons t3 .nil), [none], fun x => jJ x.1 x.2.1⟩
theorem zAi : s76.ok prog 76 := fS (E0) (sz (sz (.s (.b (.l ⟨[kv 5 t3], [0, 1], [5]⟩ [(some 0, ⟨[kv 5 t3], [], [5]⟩)] .z)) .z))) func76
def s23 : FS := ⟨(.cons t36 (.cons t23 (.cons t23 (.cons t23 (.cons t23 (.cons t23 .nil)))))), (.cons t51 (.cons t43 .nil)), [some 60, none], fun x => gO x.1 x.2.1 x.2.2.1 x.2.2.2.1 x.2.2.2.2.1 x.2.2.2.2.2.1⟩
theorem zBI : s23.ok prog 23 := fS ((((E0).S zAi).S zAj).S zBM) (sz (sz (sz (sz (sz (.s (sz (.b (.l ⟨[kv 16 t3], [2, 3, 4, 5, 6, 14], [16]⟩ [(some 0, ⟨[], [2, 3, 4, 5, 6, 14], []⟩), (none, ⟨[ko 12 t60 60, kv 13 t43], [], [13]⟩)] .z))) (sz (sz (.s (sz (.b (.l ⟨[ko 17 t60 60, kv 18 t3], [2, 3, 4, 5, 6, 14], [18]⟩ [(some 2, ⟨[ko 17 t60 60], [], []⟩)] (sz (.s (.b (sz (.s (.xr [14, 15] [0, 1, 2, 3, 4, 5, 6, 7, 8, 9, 10, 11, 12, 13, 14, 15] [(0, []), (1, []), (2, []), (3, []), (4, []), (5, []), (6, []), (7, []), (8, []), (9, []), (10, []), (11, []), (12, []), (13, [])]) (.s (sz (.j ⟨[kw 20 t60], [2, 3, 4, 5, 6, 14, 17, 18, 20], [20]⟩ .z .z)) .z)))) .z))))) .z))))))))) func23
def s26 : FS := ⟨(.cons t51 (.cons t3 .nil)), (.cons t3 .nil), [none], fun x => vy x.1 x.2.1⟩
theorem Sd : s26.ok prog 26 := fS (E0) (sz (sz (.s (sz (.b (.l ⟨[kv 5 t3, kv 6 t3], [0, 1], [5, 6]⟩ [(some 0, ⟨[kv 5 t3], [], [5]⟩)] (sz (.s (.b (sz (.j ⟨[kv 5 t3], [0, 1, 6], [5]⟩ .z .z))) .z))))) .z))) func26
def s21 : FS := ⟨(.cons (.box t36) (.cons (.box t23) (.cons (.box t23) (.cons (.box t23) (.cons (.box t23) (.cons (.box t23) .nil)))))), (.cons t4 .nil), [none], fun x => yI x.1 x.2.1 x.2.2.1 x.2.2.2.1 x.2.2.2.2.1 x.2.2.2.2.2.1⟩
theorem zBJ : s21.ok prog 21 := fS ((((((E0).S Sd).S NQ).S Sf).S zBI).S Sg) (sz (sz (sz (sz (.s (sz (.b (.l ⟨[kv 11 t3], [9], [11]⟩ [(some 0, ⟨[], [], []⟩), (none, ⟨[kv 6 t4], [], [6]⟩)] .z))) .z))))) func21
def s4 : FS := ⟨(.cons t25 (.cons t50 (.cons t3 (.cons t5 (.cons t5 (.cons t51 .nil)))))), (.cons t4 .nil), [none], fun x => gU x.1 x.2.1 x.2.2.1 x.2.2.2.1 x.2.2.2.2.1 x.2.2.2.2.2.1⟩
theorem zFD : s4.ok prog 4 := fS (((((((E0).S Sd).S NQ).S zBJ).S zBK).S zBN).S zBO) (sz (sz (sz (sz (sz (sz (sz (.s (sz (.b (sz (.j ⟨[(true, 17, (.o true t3 3)), (true, 18, (.o true t3 3)), (true, 19, (.o true t3 3))], [2, 5, 13, 14, 15, 16, 17, 18, 19, 20, 37], []⟩ (sz (.j ⟨[(true, 17, (.o true t3 3))], [2, 5, 13, 14, 15, 16, 17, 18, 19, 20, 37], []⟩ .z .z)) (sz (.j ⟨[(true, 17, (.o true t3 3)), (true, 18, (.o true t3 3)), (true, 19, (.o true t3 3))], [2, 5, 13, 14, 15, 16, 17, 18, 19, 20, 37], []⟩ (sz (.j ⟨[(true, 18, (.o true t3 3))], [2, 5, 13, 14, 15, 16, 17, 18, 19, 20, 37], []⟩ .z .z)) (sz (.j ⟨[(true, 17, (.o true t3 3)), (true, 19, (.o true t3 3))], [2, 5, 13, 14, 15, 16, 17, 18, 19, 20, 37], []⟩ .z (sz (.j ⟨[(true, 17, (.o true t3 3)), (true, 19, (.o true t3 3))], [2, 5, 13, 14, 15, 16, 17, 18, 19, 20, 37], []⟩ .z (sz (.j ⟨[(true, 19, (.o true t3 3))], [2, 5, 13, 14, 15, 16, 17, 18, 19, 20, 37], []⟩ .z (sz (.j ⟨[(true, 19, (.o true t3 3))], [2, 5, 13, 14, 15, 16, 17, 18, 19, 20, 37], []⟩ (.xg ⟨[(true, 19, (.o true t3 3))], [2, 5, 13, 14, 15, 16, 17, 18, 19, 20, 37], []⟩) .z)))))))))))))) .z)))))))) func4
end Go.Dn
end
section
namespace Go.Lift
open Go Go.RowKit Go.Eng Go.ChangeShapes Go.WideShapes Go.ChangeAt Go.Joins Go.Deep Go.WideElems
variable {H : Type} {enc : TypeId × Value → H} {P : Program} {w : World} {base : Nat} {sp : Nat → Bool} {held : Bool} {α β γ : Type}
abbrev O0 : zS := fun _ => 0
structure Opens (enc : TypeId × Value → H) (P : Program) (w : World) (base : Nat) (sp : Nat → Bool) (held : Bool) (t : Nat) (r : GR α) (Q : α → Prop) : Prop where
 size : P.cellsOf t = r.sz
 fits : r.fits
 op : ∀ fuel cs x, DataW.trod enc P w base sp held fuel t cs = some x → ∃ y, r.rel O0 w cs y ∧ Q y
theorem GG {t : Nat} {k : IntKind} (ht : P.underlying t = some (.int k)) (hs : P.cellsOf t = 1) : Opens enc P w base sp held t (Ry k) fun n => (Lit.int k n).wf = true :=
 ⟨hs, fun _ => rfl, fun fuel cs x h => by obtain ⟨n, h1, _, h2⟩ := DataW.trod_int ht h; exact ⟨n, h1, h2⟩⟩
theorem C5 {r : GR α} {O : zS} {Q : α → Prop} : ∀ {vs : List Value}, (∀ v ∈ vs, ∃ y, r.v O w v y ∧ Q y) → ∃ ys, ym r O w vs ys ∧ ∀ y ∈ ys, Q y
 | [], _ => ⟨[], trivial, by simp⟩
 | v :: vs, h => by
   obtain ⟨y, h1, h2⟩ := h v (by simp)
   obtain ⟨ys, h3, h4⟩ := C5 (vs := vs) fun u hu => h u (List.mem_cons_of_mem _ hu)
   exact ⟨y :: ys, ⟨h1, h3⟩, fun z hz => (List.mem_cons.1 hz).elim (fun e => by rw [e]; exact h2) (h4 z)⟩
theorem XW {t e : Nat} {r : GR α} {Q : α → Prop} (ht : P.underlying t = some (.slice e)) (hs : P.cellsOf t = 1) (hE : Opens enc P w base sp held e r Q) (hpos : 0 < r.sz) : Opens enc P w base sp held t (rSl r) fun xs => (∀ x ∈ xs, Q x) ∧ xs.length ≤ maxLen := by
 refine ⟨hs, fun _ => rfl, fun fuel cs x h => ?_⟩
 rcases DataW.trod_slice ht h with ⟨rfl, _⟩ | ⟨a, len, cap, elems, rest, n, _, rfl, _, hb, hl, hm, hlen, hel, _, _⟩
 ·exact ⟨[], ⟨_, [], rfl, ⟨none, 0, rfl, by simp, by simp, .inl rfl⟩, trivial, fun h => absurd rfl h⟩, by simp, by simp⟩
 ·have each : ∀ i, i < len → ∃ cs, w.cells? base (a.add (i * r.sz)) r.sz = some cs ∧ ∃ y, r.rel O0 w cs y ∧ Q y := by
   intro i hi
   have := hel i hi
   rw [List.getElem?_eq_getElem (by omega), hE.size, Option.bind_eq_some_iff] at this
   obtain ⟨cs, h1, h2⟩ := this
   exact ⟨cs, h1, hE.op n cs _ h2⟩
  let f : Nat → Value := fun i => yF r.agg ((w.cells? base (a.add (i * r.sz)) r.sz).getD [])
  have hf : ∀ i, i < len → ∃ y, r.v O0 w (f i) y ∧ Q y := by
   intro i hi
   obtain ⟨cs, h1, y, h2, h3⟩ := each i hi
   exact ⟨y, ⟨cs, h2, by show yF r.agg ((w.cells? base (a.add (i * r.sz)) r.sz).getD []) = _; rw [h1]; rfl⟩, h3⟩
  have hfc : ∀ i, i < len → ∀ j, j < r.sz → w.cell? (a.add (i * r.sz + j)) = (f i).cells[j]? := by
   intro i hi j hj
   obtain ⟨cs, h1, y, h2, _⟩ := each i hi
   have h4 := (World.cells?_some h1).2.2 j hj
   have h5 : (f i).cells = cs.toArray := by
    show (yF r.agg ((w.cells? base (a.add (i * r.sz)) r.sz).getD [])).cells = _
    rw [h1]
    exact jW (fun ha => by show cs.length = 1; rw [r.len h2, hE.fits ha]) (r.one h2)
   rw [h5, List.getElem?_toArray, ← h4]
   rw [_root_.Go.Addr.add_add]
  obtain ⟨ys, h1, h2⟩ := C5 (r := r) (O := O0) (w := w) (Q := Q) (vs := (List.range len).map f) (by
   intro v hv
   obtain ⟨i, hi, rfl⟩ := List.mem_map.1 hv
   exact hf i (List.mem_range.1 hi))
  have hyl : ys.length = len := by have := h1.len; simpa using this.symm
  refine ⟨ys, ⟨_, (List.range len).map f, rfl, ⟨some a, cap, by simp, by simpa using hl, ?_, ?_⟩, h1, ?_⟩, h2, by omega⟩
  ·intro v hv
   obtain ⟨y, hy⟩ : ∃ y, r.v O0 w v y := by
    obtain ⟨i, hi, rfl⟩ := List.mem_map.1 hv
    obtain ⟨y, hy, _⟩ := hf i (List.mem_range.1 hi); exact ⟨y, hy⟩
   exact r.k8 hE.fits hy
  ·by_cases h0 : len = 0
   ·left; simp [h0]
   ·right
    obtain ⟨b, off, spot⟩ := a
    have hc0 : (w.cell? (Addr.add ⟨b, off, spot⟩ (0 * r.sz + 0))).isSome = true := by
     rw [hfc 0 (by omega) 0 hpos]
     obtain ⟨y, hy, _⟩ := hf 0 (by omega)
     have := r.k8 hE.fits hy
     rw [Array.getElem?_eq_getElem (by omega)]; rfl
    obtain ⟨v0, hv0⟩ := Option.isSome_iff_exists.1 hc0
    have hspot : spot = none := by simpa [Addr.add] using World.cell?_spot hv0
    subst hspot
    refine ⟨b, off, rfl, fun i x hx j hj => ?_⟩
    have hi : i < len := by have := (List.getElem?_eq_some_iff.1 hx).1; simpa using this
    have hx' : x = f i := by
     rw [List.getElem?_map, List.getElem?_range hi] at hx
     simpa using hx.symm
    rw [hx', ← hfc i hi j hj]
    unfold Addr.add
    split
    ·rename_i h0; congr 1; simp [h0]
    ·rfl
  ·intro hne g hg
   have h0 : 0 < len := by
    rcases Nat.eq_zero_or_pos len with h0 | h0
    ·subst h0; exact absurd rfl hne
    ·exact h0
   have hgb : g = a.block := by
    have : (Value.slice (some a) len cap).ownBlock = some a.block := rfl
    rw [this] at hg; exact (Option.some.inj hg).symm
   subst hgb
   refine ⟨?_, rfl⟩
   obtain ⟨cs, h3, _⟩ := each 0 h0
   have h4 := (World.cells?_some h3)
   have h5 := h4.2.2 0 hpos
   rw [List.getElem?_eq_getElem (by omega)] at h5
   have he : (a.add (0 * r.sz)).add 0 = a := by simp [Addr.add]
   rw [he] at h5
   exact World.block_lt_of_cell? _ _ h5
theorem mW {t : Nat} {r : GR α} {Q : α → Prop} {v : Value} {d : DataW H} {ps : List MemPlace} (hE : Opens enc P w base sp held t r Q) (hv : yF r.agg v.cells.toList = v) (h : DataW.Trod enc P w base sp held t v d ps) : ∃ x, r.v O0 w v x ∧ Q x := by
 obtain ⟨fuel, hf⟩ := h
 obtain ⟨y, h1, h2⟩ := hE.op fuel _ _ hf
 exact ⟨y, ⟨_, h1, hv.symm⟩, h2⟩
theorem Hx {t e : Nat} {r : GR α} {Q : α → Prop} {re : Reach} {b0 : Nat} {v : Value} {d : DataW H} {ps : List MemPlace} (ht : P.underlying t = some (.slice e)) (hs : P.cellsOf t = 1) (hE : Opens enc P w base sp held e r Q) (hpos : 0 < r.sz) (hval : Value.okWide P w re b0 t v) (h : DataW.Trod enc P w base sp held t v d ps) :
  ∃ xs, (rSl r).v O0 w v xs ∧ (∀ x ∈ xs, Q x) ∧ xs.length ≤ maxLen := by
 obtain ⟨a, len, cap, rfl⟩ := okWide_slice ht hval
 exact mW (XW ht hs hE hpos) (by simp [Value.cells, yF, rSl]) h
theorem Vw : OkO O0 w := fun _ _ => rfl
theorem AF (cs : List Value) (off s : Nat) : cs.drop off = (cs.drop off).take s ++ cs.drop (off + s) := by
 rw [← List.drop_drop, List.take_append_drop]
theorem Opens.at_ {t : Nat} {r : GR α} {Q : α → Prop} (hE : Opens enc P w base sp held t r Q) {off n : Nat} {cs : List Value} {y} (h : DataW.trod enc P w base sp held n t ((cs.drop off).take (P.cellsOf t)) = some y) : ∃ a, r.rel O0 w ((cs.drop off).take r.sz) a ∧ Q a := by
 rw [hE.size] at h; exact hE.op n _ _ h
theorem Kn {t : Nat} {fs : Array Field} {r : GR α} {Q : α → Prop} {re : Reach} {b0 : Nat} {v : Value} {d : DataW H} {ps : List MemPlace} (ht : P.underlying t = some (.struct fs)) (hE : Opens enc P w base sp held t r Q) (ha : r.agg = true) (hval : Value.okWide P w re b0 t v) (h : DataW.Trod enc P w base sp held t v d ps) : ∃ x, r.v O0 w v x ∧ Q x := by
 obtain ⟨cs, rfl, _⟩ := okWide_struct ht hval
 exact mW hE (by simp [Value.cells, yF, ha]) h
theorem wf_u8 {n : Int} (h : (Lit.int .u8 n).wf = true) : 0 ≤ n ∧ n < 256 := by
 simp [Lit.wf, IntKind.min, IntKind.max, IntKind.signed, IntKind.bits] at h; omega
end Go.Lift
end
section
namespace Go.Den
open Go Go.RowKit Go.Eng Go.Lift Go.ChangeShapes Go.WideShapes Go.ChangeAt Go.Joins Go.Deep Go.WideElems
variable {H : Type} {enc : TypeId × Value → H} {P : Program} {w : World} {base : Nat} {sp : Nat → Bool} {held : Bool} {α β γ : Type}
theorem DT {r : GR α} {Q : α → Prop} : ∀ (n : Nat) (cs : List Value), cs.length = n * r.sz → (∀ i, i < n → ∃ y, r.rel O0 w ((cs.drop (i * r.sz)).take r.sz) y ∧ Q y) → ∃ ys : List α, ys.length = n ∧ jR r O0 w cs ys ∧ ∀ y ∈ ys, Q y
 | 0, cs, h, _ => ⟨[], rfl, List.eq_nil_of_length_eq_zero (by rw [h, Nat.zero_mul]), by simp⟩
 | n + 1, cs, h, hh => by
  obtain ⟨y, h1, h2⟩ := hh 0 (by omega)
  rw [Nat.zero_mul, List.drop_zero] at h1
  obtain ⟨ys, h3, h4, h5⟩ := DT (r := r) (Q := Q) n (cs.drop r.sz) (by rw [List.length_drop, h, Nat.add_mul]; omega) (fun i hi => by
   obtain ⟨z, h6, h7⟩ := hh (i + 1) (by omega)
   refine ⟨z, ?_, h7⟩
   rw [List.drop_drop]
   rw [Nat.add_mul, Nat.one_mul, Nat.add_comm] at h6
   exact h6)
  refine ⟨y :: ys, by simp [h3], ⟨cs.take r.sz, cs.drop r.sz, (List.take_append_drop _ _).symm, h1, h4⟩, fun z hz => ?_⟩
  rcases List.mem_cons.1 hz with rfl | hz
  ·exact h2
  ·exact h5 z hz
theorem GJ {t e n : Nat} {r : GR α} {Q : α → Prop} (ht : P.underlying t = some (.array n e)) (hs : P.cellsOf t = n * r.sz) (hE : Opens enc P w base sp held e r Q) : Opens enc P w base sp held t (zCL n r) fun x => x.length = n ∧ ∀ y ∈ x, Q y := by
 refine ⟨hs, (fun h => by cases h), fun fuel cs x h => ?_⟩
 obtain ⟨xs, m, rfl, rfl, hlen, hxl, hel⟩ := DataW.trod_array ht h
 obtain ⟨ys, h1, h2, h3⟩ := DT (w := w) (r := r) (Q := Q) n cs (by rw [hlen, hs]) (fun i hi => by
  have := hel i hi
  rw [List.getElem?_eq_getElem (by omega)] at this
  have hc : P.cellsOf e = r.sz := hE.size
  rw [hc] at this
  have h4 : (cs.drop (i * r.sz)).take r.sz = (cs.drop (i * r.sz)).take (P.cellsOf e) := by rw [hc]
  rw [h4] at this
  exact hE.at_ this)
 exact ⟨ys, ⟨h1, h2⟩, h1, h3⟩
theorem BQ {rs vs : List Value} {v v1 : Value} (h3 : YV rs v) (h4 : rs = v1 :: vs) (h7 : vs = []) : v = v1 := by
 subst h7 h4
 rcases h3 with h | h
 ·cases h
 ·exact h
end Go.Den
end
section
namespace Go.Proofs.YtknbpncolbmoaaaGreat.billChargesDone
open Go Go.ChangeShapes Go.WideShapes Go.ChangeAt Go.RowKit Go.Eng Go.Lift Go.Joins Go.Den Go.Dn
open Go.ChangeMaps (open_string shut_string)
set_option maxRecDepth 100000
theorem Ni {H : Type} {enc : TypeId × Value → H} {w : World} {base : Nat} {sp : Nat → Bool} {held : Bool} : Opens enc Tryz.prog w base sp held 3 (Ty.gr Tryz.prog t3) (fun (z : Int) => (Lit.int .i64 z).wf = true) := GG Tryz.underlying3 (by kernel_rfl)
theorem AZ {H : Type} {enc : TypeId × Value → H} {w : World} {base : Nat} {sp : Nat → Bool} {held : Bool} : Opens enc Tryz.prog w base sp held 23 (Ty.gr Tryz.prog t23) (fun (z : List Int) => (∀ y ∈ (z : List Int), (fun (z : Int) => (Lit.int .i64 z).wf = true) y) ∧ (z : List Int).length ≤ maxLen) := XW Tryz.underlying23 (by kernel_rfl) Ni (of_decide_eq_true (by kernel_rfl))
theorem zAb {H : Type} {enc : TypeId × Value → H} {w : World} {base : Nat} {sp : Nat → Bool} {held : Bool} : Opens enc Tryz.prog w base sp held 22 (Ty.gr Tryz.prog t22) (fun (z : List (List Int)) => (∀ y ∈ (z : List (List Int)), (fun (z : List Int) => (∀ y ∈ (z : List Int), (fun (z : Int) => (Lit.int .i64 z).wf = true) y) ∧ (z : List Int).length ≤ maxLen) y) ∧ (z : List (List Int)).length ≤ maxLen) := XW Tryz.underlying22 (by kernel_rfl) AZ (of_decide_eq_true (by kernel_rfl))
def zFl (x : List (List Int) × List Int × List Int × Unit) : Prop := ((∀ y ∈ (x.1 : List (List Int)), (fun (z : List Int) => (∀ y ∈ (z : List Int), (fun (z : Int) => (Lit.int .i64 z).wf = true) y) ∧ (z : List Int).length ≤ maxLen) y) ∧ (x.1 : List (List Int)).length ≤ maxLen) ∧ ((∀ y ∈ (x.2.1 : List Int), (fun (z : Int) => (Lit.int .i64 z).wf = true) y) ∧ (x.2.1 : List Int).length ≤ maxLen) ∧ ((∀ y ∈ (x.2.2.1 : List Int), (fun (z : Int) => (Lit.int .i64 z).wf = true) y) ∧ (x.2.2.1 : List Int).length ≤ maxLen) ∧ True
theorem zAa {H : Type} {enc : TypeId × Value → H} {w : World} {base : Nat} {sp : Nat → Bool} {held : Bool} : Opens enc Tryz.prog w base sp held 25 (Ty.gr Tryz.prog t25) zFl := by
 refine ⟨by kernel_rfl, Ty.fits _ _, fun fuel cs x h => ?_⟩
 obtain ⟨xs, n, rfl, rfl, hl, hlen, hf⟩ := DataW.trod_struct Tryz.underlying25 h
 have hl' : cs.length = 3 := hl.trans (by kernel_rfl)
 obtain ⟨y0, hy0⟩ : ∃ y, xs[0]? = some y := ⟨_, List.getElem?_eq_getElem (by rw [hlen]; decide)⟩
 obtain ⟨a0, k0, q0⟩ := Opens.at_ (off := 0) (n := n) (cs := cs) (zAb (enc := enc) (w := w) (base := base) (sp := sp) (held := held)) ((hf 0 _ rfl).trans hy0)
 obtain ⟨y1, hy1⟩ : ∃ y, xs[1]? = some y := ⟨_, List.getElem?_eq_getElem (by rw [hlen]; decide)⟩
 obtain ⟨a1, k1, q1⟩ := Opens.at_ (off := 1) (n := n) (cs := cs) (AZ (enc := enc) (w := w) (base := base) (sp := sp) (held := held)) ((hf 1 _ rfl).trans hy1)
 obtain ⟨y2, hy2⟩ : ∃ y, xs[2]? = some y := ⟨_, List.getElem?_eq_getElem (by rw [hlen]; decide)⟩
 obtain ⟨a2, k2, q2⟩ := Opens.at_ (off := 2) (n := n) (cs := cs) (AZ (enc := enc) (w := w) (base := base) (sp := sp) (held := held)) ((hf 2 _ rfl).trans hy2)
 exact ⟨⟨a0, a1, a2, ()⟩, ⟨_, _, AF cs 0 1, k0, ⟨_, _, AF cs 1 1, k1, ⟨_, _, AF cs 2 1, k2, List.drop_of_length_le (by rw [hl']; decide)⟩⟩⟩, ⟨q0, q1, q2, trivial⟩⟩
theorem zAZ {H : Type} {enc : TypeId × Value → H} {w : World} {base : Nat} {sp : Nat → Bool} {held : Bool} : Opens enc Tryz.prog w base sp held 48 (Ty.gr Tryz.prog t48) (fun (z : List Int) => (z : List Int).length = 4 ∧ ∀ y ∈ (z : List Int), (fun (z : Int) => (Lit.int .i64 z).wf = true) y) := GJ Tryz.underlying48 (by kernel_rfl) Ni
def zFk (x : List Int × List Int × List Int × Unit) : Prop := ((∀ y ∈ (x.1 : List Int), (fun (z : Int) => (Lit.int .i64 z).wf = true) y) ∧ (x.1 : List Int).length ≤ maxLen) ∧ ((∀ y ∈ (x.2.1 : List Int), (fun (z : Int) => (Lit.int .i64 z).wf = true) y) ∧ (x.2.1 : List Int).length ≤ maxLen) ∧ ((x.2.2.1 : List Int).length = 4 ∧ ∀ y ∈ (x.2.2.1 : List Int), (fun (z : Int) => (Lit.int .i64 z).wf = true) y) ∧ True
theorem zAY {H : Type} {enc : TypeId × Value → H} {w : World} {base : Nat} {sp : Nat → Bool} {held : Bool} : Opens enc Tryz.prog w base sp held 50 (Ty.gr Tryz.prog t50) zFk := by
 refine ⟨by kernel_rfl, Ty.fits _ _, fun fuel cs x h => ?_⟩
 obtain ⟨xs, n, rfl, rfl, hl, hlen, hf⟩ := DataW.trod_struct Tryz.underlying50 h
 have hl' : cs.length = 6 := hl.trans (by kernel_rfl)
 obtain ⟨y0, hy0⟩ : ∃ y, xs[0]? = some y := ⟨_, List.getElem?_eq_getElem (by rw [hlen]; decide)⟩
 obtain ⟨a0, k0, q0⟩ := Opens.at_ (off := 0) (n := n) (cs := cs) (AZ (enc := enc) (w := w) (base := base) (sp := sp) (held := held)) ((hf 0 _ rfl).trans hy0)
 obtain ⟨y1, hy1⟩ : ∃ y, xs[1]? = some y := ⟨_, List.getElem?_eq_getElem (by rw [hlen]; decide)⟩
 obtain ⟨a1, k1, q1⟩ := Opens.at_ (off := 1) (n := n) (cs := cs) (AZ (enc := enc) (w := w) (base := base) (sp := sp) (held := held)) ((hf 1 _ rfl).trans hy1)
 obtain ⟨y2, hy2⟩ : ∃ y, xs[2]? = some y := ⟨_, List.getElem?_eq_getElem (by rw [hlen]; decide)⟩
 obtain ⟨a2, k2, q2⟩ := Opens.at_ (off := 2) (n := n) (cs := cs) (zAZ (enc := enc) (w := w) (base := base) (sp := sp) (held := held)) ((hf 2 _ rfl).trans hy2)
 exact ⟨⟨a0, a1, a2, ()⟩, ⟨_, _, AF cs 0 1, k0, ⟨_, _, AF cs 1 1, k1, ⟨_, _, AF cs 2 4, k2, List.drop_of_length_le (by rw [hl']; decide)⟩⟩⟩, ⟨q0, q1, q2, trivial⟩⟩
def zFj (x : Int × Int × Int × Unit) : Prop := ((Lit.int .i64 x.1).wf = true) ∧ ((Lit.int .i64 x.2.1).wf = true) ∧ ((Lit.int .i64 x.2.2.1).wf = true) ∧ True
theorem zAX {H : Type} {enc : TypeId × Value → H} {w : World} {base : Nat} {sp : Nat → Bool} {held : Bool} : Opens enc Tryz.prog w base sp held 60 (Ty.gr Tryz.prog t60) zFj := by
 refine ⟨by kernel_rfl, Ty.fits _ _, fun fuel cs x h => ?_⟩
 obtain ⟨xs, n, rfl, rfl, hl, hlen, hf⟩ := DataW.trod_struct Tryz.underlying60 h
 have hl' : cs.length = 3 := hl.trans (by kernel_rfl)
 obtain ⟨y0, hy0⟩ : ∃ y, xs[0]? = some y := ⟨_, List.getElem?_eq_getElem (by rw [hlen]; decide)⟩
 obtain ⟨a0, k0, q0⟩ := Opens.at_ (off := 0) (n := n) (cs := cs) (Ni (enc := enc) (w := w) (base := base) (sp := sp) (held := held)) ((hf 0 _ rfl).trans hy0)
 obtain ⟨y1, hy1⟩ : ∃ y, xs[1]? = some y := ⟨_, List.getElem?_eq_getElem (by rw [hlen]; decide)⟩
 obtain ⟨a1, k1, q1⟩ := Opens.at_ (off := 1) (n := n) (cs := cs) (Ni (enc := enc) (w := w) (base := base) (sp := sp) (held := held)) ((hf 1 _ rfl).trans hy1)
 obtain ⟨y2, hy2⟩ : ∃ y, xs[2]? = some y := ⟨_, List.getElem?_eq_getElem (by rw [hlen]; decide)⟩
 obtain ⟨a2, k2, q2⟩ := Opens.at_ (off := 2) (n := n) (cs := cs) (Ni (enc := enc) (w := w) (base := base) (sp := sp) (held := held)) ((hf 2 _ rfl).trans hy2)
 exact ⟨⟨a0, a1, a2, ()⟩, ⟨_, _, AF cs 0 1, k0, ⟨_, _, AF cs 1 1, k1, ⟨_, _, AF cs 2 1, k2, List.drop_of_length_le (by rw [hl']; decide)⟩⟩⟩, ⟨q0, q1, q2, trivial⟩⟩
theorem own : ownKnob Tryz.prog.godebug = none := by kernel_rfl
theorem laidOut : laidOutB Tryz.prog = true := by kernel_rfl
theorem lifted (os : Os) (started : os.Started) (H : Type) (enc : TypeId × Value → H) :
  ReturnsInHanded {} Tryz.checked os 4 .any (Rows.billChargesSpec.pre6 enc Tryz.prog Tryz.f4 Rows.billChargesRow.domain false) (Rows.billChargesSpec.post enc Tryz.prog Tryz.f4 false true false false) := by
 refine returnsInHanded_of_change (C := Tryz.checked) own started (by kernel_rfl) Tryz.func4
  (ChangeSpec.witness6 (enc := enc) (C := Tryz.checked) false ⟨#[], #[.agg #[.slice none 0 0, .slice none 0 0, .slice none 0 0], .agg #[.slice none 0 0, .slice none 0 0, .int .i64 0, .int .i64 0, .int .i64 0, .int .i64 0], .int .i64 0, .int .u8 0, .int .u8 0, .slice none 0 0], []⟩ 8 (by kernel_rfl) (by kernel_rfl) (by kernel_rfl) (by kernel_rfl)) ?_
 intro W base args ds gs before hval0 hW hcnd _
 have hval : ∀ (j : Nat) t v, Tryz.f4.params[j]? = some t → args[j]? = some v → Value.okWide Tryz.prog W .any base t v := hval0
 have hW' := hW
 obtain ⟨p, q, hA0, hV, rfl, hfz, hnd⟩ := hW
 have hA : DataW.TrodAll enc Tryz.prog W 0 (fun _ => true) true Tryz.f4.params.toList args.toList ds p := hA0
 rw [Tryz.params4] at hA hval
 obtain ⟨v0, vs0, d0, ds0, p0, q0_, hargs, rfl, rfl, h0, r0⟩ := trodAll_cons hA
 obtain ⟨v1, vs1, d1, ds1, p1, q1_, rfl, rfl, rfl, h1, r1⟩ := trodAll_cons r0
 obtain ⟨v2, vs2, d2, ds2, p2, q2_, rfl, rfl, rfl, h2, r2⟩ := trodAll_cons r1
 obtain ⟨v3, vs3, d3, ds3, p3, q3_, rfl, rfl, rfl, h3, r3⟩ := trodAll_cons r2
 obtain ⟨v4, vs4, d4, ds4, p4, q4_, rfl, rfl, rfl, h4, r4⟩ := trodAll_cons r3
 obtain ⟨v5, vs5, d5, ds5, p5, q5_, rfl, rfl, rfl, h5, r5⟩ := trodAll_cons r4
 obtain ⟨rfl, rfl, rfl⟩ := trodAll_nil r5
 obtain rfl : args = #[v0, v1, v2, v3, v4, v5] := by cases args; simp_all
 obtain ⟨rfl, rfl⟩ := trodVars_none hV
 have k0 := h0
 have lt0 : ∀ x ∈ p0, x.block < W.heap.size := by obtain ⟨m, hm⟩ := k0; exact DataW.trod_lt m _ _ _ hm
 have k1 := h1
 have lt1 : ∀ x ∈ p1, x.block < W.heap.size := by obtain ⟨m, hm⟩ := k1; exact DataW.trod_lt m _ _ _ hm
 have k2 := h2
 have lt2 : ∀ x ∈ p2, x.block < W.heap.size := by obtain ⟨m, hm⟩ := k2; exact DataW.trod_lt m _ _ _ hm
 have k3 := h3
 have lt3 : ∀ x ∈ p3, x.block < W.heap.size := by obtain ⟨m, hm⟩ := k3; exact DataW.trod_lt m _ _ _ hm
 have k4 := h4
 have lt4 : ∀ x ∈ p4, x.block < W.heap.size := by obtain ⟨m, hm⟩ := k4; exact DataW.trod_lt m _ _ _ hm
 have k5 := h5
 have lt5 : ∀ x ∈ p5, x.block < W.heap.size := by obtain ⟨m, hm⟩ := k5; exact DataW.trod_lt m _ _ _ hm
 obtain ⟨x0, hr0, q0⟩ := Kn Tryz.underlying25 zAa rfl (hval 0 25 v0 rfl rfl) h0
 obtain ⟨x1, hr1, q1⟩ := Kn Tryz.underlying50 zAY rfl (hval 1 50 v1 rfl rfl) h1
 obtain ⟨x2, e2, _, _, q2⟩ := open_int Tryz.underlying3 (hval 2 3 v2 rfl rfl) h2
 have hr2 : (Ty.gr Tryz.prog t3).v O0 W v2 x2 := ⟨_, rfl, e2⟩
 obtain ⟨x3, e3, _, _, q3⟩ := open_int Tryz.underlying5 (hval 3 5 v3 rfl rfl) h3
 have hr3 : (Ty.gr Tryz.prog t5).v O0 W v3 x3 := ⟨_, rfl, e3⟩
 obtain ⟨x4, e4, _, _, q4⟩ := open_int Tryz.underlying5 (hval 4 5 v4 rfl rfl) h4
 have hr4 : (Ty.gr Tryz.prog t5).v O0 W v4 x4 := ⟨_, rfl, e4⟩
 obtain ⟨x5, hr5, q5⟩ := Hx Tryz.underlying51 (by kernel_rfl) zAX (of_decide_eq_true (by kernel_rfl)) (hval 5 51 v5 rfl rfl) h5
 clear hA0 hval0
 obtain ⟨⟨b_, u_⟩, hv_, hb_⟩ := (Go.Geo.nU x0 x1 q1.2.2.1.1 (wf_u8 q3))
 obtain ⟨n_, hn_⟩ := y7.1 hv_
 have walk := zFD.2 O0 W Vw [v0, v1, v2, v3, v4, v5] (x0, x1, x2, x3, x4, x5, ()) ⟨_, _, rfl, hr0, _, _, rfl, hr1, _, _, rfl, hr2, _, _, rfl, hr3, _, _, rfl, hr4, _, _, rfl, hr5, rfl⟩ n_ _ hn_
 refine Calls.mono (R := fun e W' => e = .returned (.bool true) ∧ Below W.heap.size W W') ?_ fun e W' ⟨he, bel⟩ => ?_
 ·exact Calls.mono walk fun e W' ⟨v, h1, h2, rs, h3, v1, vs1, h4, ⟨cs, h5, h6⟩, h7, _⟩ => ⟨by rw [h1, BQ h3 h4 h7, h6, show cs = [Value.bool b_] from h5, show b_ = true from hb_]; rfl, h2⟩
 ·subst he
  exact ⟨_, rfl, _, _, _, [], _, [], hW', trodAll_mk1 (shut_bool Tryz.underlying4 _), (trodAll_cons_mk (Below.trod laidOut (by kernel_rfl) (of_decide_eq_true (by kernel_rfl)) k0 bel lt0) (trodAll_cons_mk (Below.trod laidOut (by kernel_rfl) (of_decide_eq_true (by kernel_rfl)) k1 bel lt1) (trodAll_cons_mk (Below.trod laidOut (by kernel_rfl) (of_decide_eq_true (by kernel_rfl)) k2 bel lt2) (trodAll_cons_mk (Below.trod laidOut (by kernel_rfl) (of_decide_eq_true (by kernel_rfl)) k3 bel lt3) (trodAll_cons_mk (Below.trod laidOut (by kernel_rfl) (of_decide_eq_true (by kernel_rfl)) k4 bel lt4) (trodAll_cons_mk (Below.trod laidOut (by kernel_rfl) (of_decide_eq_true (by kernel_rfl)) k5 bel lt5) trodAll_mk0)))))), rfl, bel.frame _, fun h => by cases h⟩
theorem proved : Rows.BillChargesSaid :=
 OpenClaim.holds_of_wide 4 Tryz.f4 rfl rfl rfl rfl rfl rfl rfl ⟨rfl, rfl, rfl, rfl, rfl⟩ rfl rfl rfl rfl rfl (by kernel_rfl) Tryz.func4 (by kernel_rfl)
  (of_decide_eq_true (by kernel_rfl)) (by unfold Func.isWrapper; first | (rw [if_pos (by decide +kernel)]; kernel_rfl) | (rw [if_neg (by decide +kernel)]; exact ⟨rfl, rfl⟩))
  (fun os started H enc _ => lifted os started H enc)
#print axioms proved
end Go.Proofs.YtknbpncolbmoaaaGreat.billChargesDone
end
