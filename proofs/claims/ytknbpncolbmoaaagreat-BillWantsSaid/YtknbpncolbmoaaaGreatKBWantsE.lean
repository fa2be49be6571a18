/- Lemmas behind a claim of this seat. No statement of the program stands here. -/
import Derived.Test.YtknbpncolbmoaaaGreatKBWantsD
set_option linter.unusedSimpArgs false
set_option linter.unusedVariables false
section
namespace Go.Geo
open Go Go.Eng Go.Lift Go.Den Go.F
variable {α β γ δ ε σ τ : Type}
theorem Y9 (p : Pln) (x : Pnt) : (zY p x).val = some (rm p x, ()) := by
 unfold zY
 rw [Comp.zB]
 congr 2
 unfold rm dt
 simp only [CX, Cz, l8, l7]
 congr 1
 omega
theorem D8 {r : List Pln} {x : Pnt} (hl : r.length < 9223372036854775807) : (vA r x).val = some (ins r x, ()) := by
 unfold vA
 have h1 := j4 r (fun p => decide (0 ≤ rm p x)) (c := (Sum.inr false : Unit ⊕ Bool)) (d := Sum.inl ())
  (body := (fun (x_1 : Int) =>
      if ltI x_1 (lenL r) = true then
       (idx r x_1).bind fun (x_2 : Pln) =>
        (Go.F.zY x_2 x).bind fun (x_3 : Int × Unit) =>
         if ltI x_3.1 0 = true then Comp.pure (Comp.Step.done (Sum.inr false)) else Comp.pure (Comp.Step.next (addW .i64 x_1 1))
      else Comp.pure (Comp.Step.done (Sum.inl ()))))
  (fun i p hp => by
   have hlt := zG hp
   rw [if_pos (by rw [ltI_t, zC]; omega), Comp.zA, zH hp, MW, Comp.zA, Y9, MW, zL (by omega)]
   by_cases h : rm p x < 0
   ·rw [if_pos (by rw [ltI_t]; exact h), Comp.zB, if_neg (by simp; omega)]
   ·rw [if_neg (by rw [ltI_t]; exact h), Comp.zB, if_pos (by simp; omega)])
  (by rw [if_neg (by rw [ltI_t, zC]; omega), Comp.zB])
 rw [Comp.zA]
 refine (congrArg (fun o => Option.bind o _) h1).trans ?_
 rw [MW]
 unfold ins
 cases r.all fun p => decide (0 ≤ rm p x) <;> exact Comp.zB _
theorem qu {l : List Pnt} {x : Pnt} (hl : l.length < 9223372036854775807) : (yJ l x).val = some (decide (x ∈ l), ()) := by
 unfold yJ
 have h1 := j4 l (fun y => !decide (y = x)) (c := (Sum.inr true : Unit ⊕ Bool)) (d := Sum.inl ())
  (body := (fun (i : Int) =>
      if ltI i (lenL l) = true then
       (idx l i).bind fun (x_1 : Pnt) =>
        if adB (eqI x_1.1 x.1) (adB (eqI x_1.2.1 x.2.1) (adB (eqI x_1.2.2.1 x.2.2.1) (eqI x_1.2.2.2.1 x.2.2.2.1))) = true then
         Comp.pure (Comp.Step.done (Sum.inr true))
        else Comp.pure (Comp.Step.next (addW .i64 i 1))
      else Comp.pure (Comp.Step.done (Sum.inl ()))))
  (fun i p hp => by
   have hlt := zG hp
   have he : adB (eqI p.1 x.1) (adB (eqI p.2.1 x.2.1) (adB (eqI p.2.2.1 x.2.2.1) (eqI p.2.2.2.1 x.2.2.2.1))) = decide (p = x) := uL p x
   rw [if_pos (by rw [ltI_t, zC]; omega), Comp.zA, zH hp, MW, zL (by omega)]
   by_cases h : p = x
   ·rw [if_pos (by rw [he]; exact decide_eq_true h), Comp.zB, if_neg (by simp [h])]
   ·rw [if_neg (by rw [he, decide_eq_false h]; simp), Comp.zB, if_pos (by simp [h])])
  (by rw [if_neg (by rw [ltI_t, zC]; omega), Comp.zB])
 rw [Comp.zA]
 refine (congrArg (fun o => Option.bind o _) h1).trans ?_
 rw [MW]
 by_cases h : x ∈ l
 ·have : (l.all fun y => !decide (y = x)) = false := by
   rw [List.all_eq_false]; exact ⟨x, h, by simp⟩
  rw [this, decide_eq_true h]
  exact Comp.zB _
 ·have : (l.all fun y => !decide (y = x)) = true := by
   rw [List.all_eq_true]; intro y hy; simp; intro e; subst e; exact h hy
  rw [this, decide_eq_false h]
  exact Comp.zB _
theorem gN {body : σ × Int → Comp (Comp.Step (σ × Int) σ)} (n : Nat) (G F : Nat → σ → σ) (I : σ → Nat → Prop)
  (hb : ∀ s (i : Nat), i < n → I s i → (body (s, (i : Int))).val = some (.next (G i s, ((i + 1 : Nat) : Int))) ∧ I (G i s) (i + 1) ∧ F i s = F (i + 1) (G i s)) (he : ∀ s, (body (s, (n : Int))).val = some (.done s)) (hF : ∀ s, F n s = s) :
  ∀ (k : Nat) (s : σ), k ≤ n → I s k → (Comp.loop body (s, (k : Int))).val = some (F k s) := by
 have key : ∀ (m k : Nat) (s : σ), k + m = n → I s k → (Comp.loop body (s, (k : Int))).val = some (F k s) := by
  intro m
  induction m with
  | zero =>
   intro k s hk hI
   rw [show k = n by omega, Comp.zI, he, hF]; rfl
  | succ m ih =>
   intro k s hk hI
   obtain ⟨h1, h2, h3⟩ := hb s k (by omega) hI
   rw [Comp.zI, h1, h3]
   exact ih (k + 1) (G k s) (by omega) h2
 exact fun k s hk hI => key (n - k) k s (by omega) hI
theorem drop_cons {xs : List α} {k : Nat} {x : α} (h : xs[k]? = some x) : xs.drop k = x :: xs.drop (k + 1) := by
 have := List.getElem?_eq_some_iff.1 h
 rw [List.drop_eq_getElem_cons this.1]; congr 1; exact this.2
theorem wC {r : List Pln} (ts : List (Pln × Pln × Pln)) : ∀ (l : List Pnt), (ts.foldl (crnS r) l).length ≤ l.length + ts.length := by
 induction ts with
 | nil => intro l; simp
 | cons t ts ih =>
  intro l
  have h1 := ih (crnS r l t)
  have h2 := Yn (r := r) (l := l) (t := t)
  simp only [List.foldl_cons, List.length_cons]; omega
theorem Yv {b i h : Bool} {c : Comp (Bool × Unit)} {d : Comp (Bool × Unit)} (hc : b = true → c.val = some (i, ())) (hd : b = true → i = true → d.val = some (h, ())) {A B : Comp β} :
  ((Comp.gd b c (false, ())).bind fun (x5 : Bool × Unit) => (Comp.gd (sel b x5.1 false) d (false, ())).bind fun (x6 : Bool × Unit) => if sel (sel b x5.1 false) (ntB x6.1) false = true then A else B).val = (bif b && (i && !h) then A else B).val := by
 rw [Comp.zA]
 cases b with
 | false =>
  show (Option.bind (Comp.pure (false, ())).val _) = _
  rw [Comp.zB, MW, Comp.zA]
  show (Option.bind (Comp.pure (false, ())).val _) = _
  rw [Comp.zB, MW]; rfl
 | true =>
  have h1 := hc rfl
  show (Option.bind c.val _) = _
  rw [h1, MW, Comp.zA]
  cases i with
  | false =>
   show (Option.bind (Comp.pure (false, ())).val _) = _
   rw [Comp.zB, MW]; rfl
  | true =>
   have h2 := hd rfl rfl
   show (Option.bind d.val _) = _
   rw [h2, MW]
   cases h <;> rfl
theorem Ya {r : List Pln} (hl : r.length ≤ 1000) (hb : ∀ p ∈ r, okB p) : (ym r).val = some (crn r, ()) := by
 have hL := ZG
 have h3 : (tri r).length ≤ 1000000000 := by
  refine Nat.le_trans (Yu r) ?_
  exact Nat.mul_le_mul hl (Nat.mul_le_mul hl hl)
 unfold ym
 -- the innermost walk
 have inner : ∀ (i j : Nat) (p q : Pln), r[i]? = some p → r[j]? = some q → ∀ (k : Nat) (l : List Pnt), k ≤ r.length → l.length + (r.length - k) ≤ 1000000000 → (Comp.loop
               (fun (x_2 : List (Pnt) × Int) =>
                if ltI x_2.2 (lenL r) = true then
                 (idx r (i : Int)).bind fun (x : Pln) =>
                  (idx r (j : Int)).bind fun (x_3 : Pln) =>
                   (idx r x_2.2).bind fun (x_4 : Pln) =>
                    (Go.F.yW x x_3 x_4).bind fun (x : (Pnt) × Bool × Unit) =>
                     (Comp.gd x.2.1 (Go.F.vA r x.1) (false, ())).bind fun (x_5 : Bool × Unit) =>
                      (Comp.gd (sel x.2.1 x_5.1 false) (Go.F.yJ x_2.1 x.1) (false, ())).bind fun (x_6 : Bool × Unit) =>
                       jn (fun (x : List (Pnt)) => Comp.pure (Comp.Step.next (x, addW .i64 x_2.2 1)))
                        fun
                         (j :
                          List (Pnt) →
                           Comp (Comp.Step (List (Pnt) × Int) (List (Pnt)))) =>
                        if sel (sel x.2.1 x_5.1 false) (ntB x_6.1) false = true then
                         (app x_2.1 [x.1]).bind fun (zs : List (Pnt)) => j zs
                        else j x_2.1
                else Comp.pure (Comp.Step.done x_2.1)) (l, (k : Int))).val = some ((r.drop k).foldl (fun l s => crnS r l (p, q, s)) l) := by
  intro i j p q hp hq
  refine gN r.length (fun k l => match r[k]? with | some s => crnS r l (p, q, s) | none => l) (fun k l => (r.drop k).foldl (fun l s => crnS r l (p, q, s)) l) (fun l k => l.length + (r.length - k) ≤ 1000000000)
   (fun l k hk hI => ?_) (fun l => by rw [if_neg (by rw [ltI_t, zC]; simp), Comp.zB]) (fun l => by rw [List.drop_length]; rfl)
  obtain ⟨s, hs⟩ := zO (xs := r) (k := k) hk
  have hlen := Yn (r := r) (l := l) (t := (p, q, s))
  refine ⟨?_, by rw [hs]; show (crnS r l (p, q, s)).length + _ ≤ _; omega, by rw [drop_cons hs, hs]; rfl⟩
  rw [hs]
  simp only
  rw [if_pos (by rw [ltI_t, zC]; show (k : Int) < _; omega), Comp.zA, zH hp, MW, Comp.zA, zH hq, MW, Comp.zA, zH hs, MW, Comp.zA,
   pf (hb p (List.mem_of_getElem? hp)) (hb q (List.mem_of_getElem? hq)) (hb s (List.mem_of_getElem? hs)), MW]
  let A0 : Pnt → Comp (Comp.Step (List Pnt × Int) (List Pnt)) := fun x => (app l [x]).bind fun zs => Comp.pure (.next (zs, addW .i64 (k : Int) 1))
  let B0 : Comp (Comp.Step (List Pnt × Int) (List Pnt)) := Comp.pure (.next (l, addW .i64 (k : Int) 1))
  cases hm : mt p q s with
  | none =>
   have hcr : crnS r l (p, q, s) = l := by unfold crnS; rw [hm]
   rw [hcr]
   refine (Yv (b := false) (i := false) (h := false) (fun h => nomatch h) (fun h => nomatch h) (A := A0 (0, 0, 0, 0, ())) (B := B0)).trans ?_
   show B0.val = _
   rw [← zL (show k < 9223372036854775807 by omega)]
   exact Comp.zB _
  | some x =>
   have hcr : crnS r l (p, q, s) = if x ∈ l then l else bif ins r x then l ++ [x] else l := by unfold crnS; rw [hm]
   refine (Yv (b := true) (i := ins r x) (h := decide (x ∈ l)) (fun _ => D8 (by omega)) (fun _ _ => qu (by omega)) (A := A0 x) (B := B0)).trans ?_
   rw [hcr, ← zL (show k < 9223372036854775807 by omega)]
   by_cases hx : x ∈ l
   ·rw [decide_eq_true hx, if_pos hx]
    cases ins r x <;> exact Comp.zB _
   ·rw [decide_eq_false hx, if_neg hx]
    cases ins r x with
    | false => exact Comp.zB _
    | true =>
     show (A0 x).val = _
     show ((app l [x]).bind fun zs => (Comp.pure (Comp.Step.next (zs, addW .i64 (k : Int) 1)) : Comp (Comp.Step (List Pnt × Int) (List Pnt)))).val = _
     rw [Comp.zA, zr (by simp only [Mc]; unfold LIM; omega), MW, Comp.zB]
     rfl
 have mid : ∀ (i : Nat) (p : Pln), r[i]? = some p → ∀ (k : Nat) (l : List Pnt), k ≤ r.length → l.length + (prs (r.drop k)).length ≤ 1000000000 → (Comp.loop
          (fun (x_1 : List (Pnt) × Int) =>
           if ltI x_1.2 (lenL r) = true then
            (Comp.loop
               (fun (x_2 : List (Pnt) × Int) =>
                if ltI x_2.2 (lenL r) = true then
                 (idx r (i : Int)).bind fun (x : Pln) =>
                  (idx r x_1.2).bind fun (x_3 : Pln) =>
                   (idx r x_2.2).bind fun (x_4 : Pln) =>
                    (Go.F.yW x x_3 x_4).bind fun (x : (Pnt) × Bool × Unit) =>
                     (Comp.gd x.2.1 (Go.F.vA r x.1) (false, ())).bind fun (x_5 : Bool × Unit) =>
                      (Comp.gd (sel x.2.1 x_5.1 false) (Go.F.yJ x_2.1 x.1) (false, ())).bind fun (x_6 : Bool × Unit) =>
                       jn (fun (x : List (Pnt)) => Comp.pure (Comp.Step.next (x, addW .i64 x_2.2 1)))
                        fun
                         (j :
                          List (Pnt) →
                           Comp (Comp.Step (List (Pnt) × Int) (List (Pnt)))) =>
                        if sel (sel x.2.1 x_5.1 false) (ntB x_6.1) false = true then
                         (app x_2.1 [x.1]).bind fun (zs : List (Pnt)) => j zs
                        else j x_2.1
                else Comp.pure (Comp.Step.done x_2.1))
               (x_1.1, addW .i64 x_1.2 1)).bind
             fun (x : List (Pnt)) => Comp.pure (Comp.Step.next (x, addW .i64 x_1.2 1))
           else Comp.pure (Comp.Step.done x_1.1)) (l, (k : Int))).val = some ((prs (r.drop k)).foldl (fun l t => crnS r l (p, t)) l) := by
  intro i p hp
  refine gN r.length (fun k l => match r[k]? with | some q => (r.drop (k + 1)).foldl (fun l s => crnS r l (p, q, s)) l | none => l) (fun k l => (prs (r.drop k)).foldl (fun l t => crnS r l (p, t)) l) (fun l k => l.length + (prs (r.drop k)).length ≤ 1000000000)
   (fun l k hk hI => ?_) (fun l => by rw [if_neg (by rw [ltI_t, zC]; simp), Comp.zB]) (fun l => by rw [List.drop_length]; rfl)
  obtain ⟨q, hq⟩ := zO (xs := r) (k := k) hk
  have hpl : (prs (r.drop k)).length = (r.length - (k + 1)) + (prs (r.drop (k + 1))).length := by rw [drop_cons hq, prs, MZ, List.length_map, List.length_drop]
  have hfl : ((r.drop (k + 1)).foldl (fun l s => crnS r l (p, q, s)) l).length ≤ l.length + (r.length - (k + 1)) := by
   have := wC (r := r) ((r.drop (k + 1)).map fun s => (p, q, s)) l
   rw [List.foldl_map, List.length_map, List.length_drop] at this
   exact this
  refine ⟨?_, by rw [hq]; show ((r.drop (k + 1)).foldl (fun l s => crnS r l (p, q, s)) l).length + _ ≤ _; omega, by rw [drop_cons hq, hq, prs, List.foldl_append, List.foldl_map]⟩
  rw [hq]
  simp only
  rw [if_pos (by rw [ltI_t, zC]; show (k : Int) < _; omega), Comp.zA]
  have h4 := inner i k p q hp hq (k + 1) l (by omega) (by omega)
  rw [← zL (show k < 9223372036854775807 by omega)] at h4
  refine (congrArg (fun o => Option.bind o _) h4).trans ?_
  rw [MW, Comp.zB, zL (show k < 9223372036854775807 by omega)]
 have outer : ∀ (k : Nat) (l : List Pnt), k ≤ r.length → l.length + (tri (r.drop k)).length ≤ 1000000000 → (Comp.loop
     (fun (x : List (Pnt) × Int) =>
      if ltI x.2 (lenL r) = true then
       (Comp.loop
          (fun (x_1 : List (Pnt) × Int) =>
           if ltI x_1.2 (lenL r) = true then
            (Comp.loop
               (fun (x_2 : List (Pnt) × Int) =>
                if ltI x_2.2 (lenL r) = true then
                 (idx r x.2).bind fun (x : Pln) =>
                  (idx r x_1.2).bind fun (x_3 : Pln) =>
                   (idx r x_2.2).bind fun (x_4 : Pln) =>
                    (Go.F.yW x x_3 x_4).bind fun (x : (Pnt) × Bool × Unit) =>
                     (Comp.gd x.2.1 (Go.F.vA r x.1) (false, ())).bind fun (x_5 : Bool × Unit) =>
                      (Comp.gd (sel x.2.1 x_5.1 false) (Go.F.yJ x_2.1 x.1) (false, ())).bind fun (x_6 : Bool × Unit) =>
                       jn (fun (x : List (Pnt)) => Comp.pure (Comp.Step.next (x, addW .i64 x_2.2 1)))
                        fun
                         (j :
                          List (Pnt) →
                           Comp (Comp.Step (List (Pnt) × Int) (List (Pnt)))) =>
                        if sel (sel x.2.1 x_5.1 false) (ntB x_6.1) false = true then
                         (app x_2.1 [x.1]).bind fun (zs : List (Pnt)) => j zs
                        else j x_2.1
                else Comp.pure (Comp.Step.done x_2.1))
               (x_1.1, addW .i64 x_1.2 1)).bind
             fun (x : List (Pnt)) => Comp.pure (Comp.Step.next (x, addW .i64 x_1.2 1))
           else Comp.pure (Comp.Step.done x_1.1))
          (x.1, addW .i64 x.2 1)).bind
        fun (x_1 : List (Pnt)) => Comp.pure (Comp.Step.next (x_1, addW .i64 x.2 1))
      else Comp.pure (Comp.Step.done x.1)) (l, (k : Int))).val = some ((tri (r.drop k)).foldl (crnS r) l) := by
  refine gN r.length (fun k l => match r[k]? with | some p => (prs (r.drop (k + 1))).foldl (fun l t => crnS r l (p, t)) l | none => l) (fun k l => (tri (r.drop k)).foldl (crnS r) l) (fun l k => l.length + (tri (r.drop k)).length ≤ 1000000000)
   (fun l k hk hI => ?_) (fun l => by rw [if_neg (by rw [ltI_t, zC]; simp), Comp.zB]) (fun l => by rw [List.drop_length]; rfl)
  obtain ⟨p, hp⟩ := zO (xs := r) (k := k) hk
  have hpl : (tri (r.drop k)).length = (prs (r.drop (k + 1))).length + (tri (r.drop (k + 1))).length := by rw [drop_cons hp, tri, MZ, List.length_map]
  have hfl : ((prs (r.drop (k + 1))).foldl (fun l t => crnS r l (p, t)) l).length ≤ l.length + (prs (r.drop (k + 1))).length := by
   have := wC (r := r) ((prs (r.drop (k + 1))).map fun t => (p, t)) l
   rw [List.foldl_map, List.length_map] at this
   exact this
  refine ⟨?_, by rw [hp]; show ((prs (r.drop (k + 1))).foldl (fun l t => crnS r l (p, t)) l).length + _ ≤ _; omega, by rw [drop_cons hp, hp, tri, List.foldl_append, List.foldl_map]⟩
  rw [hp]
  simp only
  rw [if_pos (by rw [ltI_t, zC]; show (k : Int) < _; omega), Comp.zA]
  have h4 := mid k p hp (k + 1) l (by omega) (by omega)
  rw [← zL (show k < 9223372036854775807 by omega)] at h4
  refine (congrArg (fun o => Option.bind o _) h4).trans ?_
  rw [MW, Comp.zB, zL (show k < 9223372036854775807 by omega)]
 have h1 := outer 0 [] (Nat.zero_le _) (by simpa using h3)
 rw [Comp.zA]
 refine (congrArg (fun o => Option.bind o _) h1).trans ?_
 rw [MW]
 exact Comp.zB _
theorem Kk {r : List Pln} (hl : r.length ≤ 1000) (hb : ∀ p ∈ r, okB p) : (vX r).val = some (full r, ()) := by
 have hL := ZG
 have h3 : (crn r).length ≤ 1000000000 := by
  refine Nat.le_trans (uO r) (Nat.le_trans (Yu r) ?_)
  exact Nat.mul_le_mul hl (Nat.mul_le_mul hl hl)
 unfold vX
 rw [Comp.zA, Ya hl hb, MW]
 have inner : ∀ (i : Nat) (p : Pln), r[i]? = some p → (Comp.loop
           (fun (x_1 : Bool × Int) =>
            if ltI x_1.2 (lenL (crn r)) = true then
             (Comp.gd (ntB x_1.1) (idx r (i : Int)) ((0, 0, 0, ()), 0, ())).bind fun (x : Pln) =>
              (Comp.gd (ntB x_1.1) (idx (crn r) x_1.2) (0, 0, 0, 0, ())).bind fun (x_2 : Pnt) =>
               (Comp.gd (ntB x_1.1) (Go.F.zY x x_2) (0, ())).bind fun (x : Int × Unit) =>
                Comp.pure (Comp.Step.next (sel x_1.1 true (gtI x.1 0), addW .i64 x_1.2 1))
            else Comp.pure (Comp.Step.done x_1.1))
           (false, ((0 : Nat) : Int))).val = some ((crn r).any fun x => decide (0 < rm p x)) := by
  intro i p hp
  have h5 := gN (crn r).length (fun k b => match (crn r)[k]? with | some x => b || decide (0 < rm p x) | none => b) (fun k b => b || ((crn r).drop k).any fun x => decide (0 < rm p x)) (fun _ _ => True)
   (body := (fun (x_1 : Bool × Int) =>
            if ltI x_1.2 (lenL (crn r)) = true then
             (Comp.gd (ntB x_1.1) (idx r (i : Int)) ((0, 0, 0, ()), 0, ())).bind fun (x : Pln) =>
              (Comp.gd (ntB x_1.1) (idx (crn r) x_1.2) (0, 0, 0, 0, ())).bind fun (x_2 : Pnt) =>
               (Comp.gd (ntB x_1.1) (Go.F.zY x x_2) (0, ())).bind fun (x : Int × Unit) =>
                Comp.pure (Comp.Step.next (sel x_1.1 true (gtI x.1 0), addW .i64 x_1.2 1))
            else Comp.pure (Comp.Step.done x_1.1)))
   (fun b k hk _ => by
    obtain ⟨x, hx⟩ := zO (xs := crn r) (k := k) hk
    refine ⟨?_, trivial, by rw [drop_cons hx, hx, List.any_cons, Bool.or_assoc]⟩
    rw [hx]
    simp only
    rw [if_pos (by rw [ltI_t, zC]; show (k : Int) < _; omega), Comp.zA]
    cases b with
    | true =>
     show Option.bind (Comp.pure _).val _ = _
     rw [Comp.zB, MW, Comp.zA]
     show Option.bind (Comp.pure _).val _ = _
     rw [Comp.zB, MW, Comp.zA]
     show Option.bind (Comp.pure _).val _ = _
     rw [Comp.zB, MW, Comp.zB, zL (by omega)]
     rfl
    | false =>
     show Option.bind (idx r (i : Int)).val _ = _
     rw [zH hp, MW, Comp.zA]
     show Option.bind (idx (crn r) (k : Int)).val _ = _
     rw [zH hx, MW, Comp.zA]
     show Option.bind (zY p x).val _ = _
     rw [Y9, MW, Comp.zB, zL (by omega)]
     rfl)
   (fun b => by rw [if_neg (by rw [ltI_t, zC]; simp), Comp.zB]) (fun b => by rw [List.drop_length]; simp) 0 false (Nat.zero_le _) trivial
  simpa using h5
 have h1 := j4 r (fun p => (crn r).any fun x => decide (0 < rm p x)) (c := (Sum.inr false : Unit ⊕ Bool)) (d := Sum.inl ())
  (body := (fun (x : Int) =>
       if ltI x (lenL r) = true then
        (Comp.loop
           (fun (x_1 : Bool × Int) =>
            if ltI x_1.2 (lenL (crn r)) = true then
             (Comp.gd (ntB x_1.1) (idx r x) ((0, 0, 0, ()), 0, ())).bind fun (x : Pln) =>
              (Comp.gd (ntB x_1.1) (idx (crn r) x_1.2) (0, 0, 0, 0, ())).bind fun (x_2 : Pnt) =>
               (Comp.gd (ntB x_1.1) (Go.F.zY x x_2) (0, ())).bind fun (x : Int × Unit) =>
                Comp.pure (Comp.Step.next (sel x_1.1 true (gtI x.1 0), addW .i64 x_1.2 1))
            else Comp.pure (Comp.Step.done x_1.1))
           (false, 0)).bind
         fun (x_1 : Bool) => if ntB x_1 = true then Comp.pure (Comp.Step.done (Sum.inr false)) else Comp.pure (Comp.Step.next (addW .i64 x 1))
       else Comp.pure (Comp.Step.done (Sum.inl ()))))
  (fun i p hp => by
   have hlt := zG hp
   rw [if_pos (by rw [ltI_t, zC]; omega), Comp.zA]
   refine (congrArg (fun o => Option.bind o _) (inner i p hp)).trans ?_
   rw [MW, zL (by omega)]
   cases (crn r).any fun x => decide (0 < rm p x) <;> exact Comp.zB _)
  (by rw [if_neg (by rw [ltI_t, zC]; omega), Comp.zB])
 rw [Comp.zA]
 refine (congrArg (fun o => Option.bind o _) h1).trans ?_
 rw [MW]
 unfold full
 cases r.all fun p => (crn r).any fun x => decide (0 < rm p x) <;> exact Comp.zB _
theorem Js {c : List Pln} (h : c.length ≤ 1000) : (vO c).val = some (c ++ bx0, ()) := by
 unfold vO
 have h1 : (zo (-24, -24, -24, ()) (24, 24, 24, ())).val = some (bx0, ()) := by
  unfold zo
  rw [Comp.zB]
  rfl
 rw [Comp.zA, zr (by simp; unfold LIM; omega), MW, Comp.zA, h1, MW, Comp.zA, zr (by simp [bx0]; unfold LIM; omega), MW, Comp.zB]
 simp
theorem kQ (c : List Pln) : (ze c).val = some (ful c, ()) := by
 unfold ze
 rw [jn_eq, Comp.zA, gW, MW]
 unfold ful
 by_cases h : chk c = 0
 ·obtain ⟨h1, h2⟩ := chk_B h
  rw [if_pos (by rw [eqI_t]; exact h), Comp.zA, Js (by omega), MW, Comp.zA,
   Kk (by simp [bx0]; omega) (fun p hp => (List.mem_append.1 hp).elim (h2 p) (bx0_B p)), MW, Comp.zB, decide_eq_true h, Bool.true_and]
 ·rw [if_neg (by rw [eqI_t]; exact h), Comp.zB, decide_eq_false h, Bool.false_and]
theorem jW (a b : List Pln) : (zW a b).val = some (apa a b, ()) := by
 unfold zW
 rw [Comp.zA, gW, MW, Comp.zA]
 unfold apa
 by_cases ha : chk a = 0
 ·obtain ⟨h1, h2⟩ := chk_B ha
  have e1 : neI (chk a) 0 = false := by unfold neI; simp [ha]
  show Option.bind (Comp.gd (ntB (neI (chk a) 0)) _ _).val _ = _
  rw [e1]
  show Option.bind (zU b).val _ = _
  rw [gW, MW]
  by_cases hb : chk b = 0
  ·obtain ⟨h3, h4⟩ := chk_B hb
   have e2 : neI (chk b) 0 = false := by unfold neI; simp [hb]
   rw [if_neg (by show ¬ sel false true (neI (chk b) 0) = true; rw [e2]; simp [sel]), Comp.zA, zr (by simp; unfold LIM; omega), MW, Comp.zA, zr (by simp; unfold LIM; omega), MW, Comp.zA]
   simp only [List.nil_append]
   rw [Js (by simp; omega), MW, Comp.zA,
    Kk (by simp [bx0]; omega) (fun p hp => (List.mem_append.1 hp).elim (fun hp => (List.mem_append.1 hp).elim (h2 p) (h4 p)) (bx0_B p)), MW, Comp.zB, decide_eq_true ha, decide_eq_true hb]
   rfl
  ·have e2 : neI (chk b) 0 = true := by unfold neI; simp [hb]
   rw [if_pos (by show sel false true (neI (chk b) 0) = true; rw [e2]; rfl), Comp.zB, decide_eq_true ha, decide_eq_false hb]
   rfl
 ·have e1 : neI (chk a) 0 = true := by unfold neI; simp [ha]
  show Option.bind (Comp.gd (ntB (neI (chk a) 0)) _ _).val _ = _
  rw [e1]
  show Option.bind (Comp.pure _).val _ = _
  rw [Comp.zB, MW, if_pos (by rfl), Comp.zB, decide_eq_false ha]
  rfl
end Go.Geo
end
section
namespace Go.Geo
open Go Go.Eng Go.Lift Go.Den Go.F
variable {α β γ δ ε σ τ : Type}
theorem Za (a b : V3) : cr b a = sc (cr a b) (-1) := by
 unfold cr sc
 simp only [Int.mul_neg, Int.mul_one, Prod.mk.injEq, and_true]
 refine ⟨?_, ?_, ?_⟩
 ·rw [Int.mul_comm b.2.1, Int.mul_comm b.2.2.1]; omega
 ·rw [Int.mul_comm b.2.2.1, Int.mul_comm b.1]; omega
 ·rw [Int.mul_comm b.1, Int.mul_comm b.2.1]; omega
theorem dt_sc (a b : V3) (n : Int) : dt a (sc b n) = dt a b * n := by
 unfold dt sc
 simp only [← Int.mul_assoc, ← Int.add_mul]
theorem sc_sc (a : V3) (m n : Int) : sc (sc a m) n = sc (sc a n) m := by
 unfold sc
 simp only [Prod.mk.injEq, and_true]
 refine ⟨?_, ?_, ?_⟩ <;> rw [Int.mul_right_comm]
theorem ad_sc (a b : V3) (n : Int) : ad (sc a n) (sc b n) = sc (ad a b) n := by
 unfold ad sc
 simp only [Int.add_mul]
theorem Ge (a b : V3) : ad a b = ad b a := by
 unfold ad
 simp only [Prod.mk.injEq, and_true]
 refine ⟨?_, ?_, ?_⟩ <;> omega
theorem CN (a b c : V3) : ad (ad a b) c = ad (ad a c) b := by
 unfold ad
 simp only [Prod.mk.injEq, and_true]
 refine ⟨?_, ?_, ?_⟩ <;> omega
theorem MH (p q r : Pln) : det p r q = - det p q r := by
 unfold det
 rw [Za q.1 r.1, dt_sc]; omega
theorem MI (p q r : Pln) : det q p r = - det p q r := by
 rw [uN q p r, uN p q r, Za p.1 q.1, dt_sc]; omega
theorem Ip (p q r : Pln) : num p r q = sc (num p q r) (-1) := by
 unfold num
 rw [Za q.1 r.1, Za p.1 q.1, Za r.1 p.1, sc_sc (cr q.1 r.1), sc_sc (cr p.1 q.1), sc_sc (cr r.1 p.1), ad_sc, ad_sc, CN]
theorem Iq (p q r : Pln) : num q p r = sc (num p q r) (-1) := by
 unfold num
 rw [Za q.1 r.1, Za p.1 q.1, Za r.1 p.1, sc_sc (cr q.1 r.1), sc_sc (cr p.1 q.1), sc_sc (cr r.1 p.1), ad_sc, ad_sc, Ge (sc (cr r.1 p.1) q.2.1)]
theorem Ex {v : V3} {w : Int} (h : w ≠ 0) : mkP (sc v (-1)) (-w) = mkP v w := by
 have hg : gcd4 (sc v (-1)) (-w) = gcd4 v w := by
  unfold gcd4 sc
  simp only [Int.natAbs_mul, Int.natAbs_neg]
  simp
 unfold mkP
 simp only [hg]
 unfold sc
 simp only [Int.mul_neg, Int.mul_one, Int.neg_neg]
 by_cases h1 : w < 0
 ·rw [if_neg (by omega), if_pos h1]
 ·rw [if_pos (by omega), if_neg h1]
theorem C0 {p q r p' q' r' : Pln} (hd : det p' q' r' = - det p q r) (hn : num p' q' r' = sc (num p q r) (-1)) : mt p' q' r' = mt p q r := by
 unfold mt
 rw [hd, hn]
 by_cases h : det p q r = 0
 ·rw [if_pos (by omega), if_pos h]
 ·rw [if_neg (by omega), if_neg h, Ex h]
def mtL : List Pln → Option Pnt
 | [p, q, r] => mt p q r
 | _ => none
theorem AZ {a b c d : α} (h : [a, b].Perm [c, d]) : (a = c ∧ b = d) ∨ (a = d ∧ b = c) := by
 have hc : c ∈ [a, b] := h.symm.subset (by simp)
 simp only [List.mem_cons, List.not_mem_nil, or_false] at hc
 rcases hc with rfl | rfl
 ·have := List.perm_singleton.1 h.cons_inv
  exact .inl ⟨rfl, by simpa using this⟩
 ·have := List.perm_singleton.1 ((List.Perm.swap a c []).trans h).cons_inv
  exact .inr ⟨by simpa using this, rfl⟩
theorem Bb {l l' : List Pln} (h : l.Perm l') : mtL l = mtL l' := by
 induction h with
 | nil => rfl
 | cons x h ih =>
  rename_i l1 l2
  have hlen := h.length_eq
  match l1, l2, hlen, h with
  | [a, b], [c, d], _, h =>
   rcases AZ h with ⟨rfl, rfl⟩ | ⟨rfl, rfl⟩
   ·rfl
   ·exact C0 (MH _ _ _) (Ip _ _ _)
  | [], [], _, _ => rfl
  | [_], [_], _, _ => rfl
  | _ :: _ :: _ :: _, _ :: _ :: _ :: _, _, _ => rfl
 | swap x y l =>
  match l with
  | [z] => exact C0 (MI _ _ _) (Iq _ _ _)
  | [] => rfl
  | _ :: _ :: _ => rfl
 | trans _ _ ih1 ih2 => exact ih1.trans ih2
theorem p9 {l : List α} {a b : α} : (a, b) ∈ prs l ↔ [a, b].Sublist l := by
 induction l with
 | nil => simp [prs]
 | cons x l ih =>
  simp only [prs, List.mem_append, List.mem_map, Prod.mk.injEq]
  constructor
  ·rintro (⟨s, h1, rfl, rfl⟩ | h)
   ·exact List.Sublist.cons_cons _ (List.singleton_sublist.2 h1)
   ·exact (ih.1 h).cons _
  ·intro h
   cases h with
   | cons _ h => exact .inr (ih.2 h)
   | cons_cons _ h => exact .inl ⟨b, List.singleton_sublist.1 h, rfl, rfl⟩
theorem pA {l : List α} {a b c : α} : (a, b, c) ∈ tri l ↔ [a, b, c].Sublist l := by
 induction l with
 | nil => simp [tri]
 | cons x l ih =>
  simp only [tri, List.mem_append, List.mem_map, Prod.mk.injEq]
  constructor
  ·rintro (⟨⟨s, t⟩, h1, rfl, h2⟩ | h)
   ·cases h2
    exact List.Sublist.cons_cons _ (p9.1 h1)
   ·exact (ih.1 h).cons _
  ·intro h
   cases h with
   | cons _ h => exact .inr (ih.2 h)
   | cons_cons _ h => exact .inl ⟨(b, c), p9.2 h, rfl, rfl⟩
theorem GM {r : List Pln} {x : Pnt} : x ∈ crn r ↔ ins r x = true ∧ ∃ t ∈ tri r, mt t.1 t.2.1 t.2.2 = some x := by
 have key : ∀ (ts : List (Pln × Pln × Pln)) (l : List Pnt), x ∈ ts.foldl (crnS r) l ↔ x ∈ l ∨ (ins r x = true ∧ ∃ t ∈ ts, mt t.1 t.2.1 t.2.2 = some x) := by
  intro ts
  induction ts with
  | nil => intro l; simp
  | cons t ts ih =>
   intro l
   rw [List.foldl_cons, ih]
   have hs : x ∈ crnS r l t ↔ x ∈ l ∨ (ins r x = true ∧ mt t.1 t.2.1 t.2.2 = some x) := by
    unfold crnS
    cases hm : mt t.1 t.2.1 t.2.2 with
    | none => simp
    | some y =>
     simp only [Option.some.injEq]
     by_cases hy : y ∈ l
     ·rw [if_pos hy]
      constructor
      ·exact .inl
      ·rintro (h | ⟨_, rfl⟩)
       ·exact h
       ·exact hy
     ·rw [if_neg hy]
      cases hi : ins r y with
      | false =>
       rw [cond_false]
       constructor
       ·exact .inl
       ·rintro (h | ⟨h1, rfl⟩)
        ·exact h
        ·rw [hi] at h1; cases h1
      | true =>
       rw [cond_true, List.mem_append, List.mem_singleton]
       constructor
       ·rintro (h | rfl)
        ·exact .inl h
        ·exact .inr ⟨hi, rfl⟩
       ·rintro (h | ⟨_, rfl⟩)
        ·exact .inl h
        ·exact .inr rfl
   rw [hs]
   simp only [List.mem_cons, exists_eq_or_imp]
   constructor
   ·rintro ((h | ⟨h1, h2⟩) | ⟨h1, h2⟩)
    ·exact .inl h
    ·exact .inr ⟨h1, .inl h2⟩
    ·exact .inr ⟨h1, .inr h2⟩
   ·rintro (h | ⟨h1, h2 | h2⟩)
    ·exact .inl (.inl h)
    ·exact .inl (.inr ⟨h1, h2⟩)
    ·exact .inr ⟨h1, h2⟩
 unfold crn
 rw [key]
 simp
theorem Ab {r r' : List α} (h : r.Perm r') : ∀ {s : List α}, s.Sublist r → ∃ s' : List α, s'.Perm s ∧ s'.Sublist r' := by
 induction h with
 | nil => exact fun {s} hs => ⟨s, .refl _, hs⟩
 | cons x h ih =>
  intro s hs
  cases hs with
  | cons _ hs =>
   obtain ⟨s', h1, h2⟩ := ih hs
   exact ⟨s', h1, h2.cons _⟩
  | cons_cons _ hs =>
   obtain ⟨s', h1, h2⟩ := ih hs
   exact ⟨x :: s', h1.cons _, h2.cons_cons _⟩
 | swap x y l =>
  intro s hs
  cases hs with
  | cons _ hs =>
   cases hs with
   | cons _ hs => exact ⟨_, .refl _, (hs.cons _).cons _⟩
   | cons_cons _ hs => exact ⟨_, .refl _, (hs.cons _).cons_cons _⟩
  | cons_cons _ hs =>
   cases hs with
   | cons _ hs => exact ⟨_, .refl _, (hs.cons_cons _).cons _⟩
   | cons_cons _ hs => exact ⟨_, .swap _ _ _, (hs.cons_cons _).cons_cons _⟩
 | trans _ _ ih1 ih2 =>
  intro s hs
  obtain ⟨s1, h1, h2⟩ := ih1 hs
  obtain ⟨s2, h3, h4⟩ := ih2 h2
  exact ⟨s2, h3.trans h1, h4⟩
theorem B6 {r r' : List Pln} (h : r.Perm r') {x : Pnt} (hx : x ∈ crn r) : x ∈ crn r' := by
 rw [GM] at hx ⊢
 obtain ⟨h1, ⟨a, b, c⟩, h2, h3⟩ := hx
 refine ⟨?_, ?_⟩
 ·unfold ins at h1 ⊢
  rw [List.all_eq_true] at h1 ⊢
  exact fun p hp => h1 p (h.symm.subset hp)
 ·obtain ⟨l, g1, g2⟩ := Ab h (pA.1 h2)
  have hlen := g1.length_eq
  match l, hlen, g1, g2 with
  | [a', b', c'], _, g1, g2 => exact ⟨(a', b', c'), pA.2 g2, (Bb g1).trans h3⟩
theorem ml {r r' : List Pln} (h : r.Perm r') : full r = full r' := by
 have key : ∀ {r r' : List Pln}, r.Perm r' → full r = true → full r' = true := by
  intro r r' h hf
  unfold full at hf ⊢
  rw [List.all_eq_true] at hf ⊢
  intro p hp
  have := hf p (h.symm.subset hp)
  rw [List.any_eq_true] at this ⊢
  obtain ⟨x, h1, h2⟩ := this
  exact ⟨x, B6 h h1, h2⟩
 rw [Bool.eq_iff_iff]
 exact ⟨key h, key h.symm⟩
theorem CJ (a b : List Pln) : apa a b = apa b a := by
 unfold apa
 rw [Bool.and_comm, ml (List.Perm.append_right bx0 (List.perm_append_comm (l₁ := a) (l₂ := b)))]
end Go.Geo
end
section
namespace Go.Geo
open Go Go.Eng Go.Lift Go.Den Go.F
variable {α β γ δ ε σ τ : Type}
abbrev SS (l : List Pln) : Prop := l.Pairwise LtP
abbrev SL (l : List Pln) : Prop := l.Pairwise fun p q => ¬ LtP q p
theorem SS.eq {l m : List Pln} (hl : SS l) (hm : SS m) (h : ∀ p, p ∈ l ↔ p ∈ m) : l = m := by
 induction l generalizing m with
 | nil =>
  cases m with
  | nil => rfl
  | cons q m => have := (h q).2 (by simp); cases this
 | cons p l ih =>
  cases m with
  | nil => have := (h p).1 (by simp); cases this
  | cons q m =>
   rw [SS, List.pairwise_cons] at hl hm
   have hpq : p = q := by
    have h1 := (h p).1 (by simp)
    have h2 := (h q).2 (by simp)
    rcases List.mem_cons.1 h1 with rfl | h1
    ·rfl
    ·rcases List.mem_cons.1 h2 with rfl | h2
     ·rfl
     ·exact absurd (hl.1 q h2) fun k => k.asym (hm.1 p h1)
   subst hpq
   congr 1
   refine ih hl.2 hm.2 fun x => ?_
   constructor
   ·intro hx
    have := (h x).1 (List.mem_cons_of_mem _ hx)
    rcases List.mem_cons.1 this with rfl | h1
    ·exact absurd (hl.1 x hx) LtP.irr
    ·exact h1
   ·intro hx
    have := (h x).2 (List.mem_cons_of_mem _ hx)
    rcases List.mem_cons.1 this with rfl | h1
    ·exact absurd (hm.1 x hx) LtP.irr
    ·exact h1
theorem J6 {p x : Pln} : ∀ {l : List Pln}, x ∈ insP p l ↔ x = p ∨ x ∈ l
 | [] => by simp [insP]
 | q :: l => by
  unfold insP
  split
  ·rw [List.mem_cons, J6, List.mem_cons]
   constructor
   ·rintro (h | h | h)
    ·exact .inr (.inl h)
    ·exact .inl h
    ·exact .inr (.inr h)
   ·rintro (h | h | h)
    ·exact .inr (.inl h)
    ·exact .inl h
    ·exact .inr (.inr h)
  ·rw [List.mem_cons]
theorem mf {p : Pln} : ∀ {l : List Pln}, SL l → SL (insP p l)
 | [], _ => by simp [insP]
 | q :: l, h => by
  rw [SL, List.pairwise_cons] at h
  unfold insP
  split
  ·rename_i hc
   rw [SL, List.pairwise_cons]
   refine ⟨fun x hx => ?_, mf h.2⟩
   rcases J6.1 hx with rfl | hx
   ·exact fun k => k.asym (Xi.1 hc)
   ·exact h.1 x hx
  ·rename_i hc
   rw [SL, List.pairwise_cons]
   refine ⟨fun x hx => ?_, by rw [List.pairwise_cons]; exact h⟩
   have hpq : ¬ LtP q p := fun k => hc (Xi.2 k)
   rcases List.mem_cons.1 hx with rfl | hx2
   ·exact hpq
   ·intro k
    have hxq := h.1 x hx2
    rcases LtP.tri p q with h1 | h1 | h1
    ·exact hxq (k.trans h1)
    ·exact hxq (h1 ▸ k)
    ·exact hpq h1
theorem Jk {x : Pln} : ∀ {l : List Pln}, x ∈ srtP l ↔ x ∈ l
 | [] => by simp [srtP]
 | p :: l => by unfold srtP; rw [J6, Jk, List.mem_cons]
theorem pT : ∀ {l : List Pln}, SL (srtP l)
 | [] => by simp [srtP]
 | p :: l => mf pT
theorem tx {p : Pln} : ∀ {l : List Pln}, (insP p l).length = l.length + 1
 | [] => rfl
 | q :: l => by unfold insP; split <;> simp [tx]
theorem Jl : ∀ {l : List Pln}, (srtP l).length = l.length
 | [] => rfl
 | p :: l => by unfold srtP; rw [tx, Jl]; rfl
theorem wD : ∀ {l : List Pln} {p : Pln}, SL (p :: l) → SS (p :: cpcG p l) ∧ ∀ x, x ∈ p :: cpcG p l ↔ x ∈ p :: l
 | [], p, _ => ⟨by simp [cpcG], fun x => by simp [cpcG]⟩
 | q :: l, p, h => by
  rw [SL, List.pairwise_cons] at h
  obtain ⟨h1, h2⟩ := wD h.2
  unfold cpcG
  split
  ·rename_i e
   subst e
   refine ⟨h1, fun x => ?_⟩
   rw [h2, List.mem_cons (l := q :: l)]
   simp
  ·rename_i e
   refine ⟨?_, fun x => ?_⟩
   ·rw [SS, List.pairwise_cons]
    refine ⟨fun x hx => ?_, h1⟩
    have hpq : LtP p q := by
     rcases LtP.tri p q with k | k | k
     ·exact k
     ·exact absurd k.symm e
     ·exact absurd k (h.1 q (by simp))
    rcases List.mem_cons.1 hx with rfl | hx'
    ·exact hpq
    ·exact hpq.trans ((List.pairwise_cons.1 h1).1 x hx')
   ·rw [List.mem_cons, h2, ← List.mem_cons]
theorem B7 {l : List Pln} (h : SL l) : SS (cpc l) ∧ ∀ x, x ∈ cpc l ↔ x ∈ l := by
 cases l with
 | nil => exact ⟨by simp [cpc], fun x => by simp [cpc]⟩
 | cons p l => exact wD h
def putP (p : Pln) : List Pln → List Pln
 | [] => [p]
 | q :: l => if cmpP q p < 0 then q :: putP p l else if q = p then q :: l else p :: q :: l
theorem Ju {p x : Pln} : ∀ {l : List Pln}, x ∈ putP p l ↔ x = p ∨ x ∈ l
 | [] => by simp [putP]
 | q :: l => by
  unfold putP
  split
  ·rw [List.mem_cons, Ju, List.mem_cons]
   constructor
   ·rintro (h | h | h)
    ·exact .inr (.inl h)
    ·exact .inl h
    ·exact .inr (.inr h)
   ·rintro (h | h | h)
    ·exact .inr (.inl h)
    ·exact .inl h
    ·exact .inr (.inr h)
  ·split
   ·rename_i e; subst e; simp
   ·rw [List.mem_cons]
theorem p8 {p : Pln} : ∀ {l : List Pln}, SS l → SS (putP p l)
 | [], _ => by simp [putP]
 | q :: l, h => by
  rw [SS, List.pairwise_cons] at h
  unfold putP
  split
  ·rename_i hc
   rw [SS, List.pairwise_cons]
   refine ⟨fun x hx => ?_, p8 h.2⟩
   rcases Ju.1 hx with rfl | hx
   ·exact Xi.1 hc
   ·exact h.1 x hx
  ·rename_i hc
   split
   ·rw [SS, List.pairwise_cons]; exact h
   ·rename_i e
    have hpq : LtP p q := by
     rcases LtP.tri p q with k | k | k
     ·exact k
     ·exact absurd k.symm e
     ·exact absurd (Xi.2 k) hc
    rw [SS, List.pairwise_cons]
    refine ⟨fun x hx => ?_, by rw [List.pairwise_cons]; exact h⟩
    rcases List.mem_cons.1 hx with rfl | hx
    ·exact hpq
    ·exact hpq.trans (h.1 x hx)
theorem u9 {p : Pln} : ∀ {l : List Pln}, (putP p l).length ≤ l.length + 1
 | [] => by simp [putP]
 | q :: l => by
  have := u9 (p := p) (l := l)
  unfold putP
  split
  ·simp only [List.length_cons]; omega
  ·split <;> simp
theorem BD (l : List Pln) : l.foldl (fun m p => putP p m) [] = cpc (srtP l) := by
 have key : ∀ (l m : List Pln), SS m → SS (l.foldl (fun m p => putP p m) m) ∧ ∀ x, x ∈ l.foldl (fun m p => putP p m) m ↔ x ∈ l ∨ x ∈ m := by
  intro l
  induction l with
  | nil => intro m hm; exact ⟨hm, fun x => by simp⟩
  | cons p l ih =>
   intro m hm
   obtain ⟨h1, h2⟩ := ih (putP p m) (p8 hm)
   refine ⟨h1, fun x => ?_⟩
   rw [List.foldl_cons, h2, Ju, List.mem_cons]
   constructor
   ·rintro (h | h | h)
    ·exact .inl (.inr h)
    ·exact .inl (.inl h)
    ·exact .inr h
   ·rintro ((h | h) | h)
    ·exact .inr (.inl h)
    ·exact .inl h
    ·exact .inr (.inr h)
 obtain ⟨h1, h2⟩ := key l [] (by simp)
 obtain ⟨h3, h4⟩ := B7 (pT (l := l))
 refine SS.eq h1 h3 fun p => ?_
 rw [h2, h4, Jk]
 simp
theorem nJ (a b : Int) : (jk a b).val = some (if a < b then -1 else if b < a then 1 else 0, ()) := by
 unfold jk
 by_cases h1 : a < b
 ·rw [if_pos (by rw [ltI_t]; exact h1), if_pos h1, Comp.zB]
 ·rw [if_neg (by rw [ltI_t]; exact h1), if_neg h1]
  by_cases h2 : b < a
  ·rw [if_pos (by rw [gtI_t]; exact h2), if_pos h2, Comp.zB]
  ·rw [if_neg (by rw [gtI_t]; exact h2), if_neg h2, Comp.zB]
def cmpL : List (Int × Int) → Int
 | [] => 0
 | x :: l => if x.1 < x.2 then -1 else if x.2 < x.1 then 1 else cmpL l
theorem DL (p q : Pln) : cmpP p q = cmpL [(p.1.1, q.1.1), (p.1.2.1, q.1.2.1), (p.1.2.2.1, q.1.2.2.1), (p.2.1, q.2.1)] := rfl
theorem uP (p q : Pln) : (gi p q).val = some (cmpP p q, ()) := by
 unfold gi
 rw [DL]
 generalize hl : [(p.1.1, q.1.1), (p.1.2.1, q.1.2.1), (p.1.2.2.1, q.1.2.2.1), (p.2.1, q.2.1)] = l
 have hm : [[p.1.1, q.1.1], [p.1.2.1, q.1.2.1], [p.1.2.2.1, q.1.2.2.1], [p.2.1, q.2.1]] = l.map fun x => [x.1, x.2] := by rw [← hl]; rfl
 have hlen : l.length = 4 := by rw [← hl]; rfl
 rw [hm]
 have key : ∀ (ys zs : List (Int × Int)), l = zs ++ ys → (Comp.loop
     (fun (x : Int × Int) =>
      if ltI x.2 (lenL (l.map fun x => [x.1, x.2])) = true then
       (idx (l.map fun x => [x.1, x.2]) x.2).bind fun (x_1 : List Int) =>
        (idx x_1 0).bind fun (x_2 : Int) =>
         (idx x_1 1).bind fun (x_3 : Int) =>
          (Go.F.jk x_2 x_3).bind fun (x_4 : Int × Unit) =>
           if eqI x_4.1 0 = true then Comp.pure (Comp.Step.next (x_4.1, addW .i64 x.2 1)) else Comp.pure (Comp.Step.done x_4.1)
      else Comp.pure (Comp.Step.done x.1)) (0, (zs.length : Int))).val = some (cmpL ys) := by
  intro ys
  induction ys with
  | nil =>
   intro zs hx
   rw [Comp.zI, if_neg (by rw [ltI_t, zC, List.length_map, hx]; simp), Comp.zB]; rfl
  | cons y ys ih =>
   intro zs hx
   have hy : (l.map fun x => [x.1, x.2])[zs.length]? = some [y.1, y.2] := by rw [hx]; simp
   have hlt := zG hy
   rw [List.length_map] at hlt
   have i0 : (idx [y.1, y.2] 0).val = some y.1 := XR rfl
   have i1 : (idx [y.1, y.2] 1).val = some y.2 := XR rfl
   rw [Comp.zI, if_pos (by rw [ltI_t, zC, List.length_map]; show (zs.length : Int) < _; omega), Comp.zA, zH hy, MW, Comp.zA, i0, MW, Comp.zA, i1, MW, Comp.zA, nJ, MW]
   unfold cmpL
   by_cases h1 : y.1 < y.2
   ·rw [if_pos h1, if_neg (by rw [eqI_t]; show ¬ ((-1 : Int) = 0); decide), Comp.zB, if_pos h1]; rfl
   ·rw [if_neg h1]
    by_cases h2 : y.2 < y.1
    ·rw [if_pos h2, if_neg (by rw [eqI_t]; show ¬ ((1 : Int) = 0); decide), Comp.zB, if_neg h1, if_pos h2]; rfl
    ·rw [if_neg h2, if_pos (by rw [eqI_t]), Comp.zB, if_neg h1, if_neg h2, zL (by omega), MW]
     have := ih (zs ++ [y]) (by rw [hx]; simp)
     simpa using this
 rw [Comp.zA]
 refine (congrArg (fun o => Option.bind o _) (key l [] rfl)).trans ?_
 rw [MW, Comp.zB]
end Go.Geo
end
section
namespace Go.Geo
open Go Go.Eng Go.Lift Go.Den Go.F
variable {α β γ δ ε σ τ : Type}
theorem An {l : List Pln} (h : l.length ≤ LIM) : (zd l fun z => gi z.1 z.2.1).val = some (srtP l) := by
 unfold zd sortF
 rw [if_pos ⟨h, fun x y => Comp.yu.1 (uP x y)⟩, Comp.zB]
theorem eqPl (x y : Pln) : adB (adB (eqI x.1.1 y.1.1) (adB (eqI x.1.2.1 y.1.2.1) (eqI x.1.2.2.1 y.1.2.2.1))) (eqI x.2.1 y.2.1) = decide (x = y) := by
 obtain ⟨⟨a, b, c, u⟩, d, v⟩ := x
 obtain ⟨⟨a', b', c', u'⟩, d', v'⟩ := y
 unfold eqI adB
 simp only
 rw [Bool.eq_iff_iff]
 simp [Prod.ext_iff]
def eqPB (x y : Pln) : Bool := adB (adB (eqI x.1.1 y.1.1) (adB (eqI x.1.2.1 y.1.2.1) (eqI x.1.2.2.1 y.1.2.2.1))) (eqI x.2.1 y.2.1)
theorem GB (x y : Pln) : eqPB x y = decide (x = y) := eqPl x y
theorem uQ {l : List Pln} (hl : l.length < 9223372036854775807) : (zg l).val = some (cpc l) := by
 have e : zg l = cpcT eqPB ((0, 0, 0, ()), 0, ()) l := by
  kernel_rfl
 rw [e]
 exact GN GB hl
def onn (p : Pln) (X : List Pnt) : Nat := (X.filter fun x => decide (rm p x = 0)).length
def fac (c : List Pln) : List Pln := c.filter fun p => decide (3 ≤ onn p (crn (c ++ bx0)))
def ln (c : List Pln) : List Pln := bif ful c then cpc (srtP (fac c)) else []
theorem wB {c : List Pln} (h : c.length ≤ 48) : (crn (c ++ bx0)).length ≤ 1000000000 := by
 refine Nat.le_trans (uO _) (Nat.le_trans (Yu _) ?_)
 have : (c ++ bx0).length ≤ 1000 := by simp [bx0]; omega
 exact Nat.mul_le_mul this (Nat.mul_le_mul this this)
theorem rA {c : List Pln} (h : chk c = 0) : (ZD c).val = some (crn (c ++ bx0), ()) := by
 obtain ⟨h1, h2⟩ := chk_B h
 unfold ZD
 rw [Comp.zA, kP _ (by simp), MW]
 simp only [List.all_cons, List.all_nil, Bool.and_true, yk]
 rw [if_neg (by simp [h]), Comp.zA, kB (by simp) (by simp; omega), MW, Comp.zA]
 simp only [List.flatten_cons, List.flatten_nil, List.append_nil]
 rw [Xh (by simp [bx0]; omega) (fun p hp => (List.mem_append.1 hp).elim (h2 p) (bx0_B p)), MW, Comp.zB]
theorem wc {c : List Pln} (h : chk c = 0) : (vk c).val = some (crn (c ++ bx0), ()) := by
 obtain ⟨h1, h2⟩ := chk_B h
 unfold vk
 rw [Comp.zA, gW, MW, if_neg (by rw [neI_t]; simp [h]), Comp.zA, Js (by omega), MW, Comp.zA,
  Ya (by simp [bx0]; omega) (fun p hp => (List.mem_append.1 hp).elim (h2 p) (bx0_B p)), MW, Comp.zB]
theorem mT {p : Pln} {X : List Pnt} (hX : X.length ≤ 1000000000) : (gY p X).val = some (decide (onn p X < 3), ()) := by
 unfold gY
 have h1 := gN (σ := Int) X.length (fun k n => match X[k]? with | some x => if rm p x = 0 then n + 1 else n | none => n) (fun k n => n + (onn p (X.drop k) : Nat)) (fun n k => 0 ≤ n ∧ n ≤ k)
  (body := (fun (x : Int × Int) =>
      if ltI x.2 (lenL X) = true then
       (idx X x.2).bind fun (x_1 : Pnt) =>
        (Go.F.j3 p x_1).bind fun (x_2 : Int × Unit) =>
         jn (fun (x_3 : Int) => Comp.pure (Comp.Step.next (x_3, addW .i64 x.2 1))) fun (j : Int → Comp (Comp.Step (Int × Int) Int)) =>
          if eqI x_2.1 0 = true then j (addW .i64 x.1 1) else j x.1
      else Comp.pure (Comp.Step.done x.1)))
  (fun n k hk hI => by
   obtain ⟨x, hx⟩ := zO (xs := X) (k := k) hk
   refine ⟨?_, ?_, ?_⟩
   ·rw [hx]
    simp only
    rw [if_pos (by rw [ltI_t, zC]; show (k : Int) < _; omega), Comp.zA, zH hx, MW, Comp.zA, Jn, MW, jn_eq]
    by_cases h : rm p x = 0
    ·rw [if_pos (by rw [eqI_t]; exact h), if_pos h, Comp.zB, zL (by omega), yr (by omega)]
    ·rw [if_neg (by rw [eqI_t]; exact h), if_neg h, Comp.zB, zL (by omega)]
   ·rw [hx]
    simp only
    split <;> omega
   ·rw [drop_cons hx, hx]
    unfold onn
    by_cases h : rm p x = 0
    ·simp only [List.filter_cons, h, decide_true, if_true, List.length_cons]; omega
    ·simp [List.filter_cons, h])
  (fun n => by rw [if_neg (by rw [ltI_t, zC]; simp), Comp.zB]) (fun n => by rw [List.drop_length]; simp [onn]) 0 0 (Nat.zero_le _) (by omega)
 rw [Comp.zA]
 refine (congrArg (fun o => Option.bind o _) h1).trans ?_
 rw [MW, Comp.zB]
 congr 2
 unfold ltI
 rw [List.drop_zero, Int.zero_add]
 by_cases h : onn p X < 3
 ·rw [decide_eq_true h, decide_eq_true (by omega)]
 ·rw [decide_eq_false h, decide_eq_false (by omega)]
theorem uJ {c : List Pln} : (fac c).length ≤ c.length := List.length_filter_le _ _
theorem Yj (c : List Pln) : (vb c).val = some (ln c, ()) := by
 unfold vb ln
 rw [Comp.zA, jV, MW, yk]
 cases hf : ful c with
 | false => rw [if_pos (by simp), Comp.zB]; rfl
 | true =>
  have hc : chk c = 0 := by
   unfold ful at hf
   rw [MY] at hf
   simpa using hf.1
  obtain ⟨h1, h2⟩ := chk_B hc
  have hX := wB h1
  have hL := ZG
  have e1 : (zT c).val = some (c, ()) := Xk (by unfold LIM; omega)
  have e2 : (zh c fun z => gY z.1 (crn (c ++ bx0))).val = some (fac c) := by
   refine (lK (z := ((0, 0, 0, ()), 0, ())) (f := fun z => gY z.1 (crn (c ++ bx0))) (p := fun p => decide (onn p (crn (c ++ bx0)) < 3)) (by omega) fun p _ => mT hX).trans ?_
   unfold fac
   congr 2
   funext p
   by_cases h : onn p (crn (c ++ bx0)) < 3
   ·rw [decide_eq_true h, decide_eq_false (by omega)]; rfl
   ·rw [decide_eq_false h, decide_eq_true (by omega)]; rfl
  rw [if_neg (by simp), Comp.zA, rA hc, MW, Comp.zA, e1, MW, Comp.zA, e2, MW, Comp.zA, An (by have := uJ (c := c); unfold LIM; omega), MW, Comp.zA,
   uQ (by rw [Jl]; have := uJ (c := c); omega), MW, Comp.zB]
  rfl
theorem Kj (p q : Pln) : (yK p q).val = some (cmpP p q, ()) := by
 unfold yK
 rw [DL]
 generalize hl : [(p.1.1, q.1.1), (p.1.2.1, q.1.2.1), (p.1.2.2.1, q.1.2.2.1), (p.2.1, q.2.1)] = l
 have hm1 : [p.1.1, p.1.2.1, p.1.2.2.1, p.2.1] = l.map fun x => x.1 := by rw [← hl]; rfl
 have hm2 : [q.1.1, q.1.2.1, q.1.2.2.1, q.2.1] = l.map fun x => x.2 := by rw [← hl]; rfl
 have hlen : l.length = 4 := by rw [← hl]; rfl
 rw [hm1, hm2]
 have key : ∀ (ys zs : List (Int × Int)), l = zs ++ ys → ∃ r : Unit ⊕ Int, (match r with | .inl _ => 0 | .inr n => n) = cmpL ys ∧ (Comp.loop
     (fun (x : Int) =>
      if ltI x 4 = true then
       (idx (l.map fun x => x.1) x).bind fun (x_1 : Int) =>
        (idx (l.map fun x => x.2) x).bind fun (x_2 : Int) =>
         if ltI x_1 x_2 = true then Comp.pure (Comp.Step.done (Sum.inr (-1)))
         else
          (idx (l.map fun x => x.1) x).bind fun (x_3 : Int) =>
           (idx (l.map fun x => x.2) x).bind fun (x_4 : Int) =>
            if gtI x_3 x_4 = true then Comp.pure (Comp.Step.done (Sum.inr 1)) else Comp.pure (Comp.Step.next (addW .i64 x 1))
      else Comp.pure (Comp.Step.done (Sum.inl ()))) (zs.length : Int)).val = some r := by
  intro ys
  induction ys with
  | nil =>
   intro zs hx
   have hz : zs.length = 4 := by rw [← hlen, hx]; simp
   exact ⟨.inl (), rfl, by rw [Comp.zI, if_neg (by rw [ltI_t]; omega), Comp.zB]; exact MW ..⟩
  | cons y ys ih =>
   intro zs hx
   have hz : zs.length < 4 := by rw [← hlen, hx]; simp
   have i1 : (idx (l.map fun x => x.1) (zs.length : Int)).val = some y.1 := zH (by rw [hx]; simp)
   have i2 : (idx (l.map fun x => x.2) (zs.length : Int)).val = some y.2 := zH (by rw [hx]; simp)
   unfold cmpL
   by_cases h1 : y.1 < y.2
   ·refine ⟨.inr (-1), by rw [if_pos h1], ?_⟩
    rw [Comp.zI, if_pos (by rw [ltI_t]; omega), Comp.zA, i1, MW, Comp.zA, i2, MW, if_pos (by rw [ltI_t]; exact h1), Comp.zB]; rfl
   ·by_cases h2 : y.2 < y.1
    ·refine ⟨.inr 1, by rw [if_neg h1, if_pos h2], ?_⟩
     rw [Comp.zI, if_pos (by rw [ltI_t]; omega), Comp.zA, i1, MW, Comp.zA, i2, MW, if_neg (by rw [ltI_t]; exact h1), Comp.zA, i1, MW, Comp.zA, i2, MW, if_pos (by rw [gtI_t]; exact h2), Comp.zB]; rfl
    ·obtain ⟨r, h3, h4⟩ := ih (zs ++ [y]) (by rw [hx]; simp)
     refine ⟨r, by rw [if_neg h1, if_neg h2]; exact h3, ?_⟩
     rw [Comp.zI, if_pos (by rw [ltI_t]; omega), Comp.zA, i1, MW, Comp.zA, i2, MW, if_neg (by rw [ltI_t]; exact h1), Comp.zA, i1, MW, Comp.zA, i2, MW, if_neg (by rw [gtI_t]; exact h2), Comp.zB, zL (by omega), MW]
     simpa using h4
 obtain ⟨r, h3, h4⟩ := key l [] rfl
 rw [Comp.zA]
 refine (congrArg (fun o => Option.bind o _) h4).trans ?_
 rw [MW, ← h3]
 cases r <;> exact Comp.zB _
def bef (p : Pln) : List Pln → Nat
 | [] => 0
 | q :: l => if cmpP q p < 0 then bef p l + 1 else 0
theorem DN {p : Pln} : ∀ {l : List Pln}, bef p l ≤ l.length
 | [] => Mb _
 | q :: l => by
  have := DN (p := p) (l := l)
  unfold bef
  split <;> simp only [List.length_cons] <;> omega
theorem tA {p : Pln} : ∀ {l : List Pln}, putP p l = if l[bef p l]? = some p then l else l.take (bef p l) ++ p :: l.drop (bef p l)
 | [] => rfl
 | q :: l => by
  have ih := tA (p := p) (l := l)
  unfold putP bef
  split
  ·rw [ih]
   simp only [List.getElem?_cons_succ, List.take_succ_cons, List.drop_succ_cons, List.cons_append]
   split <;> rfl
  ·simp only [List.getElem?_cons_zero, Option.some.injEq, List.take_zero, List.drop_zero, List.nil_append]
theorem Av {l : List Pln} {p : Pln} (hl : l.length ≤ 1000000) : (vu l p).val = some (putP p l, ()) := by
 have hL := ZG
 unfold vu
 have key : ∀ (ys zs : List Pln), l = zs ++ ys → (Comp.loop
     (fun (x : Int) =>
      (Comp.gd (ltI x (lenL l)) (idx l x) ((0, 0, 0, ()), 0, ())).bind fun (x_1 : Pln) =>
       (Comp.gd (ltI x (lenL l)) (Go.F.yK x_1 p) (0, ())).bind fun (x_2 : Int × Unit) =>
        if sel (ltI x (lenL l)) (ltI x_2.1 0) false = true then Comp.pure (Comp.Step.next (addW .i64 x 1)) else Comp.pure (Comp.Step.done x))
     (zs.length : Int)).val = some (((zs.length + bef p ys : Nat)) : Int) := by
  intro ys
  induction ys with
  | nil =>
   intro zs hx
   have h1 : ltI (zs.length : Int) (lenL l) = false := by unfold ltI; rw [decide_eq_false]; rw [zC, hx]; simp
   rw [Comp.zI]
   simp only [h1]
   rw [Comp.zA]
   show Option.bind (Option.bind (Comp.pure _).val _) _ = _
   rw [Comp.zB, MW, Comp.zA]
   show Option.bind (Option.bind (Comp.pure _).val _) _ = _
   rw [Comp.zB, MW]
   rw [if_neg (by simp [sel]), Comp.zB, MW]
   rfl
  | cons y ys ih =>
   intro zs hx
   have hy : l[zs.length]? = some y := by rw [hx]; simp
   have hlt := zG hy
   have h1 : ltI (zs.length : Int) (lenL l) = true := by rw [ltI_t, zC]; omega
   rw [Comp.zI]
   simp only [h1]
   rw [Comp.zA]
   show Option.bind (Option.bind (idx l (zs.length : Int)).val _) _ = _
   rw [zH hy, MW, Comp.zA]
   show Option.bind (Option.bind (yK y p).val _) _ = _
   rw [Kj, MW]
   unfold bef
   by_cases h2 : cmpP y p < 0
   ·rw [if_pos (by show sel true (ltI (cmpP y p) 0) false = true; show ltI (cmpP y p) 0 = true; rw [ltI_t]; exact h2), if_pos h2, Comp.zB, zL (by omega), MW]
    have := ih (zs ++ [y]) (by rw [hx]; simp)
    simp only [MZ, Mc] at this
    rw [show zs.length + (bef p ys + 1) = zs.length + 1 + bef p ys by omega]
    exact this
   ·rw [if_neg (by show ¬ sel true (ltI (cmpP y p) 0) false = true; show ¬ ltI (cmpP y p) 0 = true; rw [ltI_t]; exact h2), if_neg h2, Comp.zB, MW]
    rfl
 have h1 := key l [] rfl
 simp only [List.length_nil, Nat.zero_add] at h1
 have hb := DN (p := p) (l := l)
 rw [Comp.zA]
 refine (congrArg (fun o => Option.bind o _) h1).trans ?_
 rw [MW, tA]
 have tail : ((sub l 0 ((bef p l : Nat) : Int)).bind fun (x_2 : List (Pln)) =>
      (app [] x_2).bind fun (zs : List (Pln)) =>
       (app zs [p]).bind fun (zs : List (Pln)) =>
        (sub l ((bef p l : Nat) : Int) (lenL l)).bind fun (x : List (Pln)) =>
         (app zs x).bind fun (zs : List (Pln)) => (Comp.pure (zs, ()) : Comp (List Pln × Unit))).val = some (l.take (bef p l) ++ p :: l.drop (bef p l), ()) := by
  have s1 : (sub l 0 ((bef p l : Nat) : Int)).val = some (l.take (bef p l)) := by rw [kh (by omega)]; simp
  rw [Comp.zA, s1, MW, Comp.zA, zr (by simp; unfold LIM; omega), MW, Comp.zA, zr (by simp; unfold LIM; omega), MW, Comp.zA, wS hb, MW, Comp.zA,
   zr (by simp; unfold LIM; omega), MW, Comp.zB]
  simp
 by_cases hlt : bef p l < l.length
 ·obtain ⟨y, hy⟩ := zO (xs := l) (k := bef p l) hlt
  have h2 : ltI ((bef p l : Nat) : Int) (lenL l) = true := by rw [ltI_t, zC]; omega
  rw [h2, Comp.zA]
  show Option.bind (idx l ((bef p l : Nat) : Int)).val _ = _
  rw [zH hy, MW, hy]
  have he := eqPl y p
  by_cases hp : y = p
  ·rw [if_pos (by show sel true _ false = true; show (adB _ _) = true; rw [he]; exact decide_eq_true hp), if_pos (by rw [hp]), Comp.zB]
  ·rw [if_neg (by show ¬ sel true _ false = true; show ¬ (adB _ _) = true; rw [he]; simp [hp]), if_neg (by simp [hp])]
   exact tail
 ·have h2 : ltI ((bef p l : Nat) : Int) (lenL l) = false := by unfold ltI; rw [decide_eq_false]; rw [zC]; omega
  rw [h2, Comp.zA]
  show Option.bind (Comp.pure _).val _ = _
  rw [Comp.zB, MW, if_neg (by simp [sel]), if_neg (by rw [List.getElem?_eq_none (by omega)]; simp)]
  exact tail
theorem D7 {i : Nat} {c : List Pln} {p : Pln} (hp : c[i]? = some p) {X : List Pnt} (hX : X.length ≤ 1000000000) : (Comp.loop
             (fun (x_2 : Int × Int) =>
              if ltI x_2.2 (lenL X) = true then
               (idx c (i : Int)).bind fun (x : Pln) =>
                (idx X x_2.2).bind fun (x_3 : Pnt) =>
                 (Go.F.zY x x_3).bind fun (x : Int × Unit) =>
                  jn (fun (x : Int) => Comp.pure (Comp.Step.next (x, addW .i64 x_2.2 1)))
                   fun (j : Int → Comp (Comp.Step (Int × Int) Int)) => if eqI x.1 0 = true then j (addW .i64 x_2.1 1) else j x_2.1
              else Comp.pure (Comp.Step.done x_2.1))
             (0, 0)).val = some ((onn p X : Nat) : Int) := by
 have h1 := gN (σ := Int) X.length (fun k n => match X[k]? with | some x => if rm p x = 0 then n + 1 else n | none => n) (fun k n => n + (onn p (X.drop k) : Nat)) (fun n k => 0 ≤ n ∧ n ≤ k)
  (body := (fun (x_2 : Int × Int) =>
              if ltI x_2.2 (lenL X) = true then
               (idx c (i : Int)).bind fun (x : Pln) =>
                (idx X x_2.2).bind fun (x_3 : Pnt) =>
                 (Go.F.zY x x_3).bind fun (x : Int × Unit) =>
                  jn (fun (x : Int) => Comp.pure (Comp.Step.next (x, addW .i64 x_2.2 1)))
                   fun (j : Int → Comp (Comp.Step (Int × Int) Int)) => if eqI x.1 0 = true then j (addW .i64 x_2.1 1) else j x_2.1
              else Comp.pure (Comp.Step.done x_2.1)))
  (fun n k hk hI => by
   obtain ⟨x, hx⟩ := zO (xs := X) (k := k) hk
   refine ⟨?_, ?_, ?_⟩
   ·rw [hx]
    simp only
    rw [if_pos (by rw [ltI_t, zC]; show (k : Int) < _; omega), Comp.zA, zH hp, MW, Comp.zA, zH hx, MW, Comp.zA, Y9, MW, jn_eq]
    by_cases h : rm p x = 0
    ·rw [if_pos (by rw [eqI_t]; exact h), if_pos h, Comp.zB, zL (by omega), yr (by omega)]
    ·rw [if_neg (by rw [eqI_t]; exact h), if_neg h, Comp.zB, zL (by omega)]
   ·rw [hx]
    simp only
    split <;> omega
   ·rw [drop_cons hx, hx]
    unfold onn
    by_cases h : rm p x = 0
    ·simp only [List.filter_cons, h, decide_true, if_true, List.length_cons]; omega
    ·simp [List.filter_cons, h])
  (fun n => by rw [if_neg (by rw [ltI_t, zC]; simp), Comp.zB]) (fun n => by rw [List.drop_length]; simp [onn]) 0 0 (Nat.zero_le _) (by omega)
 rw [List.drop_zero, Int.zero_add] at h1
 exact h1
theorem ZR (c : List Pln) : (zZ c).val = some (ln c, ()) := by
 unfold zZ ln
 rw [Comp.zA, kQ, MW, yk]
 cases hf : ful c with
 | false => rw [if_pos (by simp), Comp.zB]; rfl
 | true =>
  have hc : chk c = 0 := by
   unfold ful at hf
   rw [MY] at hf
   simpa using hf.1
  obtain ⟨h1, h2⟩ := chk_B hc
  have hX := wB h1
  have hL := ZG
  rw [if_neg (by simp), Comp.zA, wc hc, MW]
  have h3 := gN c.length (fun k l => match c[k]? with | some p => if 3 ≤ onn p (crn (c ++ bx0)) then putP p l else l | none => l) (fun k l => ((c.drop k).filter fun p => decide (3 ≤ onn p (crn (c ++ bx0)))).foldl (fun m p => putP p m) l) (fun l k => l.length ≤ k)
   (body := (fun (x_1 : List (Pln) × Int) =>
         if ltI x_1.2 (lenL c) = true then
          (Comp.loop
             (fun (x_2 : Int × Int) =>
              if ltI x_2.2 (lenL (crn (c ++ bx0))) = true then
               (idx c x_1.2).bind fun (x : Pln) =>
                (idx (crn (c ++ bx0)) x_2.2).bind fun (x_3 : Pnt) =>
                 (Go.F.zY x x_3).bind fun (x : Int × Unit) =>
                  jn (fun (x : Int) => Comp.pure (Comp.Step.next (x, addW .i64 x_2.2 1)))
                   fun (j : Int → Comp (Comp.Step (Int × Int) Int)) => if eqI x.1 0 = true then j (addW .i64 x_2.1 1) else j x_2.1
              else Comp.pure (Comp.Step.done x_2.1))
             (0, 0)).bind
           fun (x : Int) =>
           jn (fun (x : List (Pln)) => Comp.pure (Comp.Step.next (x, addW .i64 x_1.2 1)))
            fun
             (j :
              List (Pln) →
               Comp (Comp.Step (List (Pln) × Int) (List (Pln)))) =>
            if geI x 3 = true then
             (idx c x_1.2).bind fun (x : Pln) =>
              (Go.F.vu x_1.1 x).bind fun (x : List (Pln) × Unit) => j x.1
            else j x_1.1
         else Comp.pure (Comp.Step.done x_1.1)))
   (fun l k hk hI => by
    obtain ⟨p, hp⟩ := zO (xs := c) (k := k) hk
    refine ⟨?_, ?_, ?_⟩
    ·rw [hp]
     simp only
     rw [if_pos (by rw [ltI_t, zC]; show (k : Int) < _; omega), Comp.zA]
     refine (congrArg (fun o => Option.bind o _) (D7 hp hX)).trans ?_
     rw [MW, jn_eq]
     by_cases h : 3 ≤ onn p (crn (c ++ bx0))
     ·rw [if_pos (by rw [geI_t]; omega), if_pos h, Comp.zA, zH hp, MW, Comp.zA, Av (by omega), MW, Comp.zB, zL (by omega)]
     ·rw [if_neg (by rw [geI_t]; omega), if_neg h, Comp.zB, zL (by omega)]
    ·rw [hp]
     simp only
     have := u9 (p := p) (l := l)
     split <;> omega
    ·rw [drop_cons hp, hp]
     by_cases h : 3 ≤ onn p (crn (c ++ bx0))
     ·simp [List.filter_cons, h]
     ·simp [List.filter_cons, h])
   (fun n => by rw [if_neg (by rw [ltI_t, zC]; simp), Comp.zB]) (fun n => by rw [List.drop_length]; rfl) 0 [] (Nat.zero_le _) (by simp)
  rw [Comp.zA]
  refine (congrArg (fun o => Option.bind o _) h3).trans ?_
  rw [MW, Comp.zB, List.drop_zero, BD]
  rfl
end Go.Geo
end
section
namespace Go.Geo
open Go Go.Eng Go.Lift Go.Den Go.F
variable {α β γ δ ε σ τ : Type}
abbrev Cell := List Pln
def fstE : List Cell → Int
 | [] => 0
 | c :: s => if chk c = 0 then fstE s else chk c
def sck (s : List Cell) : Int := if 16 < s.length then 2 else fstE s
def sap (c : Cell) (s : List Cell) : Bool := s.all fun q => apa c q
def flipP (p : Pln) : Pln := ((-p.1.1, -p.1.2.1, -p.1.2.2.1, ()), -p.2.1, ())
def gp : Cell → List Pln → List (Option Cell)
 | _, [] => []
 | rest, p :: fs => if 48 ≤ rest.length then [none] else (bif decide (ln (rest ++ [flipP p]) = []) then [] else [some (ln (rest ++ [flipP p]))]) ++ gp (ln (rest ++ [p])) fs
def gw : List (Option α) → Bool
 | [] => false
 | none :: _ => true
 | some _ :: l => gw l
def somes : List (Option α) → List α
 | [] => []
 | none :: l => somes l
 | some x :: l => x :: somes l
def wo (q : Cell) : List Cell → List Cell → Option (List Cell)
 | [], out => some out
 | x :: xs, out => if apa x q = true then wo q xs (out ++ [x]) else if gw (gp x (ln q)) = true then none else wo q xs (out ++ somes (gp x (ln q)))
def wth (pieces : List Cell) (q : Cell) : List Cell × Int :=
 if ful q = true then match wo q pieces [] with
  | none => ([], 9)
  | some out => if 200 < out.length then ([], 9) else (out, 0)
 else (pieces, 0)
def mfold : List Cell → List Cell → List Cell × Int
 | pcs, [] => (pcs, 0)
 | pcs, q :: s => if (wth pcs q).2 = 0 then mfold (wth pcs q).1 s else ([], (wth pcs q).2)
def mns (c : Cell) (s : List Cell) : List Cell × Int := if chk c = 0 then if sck s = 0 then if ful c = true then mfold [ln c] s else ([], 0) else ([], sck s) else ([], chk c)
def cov (s : List Cell) (c : Cell) : Bool × Int := (decide ((mns c s).2 = 0) && decide ((mns c s).1.length = 0), (mns c s).2)
theorem qA : ∀ {fs : List Pln} {rest : Cell}, (gp rest fs).length ≤ fs.length
 | [], _ => Mb _
 | p :: fs, rest => by
  have := qA (fs := fs) (rest := ln (rest ++ [p]))
  unfold gp
  split
  ·simp
  ·cases decide (ln (rest ++ [flipP p]) = []) <;> simp <;> omega
theorem Z4 : ∀ {l : List (Option α)}, (somes l).length ≤ l.length
 | [] => Mb _
 | none :: l => by have := Z4 (l := l); simp only [somes, List.length_cons]; omega
 | some _ :: l => by have := Z4 (l := l); simp only [somes, List.length_cons]; omega
theorem gp_ne : ∀ {fs : List Pln} {rest : Cell} {c : Cell}, some c ∈ gp rest fs → c ≠ []
 | [], _, _, h => by cases h
 | p :: fs, rest, c, h => by
  unfold gp at h
  split at h
  ·simp at h
  ·rw [List.mem_append] at h
   rcases h with h | h
   ·by_cases he : ln (rest ++ [flipP p]) = []
    ·rw [decide_eq_true he] at h; cases h
    ·rw [decide_eq_false he] at h
     simp only [cond_false, List.mem_singleton, Option.some.injEq] at h
     subst h; exact he
   ·exact gp_ne h
theorem KK [DecidableEq α] {y : α} : ∀ {l : List α} {x : α}, y ∈ cpcG x l → y ∈ l
 | [], _, h => h
 | z :: l, x, h => by
  unfold cpcG at h
  split at h
  ·exact List.mem_cons_of_mem _ (KK h)
  ·rcases List.mem_cons.1 h with rfl | h
   ·simp
   ·exact List.mem_cons_of_mem _ (KK h)
theorem GO [DecidableEq α] {y : α} {l : List α} (h : y ∈ cpc l) : y ∈ l := by
 cases l with
 | nil => exact h
 | cons x l =>
  rcases List.mem_cons.1 h with rfl | h
  ·simp
  ·exact List.mem_cons_of_mem _ (KK h)
theorem E6 {c : Cell} (h : ful c = true) : chk c = 0 := by
 unfold ful at h
 rw [MY] at h
 simpa using h.1
theorem ln_B {c : Cell} : (ln c).length ≤ 48 ∧ ∀ p ∈ ln c, okB p := by
 unfold ln
 cases hf : ful c with
 | false => simp
 | true =>
  obtain ⟨h1, h2⟩ := chk_B (E6 hf)
  have h3 := uJ (c := c)
  refine ⟨?_, fun p hp => ?_⟩
  ·have := lP (l := srtP (fac c))
   rw [Jl] at this
   show (cpc (srtP (fac c))).length ≤ 48
   omega
  ·have := Jk.1 (GO (show p ∈ cpc (srtP (fac c)) from hp))
   exact h2 p (List.mem_filter.1 this).1
theorem rZ {pieces : List Cell} {q : Cell} (h : pieces.length ≤ 200) : (wth pieces q).1.length ≤ 200 := by
 unfold wth
 split
 ·split
  ·simp
  ·split
   ·simp
   ·simp only; omega
 ·exact h
end Go.Geo
end
section
namespace Go.Geo
open Go Go.Eng Go.Lift Go.Den Go.F
variable {α β γ δ ε σ τ : Type}
theorem KC {s : List Cell} (hl : s.length < 9223372036854775807) {body : Int → Comp (Comp.Step Int (Unit ⊕ Int))} (hb : ∀ (i : Nat) c, s[i]? = some c → (body (i : Int)).val = some (if chk c = 0 then .next ((i + 1 : Nat) : Int) else .done (.inr (chk c)))) (he : (body (s.length : Int)).val = some (.done (.inl ()))) :
  ∃ r : Unit ⊕ Int, (match r with | .inl _ => 0 | .inr n => n) = fstE s ∧ (Comp.loop body 0).val = some r := by
 have key : ∀ (ys zs : List Cell), s = zs ++ ys → ∃ r : Unit ⊕ Int, (match r with | .inl _ => 0 | .inr n => n) = fstE ys ∧ (Comp.loop body (zs.length : Int)).val = some r := by
  intro ys
  induction ys with
  | nil =>
   intro zs hx
   refine ⟨.inl (), rfl, ?_⟩
   rw [Comp.zI, show zs.length = s.length by rw [hx]; simp, he]; rfl
  | cons y ys ih =>
   intro zs hx
   have hy : s[zs.length]? = some y := by rw [hx]; simp
   unfold fstE
   by_cases h : chk y = 0
   ·obtain ⟨r, h1, h2⟩ := ih (zs ++ [y]) (by rw [hx]; simp)
    refine ⟨r, by rw [if_pos h]; exact h1, ?_⟩
    rw [Comp.zI, hb _ _ hy, if_pos h, MW]
    simpa using h2
   ·refine ⟨.inr (chk y), by rw [if_neg h], ?_⟩
    rw [Comp.zI, hb _ _ hy, if_neg h, MW]
 exact key s [] rfl
theorem Y1 (s : List Cell) : (km s).val = some (sck s, ()) := by
 unfold km sck
 by_cases h : 16 < s.length
 ·rw [if_pos (by rw [gtI_t, zC]; omega), if_pos h, Comp.zB]
 ·rw [if_neg (by rw [gtI_t, zC]; omega), if_neg h]
  obtain ⟨r, h1, h2⟩ := KC (s := s) (by omega)
   (body := (fun (x : Int) =>
       if ltI x (lenL s) = true then
        (idx s x).bind fun (x_1 : List (Pln)) =>
         (Go.F.yx x_1).bind fun (x_2 : Int × Unit) =>
          if neI x_2.1 0 = true then Comp.pure (Comp.Step.done (Sum.inr x_2.1)) else Comp.pure (Comp.Step.next (addW .i64 x 1))
       else Comp.pure (Comp.Step.done (Sum.inl ()))))
   (fun i c hc => by
    have hlt := zG hc
    rw [if_pos (by rw [ltI_t, zC]; omega), Comp.zA, zH hc, MW, Comp.zA, vi, MW, zL (by omega)]
    by_cases h : chk c = 0
    ·rw [if_neg (by rw [neI_t]; simp [h]), if_pos h, Comp.zB]
    ·rw [if_pos (by rw [neI_t]; exact h), if_neg h, Comp.zB])
   (by rw [if_neg (by rw [ltI_t, zC]; omega), Comp.zB])
  rw [Comp.zA]
  refine (congrArg (fun o => Option.bind o _) h2).trans ?_
  rw [MW, ← h1]
  cases r <;> exact Comp.zB _
theorem vn (c : Cell) {s : List Cell} (hl : s.length < 9223372036854775807) : (zu c s).val = some (sap c s, ()) := by
 unfold zu
 have h1 : (zK s fun z => vg z.1 c).val = some (s.any fun q => !apa c q, ()) :=
  jw (xs := s) (f := fun z => vg z.1 c) (p := fun q => !apa c q) hl fun q _ => by
   show (vg q c).val = _
   unfold vg
   rw [Comp.zA, gM, MW, Comp.zB]; rfl
 rw [Comp.zA, h1, MW, Comp.zB, yk]
 unfold sap
 rw [List.all_eq_not_any_not]
theorem qF {p : Pln} (h : okB p) : (kR p).val = some (flipP p, ()) := by
 obtain ⟨⟨h1, h2, h3⟩, h4⟩ := h
 unfold kR XC
 rw [Comp.zA, Comp.zB, MW, Comp.zB, JF (by omega), ZH (by simp only; omega), ZH (by simp only; omega), ZH (by simp only; omega)]
 unfold flipP
 simp only [Int.zero_sub]
theorem qR {c : Cell} {p : Pln} (h : c.length ≤ 1000) : (zJ [c, [p]]).val = some (c ++ [p], ()) := by
 have := Xo (z := ((0, 0, 0, ()), 0, ())) (xs := [c, [p]]) (by simp; unfold LIM; omega) (by simp)
 simp only [List.flatten_cons, List.flatten_nil, List.append_nil] at this
 exact this
theorem Kl {piece : Cell} {fs : List Pln} (hl : fs.length ≤ 1000) (hB : ∀ p ∈ fs, okB p) : (gJ piece fs).val = some ((gp piece fs).map fun o => (o, ())) := by
 unfold gJ
 have key : ∀ (ys zs : List Pln) (rest : Cell), fs = zs ++ ys → ∃ e : Unit ⊕ Unit, (loopW
       (fun (x : List (Pln) × Int) =>
        if ltI x.2 (lenL fs) = true then
         (idx fs x.2).bind fun (x_1 : Pln) =>
          if geI (lenL x.1) 48 = true then tell [(none, ())] (Comp.pure ([], Comp.Step.done (Sum.inr ())))
          else
           (Go.F.kR x_1).bind fun (x_2 : (Pln) × Unit) =>
            (Go.F.zJ [x.1, [x_2.1]]).bind fun (y : List (Pln) × Unit) =>
             (Go.F.vb y.1).bind fun (y_1 : List (Pln) × Unit) =>
              if gtI (lenL y_1.1) 0 = true then
               tell [(some y_1.1, ())]
                ((Go.F.zJ [x.1, [x_1]]).bind fun (y : List (Pln) × Unit) =>
                 (Go.F.vb y.1).bind fun (y : List (Pln) × Unit) =>
                  Comp.pure ([], Comp.Step.next (y.1, addW .i64 x.2 1)))
              else
               (Go.F.zJ [x.1, [x_1]]).bind fun (y : List (Pln) × Unit) =>
                (Go.F.vb y.1).bind fun (y : List (Pln) × Unit) =>
                 Comp.pure ([], Comp.Step.next (y.1, addW .i64 x.2 1))
        else Comp.pure ([], Comp.Step.done (Sum.inl ()))) (rest, (zs.length : Int))).val = some ((gp rest ys).map fun o => (o, ()), e) := by
  intro ys
  induction ys with
  | nil =>
   intro zs rest hx
   exact ⟨.inl (), YS (by rw [if_neg (by rw [ltI_t, zC, hx]; simp), Comp.zB]; rfl)⟩
  | cons p ys ih =>
   intro zs rest hx
   have hy : fs[zs.length]? = some p := by rw [hx]; simp
   have hlt := zG hy
   have hp := hB p (List.mem_of_getElem? hy)
   by_cases hr : 48 ≤ rest.length
   ·refine ⟨.inr (), YS ?_⟩
    rw [if_pos (by rw [ltI_t, zC]; show (zs.length : Int) < _; omega), Comp.zA, zH hy, MW, if_pos (by rw [geI_t, zC]; show _ ≤ ((rest.length : Nat) : Int); omega), kg, Comp.zB]
    unfold gp
    rw [if_pos hr]; rfl
   ·obtain ⟨e, he⟩ := ih (zs ++ [p]) (ln (rest ++ [p])) (by rw [hx]; simp)
    refine ⟨e, ?_⟩
    have hgp : (gp rest (p :: ys)).map (fun o => (o, ())) = (bif decide (ln (rest ++ [flipP p]) = []) then [] else [(some (ln (rest ++ [flipP p])), ())]) ++ (gp (ln (rest ++ [p])) ys).map fun o => (o, ()) := by
     conv => lhs; unfold gp
     rw [if_neg hr, List.map_append]
     cases decide (ln (rest ++ [flipP p]) = []) <;> rfl
    rw [hgp]
    refine JJ (s' := (ln (rest ++ [p]), ((zs.length + 1 : Nat) : Int))) ?_ (by simpa using he)
    rw [if_pos (by rw [ltI_t, zC]; show (zs.length : Int) < _; omega), Comp.zA, zH hy, MW, if_neg (by rw [geI_t, zC]; show ¬ _ ≤ ((rest.length : Nat) : Int); omega),
     Comp.zA, qF hp, MW, Comp.zA, qR (by show rest.length ≤ 1000; omega), MW, Comp.zA, Yj, MW]
    have ht : ((Go.F.zJ [rest, [p]]).bind fun (y : List (Pln) × Unit) =>
                (Go.F.vb y.1).bind fun (y : List (Pln) × Unit) =>
                 (Comp.pure ([], Comp.Step.next (y.1, addW .i64 (zs.length : Int) 1)) : Comp (List (Option Cell × Unit) × Comp.Step (Cell × Int) (Unit ⊕ Unit)))).val = some ([], .next (ln (rest ++ [p]), ((zs.length + 1 : Nat) : Int))) := by
     rw [Comp.zA, qR (by omega), MW, Comp.zA, Yj, MW, Comp.zB, zL (by omega)]
    by_cases h0 : ln (rest ++ [flipP p]) = []
    ·rw [if_neg (by rw [gtI_t, zC, h0]; simp), decide_eq_true h0]
     exact ht
    ·rw [if_pos (by rw [gtI_t, zC]; have := List.length_pos_iff.2 h0; show (0 : Int) < ((ln (rest ++ [flipP p])).length : Int); omega), kg, decide_eq_false h0]
     refine (congrArg (Option.map _) ht).trans ?_
     rfl
 obtain ⟨e, he⟩ := key fs [] piece rfl
 rw [Comp.zA, Comp.zA]
 refine (congrArg (fun o => Option.bind (Option.bind o _) _) he).trans ?_
 rw [MW, kg]
 have h3 : ∀ e : Unit ⊕ Unit, (match e with | Sum.inl x => Comp.pure ([], ()) | Sum.inr x => Comp.pure ([], ()) : Comp (List (Option Cell × Unit) × Unit)).val = some ([], ()) := fun e => by cases e <;> exact Comp.zB _
 refine (congrArg (fun o => Option.bind (Option.map _ o) _) (h3 e)).trans ?_
 simp only [Option.map_some, MW, List.append_nil]
 exact Comp.zB _
theorem K8 {a : List Cell} {b : Int} : ∀ (L : List (Option Cell)) (out : List Cell), (∀ c, some c ∈ L → c ≠ []) → out.length + L.length ≤ 1000000 → (foldL
                   (fun
                     (x :
                      List (List (Pln)) × Int × List (List (Pln)))
                     (d : Option (List (Pln)) × Unit) =>
                    match d.1 with
                    | none => Comp.pure (Comp.Step.done ([], Int.ofNat 9))
                    | some xs =>
                     amb (nilL xs) (Comp.pure (Comp.Step.done ([], Int.ofNat 9)))
                      ((app x.2.2 [xs]).bind fun (zs : List (List (Pln))) =>
                       Comp.pure (Comp.Step.next (x.1, x.2.1, zs))))
                   (L.map fun o => (o, ())) (a, b, out)).val = some (if gw L = true then .done ([], 9) else .next (a, b, out ++ somes L) : Comp.Step (List Cell × Int × List Cell) (List Cell × Int))
 | [], out, _, _ => by
  show (Comp.pure _).val = _
  rw [Comp.zB]; simp [gw, somes]
 | none :: L, out, _, _ => by
  show ((Comp.pure _).bind _).val = _
  rw [Comp.zA, Comp.zB, MW, Comp.zB]; rfl
 | some c :: L, out, hne, hlen => by
  have hc := hne c (by simp)
  simp only [List.length_cons] at hlen
  show ((amb (nilL c) _ _).bind _).val = _
  have hn : nilL c = false := by cases c with
   | nil => exact absurd rfl hc
   | cons _ _ => rfl
  have h1 : (amb (nilL c) (Comp.pure (Comp.Step.done ([], Int.ofNat 9))) ((app out [c]).bind fun (zs : List (List (Pln))) => Comp.pure (Comp.Step.next (a, b, zs))) : Comp (Comp.Step (List Cell × Int × List Cell) (List Cell × Int))).val = some (.next (a, b, out ++ [c])) := by
   rw [hn]
   show ((app out [c]).bind _).val = _
   rw [Comp.zA, zr (by simp only [Mc]; unfold LIM; omega), MW, Comp.zB]
  rw [Comp.zA]
  refine (congrArg (fun o => Option.bind o _) h1).trans ?_
  rw [MW]
  refine (K8 L (out ++ [c]) (fun c' h => hne c' (List.mem_cons_of_mem _ h)) (by simp only [MZ, Mc]; omega)).trans ?_
  show some (if gw L = true then _ else _) = some (if gw L = true then _ else _)
  simp only [somes, List.append_assoc, List.singleton_append]
theorem Yr {pieces : List Cell} (q : Cell) (hl : pieces.length ≤ 200) : (gh pieces q).val = some ((wth pieces q).1, (wth pieces q).2, ()) := by
 unfold gh
 rw [Comp.zA, jV, MW, yk]
 by_cases hf : ful q = true
 ·rw [if_neg (by simp [hf]), Comp.zA, Yj, MW]
  have hq := ln_B (c := q)
  have key : ∀ (ys zs : List Cell) (out : List Cell), pieces = zs ++ ys → out.length + ys.length * 49 ≤ 20000 → ∃ r, (match r with
    | .inl x => some x.2.2
    | .inr _ => none) = wo q ys out ∧ (∀ x, r = .inr x → x = ([], 9)) ∧ (∀ x, r = .inl x → x.1 = [] ∧ x.2.1 = 0) ∧ (Comp.loop
        (fun (x : Int × List (List (Pln)) × Int × List (List (Pln))) =>
         if ltI x.1 (lenL pieces) = true then
          jn
           (fun (x_1 : List (List (Pln)) × Int × List (List (Pln))) =>
            Comp.pure (Comp.Step.next (addW .i64 x.1 1, x_1.1, x_1.2.1, x_1.2.2)))
           fun
            (j :
             List (List (Pln)) × Int × List (List (Pln)) →
              Comp
               (Comp.Step
                (Int × List (List (Pln)) × Int × List (List (Pln)))
                (List (List (Pln)) × Int × List (List (Pln)) ⊕
                 List (List (Pln)) × Int))) =>
           (idx pieces x.1).bind fun (x_1 : List (Pln)) =>
            (Go.F.jA x_1 q).bind fun (x_2 : Bool × Unit) =>
             if x_2.1 = true then (app x.2.2.2 [x_1]).bind fun (zs : List (List (Pln))) => j (x.2.1, x.2.2.1, zs)
             else
              (Go.F.jf x_1 (ln q)).bind fun (x_3 : Comp (List (Option (List (Pln)) × Unit)) × Unit) =>
               x_3.1.bind fun (xs : List (Option (List (Pln)) × Unit)) =>
                (foldL
                   (fun
                     (x :
                      List (List (Pln)) × Int × List (List (Pln)))
                     (d : Option (List (Pln)) × Unit) =>
                    match d.1 with
                    | none => Comp.pure (Comp.Step.done ([], Int.ofNat 9))
                    | some xs =>
                     amb (nilL xs) (Comp.pure (Comp.Step.done ([], Int.ofNat 9)))
                      ((app x.2.2 [xs]).bind fun (zs : List (List (Pln))) =>
                       Comp.pure (Comp.Step.next (x.1, x.2.1, zs))))
                   xs (x.2.1, x.2.2.1, x.2.2.2)).bind
                 fun
                  (r :
                   Comp.Step
                    (List (List (Pln)) × Int × List (List (Pln)))
                    (List (List (Pln)) × Int)) =>
                 match r with
                 | Comp.Step.next x => j (x.1, x.2.1, x.2.2)
                 | Comp.Step.done e => Comp.pure (Comp.Step.done (Sum.inr (e.1, e.2)))
         else Comp.pure (Comp.Step.done (Sum.inl (x.2.1, x.2.2.1, x.2.2.2)))) ((zs.length : Int), [], 0, out)).val = some r := by
   intro ys
   induction ys with
   | nil =>
    intro zs out hx hlen
    refine ⟨.inl ([], 0, out), rfl, (fun x h => nomatch h), (fun x h => by cases h; exact ⟨rfl, rfl⟩), ?_⟩
    rw [Comp.zI, if_neg (by rw [ltI_t, zC, hx]; simp), Comp.zB]; rfl
   | cons y ys ih =>
    intro zs out hx hlen
    simp only [List.length_cons] at hlen
    have hy : pieces[zs.length]? = some y := by rw [hx]; simp
    have hlt := zG hy
    by_cases ha : apa y q = true
    ·obtain ⟨r, h1, h2, h3, h4⟩ := ih (zs ++ [y]) (out ++ [y]) (by rw [hx]; simp) (by simp only [MZ, Mc]; omega)
     refine ⟨r, by rw [h1]; conv => rhs; unfold wo; rw [if_pos ha], h2, h3, ?_⟩
     rw [Comp.zI, if_pos (by rw [ltI_t, zC]; show (zs.length : Int) < _; omega), jn_eq, Comp.zA, zH hy, MW, Comp.zA, gM, MW, if_pos ha, Comp.zA,
      zr (by simp only [Mc]; unfold LIM; show out.length + 1 ≤ _; omega), MW, Comp.zB, MW, zL (by omega)]
     simpa using h4
    ·have hp : (jf y (ln q)).val = some (gJ y (ln q), ()) := by unfold jf; exact Comp.zB _
     have hfo := K8 (a := []) (b := 0) (gp y (ln q)) out (fun c h => gp_ne h) (by have := qA (fs := ln q) (rest := y); omega)
     by_cases hn : gw (gp y (ln q)) = true
     ·refine ⟨.inr ([], 9), by conv => rhs; unfold wo; rw [if_neg ha, if_pos hn], (fun x h => by cases h; rfl), (fun x h => nomatch h), ?_⟩
      rw [if_pos hn] at hfo
      rw [Comp.zI, if_pos (by rw [ltI_t, zC]; show (zs.length : Int) < _; omega), jn_eq, Comp.zA, zH hy, MW, Comp.zA, gM, MW, if_neg ha, Comp.zA, hp, MW, Comp.zA,
       Kl (by omega) hq.2, MW, Comp.zA]
      refine (congrArg (fun o => Option.bind (Option.bind o _) _) hfo).trans ?_
      rw [MW, Comp.zB]; rfl
     ·have hs := Z4 (l := gp y (ln q))
      have hg := qA (fs := ln q) (rest := y)
      obtain ⟨r, h1, h2, h3, h4⟩ := ih (zs ++ [y]) (out ++ somes (gp y (ln q))) (by rw [hx]; simp) (by simp only [MZ]; omega)
      refine ⟨r, by rw [h1]; conv => rhs; unfold wo; rw [if_neg ha, if_neg hn], h2, h3, ?_⟩
      rw [if_neg hn] at hfo
      rw [Comp.zI, if_pos (by rw [ltI_t, zC]; show (zs.length : Int) < _; omega), jn_eq, Comp.zA, zH hy, MW, Comp.zA, gM, MW, if_neg ha, Comp.zA, hp, MW, Comp.zA,
       Kl (by omega) hq.2, MW, Comp.zA]
      refine (congrArg (fun o => Option.bind (Option.bind o _) _) hfo).trans ?_
      rw [MW, Comp.zB, MW, zL (by omega)]
      simpa using h4
  obtain ⟨r, h1, h2, h3, h4⟩ := key pieces [] [] rfl (by simp; omega)
  rw [Comp.zA]
  refine (congrArg (fun o => Option.bind o _) h4).trans ?_
  rw [MW]
  unfold wth
  rw [if_pos hf, ← h1]
  cases r with
  | inl x =>
   simp only
   by_cases hlen : 200 < x.2.2.length
   ·rw [if_pos (by rw [gtI_t, zC]; omega), if_pos hlen, Comp.zB]
   ·rw [if_neg (by rw [gtI_t, zC]; omega), if_neg hlen, Comp.zB]
  | inr x =>
   rw [h2 x rfl]
   exact Comp.zB _
 ·rw [if_pos (by simpa using hf), Comp.zB]
  unfold wth
  rw [if_neg hf]
theorem mL (c : Cell) (s : List Cell) : (kj c s).val = some ((mns c s).1, (mns c s).2, ()) := by
 unfold kj mns
 rw [Comp.zA, vi, MW]
 by_cases hc : chk c = 0
 ·rw [if_neg (by rw [neI_t]; simp [hc]), if_pos hc, Comp.zA, Y1, MW]
  by_cases hs : sck s = 0
  ·have hlen : s.length ≤ 16 := by
    unfold sck at hs
    split at hs
    ·cases hs
    ·omega
   rw [if_neg (by rw [neI_t]; simp [hs]), if_pos hs, Comp.zA, jV, MW, yk]
   by_cases hf : ful c = true
   ·rw [if_neg (by simp [hf]), if_pos hf, Comp.zA, Yj, MW]
    have key : ∀ (ys zs : List Cell) (pcs : List Cell), s = zs ++ ys → pcs.length ≤ 200 → ∃ r : List Cell ⊕ List Cell × Int, (match r with
      | .inl x => (x, 0)
      | .inr x =>
            x) = mfold pcs ys ∧ (Comp.loop
            (fun (x : List (List (Pln)) × Int) =>
             if ltI x.2 (lenL s) = true then
              (idx s x.2).bind fun (x_1 : List (Pln)) =>
               (Go.F.gh x.1 x_1).bind fun (x_2 : List (List (Pln)) × Int × Unit) =>
                if neI x_2.2.1 0 = true then Comp.pure (Comp.Step.done (Sum.inr ([], x_2.2.1)))
                else Comp.pure (Comp.Step.next (x_2.1, addW .i64 x.2 1))
             else Comp.pure (Comp.Step.done (Sum.inl x.1))) (pcs, (zs.length : Int))).val = some r := by
     intro ys
     induction ys with
     | nil =>
      intro zs pcs hx hlen
      refine ⟨.inl pcs, rfl, ?_⟩
      rw [Comp.zI, if_neg (by rw [ltI_t, zC, hx]; simp), Comp.zB]; rfl
     | cons y ys ih =>
      intro zs pcs hx hlen'
      have hy : s[zs.length]? = some y := by rw [hx]; simp
      have hlt := zG hy
      unfold mfold
      by_cases he : (wth pcs y).2 = 0
      ·obtain ⟨r, h1, h2⟩ := ih (zs ++ [y]) (wth pcs y).1 (by rw [hx]; simp) (rZ hlen')
       refine ⟨r, by rw [if_pos he]; exact h1, ?_⟩
       rw [Comp.zI, if_pos (by rw [ltI_t, zC]; show (zs.length : Int) < _; omega), Comp.zA, zH hy, MW, Comp.zA, Yr y hlen', MW, if_neg (by rw [neI_t]; simp [he]), Comp.zB, zL (by omega), MW]
       simpa using h2
      ·refine ⟨.inr ([], (wth pcs y).2), by rw [if_neg he], ?_⟩
       rw [Comp.zI, if_pos (by rw [ltI_t, zC]; show (zs.length : Int) < _; omega), Comp.zA, zH hy, MW, Comp.zA, Yr y hlen', MW, if_pos (by rw [neI_t]; exact he), Comp.zB, MW]
    obtain ⟨r, h1, h2⟩ := key s [] [ln c] rfl (by simp)
    rw [Comp.zA]
    refine (congrArg (fun o => Option.bind o _) h2).trans ?_
    rw [MW, ← h1]
    cases r <;> exact Comp.zB _
   ·rw [if_pos (by simpa using hf), if_neg hf, Comp.zB]
  ·rw [if_pos (by rw [neI_t]; exact hs), if_neg hs, Comp.zB]
 ·rw [if_pos (by rw [neI_t]; exact hc), if_neg hc, Comp.zB]
theorem rR (s : List Cell) (c : Cell) : (gV s c).val = some ((cov s c).1, (cov s c).2, ()) := by
 unfold gV cov
 rw [Comp.zA, mL, MW, Comp.zB, ko]
 unfold eqI
 rw [zC]
 congr 3
 by_cases h : (mns c s).1.length = 0
 ·simp [h]
 ·simp [h]
end Go.Geo
end
section
namespace Go.Geo
open Go Go.Eng Go.Lift Go.Den Go.F
variable {α β γ δ ε σ τ : Type}
theorem wb (s : List Cell) : (gE s).val = some (sck s, ()) := by
 unfold gE sck
 by_cases h : 16 < s.length
 ·rw [if_pos (by rw [gtI_t, zC]; omega), if_pos h, Comp.zB]
 ·rw [if_neg (by rw [gtI_t, zC]; omega), if_neg h]
  obtain ⟨r, h1, h2⟩ := KC (s := s) (by omega)
   (body := (fun (x : Int) =>
       if ltI x (lenL s) = true then
        (idx s x).bind fun (x_1 : List (Pln)) =>
         (Go.F.zU x_1).bind fun (x_2 : Int × Unit) =>
          if neI x_2.1 0 = true then Comp.pure (Comp.Step.done (Sum.inr x_2.1)) else Comp.pure (Comp.Step.next (addW .i64 x 1))
       else Comp.pure (Comp.Step.done (Sum.inl ()))))
   (fun i c hc => by
    have hlt := zG hc
    rw [if_pos (by rw [ltI_t, zC]; omega), Comp.zA, zH hc, MW, Comp.zA, gW, MW, zL (by omega)]
    by_cases h : chk c = 0
    ·rw [if_neg (by rw [neI_t]; simp [h]), if_pos h, Comp.zB]
    ·rw [if_pos (by rw [neI_t]; exact h), if_neg h, Comp.zB])
   (by rw [if_neg (by rw [ltI_t, zC]; omega), Comp.zB])
  rw [Comp.zA]
  refine (congrArg (fun o => Option.bind o _) h2).trans ?_
  rw [MW, ← h1]
  cases r <;> exact Comp.zB _
theorem Y4 (c : Cell) {s : List Cell} (hl : s.length < 9223372036854775807) : (yI c s).val = some (sap c s, ()) := by
 unfold yI
 have h1 := j4 s (fun q => apa c q) (c := (Sum.inr false : Unit ⊕ Bool)) (d := Sum.inl ())
  (body := (fun (x : Int) =>
      if ltI x (lenL s) = true then
       (idx s x).bind fun (x_1 : List (Pln)) =>
        (Go.F.zW c x_1).bind fun (x_2 : Bool × Unit) =>
         if ntB x_2.1 = true then Comp.pure (Comp.Step.done (Sum.inr false)) else Comp.pure (Comp.Step.next (addW .i64 x 1))
      else Comp.pure (Comp.Step.done (Sum.inl ()))))
  (fun i q hq => by
   have hlt := zG hq
   rw [if_pos (by rw [ltI_t, zC]; omega), Comp.zA, zH hq, MW, Comp.zA, jW, MW, yk, zL (by omega)]
   cases apa c q <;> exact Comp.zB _)
  (by rw [if_neg (by rw [ltI_t, zC]; omega), Comp.zB])
 rw [Comp.zA]
 refine (congrArg (fun o => Option.bind o _) h1).trans ?_
 rw [MW]
 unfold sap
 cases s.all fun q => apa c q <;> exact Comp.zB _
theorem pg {p : Pln} (h : okB p) : (yX p).val = some (flipP p, ()) := qF h
theorem ub {c : Cell} {p : Pln} (h : c.length ≤ 1000) : (zp c p).val = some (c ++ [p], ()) := by
 unfold zp
 rw [Comp.zA, zr (by simp; unfold LIM; omega), MW, Comp.zA, zr (by simp; unfold LIM; omega), MW, Comp.zB]
 simp
def prt (piece : Cell) (fs : List Pln) : List Cell × Int := if gw (gp piece fs) = true then ([], 9) else (somes (gp piece fs), 0)
theorem rK {l m : List (Option α)} : gw (l ++ m) = (gw l || gw m) := by
 induction l with
 | nil => simp [gw]
 | cons x l ih => cases x <;> simp [gw, ih]
theorem pU {l m : List (Option α)} : somes (l ++ m) = somes l ++ somes m := by
 induction l with
 | nil => simp [somes]
 | cons x l ih => cases x <;> simp [somes, ih]
theorem qv {piece : Cell} {fs : List Pln} (hl : fs.length ≤ 1000) (hB : ∀ p ∈ fs, okB p) : (vN piece fs).val = some ((prt piece fs).1, (prt piece fs).2, ()) := by
 unfold vN
 have key : ∀ (ys zs : List Pln) (rest : Cell) (out : List Cell), fs = zs ++ ys → out.length + ys.length ≤ 10000 → ∃ r : List Cell ⊕ List Cell × Int, (match r with
   | .inl x => (x, 0)
   | .inr x => x) = (if gw (gp rest ys) = true then ([], 9) else (out ++ somes (gp rest ys), 0)) ∧ (Comp.loop
     (fun (x : List (List (Pln)) × List (Pln) × Int) =>
      if ltI x.2.2 (lenL fs) = true then
       if geI (lenL x.2.1) 48 = true then Comp.pure (Comp.Step.done (Sum.inr ([], 9)))
       else
        (idx fs x.2.2).bind fun (x_1 : Pln) =>
         (Go.F.yX x_1).bind fun (x_2 : (Pln) × Unit) =>
          (Go.F.zp x.2.1 x_2.1).bind fun (y : List (Pln) × Unit) =>
           (Go.F.zZ y.1).bind fun (x_3 : List (Pln) × Unit) =>
            jn
             (fun (x_4 : List (List (Pln))) =>
              (idx fs x.2.2).bind fun (x_5 : Pln) =>
               (Go.F.zp x.2.1 x_5).bind fun (y : List (Pln) × Unit) =>
                (Go.F.zZ y.1).bind fun (x_6 : List (Pln) × Unit) =>
                 Comp.pure (Comp.Step.next (x_4, x_6.1, addW .i64 x.2.2 1)))
             fun
              (j :
               List (List (Pln)) →
                Comp
                 (Comp.Step (List (List (Pln)) × List (Pln) × Int)
                  (List (List (Pln)) ⊕ List (List (Pln)) × Int))) =>
             if gtI (lenL x_3.1) 0 = true then (app x.1 [x_3.1]).bind fun (zs : List (List (Pln))) => j zs
             else j x.1
      else Comp.pure (Comp.Step.done (Sum.inl x.1))) (out, rest, (zs.length : Int))).val = some r := by
  intro ys
  induction ys with
  | nil =>
   intro zs rest out hx _
   refine ⟨.inl out, by simp [gp, gw, somes], ?_⟩
   rw [Comp.zI, if_neg (by rw [ltI_t, zC, hx]; simp), Comp.zB]; rfl
  | cons p ys ih =>
   intro zs rest out hx hlen
   simp only [List.length_cons] at hlen
   have hy : fs[zs.length]? = some p := by rw [hx]; simp
   have hlt := zG hy
   have hp := hB p (List.mem_of_getElem? hy)
   by_cases hr : 48 ≤ rest.length
   ·refine ⟨.inr ([], 9), by unfold gp; rw [if_pos hr]; rfl, ?_⟩
    rw [Comp.zI, if_pos (by rw [ltI_t, zC]; show (zs.length : Int) < _; omega), if_pos (by rw [geI_t, zC]; show _ ≤ ((rest.length : Nat) : Int); omega), Comp.zB]; rfl
   ·let out2 : List Cell := if ln (rest ++ [flipP p]) = [] then out else out ++ [ln (rest ++ [flipP p])]
    have hout2 : out2.length ≤ out.length + 1 := by
     show (if ln (rest ++ [flipP p]) = [] then out else out ++ [ln (rest ++ [flipP p])]).length ≤ _
     split <;> simp
    obtain ⟨r, h1, h2⟩ := ih (zs ++ [p]) (ln (rest ++ [p])) out2 (by rw [hx]; simp) (by omega)
    refine ⟨r, ?_, ?_⟩
    ·rw [h1]
     have hgp : gp rest (p :: ys) = (bif decide (ln (rest ++ [flipP p]) = []) then [] else [some (ln (rest ++ [flipP p]))]) ++ gp (ln (rest ++ [p])) ys := by
      conv => lhs; unfold gp
      rw [if_neg hr]
     rw [hgp, rK, pU]
     show (if _ then _ else ((if ln (rest ++ [flipP p]) = [] then out else out ++ [ln (rest ++ [flipP p])]) ++ _, _)) = _
     by_cases h0 : ln (rest ++ [flipP p]) = []
     ·rw [decide_eq_true h0, if_pos h0]; simp [gw, somes]
     ·rw [decide_eq_false h0, if_neg h0]; simp [gw, somes]
    ·have ht : ∀ o : List Cell, ((idx fs (zs.length : Int)).bind fun (x_5 : Pln) =>
               (Go.F.zp rest x_5).bind fun (y : List (Pln) × Unit) =>
                (Go.F.zZ y.1).bind fun (x_6 : List (Pln) × Unit) =>
                 (Comp.pure (Comp.Step.next (o, x_6.1, addW .i64 (zs.length : Int) 1)) : Comp (Comp.Step (List Cell × Cell × Int) (List Cell ⊕ List Cell × Int)))).val = some (.next (o, ln (rest ++ [p]), ((zs.length + 1 : Nat) : Int))) := fun o => by
      rw [Comp.zA, zH hy, MW, Comp.zA, ub (by omega), MW, Comp.zA, ZR, MW, Comp.zB, zL (by omega)]
     rw [Comp.zI, if_pos (by rw [ltI_t, zC]; show (zs.length : Int) < _; omega), if_neg (by rw [geI_t, zC]; show ¬ _ ≤ ((rest.length : Nat) : Int); omega),
      Comp.zA, zH hy, MW, Comp.zA, pg hp, MW, Comp.zA, ub (by show rest.length ≤ 1000; omega), MW, Comp.zA, ZR, MW, jn_eq]
     have hout : (if gtI (lenL (ln (rest ++ [flipP p]))) 0 = true then (app out [ln (rest ++ [flipP p])]).bind fun (zs1 : List (List (Pln))) => ((idx fs (zs.length : Int)).bind fun (x_5 : Pln) =>
               (Go.F.zp rest x_5).bind fun (y : List (Pln) × Unit) =>
                (Go.F.zZ y.1).bind fun (x_6 : List (Pln) × Unit) =>
                 (Comp.pure (Comp.Step.next (zs1, x_6.1, addW .i64 (zs.length : Int) 1)) : Comp (Comp.Step (List Cell × Cell × Int) (List Cell ⊕ List Cell × Int))))
       else ((idx fs (zs.length : Int)).bind fun (x_5 : Pln) =>
               (Go.F.zp rest x_5).bind fun (y : List (Pln) × Unit) =>
                (Go.F.zZ y.1).bind fun (x_6 : List (Pln) × Unit) =>
                 (Comp.pure (Comp.Step.next (out, x_6.1, addW .i64 (zs.length : Int) 1)) : Comp (Comp.Step (List Cell × Cell × Int) (List Cell ⊕ List Cell × Int))))).val = some (.next (out2, ln (rest ++ [p]), ((zs.length + 1 : Nat) : Int))) := by
      show _ = some (Comp.Step.next (if ln (rest ++ [flipP p]) = [] then out else out ++ [ln (rest ++ [flipP p])], _, _))
      by_cases h0 : ln (rest ++ [flipP p]) = []
      ·rw [if_neg (by rw [gtI_t, zC, h0]; simp), if_pos h0]
       exact ht out
      ·rw [if_pos (by rw [gtI_t, zC]; have := List.length_pos_iff.2 h0; omega), if_neg h0, Comp.zA, zr (by simp only [Mc]; unfold LIM; omega), MW]
       exact ht _
     refine (congrArg (fun o => Option.bind o _) hout).trans ?_
     rw [MW]
     simpa using h2
 obtain ⟨r, h1, h2⟩ := key fs [] piece [] rfl (by simp; omega)
 rw [Comp.zA]
 refine (congrArg (fun o => Option.bind o _) h2).trans ?_
 rw [MW]
 have hp : prt piece fs = (match (generalizing := false) r with
   | .inl x => (x, 0)
   | .inr x => x) := by rw [h1]; rfl
 rw [hp]
 cases r <;> exact Comp.zB _
theorem YZ {pieces : List Cell} (q : Cell) (hl : pieces.length ≤ 200) : (yH pieces q).val = some ((wth pieces q).1, (wth pieces q).2, ()) := by
 unfold yH
 rw [Comp.zA, kQ, MW, yk]
 by_cases hf : ful q = true
 ·rw [if_neg (by simp [hf])]
  have hq := ln_B (c := q)
  have key : ∀ (ys zs : List Cell) (out : List Cell), pieces = zs ++ ys → out.length + ys.length * 49 ≤ 20000 → ∃ r : List Cell ⊕ List Cell × Int, (match r with
    | .inl x => some x
    | .inr _ => none) = wo q ys out ∧ (∀ x, r = .inr x → x = ([], 9)) ∧ (Comp.loop
       (fun (x : List (List (Pln)) × Int) =>
        if ltI x.2 (lenL pieces) = true then
         jn (fun (x_1 : List (List (Pln))) => Comp.pure (Comp.Step.next (x_1, addW .i64 x.2 1)))
          fun
           (j :
            List (List (Pln)) →
             Comp
              (Comp.Step (List (List (Pln)) × Int)
               (List (List (Pln)) ⊕ List (List (Pln)) × Int))) =>
          (idx pieces x.2).bind fun (x_1 : List (Pln)) =>
           (Go.F.zW x_1 q).bind fun (x_2 : Bool × Unit) =>
            if x_2.1 = true then
             (idx pieces x.2).bind fun (x_3 : List (Pln)) =>
              (app x.1 [x_3]).bind fun (zs : List (List (Pln))) => j zs
            else
             (idx pieces x.2).bind fun (x_3 : List (Pln)) =>
              (Go.F.zZ q).bind fun (x_4 : List (Pln) × Unit) =>
               (Go.F.vN x_3 x_4.1).bind fun (x_5 : List (List (Pln)) × Int × Unit) =>
                if neI x_5.2.1 0 = true then Comp.pure (Comp.Step.done (Sum.inr ([], x_5.2.1)))
                else (app x.1 x_5.1).bind fun (zs : List (List (Pln))) => j zs
        else Comp.pure (Comp.Step.done (Sum.inl x.1))) (out, (zs.length : Int))).val = some r := by
   intro ys
   induction ys with
   | nil =>
    intro zs out hx hlen
    refine ⟨.inl out, rfl, (fun x h => nomatch h), ?_⟩
    rw [Comp.zI, if_neg (by rw [ltI_t, zC, hx]; simp), Comp.zB]; rfl
   | cons y ys ih =>
    intro zs out hx hlen
    simp only [List.length_cons] at hlen
    have hy : pieces[zs.length]? = some y := by rw [hx]; simp
    have hlt := zG hy
    by_cases ha : apa y q = true
    ·obtain ⟨r, h1, h2, h4⟩ := ih (zs ++ [y]) (out ++ [y]) (by rw [hx]; simp) (by simp only [MZ, Mc]; omega)
     refine ⟨r, by rw [h1]; conv => rhs; unfold wo; rw [if_pos ha], h2, ?_⟩
     rw [Comp.zI, if_pos (by rw [ltI_t, zC]; show (zs.length : Int) < _; omega), jn_eq, Comp.zA, zH hy, MW, Comp.zA, jW, MW, if_pos ha, Comp.zA, zH hy, MW, Comp.zA,
      zr (by simp only [Mc]; unfold LIM; show out.length + 1 ≤ _; omega), MW, Comp.zB, MW, zL (by omega)]
     simpa using h4
    ·have hpv := qv (piece := y) (fs := ln q) (by omega) hq.2
     by_cases hn : gw (gp y (ln q)) = true
     ·have hp : prt y (ln q) = ([], 9) := by unfold prt; rw [if_pos hn]
      refine ⟨.inr ([], 9), by conv => rhs; unfold wo; rw [if_neg ha, if_pos hn], (fun x h => by cases h; rfl), ?_⟩
      rw [hp] at hpv
      rw [Comp.zI, if_pos (by rw [ltI_t, zC]; show (zs.length : Int) < _; omega), jn_eq, Comp.zA, zH hy, MW, Comp.zA, jW, MW, if_neg ha, Comp.zA, zH hy, MW, Comp.zA,
       ZR, MW, Comp.zA, hpv, MW, if_pos (by rw [neI_t]; show (9 : Int) ≠ 0; decide), Comp.zB]
      rfl
     ·have hp : prt y (ln q) = (somes (gp y (ln q)), 0) := by unfold prt; rw [if_neg hn]
      have hs := Z4 (l := gp y (ln q))
      have hg := qA (fs := ln q) (rest := y)
      obtain ⟨r, h1, h2, h4⟩ := ih (zs ++ [y]) (out ++ somes (gp y (ln q))) (by rw [hx]; simp) (by simp only [MZ]; omega)
      refine ⟨r, by rw [h1]; conv => rhs; unfold wo; rw [if_neg ha, if_neg hn], h2, ?_⟩
      rw [hp] at hpv
      rw [Comp.zI, if_pos (by rw [ltI_t, zC]; show (zs.length : Int) < _; omega), jn_eq, Comp.zA, zH hy, MW, Comp.zA, jW, MW, if_neg ha, Comp.zA, zH hy, MW, Comp.zA,
       ZR, MW, Comp.zA, hpv, MW, if_neg (by rw [neI_t]; simp), Comp.zA, zr (by unfold LIM; show out.length + (somes (gp y (ln q))).length ≤ _; omega), MW, Comp.zB, MW, zL (by omega)]
      simpa using h4
  obtain ⟨r, h1, h2, h4⟩ := key pieces [] [] rfl (by simp; omega)
  rw [Comp.zA]
  refine (congrArg (fun o => Option.bind o _) h4).trans ?_
  rw [MW]
  unfold wth
  rw [if_pos hf, ← h1]
  cases r with
  | inl x =>
   simp only
   by_cases hlen : 200 < x.length
   ·rw [if_pos (by rw [gtI_t, zC]; omega), if_pos hlen, Comp.zB]
   ·rw [if_neg (by rw [gtI_t, zC]; omega), if_neg hlen, Comp.zB]
  | inr x =>
   rw [h2 x rfl]
   exact Comp.zB _
 ·rw [if_pos (by simpa using hf), Comp.zB]
  unfold wth
  rw [if_neg hf]
theorem Ky : ∀ (s : List Cell), mfold [] s = ([], 0)
 | [] => rfl
 | q :: s => by
  have h : wth [] q = ([], 0) := by
   unfold wth
   split
   ·rfl
   ·rfl
  unfold mfold
  rw [h]
  exact Ky s
theorem qw (c : Cell) (s : List Cell) : (gD c s).val = some ((mns c s).1, (mns c s).2, ()) := by
 unfold gD mns
 rw [Comp.zA, gW, MW, jn_eq]
 by_cases hc : chk c = 0
 ·rw [if_pos (by rw [eqI_t]; exact hc), if_pos hc, Comp.zA, wb, MW]
  by_cases hs : sck s = 0
  ·have hlen : s.length ≤ 16 := by
    unfold sck at hs
    split at hs
    ·cases hs
    ·omega
   show (if neI (sck s) 0 = true then _ else _ : Comp (List Cell × Int × Unit)).val = _
   rw [if_neg (by rw [neI_t]; simp [hs]), if_pos hs, Comp.zA, kQ, MW, jn_eq]
   have key : ∀ (ys zs : List Cell) (pcs : List Cell), s = zs ++ ys → pcs.length ≤ 200 → ∃ r : List Cell ⊕ List Cell × Int, (match r with
     | .inl x => (x, 0)
     | .inr x =>
           x) = mfold pcs ys ∧ (Comp.loop
           (fun (x : List (List (Pln)) × Int) =>
            if ltI x.2 (lenL s) = true then
             (idx s x.2).bind fun (x_1 : List (Pln)) =>
              (Go.F.yH x.1 x_1).bind fun (x_2 : List (List (Pln)) × Int × Unit) =>
               if neI x_2.2.1 0 = true then Comp.pure (Comp.Step.done (Sum.inr ([], x_2.2.1)))
               else Comp.pure (Comp.Step.next (x_2.1, addW .i64 x.2 1))
            else Comp.pure (Comp.Step.done (Sum.inl x.1))) (pcs, (zs.length : Int))).val = some r := by
    intro ys
    induction ys with
    | nil =>
     intro zs pcs hx hlen
     refine ⟨.inl pcs, rfl, ?_⟩
     rw [Comp.zI, if_neg (by rw [ltI_t, zC, hx]; simp), Comp.zB]; rfl
    | cons y ys ih =>
     intro zs pcs hx hlen'
     have hy : s[zs.length]? = some y := by rw [hx]; simp
     have hlt := zG hy
     unfold mfold
     by_cases he : (wth pcs y).2 = 0
     ·obtain ⟨r, h1, h2⟩ := ih (zs ++ [y]) (wth pcs y).1 (by rw [hx]; simp) (rZ hlen')
      refine ⟨r, by rw [if_pos he]; exact h1, ?_⟩
      rw [Comp.zI, if_pos (by rw [ltI_t, zC]; show (zs.length : Int) < _; omega), Comp.zA, zH hy, MW, Comp.zA, YZ y hlen', MW, if_neg (by rw [neI_t]; simp [he]), Comp.zB, zL (by omega), MW]
      simpa using h2
     ·refine ⟨.inr ([], (wth pcs y).2), by rw [if_neg he], ?_⟩
      rw [Comp.zI, if_pos (by rw [ltI_t, zC]; show (zs.length : Int) < _; omega), Comp.zA, zH hy, MW, Comp.zA, YZ y hlen', MW, if_pos (by rw [neI_t]; exact he), Comp.zB, MW]
   have tail : ∀ pcs : List Cell, pcs.length ≤ 200 → ((Comp.loop
            (fun (x : List (List (Pln)) × Int) =>
             if ltI x.2 (lenL s) = true then
              (idx s x.2).bind fun (x_1 : List (Pln)) =>
               (Go.F.yH x.1 x_1).bind fun (x_2 : List (List (Pln)) × Int × Unit) =>
                if neI x_2.2.1 0 = true then Comp.pure (Comp.Step.done (Sum.inr ([], x_2.2.1)))
                else Comp.pure (Comp.Step.next (x_2.1, addW .i64 x.2 1))
             else Comp.pure (Comp.Step.done (Sum.inl x.1)))
            (pcs, 0)).bind
          fun (x : List (List (Pln)) ⊕ List (List (Pln)) × Int) =>
          match x with
          | Sum.inl x => (Comp.pure (x, 0, ()) : Comp (List Cell × Int × Unit))
          | Sum.inr x => Comp.pure (x.1, x.2, ())).val = some ((mfold pcs s).1, (mfold pcs s).2, ()) := by
    intro pcs hp
    obtain ⟨r, h1, h2⟩ := key s [] pcs rfl hp
    rw [Comp.zA]
    refine (congrArg (fun o => Option.bind o _) h2).trans ?_
    rw [MW, ← h1]
    cases r <;> exact Comp.zB _
   by_cases hf : ful c = true
   ·rw [if_pos hf, if_pos hf, Comp.zA, ZR, MW, Comp.zA, zr (by simp; unfold LIM; omega), MW]
    exact tail [ln c] (by simp)
   ·rw [if_neg hf, if_neg hf]
    refine (tail [] (by simp)).trans ?_
    rw [Ky]
  ·show (if neI (sck s) 0 = true then _ else _ : Comp (List Cell × Int × Unit)).val = _
   rw [if_pos (by rw [neI_t]; exact hs), if_neg hs, Comp.zB]
 ·rw [if_neg (by rw [eqI_t]; exact hc), if_neg hc]
  show (if neI (chk c) 0 = true then _ else _ : Comp (List Cell × Int × Unit)).val = _
  rw [if_pos (by rw [neI_t]; exact hc), Comp.zB]
theorem wk (s : List Cell) (c : Cell) : (yT s c).val = some ((cov s c).1, (cov s c).2, ()) := by
 unfold yT cov
 rw [Comp.zA, qw, MW, Comp.zB, ko]
 unfold eqI
 rw [zC]
 congr 3
 by_cases h : (mns c s).1.length = 0
 ·simp [h]
 ·simp [h]
end Go.Geo
end
section
namespace Go.Geo
open Go Go.Eng Go.Lift Go.Den Go.F
variable {α β γ δ ε σ τ : Type}
abbrev Part := Bytes × List Cell × List Int × Unit
abbrev Piece := List Bool × List Bool × List Cell × Unit
abbrev Eff := List Cell × List Cell × Int × List Int × Unit
abbrev Job := Part × Piece × List Eff × Unit
def gx (w : Int) : Bool := decide (w < 1) || decide (3 < w)
def allC : List Cell → List Cell → Bool
 | _, [] => true
 | seen, c :: l => ful c && (sap c seen && allC (seen ++ [c]) l)
def ckP (p : Part) : Int :=
 if p.2.1.length = 0 ∨ 16 < p.2.1.length then 2 else if p.2.2.1.length ≠ p.2.1.length ∨ p.2.2.1.any gx = true then 1 else bif allC [] p.2.1 then 0 else 13
def fitsB (p : Part) (x : Piece) : Bool := (decide (x.1.length = p.2.1.length) && decide (x.2.1.length = p.2.1.length)) && (decide (x.2.2.1.length ≤ 24) && decide (fstE x.2.2.1 = 0))
theorem XT {c : Cell} {s : List Cell} : fstE (c :: s) = if chk c = 0 then fstE s else chk c := rfl
theorem Zh {s : List Cell} : fstE s = 0 ↔ ∀ c ∈ s, chk c = 0 := by
 induction s with
 | nil => simp [fstE]
 | cons c s ih =>
  unfold fstE
  by_cases h : chk c = 0
  ·rw [if_pos h, ih]
   constructor
   ·intro h2 d hd
    rcases List.mem_cons.1 hd with rfl | hd
    ·exact h
    ·exact h2 d hd
   ·exact fun h2 d hd => h2 d (List.mem_cons_of_mem _ hd)
  ·rw [if_neg h]
   exact ⟨fun e => absurd e h, fun h2 => absurd (h2 c (by simp)) h⟩
theorem qE {s t : List Cell} : fstE (s ++ t) = if fstE s = 0 then fstE t else fstE s := by
 induction s with
 | nil => simp [fstE]
 | cons c s ih =>
  rw [List.cons_append, XT, XT]
  by_cases h : chk c = 0
  ·rw [if_pos h, if_pos h, ih]
  ·rw [if_neg h, if_neg h, if_neg h]
theorem Xm {s : List Cell} (hl : s.length < 9223372036854775807) : (vy s).val = some (fstE s, ()) := by
 unfold vy
 obtain ⟨r, h1, h2⟩ := KC (s := s) hl
  (body := (fun (x : Int) =>
      if ltI x (lenL s) = true then
       (idx s x).bind fun (x_1 : List (Pln)) =>
        (Go.F.yx x_1).bind fun (x_2 : Int × Unit) =>
         if neI x_2.1 0 = true then Comp.pure (Comp.Step.done (Sum.inr x_2.1)) else Comp.pure (Comp.Step.next (addW .i64 x 1))
      else Comp.pure (Comp.Step.done (Sum.inl ()))))
  (fun i c hc => by
   have hlt := zG hc
   rw [if_pos (by rw [ltI_t, zC]; omega), Comp.zA, zH hc, MW, Comp.zA, vi, MW, zL (by omega)]
   by_cases h : chk c = 0
   ·rw [if_neg (by rw [neI_t]; simp [h]), if_pos h, Comp.zB]
   ·rw [if_pos (by rw [neI_t]; exact h), if_neg h, Comp.zB])
  (by rw [if_neg (by rw [ltI_t, zC]; omega), Comp.zB])
 rw [Comp.zA]
 refine (congrArg (fun o => Option.bind o _) h2).trans ?_
 rw [MW, ← h1]
 cases r <;> exact Comp.zB _
theorem ZT {s : List Cell} (hl : s.length < 9223372036854775807) : (z7 s).val = some (fstE s, ()) := by
 unfold z7
 obtain ⟨r, h1, h2⟩ := KC (s := s) hl
  (body := (fun (x : Int) =>
      if ltI x (lenL s) = true then
       (idx s x).bind fun (x_1 : List (Pln)) =>
        (Go.F.zU x_1).bind fun (x_2 : Int × Unit) =>
         if neI x_2.1 0 = true then Comp.pure (Comp.Step.done (Sum.inr x_2.1)) else Comp.pure (Comp.Step.next (addW .i64 x 1))
      else Comp.pure (Comp.Step.done (Sum.inl ()))))
  (fun i c hc => by
   have hlt := zG hc
   rw [if_pos (by rw [ltI_t, zC]; omega), Comp.zA, zH hc, MW, Comp.zA, gW, MW, zL (by omega)]
   by_cases h : chk c = 0
   ·rw [if_neg (by rw [neI_t]; simp [h]), if_pos h, Comp.zB]
   ·rw [if_pos (by rw [neI_t]; exact h), if_neg h, Comp.zB])
  (by rw [if_neg (by rw [ltI_t, zC]; omega), Comp.zB])
 rw [Comp.zA]
 refine (congrArg (fun o => Option.bind o _) h2).trans ?_
 rw [MW, ← h1]
 cases r <;> exact Comp.zB _
theorem pH {xs : List α} {k : Nat} (h : k ≤ xs.length) : (sub xs 0 (k : Int)).val = some (xs.take k) := by
 rw [kh (by omega)]; simp
theorem je {p : Part} (hw : p.2.2.1.length < 9223372036854775807) : (gy p).val = some (ckP p, ()) := by
 unfold gy ckP
 by_cases h1 : p.2.1.length = 0 ∨ 16 < p.2.1.length
 ·rw [if_pos (by rw [vo, Bool.or_eq_true, eqI_t, gtI_t, zC]; omega), if_pos h1, Comp.zB]
 ·rw [if_neg (by rw [vo, Bool.or_eq_true, eqI_t, gtI_t, zC]; omega), if_neg h1, Comp.zA]
  have hc : (zN p.2.2.1 fun z => y8 z.1).val = some (p.2.2.1.any gx, ()) :=
   jw (xs := p.2.2.1) (f := fun z => y8 z.1) (p := gx) hw fun w _ => by
    show (y8 w).val = _
    unfold y8
    rw [Comp.zB, vo]; rfl
  have hloop : (Comp.loop
        (fun (x : Int) =>
         if ltI x (lenL p.2.1) = true then
          (idx p.2.1 x).bind fun (x_1 : List (Pln)) =>
           (Go.F.gn x_1).bind fun (x_2 : Bool × Unit) =>
            (Comp.gd (ntB (ntB x_2.1)) (sub p.2.1 0 x) []).bind fun (x_3 : List (List (Pln))) =>
             (Comp.gd (ntB (ntB x_2.1)) (Go.F.zu x_1 x_3) (false, ())).bind fun (x_4 : Bool × Unit) =>
              if sel (ntB x_2.1) true (ntB x_4.1) = true then Comp.pure (Comp.Step.done (Sum.inr 13))
              else Comp.pure (Comp.Step.next (addW .i64 x 1))
         else Comp.pure (Comp.Step.done (Sum.inl () : Unit ⊕ Int)))
        0).val = some (bif allC [] p.2.1 then .inl () else .inr 13) := by
   have key : ∀ (ys zs : List Cell), p.2.1 = zs ++ ys → (Comp.loop
        (fun (x : Int) =>
         if ltI x (lenL p.2.1) = true then
          (idx p.2.1 x).bind fun (x_1 : List (Pln)) =>
           (Go.F.gn x_1).bind fun (x_2 : Bool × Unit) =>
            (Comp.gd (ntB (ntB x_2.1)) (sub p.2.1 0 x) []).bind fun (x_3 : List (List (Pln))) =>
             (Comp.gd (ntB (ntB x_2.1)) (Go.F.zu x_1 x_3) (false, ())).bind fun (x_4 : Bool × Unit) =>
              if sel (ntB x_2.1) true (ntB x_4.1) = true then Comp.pure (Comp.Step.done (Sum.inr 13))
              else Comp.pure (Comp.Step.next (addW .i64 x 1))
         else Comp.pure (Comp.Step.done (Sum.inl () : Unit ⊕ Int))) (zs.length : Int)).val = some (bif allC zs ys then .inl () else .inr 13) := by
    intro ys
    induction ys with
    | nil =>
     intro zs hx
     rw [Comp.zI, if_neg (by rw [ltI_t, zC, hx]; simp), Comp.zB]; rfl
    | cons y ys ih =>
     intro zs hx
     have hy : p.2.1[zs.length]? = some y := by rw [hx]; simp
     have hlt := zG hy
     have ht : p.2.1.take zs.length = zs := by rw [hx]; simp
     rw [Comp.zI, if_pos (by rw [ltI_t, zC]; omega), Comp.zA, zH hy, MW, Comp.zA, jV, MW]
     unfold allC
     cases hf : ful y with
     | false =>
      rw [Comp.zA]
      show Option.bind (Option.bind (Comp.pure _).val _) _ = _
      rw [Comp.zB, MW, Comp.zA]
      show Option.bind (Option.bind (Comp.pure _).val _) _ = _
      rw [Comp.zB, MW, if_pos (by rfl), Comp.zB]; rfl
     | true =>
      rw [Comp.zA]
      show Option.bind (Option.bind (sub p.2.1 0 (zs.length : Int)).val _) _ = _
      rw [pH (by omega), MW, ht, Comp.zA]
      show Option.bind (Option.bind (zu y zs).val _) _ = _
      rw [vn y (by omega), MW]
      cases ha : sap y zs with
      | false => rw [if_pos (by rfl), Comp.zB]; rfl
      | true =>
       rw [if_neg (by simp [sel, ntB]), Comp.zB, zL (by omega), MW]
       simpa using ih (zs ++ [y]) (by rw [hx]; simp)
   exact key p.2.1 [] rfl
  have htail : ∀ b : Bool, ((Comp.pure (bif b then Sum.inl () else Sum.inr 13) : Comp (Unit ⊕ Int)).bind fun (x : Unit ⊕ Int) =>
      match x with
      | Sum.inl x => (Comp.pure (0, ()) : Comp (Int × Unit))
      | Sum.inr x => Comp.pure (x, ())).val = some (bif b then 0 else 13, ()) := fun b => by
   cases b <;> (rw [Comp.zA, Comp.zB, MW]; exact Comp.zB _)
  by_cases h2 : p.2.2.1.length ≠ p.2.1.length
  ·have e : neI (lenL p.2.2.1) (lenL p.2.1) = true := by rw [neI_t, zC, zC]; omega
   rw [e]
   show Option.bind (Comp.pure _).val _ = _
   rw [Comp.zB, MW, if_pos (by rfl), Comp.zB, if_pos (.inl h2)]
  ·have e : neI (lenL p.2.2.1) (lenL p.2.1) = false := by unfold neI; rw [decide_eq_false]; rw [zC, zC]; omega
   rw [e]
   show Option.bind (zN p.2.2.1 fun z => y8 z.1).val _ = _
   rw [hc, MW]
   by_cases h3 : p.2.2.1.any gx = true
   ·rw [if_pos (by rw [h3]; rfl), Comp.zB, if_pos (.inr h3)]
   ·rw [if_neg (by simpa [sel] using h3), if_neg (by rintro (h | h); exact h2 h; exact h3 h), Comp.zA]
    refine (congrArg (fun o => Option.bind o _) hloop).trans ?_
    rw [MW]
    have := htail (allC [] p.2.1)
    rw [Comp.zA, Comp.zB, MW] at this
    exact this
theorem ZK {p : Part} (hw : p.2.2.1.length < 9223372036854775807) : (vM p).val = some (ckP p, ()) := by
 unfold vM ckP
 by_cases h1 : p.2.1.length = 0 ∨ 16 < p.2.1.length
 ·rw [if_pos (by rw [vo, Bool.or_eq_true, ltI_t, gtI_t, zC]; omega), if_pos h1, Comp.zB]
 ·rw [if_neg (by rw [vo, Bool.or_eq_true, ltI_t, gtI_t, zC]; omega), if_neg h1]
  by_cases h2 : p.2.2.1.length ≠ p.2.1.length
  ·rw [if_pos (by rw [neI_t, zC, zC]; omega), Comp.zB, if_pos (.inl h2)]
  ·rw [if_neg (by rw [neI_t, zC, zC]; omega)]
   have hw1 := j4 p.2.2.1 (fun w => !gx w) (c := (Sum.inr 1 : Unit ⊕ Int)) (d := Sum.inl ())
    (body := (fun (x : Int) =>
        if ltI x (lenL p.2.2.1) = true then
         (idx p.2.2.1 x).bind fun (x_1 : Int) =>
          (Comp.gd (ntB (ltI x_1 1)) (idx p.2.2.1 x) (Int.ofNat 0)).bind fun (x_2 : Int) =>
           if sel (ltI x_1 1) true (gtI x_2 3) = true then Comp.pure (Comp.Step.done (Sum.inr 1))
           else Comp.pure (Comp.Step.next (addW .i64 x 1))
        else Comp.pure (Comp.Step.done (Sum.inl ()))))
    (fun i w hx => by
     have hlt := zG hx
     rw [if_pos (by rw [ltI_t, zC]; omega), Comp.zA, zH hx, MW, Comp.zA, Comp.CU, zH hx, zL (by omega)]
     unfold gx
     by_cases h1 : w < 1
     ·have : ltI w 1 = true := by rw [ltI_t]; exact h1
      simp [this, yk, sel, h1]
     ·have : ltI w 1 = false := by unfold ltI; exact decide_eq_false h1
      by_cases h3 : 3 < w
      ·have h4 : gtI w 3 = true := by rw [gtI_t]; exact h3
       simp [this, yk, sel, h1, h3, h4]
      ·have h4 : gtI w 3 = false := by unfold gtI; exact decide_eq_false (by omega)
       simp [this, yk, sel, h1, h3, h4])
    (by rw [if_neg (by rw [ltI_t, zC]; omega), Comp.zB])
   have hall : (p.2.2.1.all fun w => !gx w) = !p.2.2.1.any gx := by rw [List.all_eq_not_any_not]; simp
   rw [hall] at hw1
   rw [Comp.zA]
   refine (congrArg (fun o => Option.bind o _) hw1).trans ?_
   rw [MW]
   by_cases h3 : p.2.2.1.any gx = true
   ·rw [h3, if_pos (.inr rfl)]
    exact Comp.zB _
   ·have h3' : p.2.2.1.any gx = false := by simpa using h3
    rw [h3', if_neg (by rintro (h | h); exact h2 h; cases h)]
    have inner : ∀ (k : Nat) (c : Cell), p.2.1[k]? = some c → (Comp.loop
                 (fun (x_3 : Int) =>
                  if ltI x_3 (k : Int) = true then
                   (idx p.2.1 x_3).bind fun (x_4 : List (Pln)) =>
                    (idx p.2.1 (k : Int)).bind fun (x : List (Pln)) =>
                     (Go.F.zW x_4 x).bind fun (x : Bool × Unit) =>
                      if ntB x.1 = true then Comp.pure (Comp.Step.done (Sum.inr 13))
                      else Comp.pure (Comp.Step.next (addW .i64 x_3 1))
                  else Comp.pure (Comp.Step.done (Sum.inl () : Unit ⊕ Int)))
                 0).val = some (bif sap c (p.2.1.take k) then .inl () else .inr 13) := by
     intro k c hc
     have hk := zG hc
     have h5 := j4 (p.2.1.take k) (fun q => apa c q) (c := (Sum.inr 13 : Unit ⊕ Int)) (d := Sum.inl ())
      (body := (fun (x_3 : Int) =>
                  if ltI x_3 (k : Int) = true then
                   (idx p.2.1 x_3).bind fun (x_4 : List (Pln)) =>
                    (idx p.2.1 (k : Int)).bind fun (x : List (Pln)) =>
                     (Go.F.zW x_4 x).bind fun (x : Bool × Unit) =>
                      if ntB x.1 = true then Comp.pure (Comp.Step.done (Sum.inr 13))
                      else Comp.pure (Comp.Step.next (addW .i64 x_3 1))
                  else Comp.pure (Comp.Step.done (Sum.inl () : Unit ⊕ Int))))
      (fun i q hq => by
       have hi := zG hq
       rw [List.length_take] at hi
       have hq' : p.2.1[i]? = some q := by rw [← hq, List.getElem?_take_of_lt (by omega)]
       rw [if_pos (by rw [ltI_t]; omega), Comp.zA, zH hq', MW, Comp.zA, zH hc, MW, Comp.zA, jW, MW, yk, CJ q c, zL (by omega)]
       cases apa c q <;> exact Comp.zB _)
      (by rw [if_neg (by rw [ltI_t, List.length_take]; omega), Comp.zB])
     exact h5
    have key : ∀ (ys zs : List Cell), p.2.1 = zs ++ ys → (Comp.loop
         (fun (x : Int) =>
          if ltI x (lenL p.2.1) = true then
           (idx p.2.1 x).bind fun (x_1 : List (Pln)) =>
            (Go.F.ze x_1).bind fun (x_2 : Bool × Unit) =>
             if ntB x_2.1 = true then Comp.pure (Comp.Step.done (Sum.inr 13))
             else
              (Comp.loop
                 (fun (x_3 : Int) =>
                  if ltI x_3 x = true then
                   (idx p.2.1 x_3).bind fun (x_4 : List (Pln)) =>
                    (idx p.2.1 x).bind fun (x : List (Pln)) =>
                     (Go.F.zW x_4 x).bind fun (x : Bool × Unit) =>
                      if ntB x.1 = true then Comp.pure (Comp.Step.done (Sum.inr 13))
                      else Comp.pure (Comp.Step.next (addW .i64 x_3 1))
                  else Comp.pure (Comp.Step.done (Sum.inl ())))
                 0).bind
               fun (x_3 : Unit ⊕ Int) =>
               match x_3 with
               | Sum.inl x_4 => Comp.pure (Comp.Step.next (addW .i64 x 1))
               | Sum.inr x => Comp.pure (Comp.Step.done (Sum.inr x))
          else Comp.pure (Comp.Step.done (Sum.inl () : Unit ⊕ Int))) (zs.length : Int)).val = some (bif allC zs ys then .inl () else .inr 13) := by
     intro ys
     induction ys with
     | nil =>
      intro zs hx
      rw [Comp.zI, if_neg (by rw [ltI_t, zC, hx]; simp), Comp.zB]; rfl
     | cons y ys ih =>
      intro zs hx
      have hy : p.2.1[zs.length]? = some y := by rw [hx]; simp
      have hlt := zG hy
      have ht : p.2.1.take zs.length = zs := by rw [hx]; simp
      rw [Comp.zI, if_pos (by rw [ltI_t, zC]; omega), Comp.zA, zH hy, MW, Comp.zA, kQ, MW, yk]
      unfold allC
      cases hf : ful y with
      | false => rw [if_pos (by simp), Comp.zB]; rfl
      | true =>
       rw [if_neg (by simp), Comp.zA]
       have h6 := inner zs.length y hy
       rw [ht] at h6
       refine (congrArg (fun o => Option.bind (Option.bind o _) _) h6).trans ?_
       cases ha : sap y zs with
       | false => rw [MW]; exact (congrArg (fun o => Option.bind o _) (Comp.zB _)).trans rfl
       | true =>
        rw [MW]
        refine (congrArg (fun o => Option.bind o _) (Comp.zB _)).trans ?_
        rw [MW, zL (by omega)]
        simpa using ih (zs ++ [y]) (by rw [hx]; simp)
    have h7 := key p.2.1 [] rfl
    show (Comp.bind (Comp.loop _ _) _).val = _
    rw [Comp.zA]
    refine (congrArg (fun o => Option.bind o _) h7).trans ?_
    rw [MW]
    cases allC [] p.2.1 <;> exact Comp.zB _
end Go.Geo
end
section
namespace Go.Geo
open Go Go.Eng Go.Lift Go.Den Go.F
variable {α β γ δ ε σ τ : Type}
theorem mz {xs : List α} {ys : List β} : eqI (lenL xs) (lenL ys) = decide (xs.length = ys.length) := by
 rw [Bool.eq_iff_iff, eqI_t, decide_eq_true_iff, zC, zC]; omega
theorem mG {xs : List α} {ys : List β} : neI (lenL xs) (lenL ys) = !decide (xs.length = ys.length) := by
 rw [Bool.eq_iff_iff, neI_t, zC, zC]; simp <;> omega
theorem E2 {xs : List α} {n : Nat} : leI (lenL xs) (n : Int) = decide (xs.length ≤ n) := by
 rw [Bool.eq_iff_iff, leI_t, decide_eq_true_iff, zC]; omega
theorem E5 {xs : List α} {n : Nat} : gtI (lenL xs) (n : Int) = !decide (xs.length ≤ n) := by
 rw [Bool.eq_iff_iff, gtI_t, zC]; simp
theorem qH (p : Part) (x : Piece) : sel (sel (eqI (lenL x.1) (lenL p.2.1)) (eqI (lenL x.2.1) (lenL p.2.1)) false) (leI (lenL x.2.2.1) 24) false = ((decide (x.1.length = p.2.1.length) && decide (x.2.1.length = p.2.1.length)) && decide (x.2.2.1.length ≤ 24)) := by
 rw [ko, ko, mz, mz, show (24 : Int) = ((24 : Nat) : Int) from rfl, E2]
theorem KG (p : Part) (x : Piece) : fitsB p x = (((decide (x.1.length = p.2.1.length) && decide (x.2.1.length = p.2.1.length)) && decide (x.2.2.1.length ≤ 24)) && decide (fstE x.2.2.1 = 0)) := by
 unfold fitsB; rw [Bool.and_assoc (decide (x.1.length = p.2.1.length) && decide (x.2.1.length = p.2.1.length))]
theorem Jw (p : Part) (x : Piece) : (Z6 p x).val = some (fitsB p x, ()) := by
 unfold Z6
 rw [qH, KG, Comp.zA]
 cases hb : ((decide (x.1.length = p.2.1.length) && decide (x.2.1.length = p.2.1.length)) && decide (x.2.2.1.length ≤ 24)) with
 | false =>
  show Option.bind (Comp.pure _).val _ = _
  rw [Comp.zB, MW, Comp.zB]; rfl
 | true =>
  have hl : x.2.2.1.length ≤ 24 := by
   rw [MY] at hb; simpa using hb.2
  have h1 : (zK x.2.2.1 fun z => vq z.1).val = some (x.2.2.1.any fun c => decide (chk c ≠ 0), ()) :=
   jw (xs := x.2.2.1) (f := fun z => vq z.1) (p := fun c => decide (chk c ≠ 0)) (by omega) fun c _ => by
    show (vq c).val = _
    unfold vq
    rw [Comp.zA, vi, MW, Comp.zB]; rfl
  show Option.bind (zK x.2.2.1 fun z => vq z.1).val _ = _
  rw [h1, MW, Comp.zB, ko, Bool.true_and, Bool.true_and, yk]
  congr 2
  by_cases h : fstE x.2.2.1 = 0
  ·rw [decide_eq_true h]
   have := Zh.1 h
   rw [Bool.not_eq_true', List.any_eq_false]
   intro c hc; simp [this c hc]
  ·rw [decide_eq_false h]
   simp only [Bool.not_eq_false', List.any_eq_true]
   rw [Zh] at h
   simp only [Classical.not_forall] at h
   obtain ⟨c, hc, h2⟩ := h
   exact ⟨c, hc, by simpa using h2⟩
theorem Kf (p : Part) (x : Piece) : (vV p x).val = some (fitsB p x, ()) := by
 unfold vV
 rw [qH, KG, Comp.zA]
 cases hb : ((decide (x.1.length = p.2.1.length) && decide (x.2.1.length = p.2.1.length)) && decide (x.2.2.1.length ≤ 24)) with
 | false =>
  show Option.bind (Comp.pure _).val _ = _
  rw [Comp.zB, MW, Comp.zB]; rfl
 | true =>
  have hl : x.2.2.1.length ≤ 24 := by
   rw [MY] at hb; simpa using hb.2
  show Option.bind (z7 x.2.2.1).val _ = _
  rw [ZT (by omega), MW, Comp.zB]; rfl
def fit (p : Part) (x : Piece) : Int := if ckP p = 0 then bif fitsB p x then 0 else 4 else ckP p
theorem ZI {p : Part} {x : Piece} (hw : p.2.2.1.length < 9223372036854775807) : (jE p x).val = some (fit p x, ()) := by
 unfold jE fit
 rw [Comp.zA, je hw, MW]
 by_cases h : ckP p = 0
 ·rw [if_neg (by rw [neI_t]; simp [h]), if_pos h, Comp.zA, KG]
  have e : sel (sel (neI (lenL x.1) (lenL p.2.1)) true (neI (lenL x.2.1) (lenL p.2.1))) true (gtI (lenL x.2.2.1) 24) = !((decide (x.1.length = p.2.1.length) && decide (x.2.1.length = p.2.1.length)) && decide (x.2.2.1.length ≤ 24)) := by
   rw [vo, vo, Bool.not_and, Bool.not_and, mG, mG, show (24 : Int) = ((24 : Nat) : Int) from rfl, E5]
  rw [e]
  cases hb : ((decide (x.1.length = p.2.1.length) && decide (x.2.1.length = p.2.1.length)) && decide (x.2.2.1.length ≤ 24)) with
  | false =>
   show Option.bind (Comp.pure _).val _ = _
   rw [Comp.zB, MW, if_pos (by rfl), Comp.zB]; rfl
  | true =>
   have hl : x.2.2.1.length ≤ 24 := by
    rw [MY] at hb; simpa using hb.2
   show Option.bind (vy x.2.2.1).val _ = _
   rw [Xm (by omega), MW]
   by_cases h2 : fstE x.2.2.1 = 0
   ·rw [if_neg (by show ¬ (neI (fstE x.2.2.1) 0) = true; rw [neI_t]; simp [h2]), Comp.zB, decide_eq_true h2]; rfl
   ·rw [if_pos (by show (neI (fstE x.2.2.1) 0) = true; rw [neI_t]; exact h2), Comp.zB, decide_eq_false h2]; rfl
 ·rw [if_pos (by rw [neI_t]; exact h), if_neg h, Comp.zB]
theorem rS {s : List Cell} (hl : s.length ≤ 1000000) (hc : ∀ c ∈ s, c.length ≤ 1000000) : (j7 s).val = some (s, ()) := by
 unfold j7
 have h1 := gN s.length (fun k l => match s[k]? with | some c => l ++ [c] | none => l) (fun k l => l ++ s.drop k) (fun l k => l.length = k)
  (body := (fun (x : List (List (Pln)) × Int) =>
      if ltI x.2 (lenL s) = true then
       (idx s x.2).bind fun (x_1 : List (Pln)) =>
        (Go.F.zT x_1).bind fun (y : List (Pln) × Unit) =>
         (app x.1 [y.1]).bind fun (zs : List (List (Pln))) => Comp.pure (Comp.Step.next (zs, addW .i64 x.2 1))
      else Comp.pure (Comp.Step.done x.1)))
  (fun l k hk hI => by
   obtain ⟨c, hc'⟩ := zO (xs := s) (k := k) hk
   have hcl : (zT c).val = some (c, ()) := Xk (by have := hc c (List.mem_of_getElem? hc'); unfold LIM; omega)
   refine ⟨?_, by rw [hc']; simp [hI], by rw [drop_cons hc', hc']; simp⟩
   rw [hc']
   simp only
   rw [if_pos (by rw [ltI_t, zC]; show (k : Int) < _; omega), Comp.zA, zH hc', MW, Comp.zA, hcl, MW, Comp.zA, zr (by simp only [Mc]; unfold LIM; omega), MW, Comp.zB, zL (by omega)])
  (fun l => by rw [if_neg (by rw [ltI_t, zC]; simp), Comp.zB]) (fun l => by rw [List.drop_length]; simp) 0 [] (Nat.zero_le _) rfl
 rw [Comp.zA]
 refine (congrArg (fun o => Option.bind o _) h1).trans ?_
 rw [MW, Comp.zB]; simp
theorem Ki {s : List Cell} (hl : s.length ≤ 1000000) (hc : ∀ c ∈ s, c.length ≤ 1000000) : (vW s).val = some (s, ()) := by
 unfold vW
 have h1 := gN s.length (fun k l => match s[k]? with | some c => l ++ [c] | none => l) (fun k l => l ++ s.drop k) (fun l k => l.length = k)
  (body := (fun (x : List (List (Pln)) × Int) =>
      if ltI x.2 (lenL s) = true then
       (idx s x.2).bind fun (x_1 : List (Pln)) =>
        (app [] x_1).bind fun (zs : List (Pln)) =>
         (app x.1 [zs]).bind fun (zs : List (List (Pln))) => Comp.pure (Comp.Step.next (zs, addW .i64 x.2 1))
      else Comp.pure (Comp.Step.done x.1)))
  (fun l k hk hI => by
   obtain ⟨c, hc'⟩ := zO (xs := s) (k := k) hk
   have hcl := hc c (List.mem_of_getElem? hc')
   refine ⟨?_, by rw [hc']; simp [hI], by rw [drop_cons hc', hc']; simp⟩
   rw [hc']
   simp only
   rw [if_pos (by rw [ltI_t, zC]; show (k : Int) < _; omega), Comp.zA, zH hc', MW, Comp.zA, zr (by simp; unfold LIM; omega), MW, Comp.zA, zr (by simp only [Mc]; unfold LIM; omega), MW, Comp.zB, zL (by omega), List.nil_append])
  (fun l => by rw [if_neg (by rw [ltI_t, zC]; simp), Comp.zB]) (fun l => by rw [List.drop_length]; simp) 0 [] (Nat.zero_le _) rfl
 rw [Comp.zA]
 refine (congrArg (fun o => Option.bind o _) h1).trans ?_
 rw [MW, Comp.zB]; simp
def nr (s : List Cell) (c : Cell) : List Cell := s.filter fun z => !apa z c
theorem BI {s : List Cell} (c : Cell) (hl : s.length ≤ 1000000) : (yB s fun z => yd z.1 z.2.1 c).val = some (nr s c, ()) := by
 unfold yB
 have h1 := gN s.length (fun k l => match s[k]? with | some z => if (!apa z c) = true then l ++ [z] else l | none => l) (fun k l => l ++ nr (s.drop k) c) (fun l k => l.length ≤ k)
  (body := (fun (x : List (List (Pln)) × Int) =>
      if ltI x.2 (lenL s) = true then
       (idx s x.2).bind fun (x_1 : List (Pln)) =>
        ((fun (z : Int × List Pln × Unit) => yd z.1 z.2.1 c) (x.2, x_1, ())).bind fun (x_2 : Bool × Unit) =>
         jn (fun (x_3 : List (List (Pln))) => Comp.pure (Comp.Step.next (x_3, addW .i64 x.2 1)))
          fun
           (j :
            List (List (Pln)) →
             Comp
              (Comp.Step (List (List (Pln)) × Int) (List (List (Pln))))) =>
          if x_2.1 = true then (app x.1 [x_1]).bind fun (zs : List (List (Pln))) => j zs else j x.1
      else Comp.pure (Comp.Step.done x.1)))
  (fun l k hk hI => by
   obtain ⟨z, hz⟩ := zO (xs := s) (k := k) hk
   have hf : (yd (k : Int) z c).val = some (!apa z c, ()) := by
    unfold yd
    rw [Comp.zA, gM, MW, Comp.zB]; rfl
   refine ⟨?_, ?_, ?_⟩
   ·rw [hz]
    simp only
    rw [if_pos (by rw [ltI_t, zC]; show (k : Int) < _; omega), Comp.zA, zH hz, MW, Comp.zA, hf, MW, jn_eq]
    by_cases h : (!apa z c) = true
    ·rw [if_pos h, if_pos h, Comp.zA, zr (by simp only [Mc]; unfold LIM; omega), MW, Comp.zB, zL (by omega)]
    ·rw [if_neg h, if_neg h, Comp.zB, zL (by omega)]
   ·rw [hz]
    simp only
    split <;> first | omega | (simp; omega)
   ·rw [drop_cons hz, hz]
    unfold nr
    by_cases h : (!apa z c) = true
    ·show _ = (if (!apa z c) = true then l ++ [z] else l) ++ _
     rw [if_pos h, List.filter_cons, if_pos h]; simp
    ·show _ = (if (!apa z c) = true then l ++ [z] else l) ++ _
     rw [if_neg h, List.filter_cons, if_neg h])
  (fun l => by rw [if_neg (by rw [ltI_t, zC]; simp), Comp.zB]) (fun l => by rw [List.drop_length]; simp [nr]) 0 [] (Nat.zero_le _) (by simp)
 rw [Comp.zA]
 refine (congrArg (fun o => Option.bind o _) h1).trans ?_
 rw [MW, Comp.zB]; simp
theorem qx {s : List Cell} (c : Cell) (hl : s.length ≤ 1000000) : (yf s c).val = some (nr s c, ()) := by
 unfold yf
 have h1 := gN s.length (fun k l => match s[k]? with | some z => if (!apa z c) = true then l ++ [z] else l | none => l) (fun k l => l ++ nr (s.drop k) c) (fun l k => l.length ≤ k)
  (body := (fun (x : List (List (Pln)) × Int) =>
      if ltI x.2 (lenL s) = true then
       (idx s x.2).bind fun (x_1 : List (Pln)) =>
        (Go.F.zW x_1 c).bind fun (x_2 : Bool × Unit) =>
         jn (fun (x_3 : List (List (Pln))) => Comp.pure (Comp.Step.next (x_3, addW .i64 x.2 1)))
          fun
           (j :
            List (List (Pln)) →
             Comp
              (Comp.Step (List (List (Pln)) × Int) (List (List (Pln))))) =>
          if ntB x_2.1 = true then
           (idx s x.2).bind fun (x_3 : List (Pln)) =>
            (app x.1 [x_3]).bind fun (zs : List (List (Pln))) => j zs
          else j x.1
      else Comp.pure (Comp.Step.done x.1)))
  (fun l k hk hI => by
   obtain ⟨z, hz⟩ := zO (xs := s) (k := k) hk
   refine ⟨?_, ?_, ?_⟩
   ·rw [hz]
    simp only
    rw [if_pos (by rw [ltI_t, zC]; show (k : Int) < _; omega), Comp.zA, zH hz, MW, Comp.zA, jW, MW, jn_eq, yk]
    by_cases h : (!apa z c) = true
    ·rw [if_pos h, if_pos h, Comp.zA, zH hz, MW, Comp.zA, zr (by simp only [Mc]; unfold LIM; omega), MW, Comp.zB, zL (by omega)]
    ·rw [if_neg h, if_neg h, Comp.zB, zL (by omega)]
   ·rw [hz]
    simp only
    split <;> first | omega | (simp; omega)
   ·rw [drop_cons hz, hz]
    unfold nr
    by_cases h : (!apa z c) = true
    ·show _ = (if (!apa z c) = true then l ++ [z] else l) ++ _
     rw [if_pos h, List.filter_cons, if_pos h]; simp
    ·show _ = (if (!apa z c) = true then l ++ [z] else l) ++ _
     rw [if_neg h, List.filter_cons, if_neg h])
  (fun l => by rw [if_neg (by rw [ltI_t, zC]; simp), Comp.zB]) (fun l => by rw [List.drop_length]; simp [nr]) 0 [] (Nat.zero_le _) (by simp)
 rw [Comp.zA]
 refine (congrArg (fun o => Option.bind o _) h1).trans ?_
 rw [MW, Comp.zB]; simp
end Go.Geo
end
section
namespace Go.Geo
open Go Go.Eng Go.Lift Go.Den Go.F
variable {α β γ δ ε σ τ : Type}
def sur (all : List Cell) (c : Cell) (s : Bool) : Bool := bif s then true else (cov (nr all c) c).1
def tch (cuts touches : List Cell) (c : Cell) (t : Bool) : Bool := (t || !sap c cuts) || !sap c touches
def apE (all : List Cell) : List Cell → List Bool → Int
 | c :: C, s :: S => bif s then apE all C S else if (cov (nr all c) c).2 = 0 then apE all C S else (cov (nr all c) c).2
 | _, _ => 0
def apS (all : List Cell) (C : List Cell) (S : List Bool) : List Bool := List.zipWith (sur all) C S
def apT (cuts touches : List Cell) (C : List Cell) (T : List Bool) : List Bool := List.zipWith (tch cuts touches) C T
def zP : Piece := ([], [], [], ())
def apl (p : Part) (x : Piece) (cuts touches : List Cell) : Piece × Int :=
 if fit p x = 0 then if fstE (cuts ++ touches) = 0 then if 24 < x.2.2.1.length + cuts.length then (zP, 2)
  else if apE (x.2.2.1 ++ cuts) p.2.1 x.1 = 0 then ((apS (x.2.2.1 ++ cuts) p.2.1 x.1, apT cuts touches p.2.1 x.2.1, x.2.2.1 ++ cuts, ()), 0) else (zP, apE (x.2.2.1 ++ cuts) p.2.1 x.1)
  else (zP, fstE (cuts ++ touches)) else (zP, fit p x)
theorem pF {t a b : Bool} {A B : Comp (Bool × Unit)} (hA : A.val = some (a, ())) (hB : B.val = some (b, ())) (K : Bool → Comp β) :
  ((Comp.gd (ntB t) A (false, ())).bind fun (x6 : Bool × Unit) => (Comp.gd (ntB (sel t true (ntB x6.1))) B (false, ())).bind fun (x7 : Bool × Unit) => K (sel (sel t true (ntB x6.1)) true (ntB x7.1))).val = (K ((t || !a) || !b)).val := by
 rw [Comp.zA]
 cases t with
 | true =>
  show Option.bind (Comp.pure _).val _ = _
  rw [Comp.zB, MW, Comp.zA]
  show Option.bind (Comp.pure _).val _ = _
  rw [Comp.zB, MW]; rfl
 | false =>
  show Option.bind A.val _ = _
  rw [hA, MW, Comp.zA]
  cases a with
  | false =>
   show Option.bind (Comp.pure _).val _ = _
   rw [Comp.zB, MW]; rfl
  | true =>
   show Option.bind B.val _ = _
   rw [hB, MW]; rfl
theorem take_set {l m : List α} {k : Nat} {v : α} (hv : l[k]? = some v) (hm : k < m.length) (hl : l.length = m.length) : (l.take k ++ m.drop k).set k v = l.take (k + 1) ++ m.drop (k + 1) := by
 have hk : (l.take k).length = k := by rw [List.length_take]; omega
 rw [List.set_append, if_neg (by omega), hk, Nat.sub_self, List.take_add_one, hv, List.drop_eq_getElem_cons hm, List.set_cons_zero, List.append_assoc]
 rfl
theorem mK {l m : List α} {k : Nat} (hl : l.length = m.length) (hm : k < m.length) : (l.take k ++ m.drop k)[k]? = m[k]? := by
 have hk : (l.take k).length = k := by rw [List.length_take]; omega
 rw [List.getElem?_append_right (by omega), hk, Nat.sub_self, List.getElem?_drop]; simp
theorem mI {l m : List α} {k : Nat} (hl : l.length = m.length) (hm : k ≤ m.length) : (l.take k ++ m.drop k).length = m.length := by
 rw [MZ, List.length_take, List.length_drop]; omega
theorem Bf {l m : List α} {k : Nat} {v : α} (hv : l[k]? = some v) (hmv : m[k]? = some v) (hl : l.length = m.length) : l.take k ++ m.drop k = l.take (k + 1) ++ m.drop (k + 1) := by
 rw [List.take_add_one, hv, drop_cons hmv]; simp
theorem JW {f : α → β → γ} {l : List α} {m : List β} {k : Nat} {a : α} {b : β} (h1 : l[k]? = some a) (h2 : m[k]? = some b) : (List.zipWith f l m)[k]? = some (f a b) := by
 rw [List.getElem?_zipWith, h1, h2]
theorem lr {p : Part} {x : Piece} {cuts touches : List Cell} (hw : p.2.2.1.length < 9223372036854775807) (hcl : cuts.length ≤ 100000000) (htl : touches.length ≤ 100000000) : (ki p x cuts touches).val = some ((apl p x cuts touches).1, (apl p x cuts touches).2, ()) := by
 unfold ki apl
 rw [Comp.zA, ZI hw, MW]
 by_cases hf : fit p x = 0
 ·rw [if_neg (by rw [neI_t]; simp [hf]), if_pos hf]
  have hck : ckP p = 0 := by
   unfold fit at hf
   split at hf
   ·assumption
   ·exact hf
  have hfb : fitsB p x = true := by
   unfold fit at hf
   rw [if_pos hck] at hf
   cases h : fitsB p x with
   | true => rfl
   | false => rw [h] at hf; cases hf
  unfold fitsB at hfb
  simp only [MY, decide_eq_true_eq] at hfb
  obtain ⟨⟨f1, f2⟩, f3, f4⟩ := hfb
  have hn : p.2.1.length ≤ 16 := by
   unfold ckP at hck
   split at hck
   ·cases hck
   ·rename_i h; omega
  have hcat : (zQ [cuts, touches]).val = some (cuts ++ touches, ()) := by
   have := Xo (z := ([] : Cell)) (xs := [cuts, touches]) (by simp; unfold LIM; omega) (by simp)
   simp only [List.flatten_cons, List.flatten_nil, List.append_nil] at this
   exact this
  rw [Comp.zA, hcat, MW, Comp.zA, Xm (by simp; omega), MW]
  by_cases he : fstE (cuts ++ touches) = 0
  ·rw [if_neg (by rw [neI_t]; simp [he]), if_pos he]
   have hadd : addW .i64 (lenL x.2.2.1) (lenL cuts) = ((x.2.2.1.length + cuts.length : Nat) : Int) := by rw [zC, zC, yr (by omega)]; omega
   by_cases h24 : 24 < x.2.2.1.length + cuts.length
   ·rw [if_pos (by rw [gtI_t, hadd]; omega), if_pos h24, Comp.zB]; rfl
   ·rw [if_neg (by rw [gtI_t, hadd]; omega), if_neg h24]
    have hcell : ∀ c ∈ x.2.2.1 ++ cuts, c.length ≤ 1000000 := by
     intro c hc
     have : chk c = 0 := by
      rcases List.mem_append.1 hc with h | h
      ·exact Zh.1 f4 c h
      ·exact Zh.1 he c (List.mem_append_left _ h)
     have := (chk_B this).1; omega
    have hcat2 : (zQ [x.2.2.1, cuts]).val = some (x.2.2.1 ++ cuts, ()) := by
     have := Xo (z := ([] : Cell)) (xs := [x.2.2.1, cuts]) (by simp; unfold LIM; omega) (by simp)
     simp only [List.flatten_cons, List.flatten_nil, List.append_nil] at this
     exact this
    have hc1 : (yE x.1).val = some (x.1, ()) := Xk (by unfold LIM; omega)
    have hc2 : (yE x.2.1).val = some (x.2.1, ()) := Xk (by unfold LIM; omega)
    rw [Comp.zA, hc1, MW, Comp.zA, hc2, MW, Comp.zA, hcat2, MW, Comp.zA, rS (by simp; omega) hcell, MW]
    simp only
    generalize hall : x.2.2.1 ++ cuts = all
    have hal : all.length ≤ 24 := by rw [← hall]; simp; omega
    have hSl : (apS all p.2.1 x.1).length = x.1.length := by unfold apS; rw [List.length_zipWith]; omega
    have hTl : (apT cuts touches p.2.1 x.2.1).length = x.2.1.length := by unfold apT; rw [List.length_zipWith]; omega
    have key : ∀ (m k : Nat), k + m = p.2.1.length → (Comp.loop
              (fun
                (x_3 :
                 Int ×
                  (List Bool × List Bool × List (List (Pln)) × Unit) ×
                   List Bool × List Bool × List (List (Pln)) × Unit) =>
               if ltI x_3.1 (lenL p.2.1) = true then
                jn
                 (fun
                   (x :
                    (List Bool × List Bool × List (List (Pln)) × Unit) ×
                     List Bool × List Bool × List (List (Pln)) × Unit) =>
                  Comp.pure (Comp.Step.next (addW .i64 x_3.1 1, x.1, x.2.1, x.2.2.1, x.2.2.2.1, ())))
                 fun
                  (j :
                   (List Bool × List Bool × List (List (Pln)) × Unit) ×
                     List Bool × List Bool × List (List (Pln)) × Unit →
                    Comp
                     (Comp.Step
                      (Int ×
                       (List Bool × List Bool × List (List (Pln)) × Unit) ×
                        List Bool × List Bool × List (List (Pln)) × Unit)
                      ((List Bool × List Bool × List (List (Pln)) × Unit) ×
                        List Bool × List Bool × List (List (Pln)) × Unit ⊕
                       Int × List Bool × List Bool × List (List (Pln)) × Unit))) =>
                 (idx p.2.1 x_3.1).bind fun (x_4 : List (Pln)) =>
                  (idx x_3.2.2.2.1 x_3.1).bind fun (x_5 : Bool) =>
                   (Comp.gd (ntB x_5) (Go.F.zu x_4 cuts) (false, ())).bind fun (x_6 : Bool × Unit) =>
                    (Comp.gd (ntB (sel x_5 true (ntB x_6.1))) (Go.F.zu x_4 touches) (false, ())).bind fun (x_7 : Bool × Unit) =>
                     (inb x_3.2.2.2.1.length x_3.1).bind fun (x_8 : Unit) =>
                      (idx x_3.2.2.1 x_3.1).bind fun (x_9 : Bool) =>
                       if x_9 = true then
                        j
                         (x_3.2.1, x_3.2.2.1, setL x_3.2.2.2.1 x_3.1 (sel (sel x_5 true (ntB x_6.1)) true (ntB x_7.1)), x_3.2.2.2.2.1,
                          ())
                       else
                        (Go.F.yB x_3.2.2.2.2.1 fun (z : Int × List (Pln) × Unit) =>
                           Go.F.yd z.1 z.2.1 x_4).bind
                         fun (y : List (List (Pln)) × Unit) =>
                         (Go.F.gV y.1 x_4).bind fun (x : Bool × Int × Unit) =>
                          if neI x.2.1 0 = true then Comp.pure (Comp.Step.done (Sum.inr (x.2.1, [], [], [], ())))
                          else
                           (inb x_3.2.2.1.length x_3.1).bind fun (x_10 : Unit) =>
                            j
                             (x_3.2.1, setL x_3.2.2.1 x_3.1 x.1,
                              setL x_3.2.2.2.1 x_3.1 (sel (sel x_5 true (ntB x_6.1)) true (ntB x_7.1)), x_3.2.2.2.2.1, ())
               else Comp.pure (Comp.Step.done (Sum.inl (x_3.2.1, x_3.2.2.1, x_3.2.2.2.1, x_3.2.2.2.2.1, ()))))
              ((k : Int), zP, (apS all p.2.1 x.1).take k ++ x.1.drop k, (apT cuts touches p.2.1 x.2.1).take k ++ x.2.1.drop k, all, ())).val =
      some (if apE all (p.2.1.drop k) (x.1.drop k) = 0 then .inl (zP, apS all p.2.1 x.1, apT cuts touches p.2.1 x.2.1, all, ()) else .inr (apE all (p.2.1.drop k) (x.1.drop k), zP)) := by
     intro m
     induction m with
     | zero =>
      intro k hk
      have hk' : k = p.2.1.length := by omega
      rw [Comp.zI, if_neg (by rw [ltI_t, zC]; show ¬ ((k : Int) < _); omega), Comp.zB, MW]
      rw [List.drop_eq_nil_of_le (show p.2.1.length ≤ k by omega), List.drop_eq_nil_of_le (show x.1.length ≤ k by omega), List.drop_eq_nil_of_le (show x.2.1.length ≤ k by omega), List.take_of_length_le (by omega), List.take_of_length_le (by omega), List.append_nil, List.append_nil]
      rfl
     | succ m ih =>
      intro k hk
      obtain ⟨c, hc⟩ := zO (xs := p.2.1) (k := k) (by omega)
      obtain ⟨s, hs⟩ := zO (xs := x.1) (k := k) (by omega)
      obtain ⟨t, ht⟩ := zO (xs := x.2.1) (k := k) (by omega)
      have gS : (apS all p.2.1 x.1)[k]? = some (sur all c s) := JW hc hs
      have gT : (apT cuts touches p.2.1 x.2.1)[k]? = some (tch cuts touches c t) := JW hc ht
      have hT1 : ((apT cuts touches p.2.1 x.2.1).take k ++ x.2.1.drop k)[k]? = some t := by rw [mK hTl (by omega)]; exact ht
      have hS1 : ((apS all p.2.1 x.1).take k ++ x.1.drop k)[k]? = some s := by rw [mK hSl (by omega)]; exact hs
      have hTs : ((apT cuts touches p.2.1 x.2.1).take k ++ x.2.1.drop k).set k (tch cuts touches c t) = (apT cuts touches p.2.1 x.2.1).take (k + 1) ++ x.2.1.drop (k + 1) := take_set gT (by omega) hTl
      have hin : (inb ((apT cuts touches p.2.1 x.2.1).take k ++ x.2.1.drop k).length (k : Int)).val = some () := ZW (by rw [mI hTl (by omega)]; omega)
      have hin2 : (inb ((apS all p.2.1 x.1).take k ++ x.1.drop k).length (k : Int)).val = some () := ZW (by rw [mI hSl (by omega)]; omega)
      rw [Comp.zI, if_pos (by rw [ltI_t, zC]; show (k : Int) < _; omega), jn_eq, Comp.zA, zH hc, MW, Comp.zA, zH hT1, MW]
      have hE : apE all (p.2.1.drop k) (x.1.drop k) = bif s then apE all (p.2.1.drop (k + 1)) (x.1.drop (k + 1)) else if (cov (nr all c) c).2 = 0 then apE all (p.2.1.drop (k + 1)) (x.1.drop (k + 1)) else (cov (nr all c) c).2 := by
       rw [drop_cons hc, drop_cons hs]; rfl
      refine (congrArg (fun o => Option.bind o _) (pF (vn c (s := cuts) (by omega)) (vn c (s := touches) (by omega)) (fun tt =>
                     (inb ((apT cuts touches p.2.1 x.2.1).take k ++ x.2.1.drop k).length (k : Int)).bind fun (x_8 : Unit) =>
                      (idx ((apS all p.2.1 x.1).take k ++ x.1.drop k) (k : Int)).bind fun (x_9 : Bool) =>
                       if x_9 = true then
                        (Comp.pure (Comp.Step.next (addW .i64 (k : Int) 1, zP, (apS all p.2.1 x.1).take k ++ x.1.drop k, setL ((apT cuts touches p.2.1 x.2.1).take k ++ x.2.1.drop k) (k : Int) tt, all, ())) : Comp (Comp.Step (Int × Piece × Piece) (Piece × Piece ⊕ Int × Piece)))
                       else
                        (Go.F.yB all fun (z : Int × List (Pln) × Unit) =>
                           Go.F.yd z.1 z.2.1 c).bind
                         fun (y : List (List (Pln)) × Unit) =>
                         (Go.F.gV y.1 c).bind fun (x' : Bool × Int × Unit) =>
                          if neI x'.2.1 0 = true then Comp.pure (Comp.Step.done (Sum.inr (x'.2.1, [], [], [], ())))
                          else
                           (inb ((apS all p.2.1 x.1).take k ++ x.1.drop k).length (k : Int)).bind fun (x_10 : Unit) =>
                            (Comp.pure (Comp.Step.next (addW .i64 (k : Int) 1, zP, setL ((apS all p.2.1 x.1).take k ++ x.1.drop k) (k : Int) x'.1,
                              setL ((apT cuts touches p.2.1 x.2.1).take k ++ x.2.1.drop k) (k : Int) tt, all, ())) : Comp (Comp.Step (Int × Piece × Piece) (Piece × Piece ⊕ Int × Piece)))))).trans ?_
      rw [Comp.zA, hin, MW, Comp.zA, zH hS1, MW, show setL ((apT cuts touches p.2.1 x.2.1).take k ++ x.2.1.drop k) (k : Int) ((t || !sap c cuts) || !sap c touches) = (apT cuts touches p.2.1 x.2.1).take (k + 1) ++ x.2.1.drop (k + 1) from hTs]
      cases s with
      | true =>
       have hSS : (apS all p.2.1 x.1).take k ++ x.1.drop k = (apS all p.2.1 x.1).take (k + 1) ++ x.1.drop (k + 1) := Bf gS hs hSl
       rw [if_pos rfl, Comp.zB, MW, zL (by omega), hSS, hE]
       exact ih (k + 1) (by omega)
      | false =>
       rw [if_neg (by simp), Comp.zA, BI c (by omega), MW, Comp.zA, rR, MW, hE]
       by_cases he0 : (cov (nr all c) c).2 = 0
       ·have hSs : ((apS all p.2.1 x.1).take k ++ x.1.drop k).set k (cov (nr all c) c).1 = (apS all p.2.1 x.1).take (k + 1) ++ x.1.drop (k + 1) := take_set gS (by omega) hSl
        rw [if_neg (by rw [neI_t]; simp [he0]), Comp.zA, hin2, MW, Comp.zB, MW, zL (by omega)]
        rw [show setL ((apS all p.2.1 x.1).take k ++ x.1.drop k) (k : Int) (cov (nr all c) c).1 = (apS all p.2.1 x.1).take (k + 1) ++ x.1.drop (k + 1) from hSs]
        rw [cond_false, if_pos he0]
        exact ih (k + 1) (by omega)
       ·rw [if_pos (by rw [neI_t]; exact he0), Comp.zB, MW, cond_false, if_neg he0, if_neg he0]
        rfl
    have h0 := key p.2.1.length 0 (by omega)
    simp only [List.take_zero, List.nil_append, List.drop_zero] at h0
    rw [Comp.zA]
    refine (congrArg (fun o => Option.bind o _) h0).trans ?_
    rw [MW]
    by_cases hE0 : apE all p.2.1 x.1 = 0
    ·rw [if_pos hE0, if_pos hE0]; exact Comp.zB _
    ·rw [if_neg hE0, if_neg hE0]; exact Comp.zB _
  ·rw [if_pos (by rw [neI_t]; exact he), if_neg he, Comp.zB]; rfl
 ·rw [if_pos (by rw [neI_t]; exact hf), if_neg hf, Comp.zB]; rfl
end Go.Geo
end
section
namespace Go.Geo
open Go Go.Eng Go.Lift Go.Den Go.F
variable {α β γ δ ε σ τ : Type}
theorem qI {p : Part} {x : Piece} (hf : fit p x = 0) : ckP p = 0 ∧ fitsB p x = true ∧ x.1.length = p.2.1.length ∧ x.2.1.length = p.2.1.length ∧ x.2.2.1.length ≤ 24 ∧ fstE x.2.2.1 = 0 ∧ p.2.1.length ≤ 16 ∧ p.2.2.1.length = p.2.1.length := by
 have hck : ckP p = 0 := by
  unfold fit at hf
  split at hf
  ·assumption
  ·exact hf
 have hfb : fitsB p x = true := by
  unfold fit at hf
  rw [if_pos hck] at hf
  cases h : fitsB p x with
  | true => rfl
  | false => rw [h] at hf; cases hf
 have hfb' := hfb
 unfold fitsB at hfb
 simp only [MY, decide_eq_true_eq] at hfb
 obtain ⟨⟨f1, f2⟩, f3, f4⟩ := hfb
 have hck' := hck
 unfold ckP at hck
 split at hck
 ·cases hck
 ·rename_i h
  split at hck
  ·cases hck
  ·rename_i h'
   exact ⟨hck', hfb', f1, f2, f3, f4, by omega, by omega⟩
theorem q7 {p : Part} {x : Piece} {cuts touches : List Cell} (hw : p.2.2.1.length < 9223372036854775807) (hcl : cuts.length ≤ 100000000) (htl : touches.length ≤ 100000000) : (gC p x cuts touches).val = some ((apl p x cuts touches).1, (apl p x cuts touches).2, ()) := by
 unfold gC apl
 rw [Comp.zA, ZK hw, MW]
 by_cases hck : ckP p = 0
 ·rw [if_neg (by rw [neI_t]; simp [hck]), Comp.zA, Kf, MW, yk]
  cases hfb : fitsB p x with
  | false =>
   have hf : fit p x = 4 := by unfold fit; rw [if_pos hck, hfb]; rfl
   rw [if_pos (by simp), if_neg (by rw [hf]; decide), hf, Comp.zB]; rfl
  | true =>
   have hf : fit p x = 0 := by unfold fit; rw [if_pos hck, hfb]; rfl
   obtain ⟨_, _, f1, f2, f3, f4, hn, hwn⟩ := qI hf
   rw [if_neg (by simp), if_pos hf, Comp.zA, ZT (by omega), MW, jn_eq]
   have hadd : addW .i64 (lenL x.2.2.1) (lenL cuts) = ((x.2.2.1.length + cuts.length : Nat) : Int) := by rw [zC, zC, yr (by omega)]; omega
   by_cases hc0 : fstE cuts = 0
   ·rw [if_pos (by rw [eqI_t]; exact hc0), Comp.zA, ZT (by omega), MW]
    have hE : fstE (cuts ++ touches) = fstE touches := by rw [qE, if_pos hc0]
    rw [hE]
    show (if neI (fstE touches) 0 = true then _ else _ : Comp (Piece × Int × Unit)).val = _
    by_cases he : fstE touches = 0
    ·rw [if_neg (by rw [neI_t]; simp [he]), if_pos he]
     by_cases h24 : 24 < x.2.2.1.length + cuts.length
     ·rw [if_pos (by rw [gtI_t, hadd]; omega), if_pos h24, Comp.zB]; rfl
     ·rw [if_neg (by rw [gtI_t, hadd]; omega), if_neg h24]
      have hcellx : ∀ c ∈ x.2.2.1, c.length ≤ 1000000 := fun c hc => by have := (chk_B (Zh.1 f4 c hc)).1; omega
      have hcellc : ∀ c ∈ cuts, c.length ≤ 1000000 := fun c hc => by have := (chk_B (Zh.1 hc0 c hc)).1; omega
      rw [Comp.zA, Ki (by omega) hcellx, MW, Comp.zA, Ki (by omega) hcellc, MW, Comp.zA, zr (by show x.2.2.1.length + cuts.length ≤ _; unfold LIM; omega), MW]
      simp only
      generalize hall : x.2.2.1 ++ cuts = all
      have hal : all.length ≤ 24 := by rw [← hall]; simp; omega
      have hSl : (apS all p.2.1 x.1).length = x.1.length := by unfold apS; rw [List.length_zipWith]; omega
      have hTl : (apT cuts touches p.2.1 x.2.1).length = x.2.1.length := by unfold apT; rw [List.length_zipWith]; omega
      have key : ∀ (m k : Nat), k + m = p.2.1.length → (Comp.loop
                 (fun
                   (x_1 :
                    Int ×
                     (List Bool × List Bool × List (List (Pln)) × Unit) ×
                      List Bool × List Bool × List (List (Pln)) × Unit) =>
                  if ltI x_1.1 (lenL p.2.1) = true then
                   (idx p.2.1 x_1.1).bind fun (x_2 : List (Pln)) =>
                    (idx x.2.1 x_1.1).bind fun (x_3 : Bool) =>
                     (Comp.gd (ntB x_3) (Go.F.yI x_2 cuts) (false, ())).bind fun (x_4 : Bool × Unit) =>
                      (Comp.gd (ntB (sel x_3 true (ntB x_4.1))) (Go.F.yI x_2 touches) (false, ())).bind
                       fun (x_5 : Bool × Unit) =>
                       (app x_1.2.2.2.1 [sel (sel x_3 true (ntB x_4.1)) true (ntB x_5.1)]).bind fun (zs : List Bool) =>
                        (idx x.1 x_1.1).bind fun (x_6 : Bool) =>
                         jn
                          (fun (x_7 : Bool × List Bool × List Bool × List (List (Pln)) × Unit) =>
                           (app x_1.2.2.1 [x_7.1]).bind fun (zs_1 : List Bool) =>
                            Comp.pure (Comp.Step.next (addW .i64 x_1.1 1, x_7.2, zs_1, zs, x_1.2.2.2.2.1, ())))
                          fun
                           (j :
                            Bool × List Bool × List Bool × List (List (Pln)) × Unit →
                             Comp
                              (Comp.Step
                               (Int ×
                                (List Bool × List Bool × List (List (Pln)) × Unit) ×
                                 List Bool × List Bool × List (List (Pln)) × Unit)
                               ((List Bool × List Bool × List (List (Pln)) × Unit) ×
                                 List Bool × List Bool × List (List (Pln)) × Unit ⊕
                                Int × List Bool × List Bool × List (List (Pln)) × Unit))) =>
                          if ntB x_6 = true then
                           (Go.F.yf x_1.2.2.2.2.1 x_2).bind
                            fun (y : List (List (Pln)) × Unit) =>
                            (Go.F.yT y.1 x_2).bind fun (x_7 : Bool × Int × Unit) =>
                             if neI x_7.2.1 0 = true then Comp.pure (Comp.Step.done (Sum.inr (x_7.2.1, [], [], [], ())))
                             else j (x_7.1, x_1.2.1)
                          else j (x_6, x_1.2.1)
                  else Comp.pure (Comp.Step.done (Sum.inl (x_1.2.1, x_1.2.2.1, x_1.2.2.2.1, x_1.2.2.2.2.1, ()))))
              ((k : Int), zP, (apS all p.2.1 x.1).take k, (apT cuts touches p.2.1 x.2.1).take k, all, ())).val =
        some (if apE all (p.2.1.drop k) (x.1.drop k) = 0 then .inl (zP, apS all p.2.1 x.1, apT cuts touches p.2.1 x.2.1, all, ()) else .inr (apE all (p.2.1.drop k) (x.1.drop k), zP)) := by
       intro m
       induction m with
       | zero =>
        intro k hk
        rw [Comp.zI, if_neg (by rw [ltI_t, zC]; show ¬ ((k : Int) < _); omega), Comp.zB, MW]
        rw [List.drop_eq_nil_of_le (show p.2.1.length ≤ k by omega), List.drop_eq_nil_of_le (show x.1.length ≤ k by omega), List.take_of_length_le (by omega), List.take_of_length_le (by omega)]
        rfl
       | succ m ih =>
        intro k hk
        obtain ⟨c, hc⟩ := zO (xs := p.2.1) (k := k) (by omega)
        obtain ⟨s, hs⟩ := zO (xs := x.1) (k := k) (by omega)
        obtain ⟨t, ht⟩ := zO (xs := x.2.1) (k := k) (by omega)
        have gS : (apS all p.2.1 x.1)[k]? = some (sur all c s) := JW hc hs
        have gT : (apT cuts touches p.2.1 x.2.1)[k]? = some (tch cuts touches c t) := JW hc ht
        have hT2 : (apT cuts touches p.2.1 x.2.1).take k ++ [tch cuts touches c t] = (apT cuts touches p.2.1 x.2.1).take (k + 1) := by rw [List.take_add_one, gT]; rfl
        have hS2 : ∀ v, sur all c s = v → (apS all p.2.1 x.1).take k ++ [v] = (apS all p.2.1 x.1).take (k + 1) := fun v hv => by rw [List.take_add_one, gS, hv]; rfl
        have lT : ((apT cuts touches p.2.1 x.2.1).take k).length ≤ 16 := by rw [List.length_take]; omega
        have lS : ((apS all p.2.1 x.1).take k).length ≤ 16 := by rw [List.length_take]; omega
        rw [Comp.zI, if_pos (by rw [ltI_t, zC]; show (k : Int) < _; omega), Comp.zA, zH hc, MW, Comp.zA, zH ht, MW]
        have hE : apE all (p.2.1.drop k) (x.1.drop k) = bif s then apE all (p.2.1.drop (k + 1)) (x.1.drop (k + 1)) else if (cov (nr all c) c).2 = 0 then apE all (p.2.1.drop (k + 1)) (x.1.drop (k + 1)) else (cov (nr all c) c).2 := by
         rw [drop_cons hc, drop_cons hs]; rfl
        have hj : ∀ v zs, ((app ((apS all p.2.1 x.1).take k) [v]).bind fun (zs_1 : List Bool) =>
                            (Comp.pure (Comp.Step.next (addW .i64 (k : Int) 1, zP, zs_1, zs, all, ())) : Comp (Comp.Step (Int × Piece × Piece) (Piece × Piece ⊕ Int × Piece)))).val = some (.next (((k + 1 : Nat) : Int), zP, (apS all p.2.1 x.1).take k ++ [v], zs, all, ())) := fun v zs => by
         rw [Comp.zA, zr (by simp only [Mc]; unfold LIM; omega), MW, Comp.zB, zL (by omega)]
        refine (congrArg (fun o => Option.bind o _) (pF (Y4 c (s := cuts) (by omega)) (Y4 c (s := touches) (by omega)) (fun tt =>
                       (app ((apT cuts touches p.2.1 x.2.1).take k) [tt]).bind fun (zs : List Bool) =>
                        (idx x.1 (k : Int)).bind fun (x_6 : Bool) =>
                          if ntB x_6 = true then
                           (Go.F.yf all c).bind
                            fun (y : List (List (Pln)) × Unit) =>
                            (Go.F.yT y.1 c).bind fun (x_7 : Bool × Int × Unit) =>
                             if neI x_7.2.1 0 = true then Comp.pure (Comp.Step.done (Sum.inr (x_7.2.1, [], [], [], ())))
                             else ((app ((apS all p.2.1 x.1).take k) [x_7.1]).bind fun (zs_1 : List Bool) =>
                            (Comp.pure (Comp.Step.next (addW .i64 (k : Int) 1, zP, zs_1, zs, all, ())) : Comp (Comp.Step (Int × Piece × Piece) (Piece × Piece ⊕ Int × Piece))))
                          else ((app ((apS all p.2.1 x.1).take k) [x_6]).bind fun (zs_1 : List Bool) =>
                            (Comp.pure (Comp.Step.next (addW .i64 (k : Int) 1, zP, zs_1, zs, all, ())) : Comp (Comp.Step (Int × Piece × Piece) (Piece × Piece ⊕ Int × Piece))))))).trans ?_
        rw [Comp.zA, zr (by simp only [Mc]; unfold LIM; omega), MW, show (apT cuts touches p.2.1 x.2.1).take k ++ [(t || !sap c cuts) || !sap c touches] = (apT cuts touches p.2.1 x.2.1).take (k + 1) from hT2, Comp.zA, zH hs, MW, yk]
        cases s with
        | true =>
         rw [if_neg (by simp), hj, MW, hS2 true rfl, hE]
         exact ih (k + 1) (by omega)
        | false =>
         rw [if_pos (by simp), Comp.zA, qx c (by omega), MW, Comp.zA, wk, MW, hE]
         by_cases he0 : (cov (nr all c) c).2 = 0
         ·rw [if_neg (by rw [neI_t]; simp [he0]), hj, MW, hS2 (cov (nr all c) c).1 rfl, cond_false, if_pos he0]
          exact ih (k + 1) (by omega)
         ·rw [if_pos (by rw [neI_t]; exact he0), Comp.zB, MW, cond_false, if_neg he0, if_neg he0]
          rfl
      have h0 := key p.2.1.length 0 (by omega)
      simp only [List.take_zero, List.drop_zero] at h0
      rw [Comp.zA]
      refine (congrArg (fun o => Option.bind o _) h0).trans ?_
      rw [MW]
      by_cases hE0 : apE all p.2.1 x.1 = 0
      ·rw [if_pos hE0, if_pos hE0]; exact Comp.zB _
      ·rw [if_neg hE0, if_neg hE0]; exact Comp.zB _
    ·rw [if_pos (by rw [neI_t]; exact he), if_neg he, Comp.zB]; rfl
   ·have hE : fstE (cuts ++ touches) = fstE cuts := by rw [qE, if_neg hc0]
    rw [if_neg (by rw [eqI_t]; exact hc0), hE, if_neg hc0]
    show (if neI (fstE cuts) 0 = true then _ else _ : Comp (Piece × Int × Unit)).val = _
    rw [if_pos (by rw [neI_t]; exact hc0), Comp.zB]; rfl
 ·have hf : fit p x = ckP p := by unfold fit; rw [if_neg hck]
  rw [if_pos (by rw [neI_t]; exact hck), hf, if_neg hck, Comp.zB]; rfl
end Go.Geo
end
section
namespace Go.Geo
open Go Go.Eng Go.Lift Go.Den Go.F
variable {α β γ δ ε σ τ : Type}
def anyI (n : Nat) (g : Nat → Bool) : Bool := (List.range n).any g
theorem qZ {body : Int → Comp (Comp.Step Int ε)} (n : Nat) (g : Nat → Bool) {c d : ε} (hb : ∀ (i : Nat), i < n → (body (i : Int)).val = some (if g i = true then .done c else .next ((i + 1 : Nat) : Int))) (he : (body (n : Int)).val = some (.done d)) :
  (Comp.loop body 0).val = some (bif anyI n g then c else d) := by
 have h1 := j4 (List.range n) (fun k => !g k) (c := c) (d := d) (body := body)
  (fun i k hk => by
   have hi := zG hk
   rw [List.length_range] at hi
   rw [List.getElem?_range hi] at hk
   cases hk
   rw [hb i hi]
   cases g i <;> rfl)
  (by rw [List.length_range]; exact he)
 rw [h1]
 have : ((List.range n).all fun k => !g k) = !anyI n g := by unfold anyI; rw [List.all_eq_not_any_not]; simp
 rw [this]
 cases anyI n g <;> rfl
def wt (p : Part) (k : Nat) : Int := p.2.2.1.getD k 0
def cl (p : Part) (k : Nat) : Cell := p.2.1.getD k []
def vS (p : Part) (x : Piece) (k : Nat) : Bool := decide (wt p k = 1) && !sap (cl p k) x.2.2.1
def vT (p : Part) (x : Piece) (k : Nat) : Bool := decide (wt p k = 1) && x.2.1.getD k false
def vL (p : Part) (x : Piece) (k : Nat) : Bool := decide (wt p k = 2) && !x.1.getD k false
def vd (p : Part) (x : Piece) : Int := if fit p x = 0 then bif anyI p.2.1.length (vS p x) then 35 else bif anyI p.2.1.length (vT p x) then 30 else bif anyI p.2.1.length (vL p x) then 34 else 0 else fit p x
theorem gj {xs : List α} {k : Nat} {z v : α} (h : xs[k]? = some v) : xs.getD k z = v := by rw [List.getD_eq_getElem?_getD, h]; rfl
theorem qs {p : Part} {x : Piece} {k : Nat} (hk : k < p.2.1.length) (hw : p.2.2.1.length = p.2.1.length) (hc : x.2.2.1.length ≤ 24) : (zw (p, x, ()) (k : Int)).val = some (vS p x k, ()) := by
 obtain ⟨w, hw'⟩ := zO (xs := p.2.2.1) (k := k) (by omega)
 obtain ⟨c, hc'⟩ := zO (xs := p.2.1) (k := k) hk
 unfold zw vS wt cl
 rw [gj hw', gj hc', Comp.zA, zH hw', MW, Comp.zA]
 have e : eqI w 1 = decide (w = 1) := rfl
 rw [e]
 by_cases h : w = 1
 ·rw [decide_eq_true h]
  show Option.bind (idx p.2.1 (k : Int)).val _ = _
  rw [zH hc', MW, Comp.zA]
  show Option.bind (zu c x.2.2.1).val _ = _
  rw [vn c (by omega), MW, Comp.zB]; rfl
 ·rw [decide_eq_false h]
  show Option.bind (Comp.pure _).val _ = _
  rw [Comp.zB, MW, Comp.zA]
  show Option.bind (Comp.pure _).val _ = _
  rw [Comp.zB, MW, Comp.zB]; rfl
theorem rN {p : Part} {x : Piece} {k : Nat} (hk : k < p.2.1.length) (hw : p.2.2.1.length = p.2.1.length) (hc : x.2.1.length = p.2.1.length) : (zy (p, x, ()) (k : Int)).val = some (vT p x k, ()) := by
 obtain ⟨w, hw'⟩ := zO (xs := p.2.2.1) (k := k) (by omega)
 obtain ⟨c, hc'⟩ := zO (xs := x.2.1) (k := k) (by omega)
 unfold zy vT wt
 rw [gj hw', gj hc', Comp.zA, zH hw', MW, Comp.zA]
 have e : eqI w 1 = decide (w = 1) := rfl
 rw [e]
 by_cases h : w = 1
 ·rw [decide_eq_true h]
  show Option.bind (idx x.2.1 (k : Int)).val _ = _
  rw [zH hc', MW, Comp.zB]; rfl
 ·rw [decide_eq_false h]
  show Option.bind (Comp.pure _).val _ = _
  rw [Comp.zB, MW, Comp.zB]; rfl
theorem Bj {p : Part} {x : Piece} {k : Nat} (hk : k < p.2.1.length) (hw : p.2.2.1.length = p.2.1.length) (hc : x.1.length = p.2.1.length) : (yD (p, x, ()) (k : Int)).val = some (vL p x k, ()) := by
 obtain ⟨w, hw'⟩ := zO (xs := p.2.2.1) (k := k) (by omega)
 obtain ⟨c, hc'⟩ := zO (xs := x.1) (k := k) (by omega)
 unfold yD vL wt
 rw [gj hw', gj hc', Comp.zA, zH hw', MW, Comp.zA]
 have e : eqI w 2 = decide (w = 2) := rfl
 rw [e]
 by_cases h : w = 2
 ·rw [decide_eq_true h]
  show Option.bind (idx x.1 (k : Int)).val _ = _
  rw [zH hc', MW, Comp.zB]; rfl
 ·rw [decide_eq_false h]
  show Option.bind (Comp.pure _).val _ = _
  rw [Comp.zB, MW, Comp.zB]; rfl
theorem wP {p : Part} {x : Piece} (hw : p.2.2.1.length < 9223372036854775807) : (jR p x).val = some (vd p x, ()) := by
 unfold jR vd
 rw [Comp.zA, ZI hw, MW]
 by_cases hf : fit p x = 0
 ·obtain ⟨_, _, f1, f2, f3, f4, hn, hwn⟩ := qI hf
  rw [if_neg (by rw [neI_t]; simp [hf]), if_pos hf]
  have inner : ∀ (f : Int × Unit → Comp (Bool × Unit)) (e : Int) (g : Nat → Bool), (∀ k, k < p.2.1.length → (f ((k : Int), ())).val = some (g k, ())) → (Comp.loop
             (fun (x_2 : Int) =>
              if ltI x_2 (lenL p.2.1) = true then
               (f (x_2, ())).bind fun (x_3 : Bool × Unit) =>
                if x_3.1 = true then Comp.pure (Comp.Step.done (Sum.inr e)) else Comp.pure (Comp.Step.next (addW .i64 x_2 1))
              else Comp.pure (Comp.Step.done (Sum.inl () : Unit ⊕ Int)))
             0).val = some (bif anyI p.2.1.length g then .inr e else .inl ()) := by
   intro f e g hg
   exact qZ p.2.1.length g (c := (Sum.inr e : Unit ⊕ Int)) (d := Sum.inl ()) (body := (fun (x_2 : Int) =>
              if ltI x_2 (lenL p.2.1) = true then
               (f (x_2, ())).bind fun (x_3 : Bool × Unit) =>
                if x_3.1 = true then Comp.pure (Comp.Step.done (Sum.inr e)) else Comp.pure (Comp.Step.next (addW .i64 x_2 1))
              else Comp.pure (Comp.Step.done (Sum.inl () : Unit ⊕ Int))))
    (fun k hk => by
     rw [if_pos (by rw [ltI_t, zC]; omega), Comp.zA, hg k hk, MW, zL (by omega)]
     cases g k <;> exact Comp.zB _)
    (by rw [if_neg (by rw [ltI_t, zC]; omega), Comp.zB])
  have i1 := inner (fun z => zw (p, x, ()) z.1) 35 (vS p x) (fun k hk => qs hk hwn f3)
  have i2 := inner (fun z => zy (p, x, ()) z.1) 30 (vT p x) (fun k hk => rN hk hwn f2)
  have i3 := inner (fun z => yD (p, x, ()) z.1) 34 (vL p x) (fun k hk => Bj hk hwn f1)
  generalize hL : [(fun (z : Int × Unit) => Go.F.zw (p, x, ()) z.1, (35 : Int), ()), (fun (z : Int × Unit) => Go.F.zy (p, x, ()) z.1, 30, ()), (fun (z : Int × Unit) => Go.F.yD (p, x, ()) z.1, 34, ())] = L
  have l0 : (idx L ((0 : Nat) : Int)).val = some (fun z => zw (p, x, ()) z.1, 35, ()) := zH (by rw [← hL]; rfl)
  have l1 : (idx L ((1 : Nat) : Int)).val = some (fun z => zy (p, x, ()) z.1, 30, ()) := zH (by rw [← hL]; rfl)
  have l2 : (idx L ((2 : Nat) : Int)).val = some (fun z => yD (p, x, ()) z.1, 34, ()) := zH (by rw [← hL]; rfl)
  have hlen : lenL L = 3 := by rw [← hL]; rfl
  have hloop : (Comp.loop
       (fun (x_1 : Int) =>
        if ltI x_1 (lenL L) = true then
         (idx L x_1).bind
          fun (x : (Int × Unit → Comp (Bool × Unit)) × Int × Unit) =>
          (Comp.loop
             (fun (x_2 : Int) =>
              if ltI x_2 (lenL p.2.1) = true then
               (x.1 (x_2, ())).bind fun (x_3 : Bool × Unit) =>
                if x_3.1 = true then Comp.pure (Comp.Step.done (Sum.inr x.2.1)) else Comp.pure (Comp.Step.next (addW .i64 x_2 1))
              else Comp.pure (Comp.Step.done (Sum.inl ())))
             0).bind
           fun (x : Unit ⊕ Int) =>
           match x with
           | Sum.inl x => Comp.pure (Comp.Step.next (addW .i64 x_1 1))
           | Sum.inr x => Comp.pure (Comp.Step.done (Sum.inr x))
        else Comp.pure (Comp.Step.done (Sum.inl () : Unit ⊕ Int)))
       ((0 : Nat) : Int)).val = some (bif anyI p.2.1.length (vS p x) then .inr 35 else bif anyI p.2.1.length (vT p x) then .inr 30 else bif anyI p.2.1.length (vL p x) then .inr 34 else .inl ()) := by
   rw [Comp.zI, if_pos (by rw [ltI_t, hlen]; decide), Comp.zA, l0, MW, Comp.zA]
   refine (congrArg (fun o => Option.bind (Option.bind o _) _) i1).trans ?_
   cases anyI p.2.1.length (vS p x) with
   | true => rw [MW]; exact (congrArg (fun o => Option.bind o _) (Comp.zB _)).trans rfl
   | false =>
    rw [MW]
    refine (congrArg (fun o => Option.bind o _) (Comp.zB _)).trans ?_
    rw [MW]
    show (Comp.loop _ ((1 : Nat) : Int)).val = _
    rw [Comp.zI, if_pos (by rw [ltI_t, hlen]; decide), Comp.zA, l1, MW, Comp.zA]
    refine (congrArg (fun o => Option.bind (Option.bind o _) _) i2).trans ?_
    cases anyI p.2.1.length (vT p x) with
    | true => rw [MW]; exact (congrArg (fun o => Option.bind o _) (Comp.zB _)).trans rfl
    | false =>
     rw [MW]
     refine (congrArg (fun o => Option.bind o _) (Comp.zB _)).trans ?_
     rw [MW]
     show (Comp.loop _ ((2 : Nat) : Int)).val = _
     rw [Comp.zI, if_pos (by rw [ltI_t, hlen]; decide), Comp.zA, l2, MW, Comp.zA]
     refine (congrArg (fun o => Option.bind (Option.bind o _) _) i3).trans ?_
     cases anyI p.2.1.length (vL p x) with
     | true => rw [MW]; exact (congrArg (fun o => Option.bind o _) (Comp.zB _)).trans rfl
     | false =>
      rw [MW]
      refine (congrArg (fun o => Option.bind o _) (Comp.zB _)).trans ?_
      rw [MW]
      show (Comp.loop _ ((3 : Nat) : Int)).val = _
      rw [Comp.zI, if_neg (by rw [ltI_t, hlen]; decide), Comp.zB, MW]; rfl
  subst hL
  rw [Comp.zA]
  refine (congrArg (fun o => Option.bind o _) hloop).trans ?_
  rw [MW]
  cases anyI p.2.1.length (vS p x) <;> cases anyI p.2.1.length (vT p x) <;> cases anyI p.2.1.length (vL p x) <;> exact Comp.zB _
 ·rw [if_pos (by rw [neI_t]; exact hf), if_neg hf, Comp.zB]
def usl (p : Part) (cuts : List Cell) : Bool := !anyI p.2.1.length fun k => decide (wt p k = 2) && !sap (cl p k) cuts
theorem wQ {p : Part} {x : Eff} (hn : p.2.1.length ≤ 1000) (hwn : p.2.2.1.length = p.2.1.length) (hc : x.1.length < 9223372036854775807) : (kF p x).val = some (usl p x.1, ()) := by
 unfold kF usl
 have i1 := qZ p.2.1.length (fun k => decide (wt p k = 2) && !sap (cl p k) x.1) (c := (Sum.inr false : Unit ⊕ Bool)) (d := Sum.inl ()) (body := (fun (x_1 : Int) =>
      if ltI x_1 (lenL p.2.1) = true then
       (idx p.2.1 x_1).bind fun (x_2 : List (Pln)) =>
        (idx p.2.2.1 x_1).bind fun (x_3 : Int) =>
         (Comp.gd (eqI x_3 2) (Go.F.zu x_2 x.1) (false, ())).bind fun (x_4 : Bool × Unit) =>
          if sel (eqI x_3 2) (ntB x_4.1) false = true then Comp.pure (Comp.Step.done (Sum.inr false))
          else Comp.pure (Comp.Step.next (addW .i64 x_1 1))
      else Comp.pure (Comp.Step.done (Sum.inl ()))))
  (fun k hk => by
   obtain ⟨w, hw'⟩ := zO (xs := p.2.2.1) (k := k) (by omega)
   obtain ⟨c, hc'⟩ := zO (xs := p.2.1) (k := k) hk
   unfold wt cl
   rw [if_pos (by rw [ltI_t, zC]; omega), gj hw', gj hc', Comp.zA, zH hc', MW, Comp.zA, zH hw', MW, Comp.zA, show eqI w 2 = decide (w = 2) from rfl]
   by_cases h : w = 2
   ·rw [decide_eq_true h]
    show Option.bind (zu c x.1).val _ = _
    rw [vn c hc, MW, zL (by omega)]
    cases sap c x.1 <;> exact Comp.zB _
   ·rw [decide_eq_false h]
    show Option.bind (Comp.pure _).val _ = _
    rw [Comp.zB, MW, zL (by omega)]
    exact Comp.zB _)
  (by rw [if_neg (by rw [ltI_t, zC]; omega), Comp.zB])
 rw [Comp.zA]
 refine (congrArg (fun o => Option.bind o _) i1).trans ?_
 rw [MW]
 cases anyI p.2.1.length fun k => decide (wt p k = 2) && !sap (cl p k) x.1 <;> exact Comp.zB _
end Go.Geo
end
section
namespace Go.Geo
open Go Go.Eng Go.Lift Go.Den Go.F
variable {α β γ δ ε σ τ : Type}
def anyR (a m : Nat) (g : Nat → Bool) : Bool := (List.range' a m).any g
theorem qY {body : Int → Comp (Comp.Step Int ε)} (g : Nat → Bool) {c d : ε} : ∀ (m a : Nat), (∀ (i : Nat), a ≤ i → i < a + m → (body (i : Int)).val = some (if g i = true then .done c else .next ((i + 1 : Nat) : Int))) → (body ((a + m : Nat) : Int)).val = some (.done d) →
  (Comp.loop body (a : Int)).val = some (bif anyR a m g then c else d)
 | 0, a, hb, he => by rw [Comp.zI]; rw [Nat.add_zero] at he; rw [he]; rfl
 | m + 1, a, hb, he => by
  have ih := qY g m (a + 1) (fun i h1 h2 => hb i (by omega) (by omega)) (by rw [show a + 1 + m = a + (m + 1) by omega]; exact he)
  rw [Comp.zI, hb a (Mb _) (by omega)]
  unfold anyR
  rw [List.range'_succ, List.any_cons]
  cases hg : g a with
  | true => rfl
  | false => exact ih
def incr (l : List Int) : Bool := !anyR 1 (l.length - 1) fun k => decide (l.getD k 0 ≤ l.getD (k - 1) 0)
theorem Zp {l : List Int} (hl : l.length ≤ 1000000) : (jC l).val = some (incr l, ()) := by
 unfold jC incr
 have h1 := qY (fun k => decide (l.getD k 0 ≤ l.getD (k - 1) 0)) (c := (Sum.inr false : Unit ⊕ Bool)) (d := Sum.inl ()) (body := (fun (x : Int) =>
      if ltI x (lenL l) = true then
       (idx l x).bind fun (x_1 : Int) =>
        (idx l (subW .i64 x 1)).bind fun (x_2 : Int) =>
         if leI x_1 x_2 = true then Comp.pure (Comp.Step.done (Sum.inr false)) else Comp.pure (Comp.Step.next (addW .i64 x 1))
      else Comp.pure (Comp.Step.done (Sum.inl ())))) (l.length - 1) 1
  (fun k h1 h2 => by
   obtain ⟨a, ha⟩ := zO (xs := l) (k := k) (by omega)
   obtain ⟨b, hb⟩ := zO (xs := l) (k := k - 1) (by omega)
   have hi : (idx l (subW .i64 (k : Int) 1)).val = some b := by
    rw [ZH (by omega), show (k : Int) - 1 = ((k - 1 : Nat) : Int) by omega]; exact zH hb
   rw [if_pos (by rw [ltI_t, zC]; omega), Comp.zA, zH ha, MW, Comp.zA, hi, MW, gj ha, gj hb, zL (by omega)]
   by_cases h : a ≤ b
   ·rw [if_pos (by rw [leI_t]; exact h), if_pos (by simpa using h), Comp.zB]
   ·rw [if_neg (by rw [leI_t]; exact h), if_neg (by simpa using h), Comp.zB])
  (by rw [if_neg (by rw [ltI_t, zC]; omega), Comp.zB])
 rw [Comp.zA]
 refine (congrArg (fun o => Option.bind o _) h1).trans ?_
 rw [MW]
 cases anyR 1 (l.length - 1) fun k => decide (l.getD k 0 ≤ l.getD (k - 1) 0) <;> exact Comp.zB _
theorem Xt {l : List Int} (hl : l.length ≤ 1000000) : (vt l).val = some (incr l, ()) := Zp hl
def badN (n k : Nat) (x : Int) : Bool := (decide (x < 0) || decide ((n : Int) ≤ x)) || decide (x = (k : Int))
def eE (n k : Nat) (x : Eff) : Int := if fstE (x.1 ++ x.2.1) = 0 then if x.2.2.1 < 1 ∨ 1048576 < x.2.2.1 then 3 else bif x.2.2.2.1.any (badN n k) then 3 else bif incr x.2.2.2.1 then 0 else 7 else fstE (x.1 ++ x.2.1)
def SmE (x : Eff) : Prop := x.1.length ≤ 100000 ∧ x.2.1.length ≤ 100000 ∧ x.2.2.2.1.length ≤ 100000
theorem qD {s : List Cell} {body : Int → Comp (Comp.Step Int (Unit ⊕ Int))} (hb : ∀ (i : Nat) c, s[i]? = some c → (body (i : Int)).val = some (if chk c = 0 then .next ((i + 1 : Nat) : Int) else .done (.inr (chk c)))) (he : (body (s.length : Int)).val = some (.done (.inl ()))) :
  (Comp.loop body 0).val = some (if fstE s = 0 then .inl () else .inr (fstE s)) := by
 have key : ∀ (ys zs : List Cell), s = zs ++ ys → (Comp.loop body (zs.length : Int)).val = some (if fstE ys = 0 then .inl () else .inr (fstE ys)) := by
  intro ys
  induction ys with
  | nil =>
   intro zs hx
   rw [Comp.zI, show zs.length = s.length by rw [hx]; simp, he]; rfl
  | cons y ys ih =>
   intro zs hx
   have hy : s[zs.length]? = some y := by rw [hx]; simp
   rw [XT]
   by_cases h : chk y = 0
   ·rw [if_pos h, Comp.zI, hb _ _ hy, if_pos h, MW]
    simpa using ih (zs ++ [y]) (by rw [hx]; simp)
   ·rw [if_neg h, if_neg h, Comp.zI, hb _ _ hy, if_neg h, MW]
 exact key s [] rfl
theorem Xa {n k : Nat} {x : Eff} (hs : SmE x) (hn : n ≤ 100000) {ln0 : Int} (hl : ln0 = (n : Int)) {inc : List Int → Comp (Bool × Unit)} (hinc : ∀ l, l.length ≤ 1000000 → (inc l).val = some (incr l, ())) {body : Int → Comp (Comp.Step Int (Unit ⊕ Int))}
  (hb : ∀ (i : Nat) w, x.2.2.2.1[i]? = some w → (body (i : Int)).val = some (if badN n k w = true then .done (.inr 3) else .next ((i + 1 : Nat) : Int))) (he : (body (x.2.2.2.1.length : Int)).val = some (.done (.inl ()))) :
  (if sel (ltI x.2.2.1 1) true (gtI x.2.2.1 1048576) = true then Comp.pure (3, ())
      else
       (Comp.loop body 0).bind
        fun (x_3 : Unit ⊕ Int) =>
        match x_3 with
        | Sum.inl x_4 =>
         (inc x.2.2.2.1).bind fun (x : Bool × Unit) => if ntB x.1 = true then Comp.pure (7, ()) else (Comp.pure (0, ()) : Comp (Int × Unit))
        | Sum.inr x => Comp.pure (x, ())).val = some (if x.2.2.1 < 1 ∨ 1048576 < x.2.2.1 then 3 else bif x.2.2.2.1.any (badN n k) then 3 else bif incr x.2.2.2.1 then 0 else 7, ()) := by
 obtain ⟨s1, s2, s3⟩ := hs
 by_cases hc : x.2.2.1 < 1 ∨ 1048576 < x.2.2.1
 ·rw [if_pos (by rw [vo, Bool.or_eq_true, ltI_t, gtI_t]; exact hc), if_pos hc, Comp.zB]
 ·rw [if_neg (by rw [vo, Bool.or_eq_true, ltI_t, gtI_t]; exact hc), if_neg hc, Comp.zA]
  have h1 := j4 x.2.2.2.1 (fun w => !badN n k w) (c := (Sum.inr 3 : Unit ⊕ Int)) (d := Sum.inl ()) (body := body)
   (fun i w hw => by rw [hb i w hw]; cases badN n k w <;> rfl) he
  have hall : (x.2.2.2.1.all fun w => !badN n k w) = !x.2.2.2.1.any (badN n k) := by rw [List.all_eq_not_any_not]; simp
  rw [hall] at h1
  refine (congrArg (fun o => Option.bind o _) h1).trans ?_
  rw [MW]
  cases x.2.2.2.1.any (badN n k) with
  | true => exact Comp.zB _
  | false =>
   show ((inc x.2.2.2.1).bind fun (x : Bool × Unit) => if ntB x.1 = true then Comp.pure (7, ()) else (Comp.pure (0, ()) : Comp (Int × Unit))).val = _
   rw [Comp.zA, hinc _ (by omega), MW]
   cases incr x.2.2.2.1 <;> exact Comp.zB _
theorem rQ {L : List Eff} {k : Nat} {x : Eff} (hx : L[k]? = some x) (hs : SmE x) (hL : L.length ≤ 100000) : (jo L (k : Int)).val = some (eE L.length k x, ()) := by
 have hs' := hs
 obtain ⟨s1, s2, s3⟩ := hs
 unfold jo eE
 have hcat : (zQ [x.1, x.2.1]).val = some (x.1 ++ x.2.1, ()) := by
  have := Xo (z := ([] : Cell)) (xs := [x.1, x.2.1]) (by simp; unfold LIM; omega) (by simp)
  simp only [List.flatten_cons, List.flatten_nil, List.append_nil] at this
  exact this
 rw [Comp.zA, zH hx, MW, Comp.zA, hcat, MW]
 simp only
 generalize hall : x.1 ++ x.2.1 = all
 have hal : all.length ≤ 200000 := by rw [← hall]; simp; omega
 have h2 := qD (s := all)
  (body := (fun (x_1 : Int) =>
        if ltI x_1 (lenL all) = true then
         (idx all x_1).bind fun (x : List (Pln)) =>
          (Go.F.yx x).bind fun (x : Int × Unit) =>
           if neI x.1 0 = true then Comp.pure (Comp.Step.done (Sum.inr x.1)) else Comp.pure (Comp.Step.next (addW .i64 x_1 1))
        else Comp.pure (Comp.Step.done (Sum.inl ()))))
  (fun i c hc => by
   have hlt := zG hc
   rw [if_pos (by rw [ltI_t, zC]; omega), Comp.zA, zH hc, MW, Comp.zA, vi, MW, zL (by omega)]
   by_cases h : chk c = 0
   ·rw [if_neg (by rw [neI_t]; simp [h]), if_pos h, Comp.zB]
   ·rw [if_pos (by rw [neI_t]; exact h), if_neg h, Comp.zB])
  (by rw [if_neg (by rw [ltI_t, zC]; omega), Comp.zB])
 rw [Comp.zA]
 refine (congrArg (fun o => Option.bind o _) h2).trans ?_
 rw [MW]
 by_cases h0 : fstE all = 0
 ·rw [if_pos h0, if_pos h0]
  refine Xa (n := L.length) (k := k) hs' hL (ln0 := lenL L) rfl (fun l hl => Zp hl) (fun i w hw => ?_) ?_
  ·have hlt := zG hw
   rw [if_pos (by rw [ltI_t, zC]; omega), Comp.zA, zH hw, MW, zL (by omega)]
   have e : sel (sel (ltI w 0) true (geI w (lenL L))) true (eqI w (k : Int)) = badN L.length k w := by rw [vo, vo]; rfl
   rw [e]
   cases badN L.length k w <;> exact Comp.zB _
  ·rw [if_neg (by rw [ltI_t, zC]; omega), Comp.zB]
 ·rw [if_neg h0, if_neg h0]; exact Comp.zB _
theorem wg {L : List Eff} {k : Nat} {x : Eff} (hx : L[k]? = some x) (hs : SmE x) (hL : L.length ≤ 100000) : (y5 L (k : Int)).val = some (eE L.length k x, ()) := by
 have hs' := hs
 obtain ⟨s1, s2, s3⟩ := hs
 unfold y5 eE
 rw [Comp.zA, zH hx, MW, Comp.zA, zr (by simp; unfold LIM; omega), MW, Comp.zA, zr (by simp; unfold LIM; omega), MW]
 simp only [List.nil_append]
 generalize hall : x.1 ++ x.2.1 = all
 have hal : all.length ≤ 200000 := by rw [← hall]; simp; omega
 have h2 := qD (s := all)
  (body := (fun (x_1 : Int) =>
        if ltI x_1 (lenL all) = true then
         (idx all x_1).bind fun (x : List (Pln)) =>
          (Go.F.zU x).bind fun (x : Int × Unit) =>
           if neI x.1 0 = true then Comp.pure (Comp.Step.done (Sum.inr x.1)) else Comp.pure (Comp.Step.next (addW .i64 x_1 1))
        else Comp.pure (Comp.Step.done (Sum.inl ()))))
  (fun i c hc => by
   have hlt := zG hc
   rw [if_pos (by rw [ltI_t, zC]; omega), Comp.zA, zH hc, MW, Comp.zA, gW, MW, zL (by omega)]
   by_cases h : chk c = 0
   ·rw [if_neg (by rw [neI_t]; simp [h]), if_pos h, Comp.zB]
   ·rw [if_pos (by rw [neI_t]; exact h), if_neg h, Comp.zB])
  (by rw [if_neg (by rw [ltI_t, zC]; omega), Comp.zB])
 rw [Comp.zA]
 refine (congrArg (fun o => Option.bind o _) h2).trans ?_
 rw [MW]
 by_cases h0 : fstE all = 0
 ·rw [if_pos h0, if_pos h0]
  refine Xa (n := L.length) (k := k) hs' hL (ln0 := lenL L) rfl (fun l hl => Xt hl) (fun i w hw => ?_) ?_
  ·have hlt := zG hw
   rw [if_pos (by rw [ltI_t, zC]; omega), Comp.zA, zH hw, MW, zL (by omega)]
   have e : badN L.length k w = ((ltI w 0 || geI w (lenL L)) || eqI w (k : Int)) := rfl
   rw [e]
   cases h1 : ltI w 0 with
   | true =>
    rw [Comp.zA]
    show Option.bind (Comp.pure _).val _ = _
    rw [Comp.zB, MW, Comp.zA]
    show Option.bind (Comp.pure _).val _ = _
    rw [Comp.zB, MW]
    exact Comp.zB _
   | false =>
    rw [Comp.zA]
    show Option.bind (idx x.2.2.2.1 (i : Int)).val _ = _
    rw [zH hw, MW, Comp.zA]
    cases h2 : geI w (lenL L) with
    | true =>
     show Option.bind (Comp.pure _).val _ = _
     rw [Comp.zB, MW]
     exact Comp.zB _
    | false =>
     show Option.bind (idx x.2.2.2.1 (i : Int)).val _ = _
     rw [zH hw, MW]
     cases eqI w (k : Int) <;> exact Comp.zB _
  ·rw [if_neg (by rw [ltI_t, zC]; omega), Comp.zB]
 ·rw [if_neg h0, if_neg h0]; exact Comp.zB _
def efs (n : Nat) : List Eff → Nat → Int
 | [], _ => 0
 | x :: l, k => if eE n k x = 0 then efs n l (k + 1) else eE n k x
def cutsN (L : List Eff) : Nat := (L.map fun x => x.1.length).sum
def ckJ (j : Job) : Int := if fit j.1 j.2.1 = 0 then if 8 < j.2.2.1.length then 2 else if efs j.2.2.1.length j.2.2.1 0 = 0 then if 24 < j.2.1.2.2.1.length + cutsN j.2.2.1 then 2 else 0 else efs j.2.2.1.length j.2.2.1 0 else fit j.1 j.2.1
theorem Xu {j : Job} (hw : j.1.2.2.1.length < 9223372036854775807) (hs : ∀ x ∈ j.2.2.1, SmE x) : (Zf j).val = some (ckJ j, ()) := by
 unfold Zf ckJ
 rw [Comp.zA, je hw, MW]
 by_cases hck : ckP j.1 = 0
 ·rw [if_neg (by rw [neI_t]; simp [hck]), Comp.zA, Jw, MW, yk]
  cases hfb : fitsB j.1 j.2.1 with
  | false =>
   have hf : fit j.1 j.2.1 = 4 := by unfold fit; rw [if_pos hck, hfb]; rfl
   rw [if_pos (by simp), if_neg (by rw [hf]; decide), hf, Comp.zB]
  | true =>
   have hf : fit j.1 j.2.1 = 0 := by unfold fit; rw [if_pos hck, hfb]; rfl
   obtain ⟨_, _, f1, f2, f3, f4, hn, hwn⟩ := qI hf
   rw [if_neg (by simp), if_pos hf]
   by_cases h8 : 8 < j.2.2.1.length
   ·rw [if_pos (by rw [gtI_t, zC]; omega), if_pos h8, Comp.zB]
   ·rw [if_neg (by rw [gtI_t, zC]; omega), if_neg h8]
    generalize hL : j.2.2.1 = L at h8 hs
    have key : ∀ (ys zs : List Eff) (c : Nat), L = zs ++ ys → c + ys.length * 100000 ≤ 10000000 → (Comp.loop
          (fun (x : Int × Int) =>
           if ltI x.2 (lenL L) = true then
            (idx L x.2).bind
             fun
              (x_1 :
               List (List (Pln)) ×
                List (List (Pln)) × Int × List Int × Unit) =>
             (Go.F.jo L x.2).bind fun (x_2 : Int × Unit) =>
              if neI x_2.1 0 = true then Comp.pure (Comp.Step.done (Sum.inr x_2.1))
              else Comp.pure (Comp.Step.next (addW .i64 x.1 (lenL x_1.1), addW .i64 x.2 1))
           else Comp.pure (Comp.Step.done (Sum.inl x.1 : Int ⊕ Int))) ((c : Int), (zs.length : Int))).val = some (if efs L.length ys zs.length = 0 then .inl ((c + cutsN ys : Nat) : Int) else .inr (efs L.length ys zs.length)) := by
     intro ys
     induction ys with
     | nil =>
      intro zs c hx _
      rw [Comp.zI, if_neg (by rw [ltI_t, zC, hx]; simp), Comp.zB]; rfl
     | cons y ys ih =>
      intro zs c hx hc
      have hy : L[zs.length]? = some y := by rw [hx]; simp
      have hlt := zG hy
      have hsy := hs y (List.mem_of_getElem? hy)
      have hcy := hsy.1
      simp only [List.length_cons] at hc
      rw [Comp.zI, if_pos (by rw [ltI_t, zC]; show (zs.length : Int) < _; omega), Comp.zA, zH hy, MW, Comp.zA, rQ hy hsy (by omega), MW]
      show _ = some (if (if eE L.length zs.length y = 0 then efs L.length ys (zs.length + 1) else eE L.length zs.length y) = 0 then _ else Sum.inr (if eE L.length zs.length y = 0 then efs L.length ys (zs.length + 1) else eE L.length zs.length y))
      by_cases he : eE L.length zs.length y = 0
      ·rw [if_neg (by rw [neI_t]; simp [he]), if_pos he, Comp.zB, MW, zL (by omega)]
       have hadd : addW .i64 (c : Int) (lenL y.1) = ((c + y.1.length : Nat) : Int) := by rw [zC, yr (by omega)]; omega
       rw [hadd]
       have := ih (zs ++ [y]) (c + y.1.length) (by rw [hx]; simp) (by omega)
       rw [show (zs ++ [y]).length = zs.length + 1 by simp] at this
       rw [show c + cutsN (y :: ys) = c + y.1.length + cutsN ys by unfold cutsN; rw [List.map_cons, List.sum_cons]; omega]
       exact this
      ·rw [if_pos (by rw [neI_t]; exact he), if_neg he, if_neg he, Comp.zB, MW]
    have h0 := key L [] j.2.1.2.2.1.length rfl (by omega)
    rw [Comp.zA]
    refine (congrArg (fun o => Option.bind o _) h0).trans ?_
    rw [MW]
    simp only [List.length_nil]
    by_cases he : efs L.length L 0 = 0
    ·rw [if_pos he, if_pos he]
     show (if gtI ((j.2.1.2.2.1.length + cutsN L : Nat) : Int) 24 = true then _ else _ : Comp (Int × Unit)).val = _
     by_cases h24 : 24 < j.2.1.2.2.1.length + cutsN L
     ·rw [if_pos (by rw [gtI_t]; omega), if_pos h24, Comp.zB]
     ·rw [if_neg (by rw [gtI_t]; omega), if_neg h24, Comp.zB]
    ·rw [if_neg he, if_neg he]; exact Comp.zB _
 ·have hf : fit j.1 j.2.1 = ckP j.1 := by unfold fit; rw [if_neg hck]
  rw [if_pos (by rw [neI_t]; exact hck), hf, if_neg hck, Comp.zB]
end Go.Geo
end
section
namespace Go.Geo
open Go Go.Eng Go.Lift Go.Den Go.F
variable {α β γ δ ε σ τ : Type}
theorem Y5 {j : Job} (hw : j.1.2.2.1.length < 9223372036854775807) (hs : ∀ x ∈ j.2.2.1, SmE x) : (vK j).val = some (ckJ j, ()) := by
 unfold vK ckJ
 rw [Comp.zA, ZK hw, MW]
 by_cases hck : ckP j.1 = 0
 ·rw [if_neg (by rw [neI_t]; simp [hck]), Comp.zA, Kf, MW, yk]
  cases hfb : fitsB j.1 j.2.1 with
  | false =>
   have hf : fit j.1 j.2.1 = 4 := by unfold fit; rw [if_pos hck, hfb]; rfl
   rw [if_pos (by simp), if_neg (by rw [hf]; decide), hf, Comp.zB]
  | true =>
   have hf : fit j.1 j.2.1 = 0 := by unfold fit; rw [if_pos hck, hfb]; rfl
   obtain ⟨_, _, f1, f2, f3, f4, hn, hwn⟩ := qI hf
   rw [if_neg (by simp), if_pos hf]
   by_cases h8 : 8 < j.2.2.1.length
   ·rw [if_pos (by rw [gtI_t, zC]; omega), if_pos h8, Comp.zB]
   ·rw [if_neg (by rw [gtI_t, zC]; omega), if_neg h8]
    generalize hL : j.2.2.1 = L at h8 hs
    have key : ∀ (ys zs : List Eff) (c : Nat), L = zs ++ ys → c + ys.length * 100000 ≤ 10000000 → (Comp.loop
          (fun (x : Int × Int) =>
           if ltI x.2 (lenL L) = true then
            (Go.F.y5 L x.2).bind fun (x_1 : Int × Unit) =>
             if neI x_1.1 0 = true then Comp.pure (Comp.Step.done (Sum.inr x_1.1))
             else
              (idx L x.2).bind
               fun
                (x_2 :
                 List (List (Pln)) ×
                  List (List (Pln)) × Int × List Int × Unit) =>
               Comp.pure (Comp.Step.next (addW .i64 x.1 (lenL x_2.1), addW .i64 x.2 1))
           else Comp.pure (Comp.Step.done (Sum.inl x.1 : Int ⊕ Int))) ((c : Int), (zs.length : Int))).val = some (if efs L.length ys zs.length = 0 then .inl ((c + cutsN ys : Nat) : Int) else .inr (efs L.length ys zs.length)) := by
     intro ys
     induction ys with
     | nil =>
      intro zs c hx _
      rw [Comp.zI, if_neg (by rw [ltI_t, zC, hx]; simp), Comp.zB]; rfl
     | cons y ys ih =>
      intro zs c hx hc
      have hy : L[zs.length]? = some y := by rw [hx]; simp
      have hlt := zG hy
      have hsy := hs y (List.mem_of_getElem? hy)
      have hcy := hsy.1
      simp only [List.length_cons] at hc
      rw [Comp.zI, if_pos (by rw [ltI_t, zC]; show (zs.length : Int) < _; omega), Comp.zA, wg hy hsy (by omega), MW]
      show _ = some (if (if eE L.length zs.length y = 0 then efs L.length ys (zs.length + 1) else eE L.length zs.length y) = 0 then _ else Sum.inr (if eE L.length zs.length y = 0 then efs L.length ys (zs.length + 1) else eE L.length zs.length y))
      by_cases he : eE L.length zs.length y = 0
      ·rw [if_neg (by rw [neI_t]; simp [he]), if_pos he, Comp.zA, zH hy, MW, Comp.zB, MW, zL (by omega)]
       have hadd : addW .i64 (c : Int) (lenL y.1) = ((c + y.1.length : Nat) : Int) := by rw [zC, yr (by omega)]; omega
       rw [hadd]
       have := ih (zs ++ [y]) (c + y.1.length) (by rw [hx]; simp) (by omega)
       rw [show (zs ++ [y]).length = zs.length + 1 by simp] at this
       rw [show c + cutsN (y :: ys) = c + y.1.length + cutsN ys by unfold cutsN; rw [List.map_cons, List.sum_cons]; omega]
       exact this
      ·rw [if_pos (by rw [neI_t]; exact he), if_neg he, if_neg he, Comp.zB, MW]
    have h0 := key L [] j.2.1.2.2.1.length rfl (by omega)
    rw [Comp.zA]
    refine (congrArg (fun o => Option.bind o _) h0).trans ?_
    rw [MW]
    simp only [List.length_nil]
    by_cases he : efs L.length L 0 = 0
    ·rw [if_pos he, if_pos he]
     show (if gtI ((j.2.1.2.2.1.length + cutsN L : Nat) : Int) 24 = true then _ else _ : Comp (Int × Unit)).val = _
     by_cases h24 : 24 < j.2.1.2.2.1.length + cutsN L
     ·rw [if_pos (by rw [gtI_t]; omega), if_pos h24, Comp.zB]
     ·rw [if_neg (by rw [gtI_t]; omega), if_neg h24, Comp.zB]
    ·rw [if_neg he, if_neg he]; exact Comp.zB _
 ·have hf : fit j.1 j.2.1 = ckP j.1 := by unfold fit; rw [if_neg hck]
  rw [if_pos (by rw [neI_t]; exact hck), hf, if_neg hck, Comp.zB]
def outR (n : Nat) (k : Int) : Bool := decide (k < 0) || decide ((n : Int) ≤ k)
def twc : List Int → List Int → Bool
 | _, [] => false
 | seen, k :: l => seen.contains k || twc (seen ++ [k]) l
def lsd (n : Nat) (done : List Int) : Int := bif done.any (outR n) then 5 else bif twc [] done then 6 else 0
theorem rL {n : Nat} {done : List Int} (hd : done.length ≤ 1000000) (hn : n ≤ 1000000) : (ZF (n : Int) done).val = some (lsd n done, ()) := by
 unfold ZF lsd
 have hc : (zN done fun z => vj z.1 (n : Int)).val = some (done.any (outR n), ()) :=
  jw (xs := done) (f := fun z => vj z.1 (n : Int)) (p := outR n) (by omega) fun k _ => by
   show (vj k (n : Int)).val = _
   unfold vj
   rw [Comp.zB, vo]; rfl
 rw [Comp.zA, hc, MW]
 cases done.any (outR n) with
 | true => rw [if_pos rfl, Comp.zB]; rfl
 | false =>
  rw [if_neg (by simp)]
  have inner : ∀ (k : Int) (l : List Int), l.length ≤ 1000000 → (Comp.loop
              (fun (x : Int × Int) =>
               if ltI x.2 (lenL l) = true then
                (idx l x.2).bind fun (x_3 : Int) =>
                 if eqI k x_3 = true then Comp.pure (Comp.Step.done (Sum.inl 6)) else Comp.pure (Comp.Step.next (x.1, addW .i64 x.2 1))
               else Comp.pure (Comp.Step.done (Sum.inr x.1 : Int ⊕ Int)))
              (0, 0)).val = some (bif l.contains k then .inl 6 else .inr 0) := by
   intro k l hl
   have h1 := Z5 (fun (_ : Unit) i => (((0 : Int), ((i : Nat) : Int)) : Int × Int)) l (fun (_ : Unit) m => if (!decide (k = m)) = true then Comp.Step.next () else Comp.Step.done (Sum.inl 6 : Int ⊕ Int)) (fun _ => (Sum.inr 0 : Int ⊕ Int)) ()
    (body := (fun (x : Int × Int) =>
               if ltI x.2 (lenL l) = true then
                (idx l x.2).bind fun (x_3 : Int) =>
                 if eqI k x_3 = true then Comp.pure (Comp.Step.done (Sum.inl 6)) else Comp.pure (Comp.Step.next (x.1, addW .i64 x.2 1))
               else Comp.pure (Comp.Step.done (Sum.inr x.1 : Int ⊕ Int))))
    (fun s i m hm => by
     have hlt := zG hm
     rw [if_pos (by rw [ltI_t, zC]; show (i : Int) < _; omega), Comp.zA, zH hm, MW, zL (by omega), show eqI k m = decide (k = m) from rfl]
     cases decide (k = m) <;> exact Comp.zB _)
    (fun s => by rw [if_neg (by rw [ltI_t, zC]; simp), Comp.zB])
   rw [XU] at h1
   have : (l.all fun m => !decide (k = m)) = !l.contains k := by
    rw [List.all_eq_not_any_not]
    simp only [Bool.not_not]
    congr 1
    rw [Bool.eq_iff_iff, List.any_eq_true, List.contains_iff_mem]
    constructor
    ·rintro ⟨m, h1, h2⟩
     have : k = m := by simpa using h2
     rw [this]; exact h1
    ·exact fun h => ⟨k, h, by simp⟩
   rw [this] at h1
   refine h1.trans ?_
   cases l.contains k <;> rfl
  have key : ∀ (ys zs : List Int), done = zs ++ ys → (Comp.loop
       (fun (x : Int × Int) =>
        if ltI x.2 (lenL done) = true then
         (idx done x.2).bind fun (x_1 : Int) =>
          (sub done 0 x.2).bind fun (x_2 : List Int) =>
           (Comp.loop
              (fun (x : Int × Int) =>
               if ltI x.2 (lenL x_2) = true then
                (idx x_2 x.2).bind fun (x_3 : Int) =>
                 if eqI x_1 x_3 = true then Comp.pure (Comp.Step.done (Sum.inl 6)) else Comp.pure (Comp.Step.next (x.1, addW .i64 x.2 1))
               else Comp.pure (Comp.Step.done (Sum.inr x.1)))
              (x.1, 0)).bind
            fun (x_3 : Int ⊕ Int) =>
            match x_3 with
            | Sum.inl x => Comp.pure (Comp.Step.done x)
            | Sum.inr x_4 => Comp.pure (Comp.Step.next (x_4, addW .i64 x.2 1))
        else Comp.pure (Comp.Step.done x.1)) (0, (zs.length : Int))).val = some (bif twc zs ys then 6 else 0) := by
   intro ys
   induction ys with
   | nil =>
    intro zs hx
    rw [Comp.zI, if_neg (by rw [ltI_t, zC, hx]; simp), Comp.zB]; rfl
   | cons y ys ih =>
    intro zs hx
    have hy : done[zs.length]? = some y := by rw [hx]; simp
    have hlt := zG hy
    have ht : done.take zs.length = zs := by rw [hx]; simp
    rw [Comp.zI, if_pos (by rw [ltI_t, zC]; show (zs.length : Int) < _; omega), Comp.zA, zH hy, MW, Comp.zA, pH (by omega), MW, ht, Comp.zA]
    refine (congrArg (fun o => Option.bind (Option.bind o _) _) (inner y zs (by omega))).trans ?_
    rw [MW]
    unfold twc
    cases zs.contains y with
    | true => exact (congrArg (fun o => Option.bind o _) (Comp.zB _)).trans rfl
    | false =>
     refine (congrArg (fun o => Option.bind o _) (Comp.zB _)).trans ?_
     rw [MW, zL (by omega)]
     simpa using ih (zs ++ [y]) (by rw [hx]; simp)
  rw [Comp.zA]
  refine (congrArg (fun o => Option.bind o _) (key done [] rfl)).trans ?_
  rw [MW]
  exact Comp.zB _
end Go.Geo
end
section
namespace Go.Geo
open Go Go.Eng Go.Lift Go.Den Go.F
variable {α β γ δ ε σ τ : Type}
def opn (L : List Eff) (k : Int) : Eff := L.getD k.toNat ([], [], 0, [], ())
def cutsD (L : List Eff) (done : List Int) : List Cell := done.flatMap fun k => (opn L k).1
def tchD (L : List Eff) (done : List Int) : List Cell := done.flatMap fun k => (opn L k).2.1
def newP (j : Job) (want : List Int) : Part := (j.1.1, j.1.2.1, want, ())
def vain (j : Job) (want done : List Int) : List Int × Int :=
 if ckJ j = 0 then if ckP (newP j want) = 0 then if lsd j.2.2.1.length done = 0 then
  if (apl (newP j want) j.2.1 (cutsD j.2.2.1 done) (tchD j.2.2.1 done)).2 = 0 then
   if vd (newP j want) (apl (newP j want) j.2.1 (cutsD j.2.2.1 done) (tchD j.2.2.1 done)).1 = 35 then (done, 0) else (done.filter fun k => usl (newP j want) (opn j.2.2.1 k).1, 0)
  else ([], (apl (newP j want) j.2.1 (cutsD j.2.2.1 done) (tchD j.2.2.1 done)).2)
  else ([], lsd j.2.2.1.length done) else ([], ckP (newP j want)) else ([], ckJ j)
theorem gk {f : Int → List Cell} (h : ∀ k, (f k).length ≤ 100000) : ∀ (done : List Int), (done.flatMap f).length ≤ done.length * 100000
 | [] => by simp
 | k :: done => by
  have := gk h done
  have := h k
  simp only [List.flatMap_cons, MZ, List.length_cons]; omega
theorem JC {L : List Eff} (hs : ∀ x ∈ L, SmE x) (k : Int) : SmE (opn L k) := by
 unfold opn
 rw [List.getD_eq_getElem?_getD]
 cases h : L[k.toNat]? with
 | none => exact ⟨by simp, by simp, by simp⟩
 | some x => exact hs x (List.mem_of_getElem? h)
theorem C7 {n : Nat} {done : List Int} (h : lsd n done = 0) : ∀ k ∈ done, 0 ≤ k ∧ k < n := by
 unfold lsd at h
 cases ho : done.any (outR n) with
 | true => rw [ho] at h; cases h
 | false =>
  rw [List.any_eq_false] at ho
  intro k hk
  have := ho k hk
  unfold outR at this
  simp at this
  omega
theorem wq {L : List Eff} {k : Int} (h : 0 ≤ k ∧ k < L.length) : (idx L k).val = some (opn L k) := by
 obtain ⟨x, hx⟩ := zO (xs := L) (k := k.toNat) (by omega)
 rw [Ym h.1 hx]
 unfold opn
 rw [gj hx]
theorem AE {L : List Eff} {done : List Int} (hd : done.length ≤ 1000) (hs : ∀ x ∈ L, SmE x) (hin : ∀ k ∈ done, 0 ≤ k ∧ k < L.length) : (Comp.loop
       (fun (x : List (List (Pln)) × List (List (Pln)) × Int) =>
        if ltI x.2.2 (lenL done) = true then
         (idx done x.2.2).bind fun (x_1 : Int) =>
          (idx L x_1).bind
           fun
            (x_2 :
             List (List (Pln)) ×
              List (List (Pln)) × Int × List Int × Unit) =>
           (idx L x_1).bind
            fun
             (x_3 :
              List (List (Pln)) ×
               List (List (Pln)) × Int × List Int × Unit) =>
            (app x.1 x_2.1).bind fun (zs : List (List (Pln))) =>
             (app x.2.1 x_3.2.1).bind fun (zs_1 : List (List (Pln))) =>
              Comp.pure (Comp.Step.next (zs, zs_1, addW .i64 x.2.2 1))
        else Comp.pure (Comp.Step.done (x.1, x.2.1)))
       ([], [], 0)).val = some (cutsD L done, tchD L done) := by
 have key : ∀ (ys zs : List Int), done = zs ++ ys → (Comp.loop
       (fun (x : List (List (Pln)) × List (List (Pln)) × Int) =>
        if ltI x.2.2 (lenL done) = true then
         (idx done x.2.2).bind fun (x_1 : Int) =>
          (idx L x_1).bind
           fun
            (x_2 :
             List (List (Pln)) ×
              List (List (Pln)) × Int × List Int × Unit) =>
           (idx L x_1).bind
            fun
             (x_3 :
              List (List (Pln)) ×
               List (List (Pln)) × Int × List Int × Unit) =>
            (app x.1 x_2.1).bind fun (zs : List (List (Pln))) =>
             (app x.2.1 x_3.2.1).bind fun (zs_1 : List (List (Pln))) =>
              Comp.pure (Comp.Step.next (zs, zs_1, addW .i64 x.2.2 1))
        else Comp.pure (Comp.Step.done (x.1, x.2.1))) (cutsD L zs, tchD L zs, (zs.length : Int))).val = some (cutsD L done, tchD L done) := by
  intro ys
  induction ys with
  | nil =>
   intro zs hx
   rw [Comp.zI, if_neg (by rw [ltI_t, zC, hx]; simp), Comp.zB, MW, hx, List.append_nil]
  | cons y ys ih =>
   intro zs hx
   have hy : done[zs.length]? = some y := by rw [hx]; simp
   have hlt := zG hy
   have h1 := wq (hin y (List.mem_of_getElem? hy))
   have hsm := JC hs y
   have hz1 : (cutsD L zs).length ≤ zs.length * 100000 := gk (fun k => (JC hs k).1) zs
   have hz2 : (tchD L zs).length ≤ zs.length * 100000 := gk (fun k => (JC hs k).2.1) zs
   have hs1 := hsm.1
   have hs2 := hsm.2.1
   have hzl : zs.length ≤ 1000 := by omega
   have c1 : cutsD L (zs ++ [y]) = cutsD L zs ++ (opn L y).1 := by unfold cutsD; simp
   have c2 : tchD L (zs ++ [y]) = tchD L zs ++ (opn L y).2.1 := by unfold tchD; simp
   rw [Comp.zI, if_pos (by rw [ltI_t, zC]; show (zs.length : Int) < _; omega), Comp.zA, zH hy, MW, Comp.zA, h1, MW, Comp.zA, h1, MW,
    Comp.zA, zr (by show (cutsD L zs).length + _ ≤ _; unfold LIM; omega), MW, Comp.zA, zr (by show (tchD L zs).length + _ ≤ _; unfold LIM; omega), MW, Comp.zB, MW, zL (by omega)]
   have := ih (zs ++ [y]) (by rw [hx]; simp)
   rw [c1, c2, MZ, Mc] at this
   exact this
 exact key done [] rfl
theorem pD {c1 c2 c3 : Comp (Int × Unit)} {e1 e2 e3 : Int} (h1 : c1.val = some (e1, ())) (h2 : c2.val = some (e2, ())) (h3 : e1 = 0 → e2 = 0 → c3.val = some (e3, ())) : (Comp.loop
     (fun (x : Int) =>
      if
        ltI x
          (lenL
           [fun (z : Unit) => c1, fun (z : Unit) => c2, fun (z : Unit) =>
            c3]) =
         true then
       (idx
          [fun (z : Unit) => c1, fun (z : Unit) => c2, fun (z : Unit) =>
           c3]
          x).bind
        fun (x_1 : Unit → Comp (Int × Unit)) =>
        (x_1 ()).bind fun (x_2 : Int × Unit) =>
         if neI x_2.1 0 = true then Comp.pure (Comp.Step.done (Sum.inr (([], x_2.1) : List Int × Int) : Unit ⊕ List Int × Int)) else Comp.pure (Comp.Step.next (addW .i64 x 1))
      else Comp.pure (Comp.Step.done (Sum.inl ())))
     0).val = some (if e1 = 0 then if e2 = 0 then if e3 = 0 then .inl () else .inr ([], e3) else .inr ([], e2) else .inr ([], e1)) := by
 generalize hL : [fun (z : Unit) => c1, fun (z : Unit) => c2, fun (z : Unit) => c3] = L
 have l0 : (idx L ((0 : Nat) : Int)).val = some (fun _ => c1) := zH (by rw [← hL]; rfl)
 have l1 : (idx L ((1 : Nat) : Int)).val = some (fun _ => c2) := zH (by rw [← hL]; rfl)
 have l2 : (idx L ((2 : Nat) : Int)).val = some (fun _ => c3) := zH (by rw [← hL]; rfl)
 have hlen : lenL L = 3 := by rw [← hL]; rfl
 show (Comp.loop _ ((0 : Nat) : Int)).val = _
 rw [Comp.zI, if_pos (by rw [ltI_t, hlen]; decide), Comp.zA, l0, MW, Comp.zA, h1, MW]
 by_cases he1 : e1 = 0
 ·rw [if_neg (by rw [neI_t]; simp [he1]), if_pos he1, Comp.zB, MW]
  show (Comp.loop _ ((1 : Nat) : Int)).val = _
  rw [Comp.zI, if_pos (by rw [ltI_t, hlen]; decide), Comp.zA, l1, MW, Comp.zA, h2, MW]
  by_cases he2 : e2 = 0
  ·rw [if_neg (by rw [neI_t]; simp [he2]), if_pos he2, Comp.zB, MW]
   show (Comp.loop _ ((2 : Nat) : Int)).val = _
   rw [Comp.zI, if_pos (by rw [ltI_t, hlen]; decide), Comp.zA, l2, MW, Comp.zA, h3 he1 he2, MW]
   by_cases he3 : e3 = 0
   ·rw [if_neg (by rw [neI_t]; simp [he3]), if_pos he3, Comp.zB, MW]
    show (Comp.loop _ ((3 : Nat) : Int)).val = _
    rw [Comp.zI, if_neg (by rw [ltI_t, hlen]; decide), Comp.zB, MW]
   ·rw [if_pos (by rw [neI_t]; exact he3), if_neg he3, Comp.zB, MW]
  ·rw [if_pos (by rw [neI_t]; exact he2), if_neg he2, Comp.zB, MW]
 ·rw [if_pos (by rw [neI_t]; exact he1), if_neg he1, Comp.zB, MW]
structure SmJ (j : Job) : Prop where
 w : j.1.2.2.1.length < 9223372036854775807
 e : ∀ x ∈ j.2.2.1, SmE x
 n : j.2.2.1.length ≤ 1000000
theorem Zz {j : Job} {want done : List Int} (hj : SmJ j) (hwt : want.length < 9223372036854775807) (hd : done.length ≤ 1000) : (gq j want done).val = some ((vain j want done).1, (vain j want done).2, ()) := by
 unfold gq vain
 have e1 : (jK j).val = some (ckJ j, ()) := by unfold jK; rw [Comp.zA, Xu hj.w hj.e, MW, Comp.zB]
 have e2 : (jJ (newP j want)).val = some (ckP (newP j want), ()) := by unfold jJ; rw [Comp.zA, je (p := newP j want) hwt, MW, Comp.zB]
 have e3 : (jI j done).val = some (lsd j.2.2.1.length done, ()) := by unfold jI; rw [Comp.zA, zC, rL (by omega) hj.n, MW, Comp.zB]
 rw [Comp.zA]
 refine (congrArg (fun o => Option.bind o _) (pD e1 e2 (fun _ _ => e3))).trans ?_
 rw [MW]
 by_cases h1 : ckJ j = 0
 ·rw [if_pos h1, if_pos h1]
  by_cases h2 : ckP (newP j want) = 0
  ·rw [if_pos h2, if_pos h2]
   by_cases h3 : lsd j.2.2.1.length done = 0
   ·rw [if_pos h3, if_pos h3]
    have hin := C7 h3
    have hc1 : (cutsD j.2.2.1 done).length ≤ 100000000 := by have := gk (fun k => (JC hj.e k).1) done; unfold cutsD; omega
    have hc2 : (tchD j.2.2.1 done).length ≤ 100000000 := by have := gk (fun k => (JC hj.e k).2.1) done; unfold tchD; omega
    show (Comp.bind (Comp.loop _ _) _).val = _
    rw [Comp.zA]
    refine (congrArg (fun o => Option.bind o _) (AE hd hj.e hin)).trans ?_
    rw [MW, Comp.zA]
    refine (congrArg (fun o => Option.bind o _) (lr (p := newP j want) (x := j.2.1) hwt hc1 hc2)).trans ?_
    rw [MW]
    simp only
    by_cases h4 : (apl (newP j want) j.2.1 (cutsD j.2.2.1 done) (tchD j.2.2.1 done)).2 = 0
    ·rw [if_neg (by rw [neI_t]; simp [h4]), if_pos h4, Comp.zA]
     refine (congrArg (fun o => Option.bind o _) (wP (p := newP j want) hwt)).trans ?_
     rw [MW]
     have hcl : (vF done).val = some (done, ()) := Xk (by unfold LIM; omega)
     by_cases h5 : vd (newP j want) (apl (newP j want) j.2.1 (cutsD j.2.2.1 done) (tchD j.2.2.1 done)).1 = 35
     ·rw [if_pos (by rw [eqI_t]; exact h5), if_pos h5, Comp.zA, hcl, MW, Comp.zB]
     ·have hpw : (newP j want).2.2.1.length = (newP j want).2.1.length ∧ (newP j want).2.1.length ≤ 16 := by
       unfold ckP at h2
       split at h2
       ·cases h2
       ·split at h2
        ·cases h2
        ·omega
      have hdel : (y9 done fun z => gZ z.1 (newP j want) j).val = some (done.filter fun k => usl (newP j want) (opn j.2.2.1 k).1) := by
       refine (lK (z := (0 : Int)) (f := fun z => gZ z.1 (newP j want) j) (p := fun k => !usl (newP j want) (opn j.2.2.1 k).1) (by omega) fun k hk => ?_).trans ?_
       ·show (gZ k (newP j want) j).val = _
        unfold gZ
        rw [Comp.zA, wq (hin k hk), MW, Comp.zA, wQ (by omega) hpw.1 (by have := (JC hj.e k).1; omega), MW, Comp.zB]; rfl
       ·simp only [Bool.not_not]
      rw [if_neg (by rw [eqI_t]; exact h5), if_neg h5, Comp.zA, hcl, MW, Comp.zA]
      refine (congrArg (fun o => Option.bind o _) hdel).trans ?_
      rw [MW, Comp.zB]
    ·rw [if_pos (by rw [neI_t]; exact h4), if_neg h4, Comp.zB]
   ·rw [if_neg h3, if_neg h3]; exact Comp.zB _
  ·rw [if_neg h2, if_neg h2]; exact Comp.zB _
 ·rw [if_neg h1, if_neg h1]; exact Comp.zB _
end Go.Geo
end
section
namespace Go.Geo
open Go Go.Eng Go.Lift Go.Den Go.F
variable {α β γ δ ε σ τ : Type}
abbrev Chg := Int × Int × Int × Unit
theorem mg {xs : List Int} {n : Int} (hl : xs.length < 9223372036854775807) : (yC xs n).val = some (fndI (fnd (fun x => decide (n = x)) xs 0), ()) := by
 have e : yC xs n = (Comp.loop
   (fun (x : Int) =>
    if ltI x (lenL xs) = true then
     (idx xs x).bind fun (x_1 : Int) =>
      if eqI n x_1 = true then Comp.pure (Comp.Step.done (Sum.inr x)) else Comp.pure (Comp.Step.next (addW .i64 x 1))
    else Comp.pure (Comp.Step.done (Sum.inl ())))
   0).bind
  fun (x : Unit ⊕ Int) =>
  match x with
  | Sum.inl x => Comp.pure (-1, ())
  | Sum.inr x => Comp.pure (x, ()) := by kernel_rfl
 rw [e]
 have key : ∀ (ys : List Int) (i : Nat), Comp.foldE (fun (s : Nat) x => if decide (n = x) = true then Comp.Step.done (Sum.inr ((s : Nat) : Int)) else Comp.Step.next (s + 1)) (fun _ => (Sum.inl () : Unit ⊕ Int)) i ys = match fnd (fun x => decide (n = x)) ys i with | some j => Sum.inr ((j : Nat) : Int) | none => Sum.inl () := by
  intro ys
  induction ys with
  | nil => intro i; rfl
  | cons y ys ih =>
   intro i
   rw [Comp.foldE, fnd]
   by_cases hp : decide (n = y) = true
   ·rw [if_pos hp, if_pos hp]
   ·rw [if_neg hp, if_neg hp]; exact ih (i + 1)
 have h := Comp.jX (fun (s : Nat) i => ((i : Nat) : Int)) xs (fun (s : Nat) x => if decide (n = x) = true then Comp.Step.done (Sum.inr ((s : Nat) : Int)) else Comp.Step.next (s + 1)) (fun _ => (Sum.inl () : Unit ⊕ Int)) (fun s i => s = i)
  (body := fun (x : Int) =>
    if ltI x (lenL xs) = true then
     (idx xs x).bind fun (x_1 : Int) =>
      if eqI n x_1 = true then Comp.pure (Comp.Step.done (Sum.inr x)) else Comp.pure (Comp.Step.next (addW .i64 x 1))
    else Comp.pure (Comp.Step.done (Sum.inl ())))
  (fun s i x hx hs => by
   subst hs
   have hlt := zG hx
   rw [if_pos (by rw [ltI_t, zC]; omega), Comp.zA, zH hx, MW, zL (show s < 9223372036854775807 by omega), show eqI n x = decide (n = x) from rfl]
   cases decide (n = x) <;> exact Comp.zB _)
  (fun s i x s' hx hs he => by
   subst hs
   by_cases hp : decide (n = x) = true
   ·rw [if_pos hp] at he; cases he
   ·rw [if_neg hp] at he; cases he; rfl)
  (fun s hs => by rw [if_neg (by rw [ltI_t, zC]; omega), Comp.zB]) 0 rfl
 rw [key xs 0] at h
 rw [Comp.zA]
 refine (congrArg (fun o => Option.bind o _) h).trans ?_
 rw [MW]
 cases fnd (fun x => decide (n = x)) xs 0 <;> exact Comp.zB _
def ix (done : List Int) (k : Int) : Nat := (fnd (fun x => decide (k = x)) done 0).getD 0
theorem E4 {done : List Int} {k : Int} (h : k ∈ done) : fnd (fun x => decide (k = x)) done 0 = some (ix done k) ∧ done[ix done k]? = some k := by
 have h1 : (fnd (fun x => decide (k = x)) done 0).isSome = true := by rw [KF, List.any_eq_true]; exact ⟨k, h, by simp⟩
 obtain ⟨i, hi⟩ := Option.isSome_iff_exists.1 h1
 have hix : ix done k = i := by unfold ix; rw [hi]; rfl
 rw [hix]
 refine ⟨hi, ?_⟩
 obtain ⟨_, x, h2, h3, _⟩ := KD hi
 rw [Nat.sub_zero] at h2
 have : k = x := by simpa using h3
 rw [this]; exact h2
def never (d : Int) : Bool := decide (d < 0) || decide (100000 < d)
def payer (done shops days told : List Int) (k : Int) : Int :=
 if told.getD (shops.getD (ix done k) 0).toNat 0 < days.getD (ix done k) 0 then shops.getD (ix done k) 0 else -1
def chgs (j : Job) (done shops days told : List Int) (v : List Int) : List Chg := v.map fun k => (k, payer done shops days told k, (opn j.2.2.1 k).2.2.1, ())
def chg (j : Job) (want done shops days told : List Int) : List Chg × Int :=
 if (vain j want done).2 = 0 then if shops.length ≠ done.length ∨ days.length ≠ done.length then ([], 4) else if 6 < told.length then ([], 2) else if shops.any (outR told.length) = true then ([], 55) else if days.any never = true ∨ told.any never = true then ([], 3)
  else (chgs j done shops days told (vain j want done).1, 0) else ([], (vain j want done).2)
theorem AH {j : Job} {want done : List Int} : ∀ k ∈ (vain j want done).1, k ∈ done := by
 unfold vain
 intro k hk
 split at hk
 ·split at hk
  ·split at hk
   ·split at hk
    ·split at hk
     ·exact hk
     ·exact (List.mem_filter.1 hk).1
    ·cases hk
   ·cases hk
  ·cases hk
 ·cases hk
theorem DY {j : Job} {want done : List Int} (h : (vain j want done).2 = 0) : lsd j.2.2.1.length done = 0 ∧ ckJ j = 0 := by
 unfold vain at h
 split at h
 ·rename_i h1
  split at h
  ·split at h
   ·rename_i h3; exact ⟨h3, h1⟩
   ·rename_i h3; exact absurd h h3
  ·rename_i h3; exact absurd h h3
 ·rename_i h3; exact absurd h h3
theorem uc {j : Job} {want done : List Int} : (vain j want done).1.length ≤ done.length := by
 unfold vain
 split
 ·split
  ·split
   ·split
    ·split
     ·exact Mb _
     ·exact List.length_filter_le _ _
    ·simp
   ·simp
  ·simp
 ·simp
theorem Xn {j : Job} {want done shops days told : List Int} (hj : SmJ j) (hwt : want.length < 9223372036854775807) (hd : done.length ≤ 1000) (hs : shops.length < 9223372036854775807) (hy : days.length < 9223372036854775807) (ht : told.length < 9223372036854775807) :
  (vw j want done shops days told).val = some ((chg j want done shops days told).1, (chg j want done shops days told).2, ()) := by
 unfold vw chg
 rw [Comp.zA, Zz hj hwt hd, MW]
 by_cases h0 : (vain j want done).2 = 0
 ·rw [if_neg (by rw [neI_t]; simp [h0]), if_pos h0]
  by_cases h1 : shops.length ≠ done.length ∨ days.length ≠ done.length
  ·rw [if_pos (by rw [vo, Bool.or_eq_true, neI_t, neI_t, zC, zC, zC]; omega), if_pos h1, Comp.zB]
  ·rw [if_neg (by rw [vo, Bool.or_eq_true, neI_t, neI_t, zC, zC, zC]; omega), if_neg h1]
   by_cases h2 : 6 < told.length
   ·rw [if_pos (by rw [gtI_t, zC]; omega), if_pos h2, Comp.zB]
   ·rw [if_neg (by rw [gtI_t, zC]; omega), if_neg h2]
    have c1 : (zN shops fun z => vQ z.1 told).val = some (shops.any (outR told.length), ()) :=
     jw (xs := shops) (f := fun z => vQ z.1 told) (p := outR told.length) hs fun k _ => by
      show (vQ k told).val = _
      unfold vQ
      rw [Comp.zB, vo]; rfl
    have cn : ∀ l : List Int, l.length < 9223372036854775807 → (zN l fun z => yP z.1).val = some (l.any never, ()) := fun l hl =>
     jw (xs := l) (f := fun z => yP z.1) (p := never) hl fun k _ => by
      show (yP k).val = _
      unfold yP
      rw [Comp.zB, vo]; rfl
    rw [Comp.zA, c1, MW]
    by_cases h3 : shops.any (outR told.length) = true
    ·rw [if_pos h3, if_pos h3, Comp.zB]
    ·rw [if_neg h3, if_neg h3, Comp.zA, cn days hy, MW, Comp.zA]
     have hgd : (Comp.gd (ntB (days.any never)) (zN told fun z => yP z.1) (false, ())).val = some (bif days.any never then false else told.any never, ()) := by
      cases days.any never with
      | true => exact Comp.zB _
      | false => exact cn told ht
     refine (congrArg (fun o => Option.bind o _) hgd).trans ?_
     rw [MW]
     by_cases h4 : days.any never = true ∨ told.any never = true
     ·rw [if_pos (by
       show sel (days.any never) true (bif days.any never then false else told.any never) = true
       cases hh : days.any never with
       | true => rfl
       | false => rw [hh] at h4; simpa [sel] using h4), if_pos h4, Comp.zB]
     ·rw [if_neg (by
       show ¬ sel (days.any never) true (bif days.any never then false else told.any never) = true
       rw [not_or] at h4
       have a1 : days.any never = false := by simpa using h4.1
       have a2 : told.any never = false := by simpa using h4.2
       rw [a1, a2]; simp [sel]), if_neg h4]
      obtain ⟨hl0, hck⟩ := DY h0
      have hin := C7 hl0
      have hsub := AH (j := j) (want := want) (done := done)
      have hvl := uc (j := j) (want := want) (done := done)
      generalize hv : (vain j want done).1 = v at hsub hvl
      have hw := gN v.length (fun k l => match v[k]? with | some n => l ++ [(n, payer done shops days told n, (opn j.2.2.1 n).2.2.1, ())] | none => l) (fun k l => l ++ chgs j done shops days told (v.drop k)) (fun l k => l.length = k)
       (body := (fun (x : List (Int × Int × Int × Unit) × Int) =>
               if ltI x.2 (lenL v) = true then
                (idx v x.2).bind fun (x_2 : Int) =>
                 (Go.F.yC done x_2).bind fun (x_3 : Int × Unit) =>
                  (idx shops x_3.1).bind fun (x_4 : Int) =>
                   (idx days x_3.1).bind fun (x_5 : Int) =>
                    (idx told x_4).bind fun (x_6 : Int) =>
                     jn
                      (fun (x_7 : Int) =>
                       (idx j.2.2.1 x_2).bind
                        fun
                         (x_8 :
                          List (List (Pln)) ×
                           List (List (Pln)) × Int × List Int × Unit) =>
                        (app x.1 [(x_2, x_7, x_8.2.2.1, ())]).bind fun (zs : List (Int × Int × Int × Unit)) =>
                         Comp.pure (Comp.Step.next (zs, addW .i64 x.2 1)))
                      fun (j : Int → Comp (Comp.Step (List (Int × Int × Int × Unit) × Int) (List (Int × Int × Int × Unit)))) =>
                      if gtI x_5 x_6 = true then j x_4 else j (-1)
               else Comp.pure (Comp.Step.done x.1)))
       (fun l k hk hI => by
        obtain ⟨n, hn⟩ := zO (xs := v) (k := k) hk
        have hnd := hsub n (List.mem_of_getElem? hn)
        obtain ⟨g1, g2⟩ := E4 hnd
        have hil := zG g2
        have hi : (yC done n).val = some (((ix done n : Nat) : Int), ()) := by rw [mg (by omega), g1]; rfl
        obtain ⟨s, hs'⟩ := zO (xs := shops) (k := ix done n) (by omega)
        obtain ⟨d, hd'⟩ := zO (xs := days) (k := ix done n) (by omega)
        have hsr : 0 ≤ s ∧ s < told.length := by
         have : shops.any (outR told.length) = false := by simpa using h3
         rw [List.any_eq_false] at this
         have := this s (List.mem_of_getElem? hs')
         unfold outR at this
         simp at this
         omega
        obtain ⟨t, ht'⟩ := zO (xs := told) (k := s.toNat) (by omega)
        refine ⟨?_, by rw [hn]; simp [hI], by rw [drop_cons hn, hn]; simp [chgs]⟩
        rw [hn]
        simp only
        rw [if_pos (by rw [ltI_t, zC]; show (k : Int) < _; omega), Comp.zA, zH hn, MW, Comp.zA, hi, MW, Comp.zA, zH hs', MW, Comp.zA, zH hd', MW, Comp.zA, Ym hsr.1 ht', MW, jn_eq]
        have hjn : ∀ pay : Int, ((idx j.2.2.1 n).bind
                        fun
                         (x_8 :
                          List (List (Pln)) ×
                           List (List (Pln)) × Int × List Int × Unit) =>
                        (app l [(n, pay, x_8.2.2.1, ())]).bind fun (zs : List (Int × Int × Int × Unit)) =>
                         (Comp.pure (Comp.Step.next (zs, addW .i64 (k : Int) 1)) : Comp (Comp.Step (List Chg × Int) (List Chg)))).val = some (.next (l ++ [(n, pay, (opn j.2.2.1 n).2.2.1, ())], ((k + 1 : Nat) : Int))) := fun pay => by
         rw [Comp.zA, wq (hin n hnd), MW, Comp.zA, zr (by simp only [Mc]; unfold LIM; omega), MW, Comp.zB, zL (by omega)]
        have hpay : payer done shops days told n = if t < d then s else -1 := by
         unfold payer
         rw [gj hs', gj hd', gj ht']
        rw [hpay]
        by_cases hlt : t < d
        ·rw [if_pos (by rw [gtI_t]; exact hlt), if_pos hlt]; exact hjn s
        ·rw [if_neg (by rw [gtI_t]; exact hlt), if_neg hlt]; exact hjn (-1))
       (fun l => by rw [if_neg (by rw [ltI_t, zC]; simp), Comp.zB]) (fun l => by rw [List.drop_length]; simp [chgs]) 0 [] (Nat.zero_le _) rfl
      rw [Comp.zA]
      refine (congrArg (fun o => Option.bind o _) hw).trans ?_
      rw [MW, Comp.zB]
      simp
 ·rw [if_pos (by rw [neI_t]; exact h0), if_neg h0, Comp.zB]
end Go.Geo
end
section
namespace Go.Geo
open Go Go.Eng Go.Lift Go.Den Go.F
variable {α β γ δ ε σ τ : Type}
abbrev Drw := List Int × Int × Unit
def DOk (n : Int) (d : Drw) : Prop := 0 ≤ d.2.1 ∧ d.2.1 ≤ n
theorem C4 {n m : Int} (hm : 1 ≤ m ∧ m ≤ 1000000) : Ok (yN n m) fun r => 0 ≤ r.1 ∧ r.1 < m := by
 unfold yN
 rw [if_neg (by rw [ltI_t]; omega), Ok.bind, Ok.rem (by omega), Ok.bind]
 have h1 : -m < n.tmod m ∧ n.tmod m < m := by
  have := Int.tmod_lt_of_pos n (show 0 < m by omega)
  have h2 : -m < n.tmod m := by
   rcases Int.le_total 0 n with hn | hn
   ·have := Int.tmod_nonneg m hn; omega
   ·have h3 := Int.tmod_lt_of_pos (-n) (show 0 < m by omega)
    rw [Int.neg_tmod] at h3; omega
  exact ⟨h2, this⟩
 rw [yr (by omega), Ok.rem (by omega), Ok.pure]
 have h3 : 0 ≤ n.tmod m + m := by omega
 refine ⟨?_, ?_⟩
 ·show 0 ≤ (n.tmod m + m).tmod m
  exact Int.tmod_nonneg m h3
 ·show (n.tmod m + m).tmod m < m
  exact Int.tmod_lt_of_pos _ (by omega)
theorem Es {d : Drw} {m k : Int} (hm : 1 ≤ m ∧ m ≤ 1000000) (hk : 0 ≤ k ∧ k ≤ 1000000000) (hd : DOk k d) : Ok (zD d m) fun r => DOk (k + 1) r.1.1 ∧ (0 ≤ r.2.1 ∧ r.2.1 < m) := by
 obtain ⟨h1, h2⟩ := hd
 unfold zD
 by_cases h : (lenL d.1) ≤ d.2.1
 ·rw [if_pos (by rw [geI_t]; exact h), Ok.pure]
  refine ⟨⟨h1, ?_⟩, ?_⟩
  ·show d.2.1 ≤ k + 1; omega
  ·show 0 ≤ (0:Int) ∧ (0:Int) < m; omega
 ·rw [zC] at h
  rw [if_neg (by rw [geI_t, zC]; exact h), yr (by omega), ZH (by omega), show d.2.1 + 1 - 1 = d.2.1 by omega, Ok.bind]
  obtain ⟨x, hx⟩ := zO (xs := d.1) (k := d.2.1.toNat) (by omega)
  rw [Ok.idx h1 hx, Ok.bind]
  refine (C4 hm).mono fun r hr => ?_
  rw [Ok.pure]
  refine ⟨⟨?_, ?_⟩, hr⟩
  ·show 0 ≤ d.2.1 + 1; omega
  ·show d.2.1 + 1 ≤ k + 1; omega
theorem MK (a b : V3) : Ok (zo a b) fun r => r.1.length = 6 := by
 unfold zo
 rw [Ok.pure]; rfl
def jL (b n : Nat) (C : List Cell) : Prop := C.length ≤ n ∧ ∀ c ∈ C, c ≠ [] ∧ c.length ≤ b
abbrev KS := jL 10
theorem jL.snoc {b n : Nat} {C : List Cell} {c : Cell} (h : jL b n C) (hc : c ≠ [] ∧ c.length ≤ b) : jL b (n + 1) (C ++ [c]) :=
by
  refine ⟨?_, fun d hd => ?_⟩
  · rw [MZ, Mc]; have := h.1; omega
  · rcases List.mem_append.1 hd with hd | hd
    · exact h.2 d hd
    · rw [List.mem_singleton.1 hd]; exact hc
theorem jL.mono {b n m : Nat} {C : List Cell} (h : jL b n C) (hnm : n ≤ m) : jL b m C := ⟨Nat.le_trans h.1 hnm, h.2⟩
theorem jL.wide {b d n : Nat} {C : List Cell} (h : jL b n C) (hbd : b ≤ d) : jL d n C := ⟨h.1, fun c hc => ⟨(h.2 c hc).1, Nat.le_trans (h.2 c hc).2 hbd⟩⟩
theorem CZ {c : Cell} (h : c.length = 6) : c ≠ [] ∧ c.length ≤ 6 := by
 refine ⟨fun e => ?_, ?_⟩
 ·rw [e] at h; cases h
 ·omega
end Go.Geo
end
section
namespace Go.Geo
open Go Go.Eng Go.Lift Go.Den Go.F
variable {α β γ δ ε σ τ : Type}
theorem yQ {d : Drw} {m k : Int} {f : ((Drw × Unit) × Int × Unit) → Comp α} {P : α → Prop} (hd : DOk k d) (hm : 1 ≤ m ∧ m ≤ 1000000) (hk : 0 ≤ k ∧ k ≤ 1000000000)
  (h : ∀ d' v, DOk (k + 1) d' → 0 ≤ v → v < m → Ok (f ((d', ()), v, ())) P) : Ok ((zD d m).bind f) P := by
 rw [Ok.bind]
 exact (Es hm hk hd).mono fun r hr => h r.1.1 r.2.1 hr.1 hr.2.1 hr.2.2
theorem Ok_jn {k : α → Comp β} {b : (α → Comp β) → Comp β} {P : β → Prop} (I : α → Prop) (hb : ∀ j, (∀ x, I x → Ok (j x) P) → Ok (b j) P) (hk : ∀ x, I x → Ok (k x) P) : Ok (jn k b) P := hb k hk
theorem d0 (x : List Int) : DOk 0 (x, 0, ()) := by unfold DOk; show (0:Int) ≤ 0 ∧ (0:Int) ≤ 0; omega
theorem kK {xs : List β} {i : Int} {f : β → Comp α} {P : α → Prop} (h0 : 0 ≤ i) (h1 : i < xs.length) (h : ∀ x, x ∈ xs → Ok (f x) P) : Ok ((idx xs i).bind f) P := by
 obtain ⟨x, hx⟩ := zO (xs := xs) (k := i.toNat) (by omega)
 rw [Ok.bind, Ok.idx h0 hx]
 exact h x (List.mem_of_getElem? hx)
theorem DV : 1000000 ≤ LIM := by decide
theorem gf {xs ys : List β} {f : List β → Comp α} {P : α → Prop} (hl : xs.length + ys.length ≤ 1000000) (h : Ok (f (xs ++ ys)) P) : Ok ((app xs ys).bind f) P := by
 rw [Ok.bind, Ok.app (by have := DV; omega)]; exact h
theorem AC {a b : V3} {f : Cell × Unit → Comp α} {P : α → Prop} (h : ∀ c : Cell, c.length = 6 → Ok (f (c, ())) P) : Ok ((zo a b).bind f) P := by
 rw [Ok.bind]
 exact (MK a b).mono fun r hr => h r.1 hr
theorem Gj {ys : Cell} {f : Cell → Comp α} {P : α → Prop} (hn : ys ≠ []) (hl : ys.length ≤ 1000000) (h : Ok (f ys) P) : Ok ((appE ys).bind f) P := by
 cases ys with
 | nil => exact (hn rfl).elim
 | cons y ys =>
  show Ok ((app [] (y :: ys)).bind f) P
  exact gf (by simpa using hl) h
theorem sel_l {a b : Bool} (h : sel a b false = true) : a = true ∧ b = true := by cases a <;> cases b <;> simp_all [sel]
def kJ (p : Part) : Prop := KS 12 p.2.1 ∧ p.2.1 ≠ [] ∧ p.2.2.1.length = p.2.1.length
theorem GL {x0 : List (List Int)} {p : Part} (hp : kJ p) : Ok (yV x0 p) fun r => r.1.length ≤ 4 := by
 unfold yV
 rw [Ok.bind]
 have hq : ∀ n : Nat, n < 9223372036854775807 → True := fun _ _ => trivial
 refine (Ok.loop (fun s : List Cell × Int => 0 ≤ s.2 ∧ s.2 ≤ 4 ∧ (s.1.length : Int) = s.2) (fun s => (4 - s.2).toNat) (P := fun r => r.length ≤ 4) ?_ ?_).mono fun r hr => ?_
 ·exact ⟨by show (0:Int) ≤ 0; omega, by show (0:Int) ≤ 4; omega, rfl⟩
 ·rintro ⟨C, i⟩ ⟨h1, h2, h3⟩
  dsimp only at h1 h2 h3 ⊢
  have hl : 0 < p.2.1.length := by cases hc : p.2.1 with
   | nil => exact (hp.2.1 hc).elim
   | cons _ _ => simp
  have hl2 := hp.1.1
  split
  ·rename_i hc
   obtain ⟨c1, c2⟩ := sel_l hc
   rw [ltI_t] at c1 c2
   rw [zC] at c1
   refine kK h1 c1 fun d hd => ?_
   refine yQ (d0 d) (by decide) (by decide) fun d1 v1 e1 g1 g1' => ?_
   refine yQ e1 (by rw [zC]; omega) (by decide) fun d2 v2 e2 g2 g2' => ?_
   rw [zC] at g2'
   refine kK g2 g2' fun c hc => ?_
   obtain ⟨k1, k2⟩ := hp.1.2 c hc
   refine Gj k1 (by omega) ?_
   refine Ok_jn (fun x => DOk 4 x.2) (fun j hj => ?_) fun x hx => ?_
   ·dsimp only
    split
    ·refine yQ e2 (by decide) (by decide) fun d3 v3 e3 g3 g3' => ?_
     refine yQ e3 (by decide) (by decide) fun d4 v4 e4 g4 g4' => ?_
     refine gf (by simp; omega) ?_
     exact hj _ e4
    ·exact hj _ ⟨e2.1, by have := e2.2; show d2.2.1 ≤ 4; omega⟩
   ·refine Ok_jn (fun _ => True) (fun j hj => ?_) fun y _ => ?_
    ·dsimp only
     split
     ·refine yQ hx (by decide) (by decide) fun d3 v3 e3 g3 g3' => ?_
      refine yQ e3 (by decide) (by decide) fun d4 v4 e4 g4 g4' => ?_
      refine yQ e4 (by decide) (by decide) fun d5 v5 e5 g5 g5' => ?_
      refine yQ e5 (by decide) (by decide) fun d6 v6 e6 g6 g6' => ?_
      refine yQ e6 (by decide) (by decide) fun d7 v7 e7 g7 g7' => ?_
      refine yQ e7 (by decide) (by decide) fun d8 v8 e8 g8 g8' => ?_
      exact AC fun c _ => hj _ trivial
     ·exact hj _ trivial
    ·refine gf (by simp; omega) ?_
     rw [Ok.pure]
     dsimp only
     rw [yr (by omega)]
     refine ⟨⟨by omega, by omega, by rw [MZ, Mc]; omega⟩, by omega⟩
  ·rw [Ok.pure]; dsimp only; omega
 ·rw [Ok.pure]; exact hr
end Go.Geo
end
section
namespace Go.Geo
open Go Go.Eng Go.Lift Go.Den Go.F
variable {α β γ δ ε σ τ : Type}
theorem Gi {c : Cell} {f : Bool × Unit → Comp α} {P : α → Prop} (hc : c.length ≤ 100) (h : ∀ b, Ok (f (b, ())) P) : Ok ((ze c).bind f) P := by
 rw [Ok.ZE (kQ c)]; exact h _
theorem DOk.up {k n : Int} {d : Drw} (h : DOk k d) (hk : k ≤ n) : DOk n d := ⟨h.1, by have := h.2; omega⟩
theorem jL.set {b n : Nat} {C : List Cell} {c : Cell} (h : jL b n C) (hc : c ≠ [] ∧ c.length ≤ b) (i : Int) : jL b n (setL C i c) := by
 unfold setL
 refine ⟨by rw [List.length_set]; exact h.1, fun d hd => ?_⟩
 rcases List.mem_or_eq_of_mem_set hd with hd | hd
 ·exact h.2 d hd
 ·rw [hd]; exact hc
theorem E8 (p : Pln) : Ok (yX p) fun _ => True := by
 unfold yX jx; rw [Ok.bind, Ok.pure, Ok.pure]; trivial
theorem EJ (x0 : List (List Int)) : Ok (gQ x0) fun r => kJ r.1 := by
 unfold gQ
 rw [Ok.bind]
 refine (Ok.loop (fun s : Int × List (List Int) => 0 ≤ s.1 ∧ s.1 ≤ 2 ∧ s.2.length = 2) (fun s => (2 - s.1).toNat) (P := fun r => r.length = 2) ?_ ?_).mono fun L hL => ?_
 ·exact ⟨by show (0:Int) ≤ 0; omega, by show (0:Int) ≤ 2; omega, rfl⟩
 ·rintro ⟨i, L⟩ ⟨h1, h2, h3⟩
  dsimp only at h1 h2 h3 ⊢
  split
  ·rename_i hc
   obtain ⟨c1, c2⟩ := sel_l hc
   rw [ltI_t] at c1 c2
   rw [zC] at c1
   refine kK h1 c1 fun d hd => ?_
   rw [Ok.ZE (ZW ⟨h1, by omega⟩), Ok.pure]
   dsimp only
   rw [yr (by omega)]
   refine ⟨⟨by omega, by omega, by unfold setL; rw [List.length_set]; exact h3⟩, by omega⟩
  ·rw [Ok.pure]; exact h3
 refine kK (by decide) (by rw [hL]; decide) fun l0 _ => ?_
 refine yQ (d0 l0) (by decide) (by decide) fun d1 v1 e1 g1 g1' => ?_
 refine Ok_jn (fun x => DOk 2 x.2) (fun j hj => ?_) fun x hx => ?_
 ·dsimp only
  refine yQ e1 (by decide) (by decide) fun d2 v2 e2 g2 g2' => ?_
  dsimp only
  split
  ·exact hj _ e2
  ·exact hj _ e2
 dsimp only
 refine yQ hx (by decide) (by decide) fun d2 v2 e2 g2 g2' => ?_
 refine yQ e2 (by decide) (by decide) fun d3 v3 e3 g3 g3' => ?_
 dsimp only at e3 ⊢
 have hg1 : v1 < 3 := g1'
 rw [Ok.bind]
 refine (Ok.loop (fun s : Int × Int × Part × Drw => 0 ≤ s.2.1 ∧ s.2.1 ≤ 2 + v1 ∧ jL 6 (2 * s.2.1).toNat s.2.2.1.2.1 ∧ s.2.1 ≤ s.2.2.1.2.1.length ∧ s.2.2.1.2.2.1 = [] ∧ DOk (4 + s.2.1) s.2.2.2) (fun s => (2 + v1 - s.2.1).toNat)
  (P := fun r => jL 6 8 r.1.2.1 ∧ 2 ≤ r.1.2.1.length ∧ r.1.2.2.1 = [] ∧ DOk 8 r.2) ?_ ?_).mono fun R hR => ?_
 ·refine ⟨by show (0:Int) ≤ 0; omega, by show (0:Int) ≤ 2 + v1; omega, ⟨Nat.zero_le _, fun _ h => by cases h⟩, by show (0:Int) ≤ (0:Nat); omega, rfl, e3.up (by show (2:Int) + 1 + 1 ≤ 4 + 0; omega)⟩
 ·rintro ⟨X, i, ⟨nm, C, w, u⟩, d⟩ ⟨h1, h2, h3, h4, h5, h6⟩
  dsimp only at h1 h2 h3 h4 h5 h6 ⊢
  rw [yr (m := 2) (n := v1) (by omega)]
  split
  ·rename_i hc
   rw [ltI_t] at hc
   refine yQ h6 (by decide) (by omega) fun d4 v4 e4 g4 g4' => ?_
   refine AC fun c hc6 => ?_
   have hl := h3.1
   refine gf (by simp; omega) ?_
   refine Ok_jn (fun y => jL 6 (2 * (i + 1)).toNat y.2.1 ∧ i + 1 ≤ y.2.1.length ∧ y.2.2.1 = []) (fun j hj => ?_) fun y hy => ?_
   ·dsimp only
    have s1 : jL 6 ((2 * i).toNat + 1) (C ++ [c]) := h3.snoc (CZ hc6)
    split
    ·refine AC fun c2 hc62 => ?_
     refine gf (by simp; omega) ?_
     refine hj _ ⟨(s1.snoc (CZ hc62)).mono (by omega), ?_, h5⟩
     dsimp only
     rw [MZ, MZ, Mc]; omega
    ·refine hj _ ⟨s1.mono (by omega), ?_, h5⟩
     dsimp only
     rw [MZ, Mc]; omega
   ·rw [Ok.pure]
    dsimp only
    rw [yr (m := i) (n := 1) (by omega)]
    exact ⟨⟨by omega, by omega, hy.1, hy.2.1, hy.2.2, e4.up (by omega)⟩, by omega⟩
  ·rename_i hc
   rw [ltI_t] at hc
   rw [Ok.pure]
   exact ⟨h3.mono (by omega), by dsimp only; omega, h5, h6.up (by omega)⟩
 obtain ⟨q1, q2, q3, q4⟩ := hR
 obtain ⟨⟨nm, C, w, u⟩, d⟩ := R
 dsimp only at q1 q2 q3 q4 ⊢
 refine Ok_jn (fun x => DOk 9 x.2) (fun j hj => ?_) fun x hx => ?_
 ·skip
  refine yQ q4 (by decide) (by decide) fun d4 v4 e4 g4 g4' => ?_
  dsimp only
  split
  ·exact hj _ e4
  ·exact hj _ e4
 skip
 refine Ok_jn (fun y => KS 9 y.2.1 ∧ 2 ≤ y.2.1.length ∧ y.2.2.1 = []) (fun j hj => ?_) fun y hy => ?_
 ·skip
  have k0 : ∀ nm u, (fun y : Part => KS 9 y.2.1 ∧ 2 ≤ y.2.1.length ∧ y.2.2.1 = []) (nm, C, w, u) := fun _ _ => ⟨(q1.wide (by decide)).mono (by omega), q2, q3⟩
  split
  ·have hl := q1.1
   refine yQ hx (by rw [zC]; omega) (by decide) fun d4 v4 e4 g4 g4' => ?_
   refine yQ e4 (by decide) (by decide) fun d5 v5 e5 g5 g5' => ?_
   rw [zC] at g4'
   dsimp only
   refine kK g4 g4' fun c hc => ?_
   obtain ⟨m1, m2⟩ := q1.2 c hc
   refine gf (by simp; omega) ?_
   refine gf (by simp; omega) ?_
   refine kK g4 g4' fun c' hc' => ?_
   obtain ⟨m1', m2'⟩ := q1.2 c' hc'
   refine gf (by simp; omega) ?_
   rw [Ok.bind]
   refine (E8 _).mono fun fl _ => ?_
   refine gf (by simp; omega) ?_
   refine Gi (by simp; omega) fun b1 => ?_
   rw [Ok.bind]
   refine Ok.gd_i (fun _ => (Ok.kB (kQ _)).2 ?_) (fun _ => ?_)
   all_goals
    refine Ok_jn (fun y => KS 9 y.2.1 ∧ 2 ≤ y.2.1.length ∧ y.2.2.1 = []) (fun j' hj' => ?_) fun y hy => hj _ hy
    dsimp only
    split
    ·rw [Ok.ZE (ZW ⟨g4, g4'⟩)]
     have t3 : ∀ z : Cell, (setL C v4 z).length = C.length := fun z => by unfold setL; rw [List.length_set]
     refine gf (by rw [Mc, t3]; omega) ?_
     refine hj' _ ⟨((q1.wide (by decide)).set (by simp; omega) v4).snoc (by simp; omega), ?_, q3⟩
     dsimp only
     rw [MZ, Mc, t3]; omega
    ·exact hj' _ ⟨(q1.wide (by decide)).mono (by omega), q2, q3⟩
  ·exact hj _ (k0 _ _)
 skip
 refine kK (by decide) (by rw [hL]; decide) fun l1 _ => ?_
 obtain ⟨nm2, C2, w2, u2⟩ := y
 obtain ⟨y1, y2, y3⟩ := hy
 dsimp only at y1 y2 y3 ⊢
 subst y3
 rw [Ok.bind]
 refine (Ok.loop (fun s : Int × Part × Drw => 0 ≤ s.1 ∧ s.1 ≤ C2.length ∧ s.2.1.2.1 = C2 ∧ (s.2.1.2.2.1.length : Int) = s.1 ∧ DOk s.1 s.2.2) (fun s => (C2.length - s.1).toNat)
  (P := fun r => kJ r) ?_ ?_).mono fun R hR => ?_
 ·exact ⟨by show (0:Int) ≤ 0; omega, by show (0:Int) ≤ C2.length; omega, rfl, rfl, d0 l1⟩
 ·rintro ⟨i, ⟨nm3, C3, w3, u3⟩, d⟩ ⟨h1, h2, h3, h4, h5⟩
  dsimp only at h1 h2 h3 h4 h5 ⊢
  subst h3
  have hl := y1.1
  split
  ·rename_i hc
   rw [ltI_t, zC] at hc
   refine yQ h5 (by decide) (by omega) fun d4 v4 e4 g4 g4' => ?_
   dsimp only
   refine kK g4 g4' fun z _ => ?_
   refine gf (by simp; omega) ?_
   rw [Ok.pure]
   dsimp only
   rw [yr (m := i) (n := 1) (by omega)]
   exact ⟨⟨by omega, by omega, rfl, by rw [MZ, Mc]; omega, e4⟩, by omega⟩
  ·rename_i hc
   rw [ltI_t, zC] at hc
   rw [Ok.pure]
   refine ⟨y1.mono (by omega), fun e => ?_, by dsimp only; omega⟩
   dsimp only at e
   rw [e] at y2; simp at y2
 ·rw [Ok.pure]; exact hR
end Go.Geo
end
section
namespace Go.Geo
open Go Go.Eng Go.Lift Go.Den Go.F
variable {α β γ δ ε σ τ : Type}
theorem Ir {p : Part} (hp : kJ p) : Ok (gl p) fun _ => True := by
 unfold gl
 have h1 := hp.1.1
 have := DV
 rw [Ok.bind, Ok.mk (by rw [zC]; omega), Ok.bind, Ok.mk (by rw [zC]; omega), Ok.pure]; trivial
def EffOk (x : Eff) : Prop := x.1.length ≤ 50 ∧ x.2.1.length ≤ 50 ∧ x.2.2.2.1.length ≤ 50
theorem wK {xs : List β} {l h : Int} {f : List β → Comp α} {P : α → Prop} (hr : 0 ≤ l ∧ l ≤ h ∧ h ≤ xs.length) (k : ∀ ys, ys.length = (h - l).toNat → Ok (f ys) P) : Ok ((sub xs l h).bind f) P := by
 rw [Ok.bind, Ok.sub hr]
 exact k _ (by rw [List.length_drop, List.length_take]; omega)
theorem uW {x0 : List (List Int)} {p : Part} {f : List Cell × Unit → Comp α} {P : α → Prop} (hp : kJ p) (k : ∀ C : List Cell, C.length ≤ 4 → Ok (f (C, ())) P) : Ok ((yV x0 p).bind f) P := by
 rw [Ok.bind]; exact (GL hp).mono fun r hr => k r.1 hr
theorem kO (m n : Int) : minI m n = min m n := rfl
theorem lJ {p : Part} {x1 : List Int} {x2 : Int} (hp : kJ p) : Ok (yS p x1 x2) fun r => EffOk r.1 := by
 unfold yS
 have hl := hp.1.1
 refine yQ (d0 x1) (by decide) (by decide) fun d1 v1 e1 g1 g1' => ?_
 refine Ok_jn (fun x => DOk 2 x.2) (fun j hj => ?_) fun x hx => ?_
 ·dsimp only
  split
  ·refine yQ e1 (by decide) (by decide) fun d2 v2 e2 g2 g2' => ?_
   exact hj _ e2
  ·exact hj _ (e1.up (by decide))
 refine Ok_jn (fun x : Eff => x.1 = [] ∧ x.2.1 = [] ∧ x.2.2.2.1.length ≤ 50) (fun j hj => ?_) fun y hy => ?_
 ·dsimp only
  split
  ·exact hj _ ⟨rfl, rfl, by show 1 ≤ 50; omega⟩
  ·exact hj _ ⟨rfl, rfl, by show 0 ≤ 50; omega⟩
 refine yQ hx (by decide) (by decide) fun d2 v2 e2 g2 g2' => ?_
 rw [Ok.bind]
 refine (Ok.loop (fun s : Int × Eff × Drw => 0 ≤ s.1 ∧ s.1 ≤ p.2.1.length ∧ (s.2.1.1.length ≤ s.1 ∧ s.2.1.2.1 = [] ∧ s.2.1.2.2.2.1.length ≤ 50) ∧ DOk (4 + 2 * s.1) s.2.2) (fun s => (p.2.1.length - s.1).toNat)
  (P := fun r : Eff => r.1.length ≤ 12 ∧ r.2.1 = [] ∧ r.2.2.2.1.length ≤ 50) ?_ ?_).mono fun R hR => ?_
 ·exact ⟨by show (0:Int) ≤ 0; omega, by show (0:Int) ≤ p.2.1.length; omega, ⟨by show ((y.1.length : Nat) : Int) ≤ 0; rw [hy.1]; decide, hy.2.1, hy.2.2⟩, e2.up (by show (2:Int) + 1 ≤ 4 + 2 * 0; omega)⟩
 ·rintro ⟨i, ⟨cu, to, co, ne, u⟩, d⟩ ⟨h1, h2, ⟨h3, h4, h5⟩, h6⟩
  dsimp only at h1 h2 h3 h4 h5 h6 ⊢
  split
  ·rename_i hc
   rw [ltI_t, zC] at hc
   refine yQ h6 (by decide) (by omega) fun d4 v4 e4 g4 g4' => ?_
   dsimp only
   refine kK h1 (by rw [hp.2.2]; exact hc) fun z _ => ?_
   refine Ok_jn (fun x => DOk (4 + 2 * (i + 1)) x.2) (fun j hj => ?_) fun x hx => ?_
   ·skip
    split
    ·refine Ok_jn (fun x => DOk (4 + 2 * (i + 1)) x.2) (fun j' hj' => ?_) fun x hx => hj _ hx
     skip
     split
     ·refine yQ e4 (by decide) (by omega) fun d5 v5 e5 g5 g5' => ?_
      exact hj' _ (e5.up (by omega))
     ·exact hj' _ (e4.up (by omega))
    ·exact hj _ (e4.up (by omega))
   ·refine Ok_jn (fun x : Eff => x.1.length ≤ i + 1 ∧ x.2.1 = [] ∧ x.2.2.2.1.length ≤ 50) (fun j hj => ?_) fun y hy => ?_
    ·skip
     split
     ·refine kK h1 hc fun c hcc => ?_
      obtain ⟨m1, m2⟩ := hp.1.2 c hcc
      refine gf (by simp; omega) ?_
      refine gf (by simp; omega) ?_
      refine hj _ ⟨?_, h4, h5⟩
      dsimp only
      rw [MZ, Mc]; omega
     ·exact hj _ ⟨by dsimp only; omega, h4, h5⟩
    ·rw [Ok.pure]
     dsimp only
     rw [yr (m := i) (n := 1) (by omega)]
     exact ⟨⟨by omega, by omega, hy, hx⟩, by omega⟩
  ·rename_i hc
   rw [ltI_t, zC] at hc
   rw [Ok.pure]
   exact ⟨by dsimp only; omega, h4, h5⟩
 refine Ok_jn (fun x : Eff => x.1.length ≤ 50 ∧ x.2.1.length ≤ 50 ∧ x.2.2.2.1.length ≤ 50) (fun j hj => ?_) fun y hy => ?_
 ·dsimp only
  split
  ·refine wK ⟨by rw [kO, zC]; omega, by rw [kO]; omega, by rw [zC]; omega⟩ fun ys hys => ?_
   refine uW hp fun C hC => ?_
   have hr1 := hR.1
   refine gf (by dsimp only; omega) ?_
   refine hj _ ⟨?_, ?_, hR.2.2⟩
   ·dsimp only; rw [MZ]; omega
   ·dsimp only; rw [hR.2.1]; exact Nat.zero_le _
  ·refine hj _ ⟨by have := hR.1; dsimp only; omega, ?_, hR.2.2⟩
   dsimp only; rw [hR.2.1]; exact Nat.zero_le _
 refine Ok_jn (fun x : Eff => x.1.length ≤ 50 ∧ x.2.1.length ≤ 50 ∧ x.2.2.2.1.length ≤ 50) (fun j hj => ?_) fun y hy => ?_
 ·dsimp only
  split
  ·refine wK ⟨by rw [kO, zC]; omega, by rw [kO]; omega, by rw [zC]; omega⟩ fun ys hys => ?_
   refine uW hp fun C hC => ?_
   exact hj _ ⟨hy.1, by dsimp only; omega, hy.2.2⟩
  ·exact hj _ hy
 rw [Ok.pure]
 exact hy
theorem wL {p : Part} {x1 : List Int} {x2 : Int} {f : Eff × Unit → Comp α} {P : α → Prop} (hp : kJ p) (k : ∀ e : Eff, EffOk e → Ok (f (e, ())) P) : Ok ((yS p x1 x2).bind f) P := by
 rw [Ok.bind]; exact (lJ hp).mono fun r hr => k r.1 hr
end Go.Geo
end
section
namespace Go.Geo
open Go Go.Eng Go.Lift Go.Den Go.F
variable {α β γ δ ε σ τ : Type}
structure JobOk (j : Job) : Prop where
 p : kJ j.1
 e : ∀ x ∈ j.2.2.1, EffOk x
 n : j.2.2.1.length ≤ 8
theorem EffOk.sm {x : Eff} (h : EffOk x) : SmE x := ⟨Nat.le_trans h.1 (by decide), Nat.le_trans h.2.1 (by decide), Nat.le_trans h.2.2 (by decide)⟩
theorem kJ.w {p : Part} (h : kJ p) : p.2.2.1.length < 9223372036854775807 := by rw [h.2.2]; have := h.1.1; omega
theorem AB {j : Job} {P : Int × Unit → Prop} (hj : JobOk j) (k : P (ckJ j, ())) : Ok (vK j) P := (Ok.kB (Y5 hj.p.w fun x hx => (hj.e x hx).sm)).2 k
theorem E3 (x0 : List (List Int)) : Ok (gP x0) fun r => JobOk r.1 ∧ 1 ≤ r.1.2.2.1.length := by
 unfold gP
 refine wK ⟨by decide, by rw [kO, zC]; omega, by rw [kO, zC]; omega⟩ fun x hx => ?_
 rw [Ok.bind]
 refine (EJ x).mono ?_
 rintro ⟨p, u⟩ hp
 rw [Ok.bind]
 refine (Ir hp).mono ?_
 rintro ⟨pc, u'⟩ -
 dsimp only at hp ⊢
 refine Ok_jn (fun y : Job => kJ y.1 ∧ y.2.2.1 = []) (fun j hj => ?_) fun y hy => ?_
 ·skip
  split
  ·rename_i hc
   rw [gtI_t, zC] at hc
   refine kK (by decide) (by omega) fun d hd => ?_
   refine yQ (d0 d) (by decide) (by decide) fun d1 v1 e1 g1 g1' => ?_
   refine Ok_jn (fun y : Job => kJ y.1 ∧ y.2.2.1 = []) (fun j' hj' => ?_) fun y hy => hj _ hy
   dsimp only
   split
   ·obtain ⟨d2, hd2⟩ := zO (xs := x0) (k := 2) (by omega)
    rw [Ok.bind, Ok.idx (by decide) hd2, Ok.bind, Ok.idx (by decide) hd2]
    refine wK ⟨by rw [kO, zC]; omega, by rw [kO]; omega, by rw [zC]; omega⟩ fun ys hys => ?_
    refine uW hp fun C hC => ?_
    rw [Ok.ZE (q7 hp.w (by dsimp only; omega) (by decide))]
    refine Ok_jn (fun y : Job => kJ y.1 ∧ y.2.2.1 = []) (fun j'' hj'' => ?_) fun y hy => hj' _ hy
    split
    ·exact hj'' _ ⟨hp, rfl⟩
    ·exact hj'' _ ⟨hp, rfl⟩
   ·exact hj' _ ⟨hp, rfl⟩
  ·exact hj _ ⟨hp, rfl⟩
 rw [Ok.bind]
 refine (Ok.loop (fun s : Int × Job => 3 ≤ s.1 ∧ s.1 ≤ 7 ∧ kJ s.2.1 ∧ (∀ x ∈ s.2.2.2.1, EffOk x) ∧ (s.2.2.2.1.length : Int) = s.1 - 3) (fun s => (7 - s.1).toNat)
  (P := fun r : Job => JobOk r ∧ r.2.2.1.length ≤ 4) ?_ ?_).mono fun R hR => ?_
 ·exact ⟨by show (3:Int) ≤ 3; omega, by show (3:Int) ≤ 7; omega, hy.1, fun x (hx : x ∈ y.2.2.1) => (by rw [hy.2] at hx; cases hx), by show ((y.2.2.1.length : Nat) : Int) = 3 - 3; rw [hy.2]; rfl⟩
 ·rintro ⟨i, p', pc', es, u''⟩ ⟨h1, h2, h3, h4, h5⟩
  dsimp only at h1 h2 h3 h4 h5 ⊢
  split
  ·rename_i hc
   obtain ⟨c1, c2⟩ := sel_l hc
   rw [ltI_t] at c1 c2
   rw [zC] at c1
   refine kK (by omega) c1 fun d hd => ?_
   refine wL hp fun e he => ?_
   refine gf (by simp; omega) ?_
   rw [Ok.pure]
   dsimp only
   rw [yr (by omega)]
   refine ⟨⟨by omega, by omega, h3, fun x hx => ?_, by rw [MZ, Mc]; omega⟩, by omega⟩
   rcases List.mem_append.1 hx with hx | hx
   ·exact h4 x hx
   ·rw [List.mem_singleton.1 hx]; exact he
  ·rw [Ok.pure]
   exact ⟨⟨h3, h4, by dsimp only; omega⟩, by dsimp only; omega⟩
 refine Ok_jn (fun y : Job => JobOk y ∧ 1 ≤ y.2.2.1.length) (fun j hj => ?_) fun y hy => ?_
 ·skip
  split
  ·refine wL hp fun e he => ?_
   have := hR.2
   refine gf (by simp; omega) ?_
   refine hj _ ⟨⟨hR.1.p, fun x hx => ?_, ?_⟩, ?_⟩
   ·rcases List.mem_append.1 hx with hx | hx
    ·exact hR.1.e x hx
    ·rw [List.mem_singleton.1 hx]; exact he
   ·dsimp only; rw [MZ, Mc]; omega
   ·dsimp only; rw [MZ, Mc]; omega
  ·rename_i hc
   rw [eqI_t, zC] at hc
   exact hj _ ⟨⟨hR.1.p, hR.1.e, hR.1.n⟩, by dsimp only; omega⟩
 rw [Ok.bind]
 refine (Ok.loop (fun s : Job => JobOk s ∧ 1 ≤ s.2.2.1.length) (fun s => s.2.2.1.length)
  (P := fun r : Job => JobOk r ∧ 1 ≤ r.2.2.1.length) hy ?_).mono fun R hR => ?_
 ·rintro ⟨p', pc', es, u''⟩ ⟨hs, hs1⟩
  have hn := hs.n
  dsimp only at hs hs1 hn ⊢
  rw [Ok.bind]
  have fin : ∀ x7 : Int × Unit, Ok (if sel (gtI (lenL es) 1) (eqI x7.1 2) false = true then jn (fun x : Job => Comp.pure (Comp.Step.next (x.1, x.2.1, x.2.2.1, ()))) fun j => (sub es 0 (subW .i64 (lenL es) 1)).bind fun ys => j (p', pc', ys, ()) else Comp.pure (Comp.Step.done (p', pc', es, ())))
    (fun t : Comp.Step Job Job => match t with | .next s' => (JobOk s' ∧ 1 ≤ s'.2.2.1.length) ∧ s'.2.2.1.length < es.length | .done r => JobOk r ∧ 1 ≤ r.2.2.1.length) := by
   intro x7
   split
   ·rename_i hc
    obtain ⟨c1, c2⟩ := sel_l hc
    rw [gtI_t, zC] at c1
    rw [zC, ZH (by omega)]
    refine Ok_jn (fun y : Job => (JobOk y ∧ 1 ≤ y.2.2.1.length) ∧ y.2.2.1.length < es.length) (fun j hj => ?_) fun y hy => ?_
    ·show Ok ((sub es 0 ((es.length : Int) - 1)).bind fun ys => j (p', pc', ys, ())) _
     rw [Ok.bind, Ok.sub (by omega)]
     refine hj _ ⟨⟨⟨hs.p, fun x hx => hs.e x (List.mem_of_mem_take (List.mem_of_mem_drop hx)), ?_⟩, ?_⟩, ?_⟩
     ·dsimp only; rw [List.length_drop, List.length_take]; omega
     ·dsimp only; rw [List.length_drop, List.length_take]; omega
     ·dsimp only; rw [List.length_drop, List.length_take]; omega
    ·rw [Ok.pure]; exact hy
   ·rw [Ok.pure]; exact ⟨hs, hs1⟩
  refine Ok.gd_i (fun _ => AB ⟨hs.p, hs.e, hs.n⟩ ?_) (fun _ => ?_)
  ·refine (fin _).mono fun t ht => ?_
   cases t <;> exact ht
  ·refine (fin _).mono fun t ht => ?_
   cases t <;> exact ht
 ·rw [Ok.pure]; exact hR
end Go.Geo
end
section
namespace Go.Geo
open Go Go.Eng Go.Lift Go.Den Go.F
variable {α β γ δ ε σ τ : Type}
theorem AF {j : Job} {x1 : List Int} (hj : JobOk j) : Ok (gA j x1) fun r => 1 ≤ r.1.length ∧ r.1.length ≤ 12 := by
 unfold gA
 have hl := hj.p.1.1
 have hw := hj.p.2.2
 have hne := List.length_pos_iff.2 hj.p.2.1
 rw [Ok.bind]
 refine (Ok.loop (fun s : List Int × Int × Drw => 0 ≤ s.2.1 ∧ s.2.1 ≤ j.1.2.2.1.length ∧ (s.1.length : Int) = s.2.1 ∧ DOk s.2.1 s.2.2) (fun s => (j.1.2.2.1.length - s.2.1).toNat)
  (P := fun r => 1 ≤ r.length ∧ r.length ≤ 12) ?_ ?_).mono fun R hR => ?_
 ·exact ⟨by show (0:Int) ≤ 0; omega, by show (0:Int) ≤ j.1.2.2.1.length; omega, rfl, d0 x1⟩
 ·rintro ⟨l, i, d⟩ ⟨h1, h2, h3, h4⟩
  dsimp only at h1 h2 h3 h4 ⊢
  split
  ·rename_i hc
   rw [ltI_t, zC] at hc
   refine yQ h4 (by decide) (by omega) fun d4 v4 e4 g4 g4' => ?_
   refine kK h1 hc fun z _ => ?_
   refine Ok_jn (fun _ => True) (fun j hj => ?_) fun y _ => ?_
   ·split
    ·exact hj _ trivial
    ·exact hj _ trivial
   ·refine gf (by simp; omega) ?_
    rw [Ok.pure]
    dsimp only
    rw [yr (m := i) (n := 1) (by omega)]
    exact ⟨⟨by omega, by omega, by rw [MZ, Mc]; omega, e4⟩, by omega⟩
  ·rename_i hc
   rw [ltI_t, zC] at hc
   rw [Ok.pure]; dsimp only; omega
 ·rw [Ok.pure]; exact hR
theorem GE {j : Job} {x1 : List Int} (hj : JobOk j) (h1 : 1 ≤ j.2.2.1.length) : Ok (gO j x1) fun r => r.1.length ≤ 4 := by
 unfold gO
 have hl := hj.n
 rw [Ok.bind]
 refine (Ok.loop (fun s : List Int × Int => 0 ≤ s.2 ∧ s.2 ≤ 4 ∧ (s.1.length : Int) ≤ s.2) (fun s => (4 - s.2).toNat)
  (P := fun r => r.length ≤ 4) ?_ ?_).mono fun R hR => ?_
 ·exact ⟨by show (0:Int) ≤ 0; omega, by show (0:Int) ≤ 4; omega, by show ((0:Nat):Int) ≤ 0; omega⟩
 ·rintro ⟨l, i⟩ ⟨h1, h2, h3⟩
  dsimp only at h1 h2 h3 ⊢
  split
  ·rename_i hc
   obtain ⟨c1, c2⟩ := sel_l hc
   rw [ltI_t] at c1 c2
   rw [zC] at c1
   refine kK h1 c1 fun z _ => ?_
   rw [Ok.bind]
   refine (C4 (by rw [zC]; omega)).mono fun r hr => ?_
   rw [Ok.bind]
   refine (Ok.loop (fun s : Bool × Int => 0 ≤ s.2 ∧ s.2 ≤ l.length) (fun s => (l.length - s.2).toNat) (P := fun _ => True) ?_ ?_).mono fun b _ => ?_
   ·exact ⟨by show (0:Int) ≤ 0; omega, by show (0:Int) ≤ l.length; omega⟩
   ·rintro ⟨b, k⟩ ⟨k1, k2⟩
    dsimp only at k1 k2 ⊢
    split
    ·rename_i hk
     rw [ltI_t, zC] at hk
     obtain ⟨w, hw⟩ := zO (xs := l) (k := k.toNat) (by omega)
     rw [Ok.bind]
     refine Ok.gd_i (fun _ => (Ok.idx k1 hw).2 ?_) (fun _ => ?_)
     all_goals
      rw [Ok.pure]
      dsimp only
      rw [yr (m := k) (n := 1) (by omega)]
      exact ⟨⟨by omega, by omega⟩, by omega⟩
    ·rw [Ok.pure]; trivial
   ·refine Ok_jn (fun y : List Int => (y.length : Int) ≤ i + 1) (fun j hj => ?_) fun y hy => ?_
    ·split
     ·refine gf (by simp; omega) ?_
      refine hj _ ?_
      rw [MZ, Mc]; omega
     ·refine hj _ ?_
      omega
    ·rw [Ok.pure]
     dsimp only
     rw [yr (m := i) (n := 1) (by omega)]
     exact ⟨⟨by omega, by omega, hy⟩, by omega⟩
  ·rw [Ok.pure]; dsimp only; omega
 ·rw [Ok.pure]; exact hR
abbrev Case := List (List Int) × List Int × List Int × Unit
abbrev Made := Job × List Int × List Int × Unit
def MR (m : Made) : Prop := JobOk m.1 ∧ (1 ≤ m.2.1.length ∧ m.2.1.length ≤ 12) ∧ m.2.2.1.length ≤ 4
theorem Ez (c : Case) : Ok (yO c) MR := by
 unfold yO
 refine wK ⟨by decide, by rw [kO, zC]; omega, by rw [kO, zC]; omega⟩ fun x hx => ?_
 rw [Ok.bind]
 refine (E3 x).mono fun j hj => ?_
 rw [Ok.bind]
 refine (AF hj.1).mono fun w hw => ?_
 rw [Ok.bind]
 refine (GE hj.1 hj.2).mono fun d hd => ?_
 rw [Ok.pure]
 exact ⟨hj.1, hw, hd⟩
end Go.Geo
end
section
namespace Go.Geo
open Go Go.Eng Go.Lift Go.Den Go.F
variable {α β γ δ ε σ τ : Type}
theorem JobOk.sm {j : Job} (h : JobOk j) : SmJ j := ⟨h.p.w, fun x hx => (h.e x hx).sm, Nat.le_trans h.n (by decide)⟩
def sm : List Chg → Int → Int
 | [], _ => 0
 | c :: l, p => (if c.2.1 = p then c.2.2.1 else 0) + sm l p
def tot : List Chg → Int
 | [] => 0
 | c :: l => c.2.2.1 + tot l
end Go.Geo
end
section
namespace Go.Geo
open Go Go.Eng Go.Lift Go.Den Go.F
variable {α β γ δ ε σ τ : Type}
def bx (a b c d e f : Int) : Cell := [((1,0,0,()),d,()),((-1,0,0,()),-a,()),((0,1,0,()),e,()),((0,-1,0,()),-b,()),((0,0,1,()),f,()),((0,0,-1,()),-c,())]
def b1 := bx 0 0 0 2 2 2
def b2 := bx 2 0 0 4 2 2
def b3 := bx 4 0 0 6 2 2
def ex : Job := (([], [b1, b2, b3], [1, 2, 3], ()), ([false, false, false], [false, false, false], [], ()), [([b2], [], 3, [], ()), ([b3], [], 4, [], ()), ([b2, b3], [], 5, [], ())], ())
theorem v1 : vain ex [1, 2, 3] [0, 1] = ([1], 0) := by decide +kernel
theorem v2 : vain ex [1, 3, 2] [0, 1] = ([0], 0) := by decide +kernel
theorem v3 : vain ex [3, 3, 3] [0, 1] = ([0, 1], 0) := by decide +kernel
theorem v4 : vain ex [1, 2, 1] [0, 1] = ([0, 1], 0) := by decide +kernel
theorem v5 : vain ex [1, 2, 3] [0, 3] = ([], 5) := by decide +kernel
theorem v6 : vain ex [1, 2, 3] [0, 0] = ([], 6) := by decide +kernel
theorem v7 : vain ex [1, 2] [0, 1] = ([], 1) := by decide +kernel
theorem c1 : chg ex [1, 3, 2] [0, 1] [1, 0] [5, 6] [9, 4] = ([(0, 1, 3, ())], 0) := by unfold chg; rw [v2]; decide +kernel
theorem c2 : chg ex [1, 3, 2] [0, 1] [1, 0] [4, 6] [9, 4] = ([(0, -1, 3, ())], 0) := by unfold chg; rw [v2]; decide +kernel
end Go.Geo
end
section
namespace Go.Geo
open Go Go.Eng Go.Lift Go.Den Go.F
variable {α β γ δ ε σ τ : Type}
theorem uK : vR.val = some (ex, ()) := by
 have h : vR.run 20 = some (ex, ()) := by kernel_rfl
 exact Comp.kc h
theorem ex_sm : SmJ ex where
 w := by decide
 e := fun x hx => by
  have : x = ([b2], [], 3, [], ()) ∨ x = ([b3], [], 4, [], ()) ∨ x = ([b2, b3], [], 5, [], ()) := by
   rcases List.mem_cons.1 hx with e | hx
   ·exact .inl e
   ·rcases List.mem_cons.1 hx with e | hx
    ·exact .inr (.inl e)
    ·rcases List.mem_cons.1 hx with e | hx
     ·exact .inr (.inr e)
     ·cases hx
  rcases this with e | e | e <;> rw [e] <;> exact ⟨by decide, by decide, by decide⟩
 n := by decide
theorem tj {w d v : List Int} (hv : vain ex w d = (v, 0)) (hw : w.length < 1000) (hd : d.length ≤ 1000) (hs : (ya v v).run 20 = some (true, ())) : (vC ex w d v).val = some (true, ()) := by
 unfold vC
 rw [Comp.zA, Zz ex_sm (by omega) hd, MW, hv]
 show ((Comp.gd true (ya v v) (false, ())).bind fun x => Comp.pure (sel true x.1 false, ())).val = _
 rw [Comp.zA]
 show Option.bind (ya v v).val _ = _
 rw [Comp.kc hs, MW, Comp.zB]; rfl
theorem XX {w d : List Int} {n : Int} (hv : vain ex w d = ([], n)) (hw : w.length < 1000) (hd : d.length ≤ 1000) : (yh ex w d n).val = some (true, ()) := by
 unfold yh
 rw [Comp.zA, Zz ex_sm (by omega) hd, MW, hv, Comp.zB]
 have : eqI n n = true := by rw [eqI_t]
 dsimp only
 rw [this]; rfl
theorem qt : y6.val = some (true, ()) := by
 unfold y6
 rw [Comp.zA, uK, MW, jn_eq]
 dsimp only
 rw [Comp.zA, tj v1 (by decide) (by decide) (by kernel_rfl), MW, if_pos rfl,
  Comp.zA, tj v2 (by decide) (by decide) (by kernel_rfl), MW, if_pos rfl,
  Comp.zA, tj v3 (by decide) (by decide) (by kernel_rfl), MW, if_pos rfl,
  Comp.zA, tj v4 (by decide) (by decide) (by kernel_rfl), MW, jn_eq,
  Comp.zA, XX (n := Int.ofNat 5) v5 (by decide) (by decide), MW, if_pos rfl,
  Comp.zA, XX (n := Int.ofNat 6) v6 (by decide) (by decide), MW, if_pos rfl,
  Comp.zA, XX (n := Int.ofNat 1) v7 (by decide) (by decide), MW,
  Comp.zA, Xn ex_sm (by decide) (by decide) (by decide) (by decide) (by decide), MW, c1,
  Comp.zA, Xn ex_sm (by decide) (by decide) (by decide) (by decide) (by decide), MW, c2, jn_eq]
 refine Comp.kc (n := 20) ?_
 kernel_rfl
end Go.Geo
end
section
namespace Go.Geo
open Go Go.Eng Go.Lift Go.Den Go.F
variable {α β γ δ ε σ τ : Type}
theorem lx {f : α → Bool} {a b : α} (h : f a = f b) : ∀ (l : List α) (i : Nat), (l.set i a).any f = (l.set i b).any f
 | [], _ => rfl
 | x :: l, 0 => by simp [h]
 | x :: l, i + 1 => by simp [lx h l i]
theorem J8 {l : List Int} {i n : Nat} {a : Int} : (l.set i a).getD n 0 = if i = n ∧ i < l.length then a else l.getD n 0 := by
 rw [List.getD_eq_getElem?_getD, List.getD_eq_getElem?_getD, List.getElem?_set]
 by_cases h : i = n
 ·subst h
  by_cases h2 : i < l.length
  ·simp [h2]
  ·simp [h2, List.getElem?_eq_none (Nat.le_of_not_lt h2)]
 ·simp [h]
section two
variable {j : Job} {want : List Int} {k : Int}
theorem DM : ckP (newP j (setL want k 3)) = ckP (newP j (setL want k 2)) := by
 have h1 : (setL want k 3).length = (setL want k 2).length := by unfold setL; rw [List.length_set, List.length_set]
 have h2 : (setL want k 3).any gx = (setL want k 2).any gx := by unfold setL; exact lx (a := (3 : Int)) (b := 2) (f := gx) rfl _ _
 unfold ckP newP
 dsimp only
 rw [h1, h2]
theorem mq (x : Piece) : fit (newP j (setL want k 3)) x = fit (newP j (setL want k 2)) x := by
 unfold fit
 rw [DM]
 rfl
theorem GY (x : Piece) (c t : List Cell) : apl (newP j (setL want k 3)) x c t = apl (newP j (setL want k 2)) x c t := by
 unfold apl
 rw [mq]
 rfl
theorem CT (i : Nat) : wt (newP j (setL want k 3)) i = 1 ↔ wt (newP j (setL want k 2)) i = 1 := by
 unfold wt newP setL
 dsimp only
 rw [J8, J8]
 split
 ·constructor <;> intro h <;> cases h
 ·rfl
theorem Gk (x : Piece) : vd (newP j (setL want k 3)) x = 35 ↔ vd (newP j (setL want k 2)) x = 35 := by
 have h1 : vS (newP j (setL want k 3)) x = vS (newP j (setL want k 2)) x := by
  funext i; unfold vS; rw [decide_eq_decide.2 (CT i)]; rfl
 have h2 : vT (newP j (setL want k 3)) x = vT (newP j (setL want k 2)) x := by
  funext i; unfold vT; rw [decide_eq_decide.2 (CT i)]
 unfold vd
 rw [mq, h1, h2]
 show (if _ = _ then bif anyI (newP j (setL want k 2)).2.1.length _ then _ else bif anyI (newP j (setL want k 2)).2.1.length _ then _ else bif _ then _ else _ else _) = 35 ↔ _
 split
 ·cases anyI (newP j (setL want k 2)).2.1.length (vS (newP j (setL want k 2)) x) with
  | true => simp
  | false =>
   cases anyI (newP j (setL want k 2)).2.1.length (vT (newP j (setL want k 2)) x) with
   | true => simp
   | false =>
    simp only [cond_false]
    constructor
    ·intro h; revert h; cases anyI _ (vL (newP j (setL want k 3)) x) <;> (intro h; cases h)
    ·intro h; revert h; cases anyI _ (vL (newP j (setL want k 2)) x) <;> (intro h; cases h)
 ·rfl
theorem Dr (c : List Cell) (h : usl (newP j (setL want k 2)) c = true) : usl (newP j (setL want k 3)) c = true := by
 unfold usl anyI at *
 rw [Bool.not_eq_true', List.any_eq_false] at *
 intro i hi h2
 refine h i hi ?_
 rw [MY, decide_eq_true_iff] at h2 ⊢
 refine ⟨?_, h2.2⟩
 have h3 := h2.1
 unfold wt newP setL at h3 ⊢
 dsimp only at h3 ⊢
 rw [J8] at h3 ⊢
 split
 ·rfl
 ·rename_i h4; rw [if_neg h4] at h3; exact h3
theorem AG (done : List Int) : (vain j (setL want k 3) done).2 = (vain j (setL want k 2) done).2 ∧ ∃ Q : Int → Bool, (vain j (setL want k 2) done).1 = (vain j (setL want k 3) done).1.filter Q := by
 have hv := Gk (j := j) (want := want) (k := k) (apl (newP j (setL want k 2)) j.2.1 (cutsD j.2.2.1 done) (tchD j.2.2.1 done)).1
 unfold vain
 rw [DM, GY]
 split
 ·split
  ·split
   ·split
    ·by_cases h : vd (newP j (setL want k 2)) (apl (newP j (setL want k 2)) j.2.1 (cutsD j.2.2.1 done) (tchD j.2.2.1 done)).1 = 35
     ·rw [if_pos h, if_pos (hv.2 h)]
      exact ⟨rfl, fun _ => true, (List.filter_eq_self.2 fun _ _ => rfl).symm⟩
     ·rw [if_neg h, if_neg (fun h2 => h (hv.1 h2))]
      refine ⟨rfl, fun n => usl (newP j (setL want k 2)) (opn j.2.2.1 n).1, ?_⟩
      dsimp only
      rw [List.filter_filter]
      refine List.filter_congr fun n _ => ?_
      cases h2 : usl (newP j (setL want k 2)) (opn j.2.2.1 n).1 with
      | false => rfl
      | true => rw [Dr _ h2]; rfl
    ·exact ⟨rfl, fun _ => true, rfl⟩
   ·exact ⟨rfl, fun _ => true, rfl⟩
  ·exact ⟨rfl, fun _ => true, rfl⟩
 ·exact ⟨rfl, fun _ => true, rfl⟩
end two
theorem Xb {l : List α} {i : Nat} {x : α} (h : l[i]? = some x) : l.drop i = x :: l.drop (i + 1) := by
 obtain ⟨h1, h2⟩ := List.getElem?_eq_some_iff.1 h
 rw [List.drop_eq_getElem_cons h1, h2]
theorem K7 {l m : List α} {i : Nat} {x : α} (h : l.drop i = x :: m) : l[i]? = some x ∧ l.drop (i + 1) = m := by
 have h1 : l[i]? = some x := by have := congrArg (·[0]?) h; simpa using this
 refine ⟨h1, ?_⟩
 rw [Xb h1] at h
 cases h; rfl
theorem mU (c : Case) {x1 : Int} (h1 : 0 ≤ x1 ∧ x1 < 256) : Ok (vv c x1) fun r => r.1 = true := by
 unfold vv
 rw [Ok.ZE qt, Ok.bind]
 refine (Ez c).mono ?_
 rintro ⟨j, want, done, u⟩ ⟨hj, hw, hdn⟩
 dsimp only at hj hw hdn ⊢
 refine gf (by simp; omega) ?_
 refine gf (by simp; omega) ?_
 rw [List.nil_append, show convW .i64 x1 = x1 from W_in (by omega), Ok.bind, Ok.rem (by rw [zC]; omega), zC]
 have m1 : 0 ≤ x1.tmod (want.length : Int) ∧ x1.tmod (want.length : Int) < want.length := ⟨Int.tmod_nonneg _ h1.1, Int.tmod_lt_of_pos _ (by omega)⟩
 generalize x1.tmod (want.length : Int) = k at m1
 obtain ⟨z, hz⟩ := zO (xs := want) (k := k.toNat) (by omega)
 rw [Ok.bind, Ok.idx m1.1 hz]
 by_cases hz1 : z = 1
 ·rw [if_pos (by rw [eqI_t]; exact hz1), Ok.pure]
 ·have hl : ∀ v, (setL want k v).length = want.length := fun v => by unfold setL; rw [List.length_set]
  rw [if_neg (by rw [eqI_t]; exact hz1), Ok.ZE (ZW (by omega)), Ok.ZE (ZW (by omega)), Ok.ZE (Zz hj.sm (by rw [hl]; omega) (by omega)), Ok.ZE (Zz hj.sm (by rw [hl]; omega) (by omega))]
  obtain ⟨e1, Q, e2⟩ := AG (j := j) (want := want) (k := k) done
  have hlen := uc (j := j) (want := setL want k 3) (done := done)
  show Ok (if neI (vain j (setL want k 3) done).2 (vain j (setL want k 2) done).2 = true then _ else _) _
  rw [if_neg (by rw [neI_t, e1]; simp)]
  dsimp only
  show Ok ((Comp.loop (fun (x_6 : Int × Int) => if ltI x_6.2 (lenL (vain j (setL want k 3) done).1) = true then (idx (vain j (setL want k 3) done).1 x_6.2).bind fun x_7 => (Comp.gd (ltI x_6.1 (lenL (vain j (setL want k 2) done).1)) (idx (vain j (setL want k 2) done).1 x_6.1) 0).bind fun x_8 => if sel (ltI x_6.1 (lenL (vain j (setL want k 2) done).1)) (eqI x_8 x_7) false = true then Comp.pure (Comp.Step.next (addW .i64 x_6.1 1, addW .i64 x_6.2 1)) else Comp.pure (Comp.Step.next (x_6.1, addW .i64 x_6.2 1)) else Comp.pure (Comp.Step.done x_6.1)) (0, 0)).bind fun x_6 => Comp.pure (sel true (eqI x_6 (lenL (vain j (setL want k 2) done).1)) false, ())) _
  rw [e2]
  generalize (vain j (setL want k 3) done).1 = A at hlen
  have hB : (A.filter Q).length ≤ A.length := List.length_filter_le _ _
  generalize hBe : A.filter Q = B at hB
  rw [Ok.bind]
  refine (Ok.loop (fun s : Int × Int => (0 ≤ s.2 ∧ s.2 ≤ A.length) ∧ (0 ≤ s.1 ∧ s.1 ≤ B.length) ∧ B.drop s.1.toNat = (A.drop s.2.toNat).filter Q) (fun s => (A.length - s.2).toNat) (P := fun r => r = (B.length : Int)) ?_ ?_).mono ?_
  ·exact ⟨⟨by show (0:Int) ≤ 0; omega, by show (0:Int) ≤ A.length; omega⟩, ⟨by show (0:Int) ≤ 0; omega, by show (0:Int) ≤ B.length; omega⟩, by show B = A.filter Q; exact hBe.symm⟩
  ·rintro ⟨x, i⟩ ⟨i1, i2, i3⟩
   dsimp only at i1 i2 i3 ⊢
   split
   ·rename_i hc
    rw [ltI_t, zC] at hc
    obtain ⟨n, hn⟩ := zO (xs := A) (k := i.toNat) (by omega)
    rw [Ok.bind, Ok.idx i1.1 hn, zC]
    rw [Xb hn, List.filter_cons] at i3
    have hi1 : (i + 1).toNat = i.toNat + 1 := by omega
    cases hq : Q n with
    | true =>
     rw [hq, if_pos rfl] at i3
     obtain ⟨g1, g2⟩ := K7 i3
     have g3 : x.toNat < B.length := (List.getElem?_eq_some_iff.1 g1).1
     have g4 : ltI x (B.length : Int) = true := by rw [ltI_t]; omega
     rw [g4]
     simp only [Comp.gd]
     rw [Ok.bind, Ok.idx i2.1 g1, if_pos (by simp [sel, eqI]), Ok.pure, yr (m := x) (by omega), yr (m := i) (by omega)]
     refine ⟨⟨⟨by omega, by omega⟩, ⟨by omega, by omega⟩, ?_⟩, by omega⟩
     show B.drop (x + 1).toNat = (A.drop (i + 1).toNat).filter Q
     rw [hi1, show (x + 1).toNat = x.toNat + 1 by omega]
     exact g2
    | false =>
     rw [hq, if_neg (by decide)] at i3
     by_cases hx : x < B.length
     ·obtain ⟨v, hv⟩ := zO (xs := B) (k := x.toNat) (by omega)
      have hvq : Q v = true := by
       have : v ∈ B := List.mem_of_getElem? hv
       rw [← hBe] at this
       exact (List.mem_filter.1 this).2
      have g4 : ltI x (B.length : Int) = true := by rw [ltI_t]; omega
      rw [g4]
      simp only [Comp.gd]
      have hne : eqI v n = false := by rw [← Bool.not_eq_true, eqI_t]; intro h; rw [h, hq] at hvq; cases hvq
      rw [Ok.bind, Ok.idx i2.1 hv, if_neg (by simp [sel, hne]), Ok.pure, yr (m := i) (by omega)]
      refine ⟨⟨⟨by omega, by omega⟩, i2, ?_⟩, by omega⟩
      show B.drop x.toNat = (A.drop (i + 1).toNat).filter Q
      rw [hi1]; exact i3
     ·have g4 : ltI x (B.length : Int) = false := by rw [← Bool.not_eq_true, ltI_t]; omega
      rw [g4]
      simp only [Comp.gd]
      rw [Ok.bind, Ok.pure, if_neg (by simp [sel]), Ok.pure, yr (m := i) (by omega)]
      refine ⟨⟨⟨by omega, by omega⟩, i2, ?_⟩, by omega⟩
      show B.drop x.toNat = (A.drop (i + 1).toNat).filter Q
      rw [hi1]; exact i3
   ·rename_i hc
    rw [ltI_t, zC] at hc
    rw [Ok.pure]
    rw [show A.drop i.toNat = [] from List.drop_eq_nil_of_le (by omega)] at i3
    have := List.drop_eq_nil_iff.1 i3
    omega
  ·rintro r rfl
   rw [Ok.pure, zC]
   show sel true (eqI _ _) false = true
   simp [sel, eqI]
end Go.Geo
end
