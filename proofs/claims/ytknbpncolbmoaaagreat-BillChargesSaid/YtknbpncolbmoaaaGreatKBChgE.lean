/- Lemmas behind a claim. -/
import Derived.Test.YtknbpncolbmoaaaGreatKBChgD
set_option linter.unusedSimpArgs false
set_option linter.unusedVariables false
open Go.Lift.Comp (Y6 kz zA I1 zL Zr y7)
section
namespace Go.Geo
open Go Go.Eng Go.Lift Go.Den Go.F
variable {α β γ δ ε σ τ : Type}
def rm (p : Pln) (x : Pnt) : Int := W (p.2.1 * x.2.2.2.1 - dt p.1 (x.1, x.2.1, x.2.2.1, ()))
def ins (r : List Pln) (x : Pnt) : Bool := r.all fun p => decide (0 ≤ rm p x)
def kG (r : List Pln) (l : List Pnt) (t : Pln × Pln × Pln) : List Pnt := match mt t.1 t.2.1 t.2.2 with
 | none => l
 | some x => if x ∈ l then l else bif ins r x then l ++ [x] else l
def crn (r : List Pln) : List Pnt := (tri r).foldl (kG r) []
def full (r : List Pln) : Bool := r.all fun p => (crn r).any fun x => decide (0 < rm p x)
theorem uf (p : Pln) (x : Pnt) : (ZD p x).val = some (rm p x, ()) := by
 unfold ZD ZB
 rw [zA, Comp.zB, zFq, Comp.zB]
 congr 2
 unfold rm dt
 simp only [I4, MZ, Wh, Ds, Dr, Rt, Rs]
theorem Zg {r : List Pln} {x : Pnt} (hl : r.length < 9223372036854775807) : (ZO r x).val = some (ins r x, ()) := by
 unfold ZO
 have h1 : (zY r fun z => ga z.1 x).val = some (r.any fun p => decide (rm p x < 0), ()) :=
  ki (xs := r) (f := fun z => ga z.1 x) (p := fun p => decide (rm p x < 0)) hl fun p _ => by
   show (ga p x).val = _
   unfold ga
   rw [zA, uf, zFq, Comp.zB]; rfl
 rw [zA, h1, zFq, Comp.zB]
 unfold ins
 congr 2
 simp only [ya]
 rw [List.all_eq_not_any_not]
 congr 2
 funext p
 by_cases h : rm p x < 0
 ·have : ¬ (0 ≤ rm p x) := by omega
  simp [h, this]
 ·have : 0 ≤ rm p x := by omega
  simp [h, this]
def qG (x y : Pnt) : Bool := adB (eqI x.1 y.1) (adB (eqI x.2.1 y.2.1) (adB (eqI x.2.2.1 y.2.2.1) (eqI x.2.2.2.1 y.2.2.2.1)))
theorem pG (x y : Pnt) : qG x y = decide (x = y) := by
 obtain ⟨a, b, c, d, _⟩ := x
 obtain ⟨a', b', c', d', _⟩ := y
 unfold qG eqI adB
 simp only
 rw [Bool.eq_iff_iff]
 simp [Prod.ext_iff]
def kn (l : List Pnt) : List (Pnt × Bool) := l.map fun x => (x, true)
theorem WG (l : List Pnt) (x : Pnt) : mgB qG (kn l) x = if x ∈ l then some true else none := by
 induction l with
 | nil => rfl
 | cons y l ih =>
  show (bif qG x y then some true else mgB qG (kn l) x) = _
  rw [pG, ih]
  by_cases h : x = y
  ·simp [h]
  ·simp [h]
theorem WD {l : List Pnt} {x : Pnt} (h : x ∉ l) : mpB qG (kn l) x true = kn (l ++ [x]) := by
 induction l with
 | nil => rfl
 | cons y l ih =>
  simp only [List.mem_cons, not_or] at h
  show (bif qG x y then (x, true) :: kn l else (y, true) :: mpB qG (kn l) x true) = _
  rw [pG, decide_eq_false h.1, cond_false, ih h.2]; rfl
theorem Cr : ∀ {r : List α} {t : α × α × α}, t ∈ tri r → t.1 ∈ r ∧ t.2.1 ∈ r ∧ t.2.2 ∈ r
 | [], _, h => by cases h
 | p :: l, t, h => by
  have prs_mem : ∀ {l : List α} {t : α × α}, t ∈ prs l → t.1 ∈ l ∧ t.2 ∈ l := by
   intro l
   induction l with
   | nil => intro t h; cases h
   | cons q l ih =>
    intro t h
    simp only [prs, List.mem_append, List.mem_map] at h
    rcases h with ⟨s, h1, rfl⟩ | h
    ·exact ⟨by simp, List.mem_cons_of_mem _ h1⟩
    ·have := ih h; exact ⟨List.mem_cons_of_mem _ this.1, List.mem_cons_of_mem _ this.2⟩
  simp only [tri, List.mem_append, List.mem_map] at h
  rcases h with ⟨s, h1, rfl⟩ | h
  ·have := prs_mem h1
   exact ⟨by simp, List.mem_cons_of_mem _ this.1, List.mem_cons_of_mem _ this.2⟩
  ·have := Cr h
   exact ⟨List.mem_cons_of_mem _ this.1, List.mem_cons_of_mem _ this.2.1, List.mem_cons_of_mem _ this.2.2⟩
theorem QY (l : List α) : (prs l).length ≤ l.length * l.length := by
 induction l with
 | nil => simp [prs]
 | cons x l ih =>
  simp only [prs, zFt, List.length_map, List.length_cons]
  have : (l.length + 1) * (l.length + 1) = l.length * l.length + 2 * l.length + 1 := by
   rw [Nat.add_mul, Nat.mul_add]; omega
  omega
theorem J5 (l : List α) : (tri l).length ≤ l.length * (l.length * l.length) := by
 induction l with
 | nil => simp [tri]
 | cons x l ih =>
  simp only [tri, zFt, List.length_map, List.length_cons]
  have h1 := QY l
  have h2 : l.length * (l.length * l.length) + l.length * l.length ≤ (l.length + 1) * ((l.length + 1) * (l.length + 1)) := by
   rw [Nat.add_mul, Nat.one_mul]
   refine Nat.add_le_add (Nat.mul_le_mul_left _ (Nat.mul_le_mul (by omega) (by omega))) (Nat.mul_le_mul (by omega) (by omega))
  omega
theorem J1 {r : List Pln} {l : List Pnt} {t : Pln × Pln × Pln} : (kG r l t).length ≤ l.length + 1 := by
 unfold kG
 split
 ·omega
 ·split
  ·omega
  ·cases ins r _ <;> simp
theorem pI (r : List Pln) : (crn r).length ≤ (tri r).length := by
 unfold crn
 have key : ∀ (ts : List (Pln × Pln × Pln)) (l : List Pnt), (ts.foldl (kG r) l).length ≤ l.length + ts.length := by
  intro ts
  induction ts with
  | nil => intro l; simp
  | cons t ts ih =>
   intro l
   have := ih (kG r l t)
   have := J1 (r := r) (l := l) (t := t)
   simp only [List.foldl_cons, List.length_cons]; omega
 have := key (tri r) []
 simpa using this
theorem Xr {b k i : Bool} {c : Comp (Bool × Unit)} (hc : b = true → k = false → c.val = some (i, ())) {A B : Comp β} :
  ((Comp.gd (sel b (ntB k) false) c (false, ())).bind fun x2 => if sel (sel b (ntB k) false) x2.1 false = true then A else B).val = (bif b && (!k && i) then A else B).val := by
 rw [zA]
 cases b with
 | false =>
  show (Option.bind (Comp.pure (false, ())).val _) = _
  rw [Comp.zB, zFq]; rfl
 | true =>
  cases k with
  | true =>
   show (Option.bind (Comp.pure (false, ())).val _) = _
   rw [Comp.zB, zFq]; rfl
  | false =>
   have := hc rfl rfl
   show (Option.bind c.val _) = _
   rw [this, zFq]
   cases i <;> rfl
theorem Kv {r : List Pln} (hl : r.length ≤ 1000) (hb : ∀ p ∈ r, okB p) : (vU r).val = some (crn r, ()) := by
 have hL := Zx
 have h3 : (tri r).length ≤ 1000000000 := by
  refine Nat.le_trans (J5 r) ?_
  exact Nat.mul_le_mul hl (Nat.mul_le_mul hl hl)
 unfold vU jm
 rw [zA, Comp.zB, zFq, zA, p7 (by omega), zFq]
 -- the walk over a list of triples, from a list of vertices
 have key : ∀ (ts : List (Pln × Pln × Pln)) (l : List Pnt), (∀ t ∈ ts, okB t.1 ∧ okB t.2.1 ∧ okB t.2.2) → l.length + ts.length ≤ 1000000000 → (KM
       (fun (x : List (Pnt) × List ((Pnt) × Bool))
         (d : List (Pln) × Unit) =>
        (Go.F.Yu d.1).bind fun x_1 => (Comp.gd
            (sel x_1.2.1
             (ntB
              (match
               mgB
                (fun (x x_2 : Pnt) => adB (eqI x.1 x_2.1) (adB (eqI x.2.1 x_2.2.1) (adB (eqI x.2.2.1 x_2.2.2.1) (eqI x.2.2.2.1 x_2.2.2.2.1))))
                x.2 x_1.1 with
              | some x => x
              | none => false))
             false)
            (Go.F.ZO r x_1.1) (false, ())).bind fun x_2 => jn (fun (x : List (Pnt) × List ((Pnt) × Bool)) => Comp.pure (.next (x.1, x.2)))
           fun (j :
             List (Pnt) × List ((Pnt) × Bool) → Comp (Comp.Step (List (Pnt) × List ((Pnt) × Bool)) Empty)) =>
           if
             sel
               (sel x_1.2.1
                (ntB
                 (match
                  mgB
                   (fun (x x_3 : Pnt) => adB (eqI x.1 x_3.1) (adB (eqI x.2.1 x_3.2.1) (adB (eqI x.2.2.1 x_3.2.2.1) (eqI x.2.2.2.1 x_3.2.2.2.1))))
                   x.2 x_1.1 with
                 | some x => x
                 | none => false))
                false)
               x_2.1 false =
              true then
            (app x.1 [x_1.1]).bind fun zs => j
              (zs,
               mpB
                (fun (x x_3 : Pnt) => adB (eqI x.1 x_3.1) (adB (eqI x.2.1 x_3.2.1) (adB (eqI x.2.2.1 x_3.2.2.1) (eqI x.2.2.2.1 x_3.2.2.2.1))))
                x.2 x_1.1 true)
           else j (x.1, x.2))
       (ts.map fun t => ([t.1, t.2.1, t.2.2], ())) (l, kn l)).val = some (.next (ts.foldl (kG r) l, kn (ts.foldl (kG r) l))) := by
  intro ts
  induction ts with
  | nil => intro l _ _; exact Comp.zB _
  | cons t ts ih =>
   intro l hts hlen
   obtain ⟨h1, h2, h3⟩ := hts t (by simp)
   simp only [List.length_cons] at hlen
   rw [List.map_cons]
   unfold KM
   have hmg : ∀ x, (match mgB (fun (x x_2 : Pnt) => adB (eqI x.1 x_2.1) (adB (eqI x.2.1 x_2.2.1) (adB (eqI x.2.2.1 x_2.2.2.1) (eqI x.2.2.2.1 x_2.2.2.2.1)))) (kn l) x with | some x => x | none => false) = decide (x ∈ l) := by
    intro x
    show (match mgB qG (kn l) x with | some x => x | none => false) = _
    rw [WG]
    by_cases h : x ∈ l <;> simp [h]
   have hlen' := J1 (r := r) (l := l) (t := t)
   have hgo := ih (kG r l t) (fun t' ht' => hts t' (List.mem_cons_of_mem _ ht')) (by omega)
   rw [zA, zA, qC h1 h2 h3, zFq, List.foldl_cons]
   let B0 : Comp (Comp.Step (List Pnt × List (Pnt × Bool)) Empty) := Comp.pure (.next (l, kn l))
   let A0 : Pnt → Comp (Comp.Step (List Pnt × List (Pnt × Bool)) Empty) := fun x => (app l [x]).bind fun zs => Comp.pure (.next (zs, mpB qG (kn l) x true))
   cases hm : mt t.1 t.2.1 t.2.2 with
   | none =>
    have hcr : kG r l t = l := by unfold kG; rw [hm]
    rw [hcr] at hgo ⊢
    refine (congrArg (fun o => Option.bind o _) ((Xr (b := false) (i := false) (fun h => nomatch h) (A := A0 (0, 0, 0, 0, ())) (B := B0)).trans (Comp.zB _))).trans ?_
    exact hgo
   | some x =>
    have hcr : kG r l t = if x ∈ l then l else bif ins r x then l ++ [x] else l := by unfold kG; rw [hm]
    by_cases hx : x ∈ l
    ·rw [if_pos hx] at hcr
     rw [hcr] at hgo ⊢
     have hk := hmg x
     rw [decide_eq_true hx] at hk
     have hv : ∀ k, k = true → (bif true && (!k && ins r x) then A0 x else B0).val = some (.next (l, kn l)) := fun k hk => by subst hk; exact Comp.zB _
     refine (congrArg (fun o => Option.bind o _) ((Xr (b := true) (i := ins r x) (fun _ _ => Zg (by omega)) (A := A0 x) (B := B0)).trans (hv _ hk))).trans ?_
     exact hgo
    ·rw [if_neg hx] at hcr
     have hk := hmg x
     rw [decide_eq_false hx] at hk
     cases hin : ins r x with
     | false =>
      rw [hin, cond_false] at hcr
      rw [hcr] at hgo ⊢
      have hv : ∀ k, k = false → (bif true && (!k && ins r x) then A0 x else B0).val = some (.next (l, kn l)) := fun k hk => by subst hk; rw [hin]; exact Comp.zB _
      refine (congrArg (fun o => Option.bind o _) ((Xr (b := true) (i := ins r x) (fun _ _ => Zg (by omega)) (A := A0 x) (B := B0)).trans (hv _ hk))).trans ?_
      exact hgo
     | true =>
      rw [hin, cond_true] at hcr
      rw [hcr] at hgo ⊢
      have hv : ∀ k, k = false → (bif true && (!k && ins r x) then A0 x else B0).val = some (.next (l ++ [x], kn (l ++ [x]))) := fun k hk => by
       subst hk
       rw [hin]
       show ((app l [x]).bind fun zs => (Comp.pure (.next (zs, mpB qG (kn l) x true)) : Comp (Comp.Step (List Pnt × List (Pnt × Bool)) Empty))).val = _
       rw [zA, zo (by simp only [zFv]; unfold LIM; omega), zFq, Comp.zB, WD hx]
      refine (congrArg (fun o => Option.bind o _) ((Xr (b := true) (i := ins r x) (fun _ _ => Zg (by omega)) (A := A0 x) (B := B0)).trans (hv _ hk))).trans ?_
      exact hgo
 have h1 := key (tri r) [] (fun t ht => by
  obtain ⟨a, b, c⟩ := Cr ht
  exact ⟨hb _ a, hb _ b, hb _ c⟩) (by simpa using h3)
 rw [zA]
 refine (congrArg (fun o => Option.bind o _) h1).trans ?_
 rw [zFq]
 exact Comp.zB _
theorem lA {r : List Pln} (hl : r.length ≤ 1000) (hb : ∀ p ∈ r, okB p) : (gY r).val = some (full r, ()) := by
 have hL := Zx
 have h3 : (crn r).length ≤ 1000000000 := by
  refine Nat.le_trans (pI r) (Nat.le_trans (J5 r) ?_)
  exact Nat.mul_le_mul hl (Nat.mul_le_mul hl hl)
 unfold gY
 rw [zA, Kv hl hb, zFq]
 have h1 : (zz r fun z => yk z.1 (crn r)).val = some (r.any fun p => !(crn r).any fun x => decide (0 < rm p x), ()) :=
  ki (xs := r) (f := fun z => yk z.1 (crn r)) (p := fun p => !(crn r).any fun x => decide (0 < rm p x)) (by omega) fun p _ => by
   show (yk p (crn r)).val = _
   unfold yk
   have h2 : (yE (crn r) fun z => yM z.1 p).val = some ((crn r).any fun x => decide (0 < rm p x), ()) :=
    ki (xs := crn r) (f := fun z => yM z.1 p) (p := fun x => decide (0 < rm p x)) (by omega) fun x _ => by
     show (yM x p).val = _
     unfold yM
     rw [zA, uf, zFq, Comp.zB]; rfl
   rw [zA, h2, zFq, Comp.zB]; rfl
 rw [zA, h1, zFq, Comp.zB, ya]
 unfold full
 rw [List.all_eq_not_any_not]
def bx0 : List Pln := [((1, 0, 0, ()), 24, ()), ((-1, 0, 0, ()), 24, ()), ((0, 1, 0, ()), 24, ()), ((0, -1, 0, ()), 24, ()), ((0, 0, 1, ()), 24, ()), ((0, 0, -1, ()), 24, ())]
theorem rN : ∀ p ∈ bx0, okB p := by
 intro p hp
 unfold bx0 at hp
 simp only [List.mem_cons, List.not_mem_nil, or_false] at hp
 unfold okB Bd
 rcases hp with rfl | rfl | rfl | rfl | rfl | rfl <;> simp
theorem kP {l : List (List Pln)} (hl : l.length < 9223372036854775807) (h : l.flatten.length ≤ 1000) : (cell_of l).val = some (l.flatten ++ bx0, ()) := by
 unfold cell_of
 have h1 : (zO l).val = some (l.flatten, ()) := KF (z := ((0, 0, 0, ()), 0, ())) (by unfold LIM; omega) hl
 rw [zA, h1, zFq]
 generalize l.flatten = c at h
 have h2 := kz (fun (s : List Pln) i => (s, ((i : Nat) : Int))) [(1, 0, 0, ()), (-1, 0, 0, ()), (0, 1, 0, ()), (0, -1, 0, ()), (0, 0, 1, ()), (0, 0, -1, ())] (fun (s : List Pln) (x : V3) => .next (s ++ [(x, 24, ())])) (fun s => s) (fun s i => s.length = c.length + i)
  (body := (fun (x : List (Pln) × Int) => if
         ltI x.2
           (zD
            [(1, 0, 0, ()), (-1, 0, 0, ()), (0, 1, 0, ()), (0, -1, 0, ()), (0, 0, 1, ()),
             (0, 0, -1, ())]) =
          true then
        (idx [(1, 0, 0, ()), (-1, 0, 0, ()), (0, 1, 0, ()), (0, -1, 0, ()), (0, 0, 1, ()), (0, 0, -1, ())]
           x.2).bind fun x_1 => (app x.1 [(x_1, 24, ())]).bind fun zs => Comp.pure (.next (zs, zI .i64 x.2 1))
       else Comp.pure (.done x.1)))
  (fun s i x hx hs => by
   have hlt := zK hx
   simp only [List.length_cons, List.length_nil] at hlt
   rw [if_pos (by rw [zF, zC]; simp only [List.length_cons, List.length_nil]; omega), zA, zG hx, zFq, zA, zo (by simp only [zFv]; unfold LIM; omega), zFq, Comp.zB, zM (by omega)]
   rfl)
  (fun s i x s' hx hs he => by cases he; simp [hs]; omega)
  (fun s hs => by rw [if_neg (by rw [zF, zC]; simp), Comp.zB]) c (by simp)
 rw [Y6] at h2
 rw [zA]
 refine (congrArg (fun o => Option.bind o _) h2).trans ?_
 rw [zFq, Comp.zB]
 simp [bx0]
theorem Yl {c : List Pln} (h : chk c = 0) : c.length ≤ 48 ∧ ∀ p ∈ c, okB p := by
 rw [WZ] at h
 exact ⟨h.1, fun p hp => zBP (List.all_eq_true.1 h.2 p hp)⟩
def ful (c : List Pln) : Bool := decide (chk c = 0) && full (c ++ bx0)
def apa (a b : List Pln) : Bool := !(decide (chk a = 0) && decide (chk b = 0)) || !full (a ++ b ++ bx0)
theorem ZG (c : List Pln) : (jl c).val = some (ful c, ()) := by
 unfold jl
 rw [vb, zA, Z3 _ (by simp), zFq]
 simp only [List.all_cons, List.all_nil, Bool.and_true]
 unfold ful
 by_cases h : chk c = 0
 ·obtain ⟨h1, h2⟩ := Yl h
  rw [if_pos (by simpa using h), zA, kP (by simp) (by simp; omega), zFq, zA]
  simp only [List.flatten_cons, List.flatten_nil, List.append_nil]
  rw [lA (by simp [bx0]; omega) (fun p hp => (List.mem_append.1 hp).elim (h2 p) (rN p)), zFq, Comp.zB, decide_eq_true h, Bool.true_and]
 ·rw [if_neg (by simpa using h), Comp.zB, decide_eq_false h, Bool.false_and]
theorem jU (a b : List Pln) : (kF a b).val = some (apa a b, ()) := by
 unfold kF
 rw [vb, zA, Z3 _ (by simp), zFq]
 simp only [List.all_cons, List.all_nil, Bool.and_true, ya, Bool.not_not]
 unfold apa
 by_cases h : (decide (chk a = 0) && decide (chk b = 0)) = true
 ·rw [if_pos h, h]
  simp only [zFs, decide_eq_true_eq] at h
  obtain ⟨h1, h2⟩ := Yl h.1
  obtain ⟨h3, h4⟩ := Yl h.2
  rw [zA, kP (by simp) (by simp; omega), zFq, zA]
  simp only [List.flatten_cons, List.flatten_nil, List.append_nil]
  rw [lA (by simp [bx0]; omega) (fun p hp => (List.mem_append.1 hp).elim (fun hp => (List.mem_append.1 hp).elim (h2 p) (h4 p)) (rN p)), zFq, Comp.zB]
  rfl
 ·have h' : (decide (chk a = 0) && decide (chk b = 0)) = false := by simpa using h
  rw [if_neg h, h', Comp.zB]; rfl
theorem KR (p : Pln) (x : Pnt) : (zf p x).val = some (rm p x, ()) := by
 unfold zf
 rw [Comp.zB]
 congr 2
 unfold rm dt
 simp only [I4, MZ, Ds, Dr]
 congr 1
 omega
theorem QU {r : List Pln} {x : Pnt} (hl : r.length < 9223372036854775807) : (vo r x).val = some (ins r x, ()) := by
 unfold vo
 have h1 := jC r (fun p => decide (0 ≤ rm p x)) (c := (Sum.inr false : Unit ⊕ Bool)) (d := Sum.inl ())
  (body := (fun (x_1 : Int) => if ltI x_1 (zD r) = true then
       (idx r x_1).bind fun x_2 => (Go.F.zf x_2 x).bind fun x_3 => if ltI x_3.1 0 = true then Comp.pure (.done (Sum.inr false)) else Comp.pure (.next (zI .i64 x_1 1))
      else Comp.pure (.done (Sum.inl ()))))
  (fun i p hp => by
   have hlt := zK hp
   rw [if_pos (by rw [zF, zC]; omega), zA, zG hp, zFq, zA, KR, zFq, zM (by omega)]
   by_cases h : rm p x < 0
   ·rw [if_pos (by rw [zF]; exact h), Comp.zB, if_neg (by simp; omega)]
   ·rw [if_neg (by rw [zF]; exact h), Comp.zB, if_pos (by simp; omega)])
  (by rw [if_neg (by rw [zF, zC]; omega), Comp.zB])
 rw [zA]
 refine (congrArg (fun o => Option.bind o _) h1).trans ?_
 rw [zFq]
 unfold ins
 cases r.all fun p => decide (0 ≤ rm p x) <;> exact Comp.zB _
theorem BD {l : List Pnt} {x : Pnt} (hl : l.length < 9223372036854775807) : (yh l x).val = some (decide (x ∈ l), ()) := by
 unfold yh
 have h1 := jC l (fun y => !decide (y = x)) (c := (Sum.inr true : Unit ⊕ Bool)) (d := Sum.inl ())
  (body := (fun (i : Int) => if ltI i (zD l) = true then
       (idx l i).bind fun x_1 => if adB (eqI x_1.1 x.1) (adB (eqI x_1.2.1 x.2.1) (adB (eqI x_1.2.2.1 x.2.2.1) (eqI x_1.2.2.2.1 x.2.2.2.1))) = true then
         Comp.pure (.done (Sum.inr true))
        else Comp.pure (.next (zI .i64 i 1))
      else Comp.pure (.done (Sum.inl ()))))
  (fun i p hp => by
   have hlt := zK hp
   have he : adB (eqI p.1 x.1) (adB (eqI p.2.1 x.2.1) (adB (eqI p.2.2.1 x.2.2.1) (eqI p.2.2.2.1 x.2.2.2.1))) = decide (p = x) := pG p x
   rw [if_pos (by rw [zF, zC]; omega), zA, zG hp, zFq, zM (by omega)]
   by_cases h : p = x
   ·rw [if_pos (by rw [he]; exact decide_eq_true h), Comp.zB, if_neg (by simp [h])]
   ·rw [if_neg (by rw [he, decide_eq_false h]; simp), Comp.zB, if_pos (by simp [h])])
  (by rw [if_neg (by rw [zF, zC]; omega), Comp.zB])
 rw [zA]
 refine (congrArg (fun o => Option.bind o _) h1).trans ?_
 rw [zFq]
 by_cases h : x ∈ l
 ·have : (l.all fun y => !decide (y = x)) = false := by
   rw [List.all_eq_false]; exact ⟨x, h, by simp⟩
  rw [this, decide_eq_true h]
  exact Comp.zB _
 ·have : (l.all fun y => !decide (y = x)) = true := by
   rw [List.all_eq_true]; intro y hy; simp; intro e; subst e; exact h hy
  rw [this, decide_eq_false h]
  exact Comp.zB _
theorem gm {body : σ × Int → Comp (Comp.Step (σ × Int) σ)} (n : Nat) (G F : Nat → σ → σ) (I : σ → Nat → Prop)
  (hb : ∀ s (i : Nat), i < n → I s i → (body (s, (i : Int))).val = some (.next (G i s, ((i + 1 : Nat) : Int))) ∧ I (G i s) (i + 1) ∧ F i s = F (i + 1) (G i s)) (he : ∀ s, (body (s, (n : Int))).val = some (.done s)) (hF : ∀ s, F n s = s) :
  ∀ (k : Nat) (s : σ), k ≤ n → I s k → (Comp.loop body (s, (k : Int))).val = some (F k s) := by
 have key : ∀ (m k : Nat) (s : σ), k + m = n → I s k → (Comp.loop body (s, (k : Int))).val = some (F k s) := by
  intro m
  induction m with
  | zero =>
   intro k s hk hI
   rw [show k = n by omega, zL, he, hF]; rfl
  | succ m ih =>
   intro k s hk hI
   obtain ⟨h1, h2, h3⟩ := hb s k (by omega) hI
   rw [zL, h1, h3]
   exact ih (k + 1) (G k s) (by omega) h2
 exact fun k s hk hI => key (n - k) k s (by omega) hI
theorem drop_cons {xs : List α} {k : Nat} {x : α} (h : xs[k]? = some x) : xs.drop k = x :: xs.drop (k + 1) := by
 have := List.getElem?_eq_some_iff.1 h
 rw [List.drop_eq_getElem_cons this.1]; congr 1; exact this.2
theorem qh {r : List Pln} (ts : List (Pln × Pln × Pln)) : ∀ (l : List Pnt), (ts.foldl (kG r) l).length ≤ l.length + ts.length := by
 induction ts with
 | nil => intro l; simp
 | cons t ts ih =>
  intro l
  have h1 := ih (kG r l t)
  have h2 := J1 (r := r) (l := l) (t := t)
  simp only [List.foldl_cons, List.length_cons]; omega
theorem Kh {b i h : Bool} {c : Comp (Bool × Unit)} {d : Comp (Bool × Unit)} (hc : b = true → c.val = some (i, ())) (hd : b = true → i = true → d.val = some (h, ())) {A B : Comp β} :
  ((Comp.gd b c (false, ())).bind fun x5 => (Comp.gd (sel b x5.1 false) d (false, ())).bind fun x6 => if sel (sel b x5.1 false) (ntB x6.1) false = true then A else B).val = (bif b && (i && !h) then A else B).val := by
 rw [zA]
 cases b with
 | false =>
  show (Option.bind (Comp.pure (false, ())).val _) = _
  rw [Comp.zB, zFq, zA]
  show (Option.bind (Comp.pure (false, ())).val _) = _
  rw [Comp.zB, zFq]; rfl
 | true =>
  have h1 := hc rfl
  show (Option.bind c.val _) = _
  rw [h1, zFq, zA]
  cases i with
  | false =>
   show (Option.bind (Comp.pure (false, ())).val _) = _
   rw [Comp.zB, zFq]; rfl
  | true =>
   have h2 := hd rfl rfl
   show (Option.bind d.val _) = _
   rw [h2, zFq]
   cases h <;> rfl
theorem Jh {r : List Pln} (hl : r.length ≤ 1000) (hb : ∀ p ∈ r, okB p) : (vR r).val = some (crn r, ()) := by
 have hL := Zx
 have h3 : (tri r).length ≤ 1000000000 := by
  refine Nat.le_trans (J5 r) ?_
  exact Nat.mul_le_mul hl (Nat.mul_le_mul hl hl)
 unfold vR
 -- the innermost walk
 have inner : ∀ (i j : Nat) (p q : Pln), r[i]? = some p → r[j]? = some q → ∀ (k : Nat) (l : List Pnt), k ≤ r.length → l.length + (r.length - k) ≤ 1000000000 → (Comp.loop
               (fun (x_2 : List (Pnt) × Int) => if ltI x_2.2 (zD r) = true then
                 (idx r (i : Int)).bind fun x => (idx r (j : Int)).bind fun x_3 => (idx r x_2.2).bind fun x_4 => (Go.F.y5 x x_3 x_4).bind fun x => (Comp.gd x.2.1 (Go.F.vo r x.1) (false, ())).bind fun x_5 => (Comp.gd (sel x.2.1 x_5.1 false) (Go.F.yh x_2.1 x.1) (false, ())).bind fun x_6 => jn (fun (x : List (Pnt)) => Comp.pure (.next (x, zI .i64 x_2.2 1)))
                        fun (j :
                          List (Pnt) → Comp (Comp.Step (List (Pnt) × Int) (List (Pnt)))) =>
                        if sel (sel x.2.1 x_5.1 false) (ntB x_6.1) false = true then
                         (app x_2.1 [x.1]).bind fun zs => j zs
                        else j x_2.1
                else Comp.pure (.done x_2.1)) (l, (k : Int))).val = some ((r.drop k).foldl (fun l s => kG r l (p, q, s)) l) := by
  intro i j p q hp hq
  refine gm r.length (fun k l => match r[k]? with | some s => kG r l (p, q, s) | none => l) (fun k l => (r.drop k).foldl (fun l s => kG r l (p, q, s)) l) (fun l k => l.length + (r.length - k) ≤ 1000000000)
   (fun l k hk hI => ?_) (fun l => by rw [if_neg (by rw [zF, zC]; simp), Comp.zB]) (fun l => by rw [List.drop_length]; rfl)
  obtain ⟨s, hs⟩ := zN (xs := r) (k := k) hk
  have hlen := J1 (r := r) (l := l) (t := (p, q, s))
  refine ⟨?_, by rw [hs]; show (kG r l (p, q, s)).length + _ ≤ _; omega, by rw [drop_cons hs, hs]; rfl⟩
  rw [hs]
  simp only
  rw [if_pos (by rw [zF, zC]; show (k : Int) < _; omega), zA, zG hp, zFq, zA, zG hq, zFq, zA, zG hs, zFq, zA,
   E9 (hb p (List.mem_of_getElem? hp)) (hb q (List.mem_of_getElem? hq)) (hb s (List.mem_of_getElem? hs)), zFq]
  let A0 : Pnt → Comp (Comp.Step (List Pnt × Int) (List Pnt)) := fun x => (app l [x]).bind fun zs => Comp.pure (.next (zs, zI .i64 (k : Int) 1))
  let B0 : Comp (Comp.Step (List Pnt × Int) (List Pnt)) := Comp.pure (.next (l, zI .i64 (k : Int) 1))
  cases hm : mt p q s with
  | none =>
   have hcr : kG r l (p, q, s) = l := by unfold kG; rw [hm]
   rw [hcr]
   refine (Kh (b := false) (i := false) (h := false) (fun h => nomatch h) (fun h => nomatch h) (A := A0 (0, 0, 0, 0, ())) (B := B0)).trans ?_
   show B0.val = _
   rw [← zM (show k < 9223372036854775807 by omega)]
   exact Comp.zB _
  | some x =>
   have hcr : kG r l (p, q, s) = if x ∈ l then l else bif ins r x then l ++ [x] else l := by unfold kG; rw [hm]
   refine (Kh (b := true) (i := ins r x) (h := decide (x ∈ l)) (fun _ => QU (by omega)) (fun _ _ => BD (by omega)) (A := A0 x) (B := B0)).trans ?_
   rw [hcr, ← zM (show k < 9223372036854775807 by omega)]
   by_cases hx : x ∈ l
   ·rw [decide_eq_true hx, if_pos hx]
    cases ins r x <;> exact Comp.zB _
   ·rw [decide_eq_false hx, if_neg hx]
    cases ins r x with
    | false => exact Comp.zB _
    | true =>
     show (A0 x).val = _
     show ((app l [x]).bind fun zs => (Comp.pure (.next (zs, zI .i64 (k : Int) 1)) : Comp (Comp.Step (List Pnt × Int) (List Pnt)))).val = _
     rw [zA, zo (by simp only [zFv]; unfold LIM; omega), zFq, Comp.zB]
     rfl
 have mid : ∀ (i : Nat) (p : Pln), r[i]? = some p → ∀ (k : Nat) (l : List Pnt), k ≤ r.length → l.length + (prs (r.drop k)).length ≤ 1000000000 → (Comp.loop
          (fun (x_1 : List (Pnt) × Int) => if ltI x_1.2 (zD r) = true then
            (Comp.loop
               (fun (x_2 : List (Pnt) × Int) => if ltI x_2.2 (zD r) = true then
                 (idx r (i : Int)).bind fun x => (idx r x_1.2).bind fun x_3 => (idx r x_2.2).bind fun x_4 => (Go.F.y5 x x_3 x_4).bind fun x => (Comp.gd x.2.1 (Go.F.vo r x.1) (false, ())).bind fun x_5 => (Comp.gd (sel x.2.1 x_5.1 false) (Go.F.yh x_2.1 x.1) (false, ())).bind fun x_6 => jn (fun (x : List (Pnt)) => Comp.pure (.next (x, zI .i64 x_2.2 1)))
                        fun (j :
                          List (Pnt) → Comp (Comp.Step (List (Pnt) × Int) (List (Pnt)))) =>
                        if sel (sel x.2.1 x_5.1 false) (ntB x_6.1) false = true then
                         (app x_2.1 [x.1]).bind fun zs => j zs
                        else j x_2.1
                else Comp.pure (.done x_2.1))
               (x_1.1, zI .i64 x_1.2 1)).bind fun x => Comp.pure (.next (x, zI .i64 x_1.2 1))
           else Comp.pure (.done x_1.1)) (l, (k : Int))).val = some ((prs (r.drop k)).foldl (fun l t => kG r l (p, t)) l) := by
  intro i p hp
  refine gm r.length (fun k l => match r[k]? with | some q => (r.drop (k + 1)).foldl (fun l s => kG r l (p, q, s)) l | none => l) (fun k l => (prs (r.drop k)).foldl (fun l t => kG r l (p, t)) l) (fun l k => l.length + (prs (r.drop k)).length ≤ 1000000000)
   (fun l k hk hI => ?_) (fun l => by rw [if_neg (by rw [zF, zC]; simp), Comp.zB]) (fun l => by rw [List.drop_length]; rfl)
  obtain ⟨q, hq⟩ := zN (xs := r) (k := k) hk
  have hpl : (prs (r.drop k)).length = (r.length - (k + 1)) + (prs (r.drop (k + 1))).length := by rw [drop_cons hq, prs, zFt, List.length_map, List.length_drop]
  have hfl : ((r.drop (k + 1)).foldl (fun l s => kG r l (p, q, s)) l).length ≤ l.length + (r.length - (k + 1)) := by
   have := qh (r := r) ((r.drop (k + 1)).map fun s => (p, q, s)) l
   rw [List.foldl_map, List.length_map, List.length_drop] at this
   exact this
  refine ⟨?_, by rw [hq]; show ((r.drop (k + 1)).foldl (fun l s => kG r l (p, q, s)) l).length + _ ≤ _; omega, by rw [drop_cons hq, hq, prs, List.foldl_append, List.foldl_map]⟩
  rw [hq]
  simp only
  rw [if_pos (by rw [zF, zC]; show (k : Int) < _; omega), zA]
  have h4 := inner i k p q hp hq (k + 1) l (by omega) (by omega)
  rw [← zM (show k < 9223372036854775807 by omega)] at h4
  refine (congrArg (fun o => Option.bind o _) h4).trans ?_
  rw [zFq, Comp.zB, zM (show k < 9223372036854775807 by omega)]
 have outer : ∀ (k : Nat) (l : List Pnt), k ≤ r.length → l.length + (tri (r.drop k)).length ≤ 1000000000 → (Comp.loop
     (fun (x : List (Pnt) × Int) => if ltI x.2 (zD r) = true then
       (Comp.loop
          (fun (x_1 : List (Pnt) × Int) => if ltI x_1.2 (zD r) = true then
            (Comp.loop
               (fun (x_2 : List (Pnt) × Int) => if ltI x_2.2 (zD r) = true then
                 (idx r x.2).bind fun x => (idx r x_1.2).bind fun x_3 => (idx r x_2.2).bind fun x_4 => (Go.F.y5 x x_3 x_4).bind fun x => (Comp.gd x.2.1 (Go.F.vo r x.1) (false, ())).bind fun x_5 => (Comp.gd (sel x.2.1 x_5.1 false) (Go.F.yh x_2.1 x.1) (false, ())).bind fun x_6 => jn (fun (x : List (Pnt)) => Comp.pure (.next (x, zI .i64 x_2.2 1)))
                        fun (j :
                          List (Pnt) → Comp (Comp.Step (List (Pnt) × Int) (List (Pnt)))) =>
                        if sel (sel x.2.1 x_5.1 false) (ntB x_6.1) false = true then
                         (app x_2.1 [x.1]).bind fun zs => j zs
                        else j x_2.1
                else Comp.pure (.done x_2.1))
               (x_1.1, zI .i64 x_1.2 1)).bind fun x => Comp.pure (.next (x, zI .i64 x_1.2 1))
           else Comp.pure (.done x_1.1))
          (x.1, zI .i64 x.2 1)).bind fun x_1 => Comp.pure (.next (x_1, zI .i64 x.2 1))
      else Comp.pure (.done x.1)) (l, (k : Int))).val = some ((tri (r.drop k)).foldl (kG r) l) := by
  refine gm r.length (fun k l => match r[k]? with | some p => (prs (r.drop (k + 1))).foldl (fun l t => kG r l (p, t)) l | none => l) (fun k l => (tri (r.drop k)).foldl (kG r) l) (fun l k => l.length + (tri (r.drop k)).length ≤ 1000000000)
   (fun l k hk hI => ?_) (fun l => by rw [if_neg (by rw [zF, zC]; simp), Comp.zB]) (fun l => by rw [List.drop_length]; rfl)
  obtain ⟨p, hp⟩ := zN (xs := r) (k := k) hk
  have hpl : (tri (r.drop k)).length = (prs (r.drop (k + 1))).length + (tri (r.drop (k + 1))).length := by rw [drop_cons hp, tri, zFt, List.length_map]
  have hfl : ((prs (r.drop (k + 1))).foldl (fun l t => kG r l (p, t)) l).length ≤ l.length + (prs (r.drop (k + 1))).length := by
   have := qh (r := r) ((prs (r.drop (k + 1))).map fun t => (p, t)) l
   rw [List.foldl_map, List.length_map] at this
   exact this
  refine ⟨?_, by rw [hp]; show ((prs (r.drop (k + 1))).foldl (fun l t => kG r l (p, t)) l).length + _ ≤ _; omega, by rw [drop_cons hp, hp, tri, List.foldl_append, List.foldl_map]⟩
  rw [hp]
  simp only
  rw [if_pos (by rw [zF, zC]; show (k : Int) < _; omega), zA]
  have h4 := mid k p hp (k + 1) l (by omega) (by omega)
  rw [← zM (show k < 9223372036854775807 by omega)] at h4
  refine (congrArg (fun o => Option.bind o _) h4).trans ?_
  rw [zFq, Comp.zB, zM (show k < 9223372036854775807 by omega)]
 have h1 := outer 0 [] (Nat.zero_le _) (by simpa using h3)
 rw [zA]
 refine (congrArg (fun o => Option.bind o _) h1).trans ?_
 rw [zFq]
 exact Comp.zB _
theorem qR {r : List Pln} (hl : r.length ≤ 1000) (hb : ∀ p ∈ r, okB p) : (gW r).val = some (full r, ()) := by
 have hL := Zx
 have h3 : (crn r).length ≤ 1000000000 := by
  refine Nat.le_trans (pI r) (Nat.le_trans (J5 r) ?_)
  exact Nat.mul_le_mul hl (Nat.mul_le_mul hl hl)
 unfold gW
 rw [zA, Jh hl hb, zFq]
 have inner : ∀ (i : Nat) (p : Pln), r[i]? = some p → (Comp.loop
           (fun (x_1 : Bool × Int) => if ltI x_1.2 (zD (crn r)) = true then
             (Comp.gd (ntB x_1.1) (idx r (i : Int)) ((0, 0, 0, ()), 0, ())).bind fun x => (Comp.gd (ntB x_1.1) (idx (crn r) x_1.2) (0, 0, 0, 0, ())).bind fun x_2 => (Comp.gd (ntB x_1.1) (Go.F.zf x x_2) (0, ())).bind fun x => Comp.pure (.next (sel x_1.1 true (gtI x.1 0), zI .i64 x_1.2 1))
            else Comp.pure (.done x_1.1))
           (false, ((0 : Nat) : Int))).val = some ((crn r).any fun x => decide (0 < rm p x)) := by
  intro i p hp
  have h5 := gm (crn r).length (fun k b => match (crn r)[k]? with | some x => b || decide (0 < rm p x) | none => b) (fun k b => b || ((crn r).drop k).any fun x => decide (0 < rm p x)) (fun _ _ => True)
   (body := (fun (x_1 : Bool × Int) => if ltI x_1.2 (zD (crn r)) = true then
             (Comp.gd (ntB x_1.1) (idx r (i : Int)) ((0, 0, 0, ()), 0, ())).bind fun x => (Comp.gd (ntB x_1.1) (idx (crn r) x_1.2) (0, 0, 0, 0, ())).bind fun x_2 => (Comp.gd (ntB x_1.1) (Go.F.zf x x_2) (0, ())).bind fun x => Comp.pure (.next (sel x_1.1 true (gtI x.1 0), zI .i64 x_1.2 1))
            else Comp.pure (.done x_1.1)))
   (fun b k hk _ => by
    obtain ⟨x, hx⟩ := zN (xs := crn r) (k := k) hk
    refine ⟨?_, trivial, by rw [drop_cons hx, hx, List.any_cons, Bool.or_assoc]⟩
    rw [hx]
    simp only
    rw [if_pos (by rw [zF, zC]; show (k : Int) < _; omega), zA]
    cases b with
    | true =>
     show Option.bind (Comp.pure _).val _ = _
     rw [Comp.zB, zFq, zA]
     show Option.bind (Comp.pure _).val _ = _
     rw [Comp.zB, zFq, zA]
     show Option.bind (Comp.pure _).val _ = _
     rw [Comp.zB, zFq, Comp.zB, zM (by omega)]
     rfl
    | false =>
     show Option.bind (idx r (i : Int)).val _ = _
     rw [zG hp, zFq, zA]
     show Option.bind (idx (crn r) (k : Int)).val _ = _
     rw [zG hx, zFq, zA]
     show Option.bind (zf p x).val _ = _
     rw [KR, zFq, Comp.zB, zM (by omega)]
     rfl)
   (fun b => by rw [if_neg (by rw [zF, zC]; simp), Comp.zB]) (fun b => by rw [List.drop_length]; simp) 0 false (Nat.zero_le _) trivial
  simpa using h5
 have h1 := jC r (fun p => (crn r).any fun x => decide (0 < rm p x)) (c := (Sum.inr false : Unit ⊕ Bool)) (d := Sum.inl ())
  (body := (fun (x : Int) => if ltI x (zD r) = true then
        (Comp.loop
           (fun (x_1 : Bool × Int) => if ltI x_1.2 (zD (crn r)) = true then
             (Comp.gd (ntB x_1.1) (idx r x) ((0, 0, 0, ()), 0, ())).bind fun x => (Comp.gd (ntB x_1.1) (idx (crn r) x_1.2) (0, 0, 0, 0, ())).bind fun x_2 => (Comp.gd (ntB x_1.1) (Go.F.zf x x_2) (0, ())).bind fun x => Comp.pure (.next (sel x_1.1 true (gtI x.1 0), zI .i64 x_1.2 1))
            else Comp.pure (.done x_1.1))
           (false, 0)).bind fun x_1 => if ntB x_1 = true then Comp.pure (.done (Sum.inr false)) else Comp.pure (.next (zI .i64 x 1))
       else Comp.pure (.done (Sum.inl ()))))
  (fun i p hp => by
   have hlt := zK hp
   rw [if_pos (by rw [zF, zC]; omega), zA]
   refine (congrArg (fun o => Option.bind o _) (inner i p hp)).trans ?_
   rw [zFq, zM (by omega)]
   cases (crn r).any fun x => decide (0 < rm p x) <;> exact Comp.zB _)
  (by rw [if_neg (by rw [zF, zC]; omega), Comp.zB])
 rw [zA]
 refine (congrArg (fun o => Option.bind o _) h1).trans ?_
 rw [zFq]
 unfold full
 cases r.all fun p => (crn r).any fun x => decide (0 < rm p x) <;> exact Comp.zB _
theorem uh {c : List Pln} (h : c.length ≤ 1000) : (vz c).val = some (c ++ bx0, ()) := by
 unfold vz
 have h1 : (z7 (-24, -24, -24, ()) (24, 24, 24, ())).val = some (bx0, ()) := by
  unfold z7
  rw [Comp.zB]
  rfl
 rw [zA, zo (by simp; unfold LIM; omega), zFq, zA, h1, zFq, zA, zo (by simp [bx0]; unfold LIM; omega), zFq, Comp.zB]
 simp
theorem Zy (c : List Pln) : (zp c).val = some (ful c, ()) := by
 unfold zp
 rw [vb, zA, jV, zFq]
 unfold ful
 by_cases h : chk c = 0
 ·obtain ⟨h1, h2⟩ := Yl h
  rw [if_pos (by rw [yd]; exact h), zA, uh (by omega), zFq, zA,
   qR (by simp [bx0]; omega) (fun p hp => (List.mem_append.1 hp).elim (h2 p) (rN p)), zFq, Comp.zB, decide_eq_true h, Bool.true_and]
 ·rw [if_neg (by rw [yd]; exact h), Comp.zB, decide_eq_false h, Bool.false_and]
theorem ky (a b : List Pln) : (ze a b).val = some (apa a b, ()) := by
 unfold ze
 rw [zA, jV, zFq, zA]
 unfold apa
 by_cases ha : chk a = 0
 ·obtain ⟨h1, h2⟩ := Yl ha
  have e1 : neI (chk a) 0 = false := by unfold neI; simp [ha]
  show Option.bind (Comp.gd (ntB (neI (chk a) 0)) _ _).val _ = _
  rw [e1]
  show Option.bind (za b).val _ = _
  rw [jV, zFq]
  by_cases hb : chk b = 0
  ·obtain ⟨h3, h4⟩ := Yl hb
   have e2 : neI (chk b) 0 = false := by unfold neI; simp [hb]
   rw [if_neg (by show ¬ sel false true (neI (chk b) 0) = true; rw [e2]; simp [sel]), zA, zo (by simp; unfold LIM; omega), zFq, zA, zo (by simp; unfold LIM; omega), zFq, zA]
   simp only [List.nil_append]
   rw [uh (by simp; omega), zFq, zA,
    qR (by simp [bx0]; omega) (fun p hp => (List.mem_append.1 hp).elim (fun hp => (List.mem_append.1 hp).elim (h2 p) (h4 p)) (rN p)), zFq, Comp.zB, decide_eq_true ha, decide_eq_true hb]
   rfl
  ·have e2 : neI (chk b) 0 = true := by unfold neI; simp [hb]
   rw [if_pos (by show sel false true (neI (chk b) 0) = true; rw [e2]; rfl), Comp.zB, decide_eq_true ha, decide_eq_false hb]
   rfl
 ·have e1 : neI (chk a) 0 = true := by unfold neI; simp [ha]
  show Option.bind (Comp.gd (ntB (neI (chk a) 0)) _ _).val _ = _
  rw [e1]
  show Option.bind (Comp.pure _).val _ = _
  rw [Comp.zB, zFq, if_pos (by rfl), Comp.zB, decide_eq_false ha]
  rfl
theorem Yd (a b : V3) : cr b a = sc (cr a b) (-1) := by
 unfold cr sc
 simp only [Int.mul_neg, Int.mul_one, Prod.mk.injEq, and_true]
 refine ⟨?_, ?_, ?_⟩
 ·rw [Int.mul_comm b.2.1, Int.mul_comm b.2.2.1]; omega
 ·rw [Int.mul_comm b.2.2.1, Int.mul_comm b.1]; omega
 ·rw [Int.mul_comm b.1, Int.mul_comm b.2.1]; omega
theorem S1 (a b : V3) (n : Int) : dt a (sc b n) = dt a b * n := by
 unfold dt sc
 simp only [← Int.mul_assoc, ← Int.add_mul]
theorem rH (a : V3) (m n : Int) : sc (sc a m) n = sc (sc a n) m := by
 unfold sc
 simp only [Prod.mk.injEq, and_true]
 refine ⟨?_, ?_, ?_⟩ <;> rw [Int.mul_right_comm]
theorem Ee (a b : V3) (n : Int) : ad (sc a n) (sc b n) = sc (ad a b) n := by
 unfold ad sc
 simp only [Int.add_mul]
theorem Rr (a b : V3) : ad a b = ad b a := by
 unfold ad
 simp only [Prod.mk.injEq, and_true]
 refine ⟨?_, ?_, ?_⟩ <;> omega
theorem Iy (a b c : V3) : ad (ad a b) c = ad (ad a c) b := by
 unfold ad
 simp only [Prod.mk.injEq, and_true]
 refine ⟨?_, ?_, ?_⟩ <;> omega
theorem WX (p q r : Pln) : det p r q = - det p q r := by
 unfold det
 rw [Yd q.1 r.1, S1]; omega
theorem WY (p q r : Pln) : det q p r = - det p q r := by
 rw [pH q p r, pH p q r, Yd p.1 q.1, S1]; omega
theorem Vz (p q r : Pln) : num p r q = sc (num p q r) (-1) := by
 unfold num
 rw [Yd q.1 r.1, Yd p.1 q.1, Yd r.1 p.1, rH (cr q.1 r.1), rH (cr p.1 q.1), rH (cr r.1 p.1), Ee, Ee, Iy]
theorem V0 (p q r : Pln) : num q p r = sc (num p q r) (-1) := by
 unfold num
 rw [Yd q.1 r.1, Yd p.1 q.1, Yd r.1 p.1, rH (cr q.1 r.1), rH (cr p.1 q.1), rH (cr r.1 p.1), Ee, Ee, Rr (sc (cr r.1 p.1) q.2.1)]
theorem Q4 {v : V3} {w : Int} (h : w ≠ 0) : mkP (sc v (-1)) (-w) = mkP v w := by
 have hg : Yh (sc v (-1)) (-w) = Yh v w := by
  unfold Yh sc
  simp only [Int.natAbs_mul, Int.natAbs_neg]
  simp
 unfold mkP
 simp only [hg]
 unfold sc
 simp only [Int.mul_neg, Int.mul_one, Int.neg_neg]
 by_cases h1 : w < 0
 ·rw [if_neg (by omega), if_pos h1]
 ·rw [if_pos (by omega), if_neg h1]
theorem Mb {p q r p' q' r' : Pln} (hd : det p' q' r' = - det p q r) (hn : num p' q' r' = sc (num p q r) (-1)) : mt p' q' r' = mt p q r := by
 unfold mt
 rw [hd, hn]
 by_cases h : det p q r = 0
 ·rw [if_pos (by omega), if_pos h]
 ·rw [if_neg (by omega), if_neg h, Q4 h]
def mtL : List Pln → Option Pnt
 | [p, q, r] => mt p q r
 | _ => none
theorem HQ {a b c d : α} (h : [a, b].Perm [c, d]) : (a = c ∧ b = d) ∨ (a = d ∧ b = c) := by
 have hc : c ∈ [a, b] := h.symm.subset (by simp)
 simp only [List.mem_cons, List.not_mem_nil, or_false] at hc
 rcases hc with rfl | rfl
 ·have := List.perm_singleton.1 h.cons_inv
  exact .inl ⟨rfl, by simpa using this⟩
 ·have := List.perm_singleton.1 ((List.Perm.swap a c []).trans h).cons_inv
  exact .inr ⟨by simpa using this, rfl⟩
theorem IC {l l' : List Pln} (h : l.Perm l') : mtL l = mtL l' := by
 induction h with
 | nil => rfl
 | cons x h ih =>
  rename_i l1 l2
  have hlen := h.length_eq
  match l1, l2, hlen, h with
  | [a, b], [c, d], _, h =>
   rcases HQ h with ⟨rfl, rfl⟩ | ⟨rfl, rfl⟩
   ·rfl
   ·exact Mb (WX _ _ _) (Vz _ _ _)
  | [], [], _, _ => rfl
  | [_], [_], _, _ => rfl
  | _ :: _ :: _ :: _, _ :: _ :: _ :: _, _, _ => rfl
 | swap x y l =>
  match l with
  | [z] => exact Mb (WY _ _ _) (V0 _ _ _)
  | [] => rfl
  | _ :: _ :: _ => rfl
 | trans _ _ ih1 ih2 => exact ih1.trans ih2
theorem C8 {l : List α} {a b : α} : (a, b) ∈ prs l ↔ [a, b].Sublist l := by
 induction l with
 | nil => simp [prs]
 | cons x l ih =>
  simp only [prs, List.mem_append, List.mem_map, Prod.mk.injEq]
  constructor
  ·rintro (⟨s, h1, rfl, rfl⟩ | h)
   ·exact List.Sublist.cons_cons _ (List.singleton_sublist.2 h1)
   ·exact (ih.1 h).cons _
  ·intro h
   cases h with
   | cons _ h => exact .inr (ih.2 h)
   | cons_cons _ h => exact .inl ⟨b, List.singleton_sublist.1 h, rfl, rfl⟩
theorem Cq {l : List α} {a b c : α} : (a, b, c) ∈ tri l ↔ [a, b, c].Sublist l := by
 induction l with
 | nil => simp [tri]
 | cons x l ih =>
  simp only [tri, List.mem_append, List.mem_map, Prod.mk.injEq]
  constructor
  ·rintro (⟨⟨s, t⟩, h1, rfl, h2⟩ | h)
   ·cases h2
    exact List.Sublist.cons_cons _ (C8.1 h1)
   ·exact (ih.1 h).cons _
  ·intro h
   cases h with
   | cons _ h => exact .inr (ih.2 h)
   | cons_cons _ h => exact .inl ⟨(b, c), C8.2 h, rfl, rfl⟩
theorem RZ {r : List Pln} {x : Pnt} : x ∈ crn r ↔ ins r x = true ∧ ∃ t ∈ tri r, mt t.1 t.2.1 t.2.2 = some x := by
 have key : ∀ (ts : List (Pln × Pln × Pln)) (l : List Pnt), x ∈ ts.foldl (kG r) l ↔ x ∈ l ∨ (ins r x = true ∧ ∃ t ∈ ts, mt t.1 t.2.1 t.2.2 = some x) := by
  intro ts
  induction ts with
  | nil => intro l; simp
  | cons t ts ih =>
   intro l
   rw [List.foldl_cons, ih]
   have hs : x ∈ kG r l t ↔ x ∈ l ∨ (ins r x = true ∧ mt t.1 t.2.1 t.2.2 = some x) := by
    unfold kG
    cases hm : mt t.1 t.2.1 t.2.2 with
    | none => simp
    | some y =>
     simp only [Option.some.injEq]
     by_cases hy : y ∈ l
     ·rw [if_pos hy]
      constructor
      ·exact .inl
      ·rintro (h | ⟨_, rfl⟩)
       ·exact h
       ·exact hy
     ·rw [if_neg hy]
      cases hi : ins r y with
      | false =>
       rw [cond_false]
       constructor
       ·exact .inl
       ·rintro (h | ⟨h1, rfl⟩)
        ·exact h
        ·rw [hi] at h1; cases h1
      | true =>
       rw [cond_true, List.mem_append, List.mem_singleton]
       constructor
       ·rintro (h | rfl)
        ·exact .inl h
        ·exact .inr ⟨hi, rfl⟩
       ·rintro (h | ⟨_, rfl⟩)
        ·exact .inl h
        ·exact .inr rfl
   rw [hs]
   simp only [List.mem_cons, exists_eq_or_imp]
   constructor
   ·rintro ((h | ⟨h1, h2⟩) | ⟨h1, h2⟩)
    ·exact .inl h
    ·exact .inr ⟨h1, .inl h2⟩
    ·exact .inr ⟨h1, .inr h2⟩
   ·rintro (h | ⟨h1, h2 | h2⟩)
    ·exact .inl (.inl h)
    ·exact .inl (.inr ⟨h1, h2⟩)
    ·exact .inr ⟨h1, h2⟩
 unfold crn
 rw [key]
 simp
theorem HS {r r' : List α} (h : r.Perm r') : ∀ {s : List α}, s.Sublist r → ∃ s' : List α, s'.Perm s ∧ s'.Sublist r' := by
 induction h with
 | nil => exact fun {s} hs => ⟨s, .refl _, hs⟩
 | cons x h ih =>
  intro s hs
  cases hs with
  | cons _ hs =>
   obtain ⟨s', h1, h2⟩ := ih hs
   exact ⟨s', h1, h2.cons _⟩
  | cons_cons _ hs =>
   obtain ⟨s', h1, h2⟩ := ih hs
   exact ⟨x :: s', h1.cons _, h2.cons_cons _⟩
 | swap x y l =>
  intro s hs
  cases hs with
  | cons _ hs =>
   cases hs with
   | cons _ hs => exact ⟨_, .refl _, (hs.cons _).cons _⟩
   | cons_cons _ hs => exact ⟨_, .refl _, (hs.cons _).cons_cons _⟩
  | cons_cons _ hs =>
   cases hs with
   | cons _ hs => exact ⟨_, .refl _, (hs.cons_cons _).cons _⟩
   | cons_cons _ hs => exact ⟨_, .swap _ _ _, (hs.cons_cons _).cons_cons _⟩
 | trans _ _ ih1 ih2 =>
  intro s hs
  obtain ⟨s1, h1, h2⟩ := ih1 hs
  obtain ⟨s2, h3, h4⟩ := ih2 h2
  exact ⟨s2, h3.trans h1, h4⟩
theorem Ig {r r' : List Pln} (h : r.Perm r') {x : Pnt} (hx : x ∈ crn r) : x ∈ crn r' := by
 rw [RZ] at hx ⊢
 obtain ⟨h1, ⟨a, b, c⟩, h2, h3⟩ := hx
 refine ⟨?_, ?_⟩
 ·unfold ins at h1 ⊢
  rw [List.all_eq_true] at h1 ⊢
  exact fun p hp => h1 p (h.symm.subset hp)
 ·obtain ⟨l, g1, g2⟩ := HS h (Cq.1 h2)
  have hlen := g1.length_eq
  match l, hlen, g1, g2 with
  | [a', b', c'], _, g1, g2 => exact ⟨(a', b', c'), Cq.2 g2, (IC g1).trans h3⟩
theorem Gl {r r' : List Pln} (h : r.Perm r') : full r = full r' := by
 have key : ∀ {r r' : List Pln}, r.Perm r' → full r = true → full r' = true := by
  intro r r' h hf
  unfold full at hf ⊢
  rw [List.all_eq_true] at hf ⊢
  intro p hp
  have := hf p (h.symm.subset hp)
  rw [List.any_eq_true] at this ⊢
  obtain ⟨x, h1, h2⟩ := this
  exact ⟨x, Ig h h1, h2⟩
 rw [Bool.eq_iff_iff]
 exact ⟨key h, key h.symm⟩
theorem Iu (a b : List Pln) : apa a b = apa b a := by
 unfold apa
 rw [Bool.and_comm, Gl (List.Perm.append_right bx0 (List.perm_append_comm (l₁ := a) (l₂ := b)))]
abbrev SS (l : List Pln) : Prop := l.Pairwise LtP
abbrev SL (l : List Pln) : Prop := l.Pairwise fun p q => ¬ LtP q p
theorem SS.eq {l m : List Pln} (hl : SS l) (hm : SS m) (h : ∀ p, p ∈ l ↔ p ∈ m) : l = m := by
 induction l generalizing m with
 | nil =>
  cases m with
  | nil => rfl
  | cons q m => have := (h q).2 (by simp); cases this
 | cons p l ih =>
  cases m with
  | nil => have := (h p).1 (by simp); cases this
  | cons q m =>
   rw [SS, List.pairwise_cons] at hl hm
   have hpq : p = q := by
    have h1 := (h p).1 (by simp)
    have h2 := (h q).2 (by simp)
    rcases List.mem_cons.1 h1 with rfl | h1
    ·rfl
    ·rcases List.mem_cons.1 h2 with rfl | h2
     ·rfl
     ·exact absurd (hl.1 q h2) fun k => k.asym (hm.1 p h1)
   subst hpq
   congr 1
   refine ih hl.2 hm.2 fun x => ?_
   constructor
   ·intro hx
    have := (h x).1 (List.mem_cons_of_mem _ hx)
    rcases List.mem_cons.1 this with rfl | h1
    ·exact absurd (hl.1 x hx) LtP.irr
    ·exact h1
   ·intro hx
    have := (h x).2 (List.mem_cons_of_mem _ hx)
    rcases List.mem_cons.1 this with rfl | h1
    ·exact absurd (hm.1 x hx) LtP.irr
    ·exact h1
theorem uq {p x : Pln} : ∀ {l : List Pln}, x ∈ KH p l ↔ x = p ∨ x ∈ l
 | [] => by simp [KH]
 | q :: l => by
  unfold KH
  split
  ·rw [List.mem_cons, uq, List.mem_cons]
   constructor
   ·rintro (h | h | h)
    ·exact .inr (.inl h)
    ·exact .inl h
    ·exact .inr (.inr h)
   ·rintro (h | h | h)
    ·exact .inr (.inl h)
    ·exact .inl h
    ·exact .inr (.inr h)
  ·rw [List.mem_cons]
theorem DR {p : Pln} : ∀ {l : List Pln}, SL l → SL (KH p l)
 | [], _ => by simp [KH]
 | q :: l, h => by
  rw [SL, List.pairwise_cons] at h
  unfold KH
  split
  ·rename_i hc
   rw [SL, List.pairwise_cons]
   refine ⟨fun x hx => ?_, DR h.2⟩
   rcases uq.1 hx with rfl | hx
   ·exact fun k => k.asym (Je.1 hc)
   ·exact h.1 x hx
  ·rename_i hc
   rw [SL, List.pairwise_cons]
   refine ⟨fun x hx => ?_, by rw [List.pairwise_cons]; exact h⟩
   have hpq : ¬ LtP q p := fun k => hc (Je.2 k)
   rcases List.mem_cons.1 hx with rfl | hx2
   ·exact hpq
   ·intro k
    have hxq := h.1 x hx2
    rcases LtP.tri p q with h1 | h1 | h1
    ·exact hxq (k.trans h1)
    ·exact hxq (h1 ▸ k)
    ·exact hpq h1
theorem uZ {x : Pln} : ∀ {l : List Pln}, x ∈ JC l ↔ x ∈ l
 | [] => by simp [JC]
 | p :: l => by unfold JC; rw [uq, uZ, List.mem_cons]
theorem Cy : ∀ {l : List Pln}, SL (JC l)
 | [] => by simp [JC]
 | p :: l => DR Cy
theorem mw {p : Pln} : ∀ {l : List Pln}, (KH p l).length = l.length + 1
 | [] => rfl
 | q :: l => by unfold KH; split <;> simp [mw]
theorem ub : ∀ {l : List Pln}, (JC l).length = l.length
 | [] => rfl
 | p :: l => by unfold JC; rw [mw, ub]; rfl
theorem qi : ∀ {l : List Pln} {p : Pln}, SL (p :: l) → SS (p :: JQ p l) ∧ ∀ x, x ∈ p :: JQ p l ↔ x ∈ p :: l
 | [], p, _ => ⟨by simp [JQ], fun x => by simp [JQ]⟩
 | q :: l, p, h => by
  rw [SL, List.pairwise_cons] at h
  obtain ⟨h1, h2⟩ := qi h.2
  unfold JQ
  split
  ·rename_i e
   subst e
   refine ⟨h1, fun x => ?_⟩
   rw [h2, List.mem_cons (l := q :: l)]
   simp
  ·rename_i e
   refine ⟨?_, fun x => ?_⟩
   ·rw [SS, List.pairwise_cons]
    refine ⟨fun x hx => ?_, h1⟩
    have hpq : LtP p q := by
     rcases LtP.tri p q with k | k | k
     ·exact k
     ·exact absurd k.symm e
     ·exact absurd k (h.1 q (by simp))
    rcases List.mem_cons.1 hx with rfl | hx'
    ·exact hpq
    ·exact hpq.trans ((List.pairwise_cons.1 h1).1 x hx')
   ·rw [List.mem_cons, h2, ← List.mem_cons]
theorem Ih {l : List Pln} (h : SL l) : SS (cpc l) ∧ ∀ x, x ∈ cpc l ↔ x ∈ l := by
 cases l with
 | nil => exact ⟨by simp [cpc], fun x => by simp [cpc]⟩
 | cons p l => exact qi h
def YH (p : Pln) : List Pln → List Pln
 | [] => [p]
 | q :: l => if YI q p < 0 then q :: YH p l else if q = p then q :: l else p :: q :: l
theorem uj {p x : Pln} : ∀ {l : List Pln}, x ∈ YH p l ↔ x = p ∨ x ∈ l
 | [] => by simp [YH]
 | q :: l => by
  unfold YH
  split
  ·rw [List.mem_cons, uj, List.mem_cons]
   constructor
   ·rintro (h | h | h)
    ·exact .inr (.inl h)
    ·exact .inl h
    ·exact .inr (.inr h)
   ·rintro (h | h | h)
    ·exact .inr (.inl h)
    ·exact .inl h
    ·exact .inr (.inr h)
  ·split
   ·rename_i e; subst e; simp
   ·rw [List.mem_cons]
theorem C7 {p : Pln} : ∀ {l : List Pln}, SS l → SS (YH p l)
 | [], _ => by simp [YH]
 | q :: l, h => by
  rw [SS, List.pairwise_cons] at h
  unfold YH
  split
  ·rename_i hc
   rw [SS, List.pairwise_cons]
   refine ⟨fun x hx => ?_, C7 h.2⟩
   rcases uj.1 hx with rfl | hx
   ·exact Je.1 hc
   ·exact h.1 x hx
  ·rename_i hc
   split
   ·rw [SS, List.pairwise_cons]; exact h
   ·rename_i e
    have hpq : LtP p q := by
     rcases LtP.tri p q with k | k | k
     ·exact k
     ·exact absurd k.symm e
     ·exact absurd (Je.2 k) hc
    rw [SS, List.pairwise_cons]
    refine ⟨fun x hx => ?_, by rw [List.pairwise_cons]; exact h⟩
    rcases List.mem_cons.1 hx with rfl | hx
    ·exact hpq
    ·exact hpq.trans (h.1 x hx)
theorem mP {p : Pln} : ∀ {l : List Pln}, (YH p l).length ≤ l.length + 1
 | [] => by simp [YH]
 | q :: l => by
  have := mP (p := p) (l := l)
  unfold YH
  split
  ·simp only [List.length_cons]; omega
  ·split <;> simp
theorem Ht (l : List Pln) : l.foldl (fun m p => YH p m) [] = cpc (JC l) := by
 have key : ∀ (l m : List Pln), SS m → SS (l.foldl (fun m p => YH p m) m) ∧ ∀ x, x ∈ l.foldl (fun m p => YH p m) m ↔ x ∈ l ∨ x ∈ m := by
  intro l
  induction l with
  | nil => intro m hm; exact ⟨hm, fun x => by simp⟩
  | cons p l ih =>
   intro m hm
   obtain ⟨h1, h2⟩ := ih (YH p m) (C7 hm)
   refine ⟨h1, fun x => ?_⟩
   rw [List.foldl_cons, h2, uj, List.mem_cons]
   constructor
   ·rintro (h | h | h)
    ·exact .inl (.inr h)
    ·exact .inl (.inl h)
    ·exact .inr h
   ·rintro ((h | h) | h)
    ·exact .inr (.inl h)
    ·exact .inl h
    ·exact .inr (.inr h)
 obtain ⟨h1, h2⟩ := key l [] (by simp)
 obtain ⟨h3, h4⟩ := Ih (Cy (l := l))
 refine SS.eq h1 h3 fun p => ?_
 rw [h2, h4, uZ]
 simp
theorem GF (a b : Int) : (ZK a b).val = some (if a < b then -1 else if b < a then 1 else 0, ()) := by
 unfold ZK
 by_cases h1 : a < b
 ·rw [if_pos (by rw [zF]; exact h1), if_pos h1, Comp.zB]
 ·rw [if_neg (by rw [zF]; exact h1), if_neg h1]
  by_cases h2 : b < a
  ·rw [if_pos (by rw [z8]; exact h2), if_pos h2, Comp.zB]
  ·rw [if_neg (by rw [z8]; exact h2), if_neg h2, Comp.zB]
def G8 : List (Int × Int) → Int
 | [] => 0
 | x :: l => if x.1 < x.2 then -1 else if x.2 < x.1 then 1 else G8 l
theorem Mr (p q : Pln) : YI p q = G8 [(p.1.1, q.1.1), (p.1.2.1, q.1.2.1), (p.1.2.2.1, q.1.2.2.1), (p.2.1, q.2.1)] := rfl
theorem nh (p q : Pln) : (j7 p q).val = some (YI p q, ()) := by
 unfold j7
 rw [Mr]
 generalize hl : [(p.1.1, q.1.1), (p.1.2.1, q.1.2.1), (p.1.2.2.1, q.1.2.2.1), (p.2.1, q.2.1)] = l
 have hm : [[p.1.1, q.1.1], [p.1.2.1, q.1.2.1], [p.1.2.2.1, q.1.2.2.1], [p.2.1, q.2.1]] = l.map fun x => [x.1, x.2] := by rw [← hl]; rfl
 have hlen : l.length = 4 := by rw [← hl]; rfl
 rw [hm]
 have key : ∀ (ys zs : List (Int × Int)), l = zs ++ ys → (Comp.loop
     (fun (x : Int × Int) => if ltI x.2 (zD (l.map fun x => [x.1, x.2])) = true then
       (idx (l.map fun x => [x.1, x.2]) x.2).bind fun x_1 => (idx x_1 0).bind fun x_2 => (idx x_1 1).bind fun x_3 => (Go.F.ZK x_2 x_3).bind fun x_4 => if eqI x_4.1 0 = true then Comp.pure (.next (x_4.1, zI .i64 x.2 1)) else Comp.pure (.done x_4.1)
      else Comp.pure (.done x.1)) (0, (zs.length : Int))).val = some (G8 ys) := by
  intro ys
  induction ys with
  | nil =>
   intro zs hx
   rw [zL, if_neg (by rw [zF, zC, List.length_map, hx]; simp), Comp.zB]; rfl
  | cons y ys ih =>
   intro zs hx
   have hy : (l.map fun x => [x.1, x.2])[zs.length]? = some [y.1, y.2] := by rw [hx]; simp
   have hlt := zK hy
   rw [List.length_map] at hlt
   have i0 : (idx [y.1, y.2] 0).val = some y.1 := KA rfl
   have i1 : (idx [y.1, y.2] 1).val = some y.2 := KA rfl
   rw [zL, if_pos (by rw [zF, zC, List.length_map]; show (zs.length : Int) < _; omega), zA, zG hy, zFq, zA, i0, zFq, zA, i1, zFq, zA, GF, zFq]
   unfold G8
   by_cases h1 : y.1 < y.2
   ·rw [if_pos h1, if_neg (by rw [yd]; show ¬ ((-1 : Int) = 0); decide), Comp.zB, if_pos h1]; rfl
   ·rw [if_neg h1]
    by_cases h2 : y.2 < y.1
    ·rw [if_pos h2, if_neg (by rw [yd]; show ¬ ((1 : Int) = 0); decide), Comp.zB, if_neg h1, if_pos h2]; rfl
    ·rw [if_neg h2, if_pos (by rw [yd]), Comp.zB, if_neg h1, if_neg h2, zM (by omega), zFq]
     have := ih (zs ++ [y]) (by rw [hx]; simp)
     simpa using this
 rw [zA]
 refine (congrArg (fun o => Option.bind o _) (key l [] rfl)).trans ?_
 rw [zFq, Comp.zB]
theorem Hd {l : List Pln} (h : l.length ≤ LIM) : (zq l fun z => j7 z.1 z.2.1).val = some (JC l) := by
 unfold zq AJ
 rw [if_pos ⟨h, fun x y => y7.1 (nh x y)⟩, Comp.zB]
theorem zCh (x y : Pln) : adB (adB (eqI x.1.1 y.1.1) (adB (eqI x.1.2.1 y.1.2.1) (eqI x.1.2.2.1 y.1.2.2.1))) (eqI x.2.1 y.2.1) = decide (x = y) := by
 obtain ⟨⟨a, b, c, u⟩, d, v⟩ := x
 obtain ⟨⟨a', b', c', u'⟩, d', v'⟩ := y
 unfold eqI adB
 simp only
 rw [Bool.eq_iff_iff]
 simp [Prod.ext_iff]
def zCi (x y : Pln) : Bool := adB (adB (eqI x.1.1 y.1.1) (adB (eqI x.1.2.1 y.1.2.1) (eqI x.1.2.2.1 y.1.2.2.1))) (eqI x.2.1 y.2.1)
theorem RK (x y : Pln) : zCi x y = decide (x = y) := zCh x y
theorem nj {l : List Pln} (hl : l.length < 9223372036854775807) : (zt l).val = some (cpc l) := by
 have e : zt l = zAE zCi ((0, 0, 0, ()), 0, ()) l := by
  kernel_rfl
 rw [e]
 exact Ra RK hl
def onn (p : Pln) (X : List Pnt) : Nat := (X.filter fun x => decide (rm p x = 0)).length
def fac (c : List Pln) : List Pln := c.filter fun p => decide (3 ≤ onn p (crn (c ++ bx0)))
def ln (c : List Pln) : List Pln := bif ful c then cpc (JC (fac c)) else []
theorem qg {c : List Pln} (h : c.length ≤ 48) : (crn (c ++ bx0)).length ≤ 1000000000 := by
 refine Nat.le_trans (pI _) (Nat.le_trans (J5 _) ?_)
 have : (c ++ bx0).length ≤ 1000 := by simp [bx0]; omega
 exact Nat.mul_le_mul this (Nat.mul_le_mul this this)
theorem BN {c : List Pln} (h : chk c = 0) : (YT c).val = some (crn (c ++ bx0), ()) := by
 obtain ⟨h1, h2⟩ := Yl h
 unfold YT
 rw [zA, Z3 _ (by simp), zFq]
 simp only [List.all_cons, List.all_nil, Bool.and_true, ya]
 rw [if_neg (by simp [h]), zA, kP (by simp) (by simp; omega), zFq, zA]
 simp only [List.flatten_cons, List.flatten_nil, List.append_nil]
 rw [Kv (by simp [bx0]; omega) (fun p hp => (List.mem_append.1 hp).elim (h2 p) (rN p)), zFq, Comp.zB]
theorem nA {c : List Pln} (h : chk c = 0) : (gq c).val = some (crn (c ++ bx0), ()) := by
 obtain ⟨h1, h2⟩ := Yl h
 unfold gq
 rw [zA, jV, zFq, if_neg (by rw [zX]; simp [h]), zA, uh (by omega), zFq, zA,
  Jh (by simp [bx0]; omega) (fun p hp => (List.mem_append.1 hp).elim (h2 p) (rN p)), zFq, Comp.zB]
theorem Gc {p : Pln} {X : List Pnt} (hX : X.length ≤ 1000000000) : (jf p X).val = some (decide (onn p X < 3), ()) := by
 unfold jf
 have h1 := gm (σ := Int) X.length (fun k n => match X[k]? with | some x => if rm p x = 0 then n + 1 else n | none => n) (fun k n => n + (onn p (X.drop k) : Nat)) (fun n k => 0 ≤ n ∧ n ≤ k)
  (body := (fun (x : Int × Int) => if ltI x.2 (zD X) = true then
       (idx X x.2).bind fun x_1 => (Go.F.ZD p x_1).bind fun x_2 => jn (fun (x_3 : Int) => Comp.pure (.next (x_3, zI .i64 x.2 1))) fun (j : Int → Comp (Comp.Step (Int × Int) Int)) => if eqI x_2.1 0 = true then j (zI .i64 x.1 1) else j x.1
      else Comp.pure (.done x.1)))
  (fun n k hk hI => by
   obtain ⟨x, hx⟩ := zN (xs := X) (k := k) hk
   refine ⟨?_, ?_, ?_⟩
   ·rw [hx]
    simp only
    rw [if_pos (by rw [zF, zC]; show (k : Int) < _; omega), zA, zG hx, zFq, zA, uf, zFq, vb]
    by_cases h : rm p x = 0
    ·rw [if_pos (by rw [yd]; exact h), if_pos h, Comp.zB, zM (by omega), yC (by omega)]
    ·rw [if_neg (by rw [yd]; exact h), if_neg h, Comp.zB, zM (by omega)]
   ·rw [hx]
    simp only
    split <;> omega
   ·rw [drop_cons hx, hx]
    unfold onn
    by_cases h : rm p x = 0
    ·simp only [List.filter_cons, h, decide_true, if_true, List.length_cons]; omega
    ·simp [List.filter_cons, h])
  (fun n => by rw [if_neg (by rw [zF, zC]; simp), Comp.zB]) (fun n => by rw [List.drop_length]; simp [onn]) 0 0 (Nat.zero_le _) (by omega)
 rw [zA]
 refine (congrArg (fun o => Option.bind o _) h1).trans ?_
 rw [zFq, Comp.zB]
 congr 2
 unfold ltI
 rw [List.drop_zero, Int.zero_add]
 by_cases h : onn p X < 3
 ·rw [decide_eq_true h, decide_eq_true (by omega)]
 ·rw [decide_eq_false h, decide_eq_false (by omega)]
theorem pF {c : List Pln} : (fac c).length ≤ c.length := List.length_filter_le _ _
theorem Jv (c : List Pln) : (gJ c).val = some (ln c, ()) := by
 unfold gJ ln
 rw [zA, ZG, zFq, ya]
 cases hf : ful c with
 | false => rw [if_pos (by simp), Comp.zB]; rfl
 | true =>
  have hc : chk c = 0 := by
   unfold ful at hf
   rw [zFs] at hf
   simpa using hf.1
  obtain ⟨h1, h2⟩ := Yl hc
  have hX := qg h1
  have hL := Zx
  have e1 : (zZ c).val = some (c, ()) := KD (by unfold LIM; omega)
  have e2 : (zy c fun z => jf z.1 (crn (c ++ bx0))).val = some (fac c) := by
   refine (Dg (z := ((0, 0, 0, ()), 0, ())) (f := fun z => jf z.1 (crn (c ++ bx0))) (p := fun p => decide (onn p (crn (c ++ bx0)) < 3)) (by omega) fun p _ => Gc hX).trans ?_
   unfold fac
   congr 2
   funext p
   by_cases h : onn p (crn (c ++ bx0)) < 3
   ·rw [decide_eq_true h, decide_eq_false (by omega)]; rfl
   ·rw [decide_eq_false h, decide_eq_true (by omega)]; rfl
  rw [if_neg (by simp), zA, BN hc, zFq, zA, e1, zFq, zA, e2, zFq, zA, Hd (by have := pF (c := c); unfold LIM; omega), zFq, zA,
   nj (by rw [ub]; have := pF (c := c); omega), zFq, Comp.zB]
  rfl
theorem qu (p q : Pln) : (yj p q).val = some (YI p q, ()) := by
 unfold yj
 rw [Mr]
 generalize hl : [(p.1.1, q.1.1), (p.1.2.1, q.1.2.1), (p.1.2.2.1, q.1.2.2.1), (p.2.1, q.2.1)] = l
 have hm1 : [p.1.1, p.1.2.1, p.1.2.2.1, p.2.1] = l.map fun x => x.1 := by rw [← hl]; rfl
 have hm2 : [q.1.1, q.1.2.1, q.1.2.2.1, q.2.1] = l.map fun x => x.2 := by rw [← hl]; rfl
 have hlen : l.length = 4 := by rw [← hl]; rfl
 rw [hm1, hm2]
 have key : ∀ (ys zs : List (Int × Int)), l = zs ++ ys → ∃ r : Unit ⊕ Int, (match r with | .inl _ => 0 | .inr n => n) = G8 ys ∧ (Comp.loop
     (fun (x : Int) => if ltI x 4 = true then
       (idx (l.map fun x => x.1) x).bind fun x_1 => (idx (l.map fun x => x.2) x).bind fun x_2 => if ltI x_1 x_2 = true then Comp.pure (.done (Sum.inr (-1)))
         else
          (idx (l.map fun x => x.1) x).bind fun x_3 => (idx (l.map fun x => x.2) x).bind fun x_4 => if gtI x_3 x_4 = true then Comp.pure (.done (Sum.inr 1)) else Comp.pure (.next (zI .i64 x 1))
      else Comp.pure (.done (Sum.inl ()))) (zs.length : Int)).val = some r := by
  intro ys
  induction ys with
  | nil =>
   intro zs hx
   have hz : zs.length = 4 := by rw [← hlen, hx]; simp
   exact ⟨.inl (), rfl, by rw [zL, if_neg (by rw [zF]; omega), Comp.zB]; exact zFq ..⟩
  | cons y ys ih =>
   intro zs hx
   have hz : zs.length < 4 := by rw [← hlen, hx]; simp
   have i1 : (idx (l.map fun x => x.1) (zs.length : Int)).val = some y.1 := zG (by rw [hx]; simp)
   have i2 : (idx (l.map fun x => x.2) (zs.length : Int)).val = some y.2 := zG (by rw [hx]; simp)
   unfold G8
   by_cases h1 : y.1 < y.2
   ·refine ⟨.inr (-1), by rw [if_pos h1], ?_⟩
    rw [zL, if_pos (by rw [zF]; omega), zA, i1, zFq, zA, i2, zFq, if_pos (by rw [zF]; exact h1), Comp.zB]; rfl
   ·by_cases h2 : y.2 < y.1
    ·refine ⟨.inr 1, by rw [if_neg h1, if_pos h2], ?_⟩
     rw [zL, if_pos (by rw [zF]; omega), zA, i1, zFq, zA, i2, zFq, if_neg (by rw [zF]; exact h1), zA, i1, zFq, zA, i2, zFq, if_pos (by rw [z8]; exact h2), Comp.zB]; rfl
    ·obtain ⟨r, h3, h4⟩ := ih (zs ++ [y]) (by rw [hx]; simp)
     refine ⟨r, by rw [if_neg h1, if_neg h2]; exact h3, ?_⟩
     rw [zL, if_pos (by rw [zF]; omega), zA, i1, zFq, zA, i2, zFq, if_neg (by rw [zF]; exact h1), zA, i1, zFq, zA, i2, zFq, if_neg (by rw [z8]; exact h2), Comp.zB, zM (by omega), zFq]
     simpa using h4
 obtain ⟨r, h3, h4⟩ := key l [] rfl
 rw [zA]
 refine (congrArg (fun o => Option.bind o _) h4).trans ?_
 rw [zFq, ← h3]
 cases r <;> exact Comp.zB _
def bef (p : Pln) : List Pln → Nat
 | [] => 0
 | q :: l => if YI q p < 0 then bef p l + 1 else 0
theorem Ms {p : Pln} : ∀ {l : List Pln}, bef p l ≤ l.length
 | [] => zFu _
 | q :: l => by
  have := Ms (p := p) (l := l)
  unfold bef
  split <;> simp only [List.length_cons] <;> omega
theorem mQ {p : Pln} : ∀ {l : List Pln}, YH p l = if l[bef p l]? = some p then l else l.take (bef p l) ++ p :: l.drop (bef p l)
 | [] => rfl
 | q :: l => by
  have ih := mQ (p := p) (l := l)
  unfold YH bef
  split
  ·rw [ih]
   simp only [List.getElem?_cons_succ, List.take_succ_cons, List.drop_succ_cons, List.cons_append]
   split <;> rfl
  ·simp only [List.getElem?_cons_zero, Option.some.injEq, List.take_zero, List.drop_zero, List.nil_append]
theorem Hl {l : List Pln} {p : Pln} (hl : l.length ≤ 1000000) : (jB l p).val = some (YH p l, ()) := by
 have hL := Zx
 unfold jB
 have key : ∀ (ys zs : List Pln), l = zs ++ ys → (Comp.loop
     (fun (x : Int) => (Comp.gd (ltI x (zD l)) (idx l x) ((0, 0, 0, ()), 0, ())).bind fun x_1 => (Comp.gd (ltI x (zD l)) (Go.F.yj x_1 p) (0, ())).bind fun x_2 => if sel (ltI x (zD l)) (ltI x_2.1 0) false = true then Comp.pure (.next (zI .i64 x 1)) else Comp.pure (.done x))
     (zs.length : Int)).val = some (((zs.length + bef p ys : Nat)) : Int) := by
  intro ys
  induction ys with
  | nil =>
   intro zs hx
   have h1 : ltI (zs.length : Int) (zD l) = false := by unfold ltI; rw [decide_eq_false]; rw [zC, hx]; simp
   rw [zL]
   simp only [h1]
   rw [zA]
   show Option.bind (Option.bind (Comp.pure _).val _) _ = _
   rw [Comp.zB, zFq, zA]
   show Option.bind (Option.bind (Comp.pure _).val _) _ = _
   rw [Comp.zB, zFq]
   rw [if_neg (by simp [sel]), Comp.zB, zFq]
   rfl
  | cons y ys ih =>
   intro zs hx
   have hy : l[zs.length]? = some y := by rw [hx]; simp
   have hlt := zK hy
   have h1 : ltI (zs.length : Int) (zD l) = true := by rw [zF, zC]; omega
   rw [zL]
   simp only [h1]
   rw [zA]
   show Option.bind (Option.bind (idx l (zs.length : Int)).val _) _ = _
   rw [zG hy, zFq, zA]
   show Option.bind (Option.bind (yj y p).val _) _ = _
   rw [qu, zFq]
   unfold bef
   by_cases h2 : YI y p < 0
   ·rw [if_pos (by show sel true (ltI (YI y p) 0) false = true; show ltI (YI y p) 0 = true; rw [zF]; exact h2), if_pos h2, Comp.zB, zM (by omega), zFq]
    have := ih (zs ++ [y]) (by rw [hx]; simp)
    simp only [zFt, zFv] at this
    rw [show zs.length + (bef p ys + 1) = zs.length + 1 + bef p ys by omega]
    exact this
   ·rw [if_neg (by show ¬ sel true (ltI (YI y p) 0) false = true; show ¬ ltI (YI y p) 0 = true; rw [zF]; exact h2), if_neg h2, Comp.zB, zFq]
    rfl
 have h1 := key l [] rfl
 simp only [List.length_nil, Nat.zero_add] at h1
 have hb := Ms (p := p) (l := l)
 rw [zA]
 refine (congrArg (fun o => Option.bind o _) h1).trans ?_
 rw [zFq, mQ]
 have tail : ((sub l 0 ((bef p l : Nat) : Int)).bind fun x_2 => (app [] x_2).bind fun zs => (app zs [p]).bind fun zs => (sub l ((bef p l : Nat) : Int) (zD l)).bind fun x => (app zs x).bind fun zs => (Comp.pure (zs, ()) : Comp (List Pln × Unit))).val = some (l.take (bef p l) ++ p :: l.drop (bef p l), ()) := by
  have s1 : (sub l 0 ((bef p l : Nat) : Int)).val = some (l.take (bef p l)) := by rw [Zs (by omega)]; simp
  rw [zA, s1, zFq, zA, zo (by simp; unfold LIM; omega), zFq, zA, zo (by simp; unfold LIM; omega), zFq, zA, rU hb, zFq, zA,
   zo (by simp; unfold LIM; omega), zFq, Comp.zB]
  simp
 by_cases hlt : bef p l < l.length
 ·obtain ⟨y, hy⟩ := zN (xs := l) (k := bef p l) hlt
  have h2 : ltI ((bef p l : Nat) : Int) (zD l) = true := by rw [zF, zC]; omega
  rw [h2, zA]
  show Option.bind (idx l ((bef p l : Nat) : Int)).val _ = _
  rw [zG hy, zFq, hy]
  have he := zCh y p
  by_cases hp : y = p
  ·rw [if_pos (by show sel true _ false = true; show (adB _ _) = true; rw [he]; exact decide_eq_true hp), if_pos (by rw [hp]), Comp.zB]
  ·rw [if_neg (by show ¬ sel true _ false = true; show ¬ (adB _ _) = true; rw [he]; simp [hp]), if_neg (by simp [hp])]
   exact tail
 ·have h2 : ltI ((bef p l : Nat) : Int) (zD l) = false := by unfold ltI; rw [decide_eq_false]; rw [zC]; omega
  rw [h2, zA]
  show Option.bind (Comp.pure _).val _ = _
  rw [Comp.zB, zFq, if_neg (by simp [sel]), if_neg (by rw [List.getElem?_eq_none (by omega)]; simp)]
  exact tail
theorem QT {i : Nat} {c : List Pln} {p : Pln} (hp : c[i]? = some p) {X : List Pnt} (hX : X.length ≤ 1000000000) : (Comp.loop
             (fun (x_2 : Int × Int) => if ltI x_2.2 (zD X) = true then
               (idx c (i : Int)).bind fun x => (idx X x_2.2).bind fun x_3 => (Go.F.zf x x_3).bind fun x => jn (fun (x : Int) => Comp.pure (.next (x, zI .i64 x_2.2 1)))
                   fun (j : Int → Comp (Comp.Step (Int × Int) Int)) => if eqI x.1 0 = true then j (zI .i64 x_2.1 1) else j x_2.1
              else Comp.pure (.done x_2.1))
             (0, 0)).val = some ((onn p X : Nat) : Int) := by
 have h1 := gm (σ := Int) X.length (fun k n => match X[k]? with | some x => if rm p x = 0 then n + 1 else n | none => n) (fun k n => n + (onn p (X.drop k) : Nat)) (fun n k => 0 ≤ n ∧ n ≤ k)
  (body := (fun (x_2 : Int × Int) => if ltI x_2.2 (zD X) = true then
               (idx c (i : Int)).bind fun x => (idx X x_2.2).bind fun x_3 => (Go.F.zf x x_3).bind fun x => jn (fun (x : Int) => Comp.pure (.next (x, zI .i64 x_2.2 1)))
                   fun (j : Int → Comp (Comp.Step (Int × Int) Int)) => if eqI x.1 0 = true then j (zI .i64 x_2.1 1) else j x_2.1
              else Comp.pure (.done x_2.1)))
  (fun n k hk hI => by
   obtain ⟨x, hx⟩ := zN (xs := X) (k := k) hk
   refine ⟨?_, ?_, ?_⟩
   ·rw [hx]
    simp only
    rw [if_pos (by rw [zF, zC]; show (k : Int) < _; omega), zA, zG hp, zFq, zA, zG hx, zFq, zA, KR, zFq, vb]
    by_cases h : rm p x = 0
    ·rw [if_pos (by rw [yd]; exact h), if_pos h, Comp.zB, zM (by omega), yC (by omega)]
    ·rw [if_neg (by rw [yd]; exact h), if_neg h, Comp.zB, zM (by omega)]
   ·rw [hx]
    simp only
    split <;> omega
   ·rw [drop_cons hx, hx]
    unfold onn
    by_cases h : rm p x = 0
    ·simp only [List.filter_cons, h, decide_true, if_true, List.length_cons]; omega
    ·simp [List.filter_cons, h])
  (fun n => by rw [if_neg (by rw [zF, zC]; simp), Comp.zB]) (fun n => by rw [List.drop_length]; simp [onn]) 0 0 (Nat.zero_le _) (by omega)
 rw [List.drop_zero, Int.zero_add] at h1
 exact h1
theorem Yn (c : List Pln) : (zh c).val = some (ln c, ()) := by
 unfold zh ln
 rw [zA, Zy, zFq, ya]
 cases hf : ful c with
 | false => rw [if_pos (by simp), Comp.zB]; rfl
 | true =>
  have hc : chk c = 0 := by
   unfold ful at hf
   rw [zFs] at hf
   simpa using hf.1
  obtain ⟨h1, h2⟩ := Yl hc
  have hX := qg h1
  have hL := Zx
  rw [if_neg (by simp), zA, nA hc, zFq]
  have h3 := gm c.length (fun k l => match c[k]? with | some p => if 3 ≤ onn p (crn (c ++ bx0)) then YH p l else l | none => l) (fun k l => ((c.drop k).filter fun p => decide (3 ≤ onn p (crn (c ++ bx0)))).foldl (fun m p => YH p m) l) (fun l k => l.length ≤ k)
   (body := (fun (x_1 : List (Pln) × Int) => if ltI x_1.2 (zD c) = true then
          (Comp.loop
             (fun (x_2 : Int × Int) => if ltI x_2.2 (zD (crn (c ++ bx0))) = true then
               (idx c x_1.2).bind fun x => (idx (crn (c ++ bx0)) x_2.2).bind fun x_3 => (Go.F.zf x x_3).bind fun x => jn (fun (x : Int) => Comp.pure (.next (x, zI .i64 x_2.2 1)))
                   fun (j : Int → Comp (Comp.Step (Int × Int) Int)) => if eqI x.1 0 = true then j (zI .i64 x_2.1 1) else j x_2.1
              else Comp.pure (.done x_2.1))
             (0, 0)).bind fun x => jn (fun (x : List (Pln)) => Comp.pure (.next (x, zI .i64 x_1.2 1)))
            fun (j :
              List (Pln) → Comp (Comp.Step (List (Pln) × Int) (List (Pln)))) =>
            if geI x 3 = true then
             (idx c x_1.2).bind fun x => (Go.F.jB x_1.1 x).bind fun x => j x.1
            else j x_1.1
         else Comp.pure (.done x_1.1)))
   (fun l k hk hI => by
    obtain ⟨p, hp⟩ := zN (xs := c) (k := k) hk
    refine ⟨?_, ?_, ?_⟩
    ·rw [hp]
     simp only
     rw [if_pos (by rw [zF, zC]; show (k : Int) < _; omega), zA]
     refine (congrArg (fun o => Option.bind o _) (QT hp hX)).trans ?_
     rw [zFq, vb]
     by_cases h : 3 ≤ onn p (crn (c ++ bx0))
     ·rw [if_pos (by rw [K8]; omega), if_pos h, zA, zG hp, zFq, zA, Hl (by omega), zFq, Comp.zB, zM (by omega)]
     ·rw [if_neg (by rw [K8]; omega), if_neg h, Comp.zB, zM (by omega)]
    ·rw [hp]
     simp only
     have := mP (p := p) (l := l)
     split <;> omega
    ·rw [drop_cons hp, hp]
     by_cases h : 3 ≤ onn p (crn (c ++ bx0))
     ·simp [List.filter_cons, h]
     ·simp [List.filter_cons, h])
   (fun n => by rw [if_neg (by rw [zF, zC]; simp), Comp.zB]) (fun n => by rw [List.drop_length]; rfl) 0 [] (Nat.zero_le _) (by simp)
  rw [zA]
  refine (congrArg (fun o => Option.bind o _) h3).trans ?_
  rw [zFq, Comp.zB, List.drop_zero, Ht]
  rfl
abbrev Cell := List Pln
def jH : List Cell → Int
 | [] => 0
 | c :: s => if chk c = 0 then jH s else chk c
def sck (s : List Cell) : Int := if 16 < s.length then 2 else jH s
def sap (c : Cell) (s : List Cell) : Bool := s.all fun q => apa c q
def jN (p : Pln) : Pln := ((-p.1.1, -p.1.2.1, -p.1.2.2.1, ()), -p.2.1, ())
def gp : Cell → List Pln → List (Option Cell)
 | _, [] => []
 | rest, p :: fs => if 48 ≤ rest.length then [none] else (bif decide (ln (rest ++ [jN p]) = []) then [] else [some (ln (rest ++ [jN p]))]) ++ gp (ln (rest ++ [p])) fs
def jQ : List (Option α) → Bool
 | [] => false
 | none :: _ => true
 | some _ :: l => jQ l
def jy : List (Option α) → List α
 | [] => []
 | none :: l => jy l
 | some x :: l => x :: jy l
def wo (q : Cell) : List Cell → List Cell → Option (List Cell)
 | [], out => some out
 | x :: xs, out => if apa x q = true then wo q xs (out ++ [x]) else if jQ (gp x (ln q)) = true then none else wo q xs (out ++ jy (gp x (ln q)))
def wth (pieces : List Cell) (q : Cell) : List Cell × Int :=
 if ful q = true then match wo q pieces [] with
  | none => ([], 9)
  | some out => if 200 < out.length then ([], 9) else (out, 0)
 else (pieces, 0)
def JV : List Cell → List Cell → List Cell × Int
 | pcs, [] => (pcs, 0)
 | pcs, q :: s => if (wth pcs q).2 = 0 then JV (wth pcs q).1 s else ([], (wth pcs q).2)
def mns (c : Cell) (s : List Cell) : List Cell × Int := if chk c = 0 then if sck s = 0 then if ful c = true then JV [ln c] s else ([], 0) else ([], sck s) else ([], chk c)
def cov (s : List Cell) (c : Cell) : Bool × Int := (decide ((mns c s).2 = 0) && decide ((mns c s).1.length = 0), (mns c s).2)
theorem pj : ∀ {fs : List Pln} {rest : Cell}, (gp rest fs).length ≤ fs.length
 | [], _ => zFu _
 | p :: fs, rest => by
  have := pj (fs := fs) (rest := ln (rest ++ [p]))
  unfold gp
  split
  ·simp
  ·cases decide (ln (rest ++ [jN p]) = []) <;> simp <;> omega
theorem Xt : ∀ {l : List (Option α)}, (jy l).length ≤ l.length
 | [] => zFu _
 | none :: l => by have := Xt (l := l); simp only [jy, List.length_cons]; omega
 | some _ :: l => by have := Xt (l := l); simp only [jy, List.length_cons]; omega
theorem Ss : ∀ {fs : List Pln} {rest : Cell} {c : Cell}, some c ∈ gp rest fs → c ≠ []
 | [], _, _, h => by cases h
 | p :: fs, rest, c, h => by
  unfold gp at h
  split at h
  ·simp at h
  ·rw [List.mem_append] at h
   rcases h with h | h
   ·by_cases he : ln (rest ++ [jN p]) = []
    ·rw [decide_eq_true he] at h; cases h
    ·rw [decide_eq_false he] at h
     simp only [cond_false, List.mem_singleton, Option.some.injEq] at h
     subst h; exact he
   ·exact Ss h
theorem ux [DecidableEq α] {y : α} : ∀ {l : List α} {x : α}, y ∈ JQ x l → y ∈ l
 | [], _, h => h
 | z :: l, x, h => by
  unfold JQ at h
  split at h
  ·exact List.mem_cons_of_mem _ (ux h)
  ·rcases List.mem_cons.1 h with rfl | h
   ·simp
   ·exact List.mem_cons_of_mem _ (ux h)
theorem Rb [DecidableEq α] {y : α} {l : List α} (h : y ∈ cpc l) : y ∈ l := by
 cases l with
 | nil => exact h
 | cons x l =>
  rcases List.mem_cons.1 h with rfl | h
  ·simp
  ·exact List.mem_cons_of_mem _ (ux h)
theorem RC {c : Cell} (h : ful c = true) : chk c = 0 := by
 unfold ful at h
 rw [zFs] at h
 simpa using h.1
theorem zCS {c : Cell} : (ln c).length ≤ 48 ∧ ∀ p ∈ ln c, okB p := by
 unfold ln
 cases hf : ful c with
 | false => simp
 | true =>
  obtain ⟨h1, h2⟩ := Yl (RC hf)
  have h3 := pF (c := c)
  refine ⟨?_, fun p hp => ?_⟩
  ·have := Dj (l := JC (fac c))
   rw [ub] at this
   show (cpc (JC (fac c))).length ≤ 48
   omega
  ·have := uZ.1 (Rb (show p ∈ cpc (JC (fac c)) from hp))
   exact h2 p (List.mem_filter.1 this).1
theorem Ck {pieces : List Cell} {q : Cell} (h : pieces.length ≤ 200) : (wth pieces q).1.length ≤ 200 := by
 unfold wth
 split
 ·split
  ·simp
  ·split
   ·simp
   ·simp only; omega
 ·exact h
theorem wa {s : List Cell} (hl : s.length < 9223372036854775807) {body : Int → Comp (Comp.Step Int (Unit ⊕ Int))} (hb : ∀ (i : Nat) c, s[i]? = some c → (body (i : Int)).val = some (if chk c = 0 then .next ((i + 1 : Nat) : Int) else .done (.inr (chk c)))) (he : (body (s.length : Int)).val = some (.done (.inl ()))) :
  ∃ r : Unit ⊕ Int, (match r with | .inl _ => 0 | .inr n => n) = jH s ∧ (Comp.loop body 0).val = some r := by
 have key : ∀ (ys zs : List Cell), s = zs ++ ys → ∃ r : Unit ⊕ Int, (match r with | .inl _ => 0 | .inr n => n) = jH ys ∧ (Comp.loop body (zs.length : Int)).val = some r := by
  intro ys
  induction ys with
  | nil =>
   intro zs hx
   refine ⟨.inl (), rfl, ?_⟩
   rw [zL, show zs.length = s.length by rw [hx]; simp, he]; rfl
  | cons y ys ih =>
   intro zs hx
   have hy : s[zs.length]? = some y := by rw [hx]; simp
   unfold jH
   by_cases h : chk y = 0
   ·obtain ⟨r, h1, h2⟩ := ih (zs ++ [y]) (by rw [hx]; simp)
    refine ⟨r, by rw [if_pos h]; exact h1, ?_⟩
    rw [zL, hb _ _ hy, if_pos h, zFq]
    simpa using h2
   ·refine ⟨.inr (chk y), by rw [if_neg h], ?_⟩
    rw [zL, hb _ _ hy, if_neg h, zFq]
 exact key s [] rfl
theorem K4 (s : List Cell) : (YM s).val = some (sck s, ()) := by
 unfold YM sck
 by_cases h : 16 < s.length
 ·rw [if_pos (by rw [z8, zC]; omega), if_pos h, Comp.zB]
 ·rw [if_neg (by rw [z8, zC]; omega), if_neg h]
  obtain ⟨r, h1, h2⟩ := wa (s := s) (by omega)
   (body := (fun (x : Int) => if ltI x (zD s) = true then
        (idx s x).bind fun x_1 => (Go.F.vV x_1).bind fun x_2 => if neI x_2.1 0 = true then Comp.pure (.done (Sum.inr x_2.1)) else Comp.pure (.next (zI .i64 x 1))
       else Comp.pure (.done (Sum.inl ()))))
   (fun i c hc => by
    have hlt := zK hc
    rw [if_pos (by rw [zF, zC]; omega), zA, zG hc, zFq, zA, gf, zFq, zM (by omega)]
    by_cases h : chk c = 0
    ·rw [if_neg (by rw [zX]; simp [h]), if_pos h, Comp.zB]
    ·rw [if_pos (by rw [zX]; exact h), if_neg h, Comp.zB])
   (by rw [if_neg (by rw [zF, zC]; omega), Comp.zB])
  rw [zA]
  refine (congrArg (fun o => Option.bind o _) h2).trans ?_
  rw [zFq, ← h1]
  cases r <;> exact Comp.zB _
theorem jA (c : Cell) {s : List Cell} (hl : s.length < 9223372036854775807) : (yD c s).val = some (sap c s, ()) := by
 unfold yD
 have h1 : (zQ s fun z => gZ z.1 c).val = some (s.any fun q => !apa c q, ()) :=
  ki (xs := s) (f := fun z => gZ z.1 c) (p := fun q => !apa c q) hl fun q _ => by
   show (gZ q c).val = _
   unfold gZ
   rw [zA, jU, zFq, Comp.zB]; rfl
 rw [zA, h1, zFq, Comp.zB, ya]
 unfold sap
 rw [List.all_eq_not_any_not]
theorem lF {p : Pln} (h : okB p) : (Z4 p).val = some (jN p, ()) := by
 obtain ⟨⟨h1, h2, h3⟩, h4⟩ := h
 unfold Z4 KS
 rw [zA, Comp.zB, zFq, Comp.zB, K0 (by omega), Zm (by simp only; omega), Zm (by simp only; omega), Zm (by simp only; omega)]
 unfold jN
 simp only [Int.zero_sub]
theorem lj {c : Cell} {p : Pln} (h : c.length ≤ 1000) : (zO [c, [p]]).val = some (c ++ [p], ()) := by
 have := KF (z := ((0, 0, 0, ()), 0, ())) (xs := [c, [p]]) (by simp; unfold LIM; omega) (by simp)
 simp only [List.flatten_cons, List.flatten_nil, List.append_nil] at this
 exact this
theorem qT {piece : Cell} {fs : List Pln} (hl : fs.length ≤ 1000) (hB : ∀ p ∈ fs, okB p) : (jS piece fs).val = some ((gp piece fs).map fun o => (o, ())) := by
 unfold jS
 have key : ∀ (ys zs : List Pln) (rest : Cell), fs = zs ++ ys → ∃ e : Unit ⊕ Unit, (Zh
       (fun (x : List (Pln) × Int) => if ltI x.2 (zD fs) = true then
         (idx fs x.2).bind fun x_1 => if geI (zD x.1) 48 = true then tell [(none, ())] (Comp.pure ([], .done (Sum.inr ())))
          else
           (Go.F.Z4 x_1).bind fun x_2 => (Go.F.zO [x.1, [x_2.1]]).bind fun y => (Go.F.gJ y.1).bind fun y_1 => if gtI (zD y_1.1) 0 = true then
               tell [(some y_1.1, ())]
                ((Go.F.zO [x.1, [x_1]]).bind fun y => (Go.F.gJ y.1).bind fun y => Comp.pure ([], .next (y.1, zI .i64 x.2 1)))
              else
               (Go.F.zO [x.1, [x_1]]).bind fun y => (Go.F.gJ y.1).bind fun y => Comp.pure ([], .next (y.1, zI .i64 x.2 1))
        else Comp.pure ([], .done (Sum.inl ()))) (rest, (zs.length : Int))).val = some ((gp rest ys).map fun o => (o, ()), e) := by
  intro ys
  induction ys with
  | nil =>
   intro zs rest hx
   exact ⟨.inl (), JL (by rw [if_neg (by rw [zF, zC, hx]; simp), Comp.zB]; rfl)⟩
  | cons p ys ih =>
   intro zs rest hx
   have hy : fs[zs.length]? = some p := by rw [hx]; simp
   have hlt := zK hy
   have hp := hB p (List.mem_of_getElem? hy)
   by_cases hr : 48 ≤ rest.length
   ·refine ⟨.inr (), JL ?_⟩
    rw [if_pos (by rw [zF, zC]; show (zs.length : Int) < _; omega), zA, zG hy, zFq, if_pos (by rw [K8, zC]; show _ ≤ ((rest.length : Nat) : Int); omega), YC, Comp.zB]
    unfold gp
    rw [if_pos hr]; rfl
   ·obtain ⟨e, he⟩ := ih (zs ++ [p]) (ln (rest ++ [p])) (by rw [hx]; simp)
    refine ⟨e, ?_⟩
    have hgp : (gp rest (p :: ys)).map (fun o => (o, ())) = (bif decide (ln (rest ++ [jN p]) = []) then [] else [(some (ln (rest ++ [jN p])), ())]) ++ (gp (ln (rest ++ [p])) ys).map fun o => (o, ()) := by
     conv => lhs; unfold gp
     rw [if_neg hr, List.map_append]
     cases decide (ln (rest ++ [jN p]) = []) <;> rfl
    rw [hgp]
    refine uG (s' := (ln (rest ++ [p]), ((zs.length + 1 : Nat) : Int))) ?_ (by simpa using he)
    rw [if_pos (by rw [zF, zC]; show (zs.length : Int) < _; omega), zA, zG hy, zFq, if_neg (by rw [K8, zC]; show ¬ _ ≤ ((rest.length : Nat) : Int); omega),
     zA, lF hp, zFq, zA, lj (by show rest.length ≤ 1000; omega), zFq, zA, Jv, zFq]
    have ht : ((Go.F.zO [rest, [p]]).bind fun y => (Go.F.gJ y.1).bind fun y => (Comp.pure ([], .next (y.1, zI .i64 (zs.length : Int) 1)) : Comp (List (Option Cell × Unit) × Comp.Step (Cell × Int) (Unit ⊕ Unit)))).val = some ([], .next (ln (rest ++ [p]), ((zs.length + 1 : Nat) : Int))) := by
     rw [zA, lj (by omega), zFq, zA, Jv, zFq, Comp.zB, zM (by omega)]
    by_cases h0 : ln (rest ++ [jN p]) = []
    ·rw [if_neg (by rw [z8, zC, h0]; simp), decide_eq_true h0]
     exact ht
    ·rw [if_pos (by rw [z8, zC]; have := List.length_pos_iff.2 h0; show (0 : Int) < ((ln (rest ++ [jN p])).length : Int); omega), YC, decide_eq_false h0]
     refine (congrArg (Option.map _) ht).trans ?_
     rfl
 obtain ⟨e, he⟩ := key fs [] piece rfl
 rw [zA, zA]
 refine (congrArg (fun o => Option.bind (Option.bind o _) _) he).trans ?_
 rw [zFq, YC]
 have h3 : ∀ e : Unit ⊕ Unit, (match e with | Sum.inl x => Comp.pure ([], ()) | Sum.inr x => Comp.pure ([], ()) : Comp (List (Option Cell × Unit) × Unit)).val = some ([], ()) := fun e => by cases e <;> exact Comp.zB _
 refine (congrArg (fun o => Option.bind (Option.map _ o) _) (h3 e)).trans ?_
 simp only [Option.map_some, zFq, List.append_nil]
 exact Comp.zB _
theorem qf {a : List Cell} {b : Int} : ∀ (L : List (Option Cell)) (out : List Cell), (∀ c, some c ∈ L → c ≠ []) → out.length + L.length ≤ 1000000 → (KM
                   (fun (x :
                      List (List (Pln)) × Int × List (List (Pln)))
                     (d : Option (List (Pln)) × Unit) =>
                    match d.1 with
                    | none => Comp.pure (.done ([], Int.ofNat 9))
                    | some xs =>
                     amb (K3 xs) (Comp.pure (.done ([], Int.ofNat 9)))
                      ((app x.2.2 [xs]).bind fun zs => Comp.pure (.next (x.1, x.2.1, zs))))
                   (L.map fun o => (o, ())) (a, b, out)).val = some (if jQ L = true then .done ([], 9) else .next (a, b, out ++ jy L) : Comp.Step (List Cell × Int × List Cell) (List Cell × Int))
 | [], out, _, _ => by
  show (Comp.pure _).val = _
  rw [Comp.zB]; simp [jQ, jy]
 | none :: L, out, _, _ => by
  show ((Comp.pure _).bind _).val = _
  rw [zA, Comp.zB, zFq, Comp.zB]; rfl
 | some c :: L, out, hne, hlen => by
  have hc := hne c (by simp)
  simp only [List.length_cons] at hlen
  show ((amb (K3 c) _ _).bind _).val = _
  have hn : K3 c = false := by cases c with
   | nil => exact absurd rfl hc
   | cons _ _ => rfl
  have h1 : (amb (K3 c) (Comp.pure (.done ([], Int.ofNat 9))) ((app out [c]).bind fun zs => Comp.pure (.next (a, b, zs))) : Comp (Comp.Step (List Cell × Int × List Cell) (List Cell × Int))).val = some (.next (a, b, out ++ [c])) := by
   rw [hn]
   show ((app out [c]).bind _).val = _
   rw [zA, zo (by simp only [zFv]; unfold LIM; omega), zFq, Comp.zB]
  rw [zA]
  refine (congrArg (fun o => Option.bind o _) h1).trans ?_
  rw [zFq]
  refine (qf L (out ++ [c]) (fun c' h => hne c' (List.mem_cons_of_mem _ h)) (by simp only [zFt, zFv]; omega)).trans ?_
  show some (if jQ L = true then _ else _) = some (if jQ L = true then _ else _)
  simp only [jy, List.append_assoc, List.singleton_append]
theorem Kg {pieces : List Cell} (q : Cell) (hl : pieces.length ≤ 200) : (j0 pieces q).val = some ((wth pieces q).1, (wth pieces q).2, ()) := by
 unfold j0
 rw [zA, ZG, zFq, ya]
 by_cases hf : ful q = true
 ·rw [if_neg (by simp [hf]), zA, Jv, zFq]
  have hq := zCS (c := q)
  have key : ∀ (ys zs : List Cell) (out : List Cell), pieces = zs ++ ys → out.length + ys.length * 49 ≤ 20000 → ∃ r, (match r with
    | .inl x => some x.2.2
    | .inr _ => none) = wo q ys out ∧ (∀ x, r = .inr x → x = ([], 9)) ∧ (∀ x, r = .inl x → x.1 = [] ∧ x.2.1 = 0) ∧ (Comp.loop
        (fun (x : Int × List (List (Pln)) × Int × List (List (Pln))) => if ltI x.1 (zD pieces) = true then
          jn
           (fun (x_1 : List (List (Pln)) × Int × List (List (Pln))) => Comp.pure (.next (zI .i64 x.1 1, x_1.1, x_1.2.1, x_1.2.2)))
           fun (j :
             List (List (Pln)) × Int × List (List (Pln)) → Comp
               (Comp.Step
                (Int × List (List (Pln)) × Int × List (List (Pln)))
                (List (List (Pln)) × Int × List (List (Pln)) ⊕
                 List (List (Pln)) × Int))) =>
           (idx pieces x.1).bind fun x_1 => (Go.F.kF x_1 q).bind fun x_2 => if x_2.1 = true then (app x.2.2.2 [x_1]).bind fun zs => j (x.2.1, x.2.2.1, zs)
             else
              (Go.F.ZI x_1 (ln q)).bind fun (x_3 : Comp (List (Option (List (Pln)) × Unit)) × Unit) => x_3.1.bind fun (xs : List (Option (List (Pln)) × Unit)) => (KM
                   (fun (x :
                      List (List (Pln)) × Int × List (List (Pln)))
                     (d : Option (List (Pln)) × Unit) =>
                    match d.1 with
                    | none => Comp.pure (.done ([], Int.ofNat 9))
                    | some xs =>
                     amb (K3 xs) (Comp.pure (.done ([], Int.ofNat 9)))
                      ((app x.2.2 [xs]).bind fun zs => Comp.pure (.next (x.1, x.2.1, zs))))
                   xs (x.2.1, x.2.2.1, x.2.2.2)).bind fun (r :
                   Comp.Step
                    (List (List (Pln)) × Int × List (List (Pln)))
                    (List (List (Pln)) × Int)) =>
                 match r with
                 | .next x => j (x.1, x.2.1, x.2.2)
                 | .done e => Comp.pure (.done (Sum.inr (e.1, e.2)))
         else Comp.pure (.done (Sum.inl (x.2.1, x.2.2.1, x.2.2.2)))) ((zs.length : Int), [], 0, out)).val = some r := by
   intro ys
   induction ys with
   | nil =>
    intro zs out hx hlen
    refine ⟨.inl ([], 0, out), rfl, (fun x h => nomatch h), (fun x h => by cases h; exact ⟨rfl, rfl⟩), ?_⟩
    rw [zL, if_neg (by rw [zF, zC, hx]; simp), Comp.zB]; rfl
   | cons y ys ih =>
    intro zs out hx hlen
    simp only [List.length_cons] at hlen
    have hy : pieces[zs.length]? = some y := by rw [hx]; simp
    have hlt := zK hy
    by_cases ha : apa y q = true
    ·obtain ⟨r, h1, h2, h3, h4⟩ := ih (zs ++ [y]) (out ++ [y]) (by rw [hx]; simp) (by simp only [zFt, zFv]; omega)
     refine ⟨r, by rw [h1]; conv => rhs; unfold wo; rw [if_pos ha], h2, h3, ?_⟩
     rw [zL, if_pos (by rw [zF, zC]; show (zs.length : Int) < _; omega), vb, zA, zG hy, zFq, zA, jU, zFq, if_pos ha, zA,
      zo (by simp only [zFv]; unfold LIM; show out.length + 1 ≤ _; omega), zFq, Comp.zB, zFq, zM (by omega)]
     simpa using h4
    ·have hp : (ZI y (ln q)).val = some (jS y (ln q), ()) := by unfold ZI; exact Comp.zB _
     have hfo := qf (a := []) (b := 0) (gp y (ln q)) out (fun c h => Ss h) (by have := pj (fs := ln q) (rest := y); omega)
     by_cases hn : jQ (gp y (ln q)) = true
     ·refine ⟨.inr ([], 9), by conv => rhs; unfold wo; rw [if_neg ha, if_pos hn], (fun x h => by cases h; rfl), (fun x h => nomatch h), ?_⟩
      rw [if_pos hn] at hfo
      rw [zL, if_pos (by rw [zF, zC]; show (zs.length : Int) < _; omega), vb, zA, zG hy, zFq, zA, jU, zFq, if_neg ha, zA, hp, zFq, zA,
       qT (by omega) hq.2, zFq, zA]
      refine (congrArg (fun o => Option.bind (Option.bind o _) _) hfo).trans ?_
      rw [zFq, Comp.zB]; rfl
     ·have hs := Xt (l := gp y (ln q))
      have hg := pj (fs := ln q) (rest := y)
      obtain ⟨r, h1, h2, h3, h4⟩ := ih (zs ++ [y]) (out ++ jy (gp y (ln q))) (by rw [hx]; simp) (by simp only [zFt]; omega)
      refine ⟨r, by rw [h1]; conv => rhs; unfold wo; rw [if_neg ha, if_neg hn], h2, h3, ?_⟩
      rw [if_neg hn] at hfo
      rw [zL, if_pos (by rw [zF, zC]; show (zs.length : Int) < _; omega), vb, zA, zG hy, zFq, zA, jU, zFq, if_neg ha, zA, hp, zFq, zA,
       qT (by omega) hq.2, zFq, zA]
      refine (congrArg (fun o => Option.bind (Option.bind o _) _) hfo).trans ?_
      rw [zFq, Comp.zB, zFq, zM (by omega)]
      simpa using h4
  obtain ⟨r, h1, h2, h3, h4⟩ := key pieces [] [] rfl (by simp; omega)
  rw [zA]
  refine (congrArg (fun o => Option.bind o _) h4).trans ?_
  rw [zFq]
  unfold wth
  rw [if_pos hf, ← h1]
  cases r with
  | inl x =>
   simp only
   by_cases hlen : 200 < x.2.2.length
   ·rw [if_pos (by rw [z8, zC]; omega), if_pos hlen, Comp.zB]
   ·rw [if_neg (by rw [z8, zC]; omega), if_neg hlen, Comp.zB]
  | inr x =>
   rw [h2 x rfl]
   exact Comp.zB _
 ·rw [if_pos (by simpa using hf), Comp.zB]
  unfold wth
  rw [if_neg hf]
theorem GY (c : Cell) (s : List Cell) : (YL c s).val = some ((mns c s).1, (mns c s).2, ()) := by
 unfold YL mns
 rw [zA, gf, zFq]
 by_cases hc : chk c = 0
 ·rw [if_neg (by rw [zX]; simp [hc]), if_pos hc, zA, K4, zFq]
  by_cases hs : sck s = 0
  ·have hlen : s.length ≤ 16 := by
    unfold sck at hs
    split at hs
    ·cases hs
    ·omega
   rw [if_neg (by rw [zX]; simp [hs]), if_pos hs, zA, ZG, zFq, ya]
   by_cases hf : ful c = true
   ·rw [if_neg (by simp [hf]), if_pos hf, zA, Jv, zFq]
    have key : ∀ (ys zs : List Cell) (pcs : List Cell), s = zs ++ ys → pcs.length ≤ 200 → ∃ r : List Cell ⊕ List Cell × Int, (match r with
      | .inl x => (x, 0)
      | .inr x =>
            x) = JV pcs ys ∧ (Comp.loop
            (fun (x : List (List (Pln)) × Int) => if ltI x.2 (zD s) = true then
              (idx s x.2).bind fun x_1 => (Go.F.j0 x.1 x_1).bind fun x_2 => if neI x_2.2.1 0 = true then Comp.pure (.done (Sum.inr ([], x_2.2.1)))
                else Comp.pure (.next (x_2.1, zI .i64 x.2 1))
             else Comp.pure (.done (Sum.inl x.1))) (pcs, (zs.length : Int))).val = some r := by
     intro ys
     induction ys with
     | nil =>
      intro zs pcs hx hlen
      refine ⟨.inl pcs, rfl, ?_⟩
      rw [zL, if_neg (by rw [zF, zC, hx]; simp), Comp.zB]; rfl
     | cons y ys ih =>
      intro zs pcs hx hlen'
      have hy : s[zs.length]? = some y := by rw [hx]; simp
      have hlt := zK hy
      unfold JV
      by_cases he : (wth pcs y).2 = 0
      ·obtain ⟨r, h1, h2⟩ := ih (zs ++ [y]) (wth pcs y).1 (by rw [hx]; simp) (Ck hlen')
       refine ⟨r, by rw [if_pos he]; exact h1, ?_⟩
       rw [zL, if_pos (by rw [zF, zC]; show (zs.length : Int) < _; omega), zA, zG hy, zFq, zA, Kg y hlen', zFq, if_neg (by rw [zX]; simp [he]), Comp.zB, zM (by omega), zFq]
       simpa using h2
      ·refine ⟨.inr ([], (wth pcs y).2), by rw [if_neg he], ?_⟩
       rw [zL, if_pos (by rw [zF, zC]; show (zs.length : Int) < _; omega), zA, zG hy, zFq, zA, Kg y hlen', zFq, if_pos (by rw [zX]; exact he), Comp.zB, zFq]
    obtain ⟨r, h1, h2⟩ := key s [] [ln c] rfl (by simp)
    rw [zA]
    refine (congrArg (fun o => Option.bind o _) h2).trans ?_
    rw [zFq, ← h1]
    cases r <;> exact Comp.zB _
   ·rw [if_pos (by simpa using hf), if_neg hf, Comp.zB]
  ·rw [if_pos (by rw [zX]; exact hs), if_neg hs, Comp.zB]
 ·rw [if_pos (by rw [zX]; exact hc), if_neg hc, Comp.zB]
theorem Bk (s : List Cell) (c : Cell) : (je s c).val = some ((cov s c).1, (cov s c).2, ()) := by
 unfold je cov
 rw [zA, GY, zFq, Comp.zB, YD]
 unfold eqI
 rw [zC]
 congr 3
 by_cases h : (mns c s).1.length = 0
 ·simp [h]
 ·simp [h]
theorem p9 (s : List Cell) : (jM s).val = some (sck s, ()) := by
 unfold jM sck
 by_cases h : 16 < s.length
 ·rw [if_pos (by rw [z8, zC]; omega), if_pos h, Comp.zB]
 ·rw [if_neg (by rw [z8, zC]; omega), if_neg h]
  obtain ⟨r, h1, h2⟩ := wa (s := s) (by omega)
   (body := (fun (x : Int) => if ltI x (zD s) = true then
        (idx s x).bind fun x_1 => (Go.F.za x_1).bind fun x_2 => if neI x_2.1 0 = true then Comp.pure (.done (Sum.inr x_2.1)) else Comp.pure (.next (zI .i64 x 1))
       else Comp.pure (.done (Sum.inl ()))))
   (fun i c hc => by
    have hlt := zK hc
    rw [if_pos (by rw [zF, zC]; omega), zA, zG hc, zFq, zA, jV, zFq, zM (by omega)]
    by_cases h : chk c = 0
    ·rw [if_neg (by rw [zX]; simp [h]), if_pos h, Comp.zB]
    ·rw [if_pos (by rw [zX]; exact h), if_neg h, Comp.zB])
   (by rw [if_neg (by rw [zF, zC]; omega), Comp.zB])
  rw [zA]
  refine (congrArg (fun o => Option.bind o _) h2).trans ?_
  rw [zFq, ← h1]
  cases r <;> exact Comp.zB _
theorem YO (c : Cell) {s : List Cell} (hl : s.length < 9223372036854775807) : (zd c s).val = some (sap c s, ()) := by
 unfold zd
 have h1 := jC s (fun q => apa c q) (c := (Sum.inr false : Unit ⊕ Bool)) (d := Sum.inl ())
  (body := (fun (x : Int) => if ltI x (zD s) = true then
       (idx s x).bind fun x_1 => (Go.F.ze c x_1).bind fun x_2 => if ntB x_2.1 = true then Comp.pure (.done (Sum.inr false)) else Comp.pure (.next (zI .i64 x 1))
      else Comp.pure (.done (Sum.inl ()))))
  (fun i q hq => by
   have hlt := zK hq
   rw [if_pos (by rw [zF, zC]; omega), zA, zG hq, zFq, zA, ky, zFq, ya, zM (by omega)]
   cases apa c q <;> exact Comp.zB _)
  (by rw [if_neg (by rw [zF, zC]; omega), Comp.zB])
 rw [zA]
 refine (congrArg (fun o => Option.bind o _) h1).trans ?_
 rw [zFq]
 unfold sap
 cases s.all fun q => apa c q <;> exact Comp.zB _
theorem GA {p : Pln} (h : okB p) : (y6 p).val = some (jN p, ()) := lF h
theorem nv {c : Cell} {p : Pln} (h : c.length ≤ 1000) : (yB c p).val = some (c ++ [p], ()) := by
 unfold yB
 rw [zA, zo (by simp; unfold LIM; omega), zFq, zA, zo (by simp; unfold LIM; omega), zFq, Comp.zB]
 simp
def prt (piece : Cell) (fs : List Pln) : List Cell × Int := if jQ (gp piece fs) = true then ([], 9) else (jy (gp piece fs), 0)
theorem Ba {l m : List (Option α)} : jQ (l ++ m) = (jQ l || jQ m) := by
 induction l with
 | nil => simp [jQ]
 | cons x l ih => cases x <;> simp [jQ, ih]
theorem E4 {l m : List (Option α)} : jy (l ++ m) = jy l ++ jy m := by
 induction l with
 | nil => simp [jy]
 | cons x l ih => cases x <;> simp [jy, ih]
theorem BE {piece : Cell} {fs : List Pln} (hl : fs.length ≤ 1000) (hB : ∀ p ∈ fs, okB p) : (gG piece fs).val = some ((prt piece fs).1, (prt piece fs).2, ()) := by
 unfold gG
 have key : ∀ (ys zs : List Pln) (rest : Cell) (out : List Cell), fs = zs ++ ys → out.length + ys.length ≤ 10000 → ∃ r : List Cell ⊕ List Cell × Int, (match r with
   | .inl x => (x, 0)
   | .inr x => x) = (if jQ (gp rest ys) = true then ([], 9) else (out ++ jy (gp rest ys), 0)) ∧ (Comp.loop
     (fun (x : List (List (Pln)) × List (Pln) × Int) => if ltI x.2.2 (zD fs) = true then
       if geI (zD x.2.1) 48 = true then Comp.pure (.done (Sum.inr ([], 9)))
       else
        (idx fs x.2.2).bind fun x_1 => (Go.F.y6 x_1).bind fun x_2 => (Go.F.yB x.2.1 x_2.1).bind fun y => (Go.F.zh y.1).bind fun x_3 => jn
             (fun (x_4 : List (List (Pln))) => (idx fs x.2.2).bind fun x_5 => (Go.F.yB x.2.1 x_5).bind fun y => (Go.F.zh y.1).bind fun x_6 => Comp.pure (.next (x_4, x_6.1, zI .i64 x.2.2 1)))
             fun (j :
               List (List (Pln)) → Comp
                 (Comp.Step (List (List (Pln)) × List (Pln) × Int)
                  (List (List (Pln)) ⊕ List (List (Pln)) × Int))) =>
             if gtI (zD x_3.1) 0 = true then (app x.1 [x_3.1]).bind fun zs => j zs
             else j x.1
      else Comp.pure (.done (Sum.inl x.1))) (out, rest, (zs.length : Int))).val = some r := by
  intro ys
  induction ys with
  | nil =>
   intro zs rest out hx _
   refine ⟨.inl out, by simp [gp, jQ, jy], ?_⟩
   rw [zL, if_neg (by rw [zF, zC, hx]; simp), Comp.zB]; rfl
  | cons p ys ih =>
   intro zs rest out hx hlen
   simp only [List.length_cons] at hlen
   have hy : fs[zs.length]? = some p := by rw [hx]; simp
   have hlt := zK hy
   have hp := hB p (List.mem_of_getElem? hy)
   by_cases hr : 48 ≤ rest.length
   ·refine ⟨.inr ([], 9), by unfold gp; rw [if_pos hr]; rfl, ?_⟩
    rw [zL, if_pos (by rw [zF, zC]; show (zs.length : Int) < _; omega), if_pos (by rw [K8, zC]; show _ ≤ ((rest.length : Nat) : Int); omega), Comp.zB]; rfl
   ·let out2 : List Cell := if ln (rest ++ [jN p]) = [] then out else out ++ [ln (rest ++ [jN p])]
    have hout2 : out2.length ≤ out.length + 1 := by
     show (if ln (rest ++ [jN p]) = [] then out else out ++ [ln (rest ++ [jN p])]).length ≤ _
     split <;> simp
    obtain ⟨r, h1, h2⟩ := ih (zs ++ [p]) (ln (rest ++ [p])) out2 (by rw [hx]; simp) (by omega)
    refine ⟨r, ?_, ?_⟩
    ·rw [h1]
     have hgp : gp rest (p :: ys) = (bif decide (ln (rest ++ [jN p]) = []) then [] else [some (ln (rest ++ [jN p]))]) ++ gp (ln (rest ++ [p])) ys := by
      conv => lhs; unfold gp
      rw [if_neg hr]
     rw [hgp, Ba, E4]
     show (if _ then _ else ((if ln (rest ++ [jN p]) = [] then out else out ++ [ln (rest ++ [jN p])]) ++ _, _)) = _
     by_cases h0 : ln (rest ++ [jN p]) = []
     ·rw [decide_eq_true h0, if_pos h0]; simp [jQ, jy]
     ·rw [decide_eq_false h0, if_neg h0]; simp [jQ, jy]
    ·have ht : ∀ o : List Cell, ((idx fs (zs.length : Int)).bind fun x_5 => (Go.F.yB rest x_5).bind fun y => (Go.F.zh y.1).bind fun x_6 => (Comp.pure (.next (o, x_6.1, zI .i64 (zs.length : Int) 1)) : Comp (Comp.Step (List Cell × Cell × Int) (List Cell ⊕ List Cell × Int)))).val = some (.next (o, ln (rest ++ [p]), ((zs.length + 1 : Nat) : Int))) := fun o => by
      rw [zA, zG hy, zFq, zA, nv (by omega), zFq, zA, Yn, zFq, Comp.zB, zM (by omega)]
     rw [zL, if_pos (by rw [zF, zC]; show (zs.length : Int) < _; omega), if_neg (by rw [K8, zC]; show ¬ _ ≤ ((rest.length : Nat) : Int); omega),
      zA, zG hy, zFq, zA, GA hp, zFq, zA, nv (by show rest.length ≤ 1000; omega), zFq, zA, Yn, zFq, vb]
     have hout : (if gtI (zD (ln (rest ++ [jN p]))) 0 = true then (app out [ln (rest ++ [jN p])]).bind fun zs1 => ((idx fs (zs.length : Int)).bind fun x_5 => (Go.F.yB rest x_5).bind fun y => (Go.F.zh y.1).bind fun x_6 => (Comp.pure (.next (zs1, x_6.1, zI .i64 (zs.length : Int) 1)) : Comp (Comp.Step (List Cell × Cell × Int) (List Cell ⊕ List Cell × Int))))
       else ((idx fs (zs.length : Int)).bind fun x_5 => (Go.F.yB rest x_5).bind fun y => (Go.F.zh y.1).bind fun x_6 => (Comp.pure (.next (out, x_6.1, zI .i64 (zs.length : Int) 1)) : Comp (Comp.Step (List Cell × Cell × Int) (List Cell ⊕ List Cell × Int))))).val = some (.next (out2, ln (rest ++ [p]), ((zs.length + 1 : Nat) : Int))) := by
      show _ = some (Comp.Step.next (if ln (rest ++ [jN p]) = [] then out else out ++ [ln (rest ++ [jN p])], _, _))
      by_cases h0 : ln (rest ++ [jN p]) = []
      ·rw [if_neg (by rw [z8, zC, h0]; simp), if_pos h0]
       exact ht out
      ·rw [if_pos (by rw [z8, zC]; have := List.length_pos_iff.2 h0; omega), if_neg h0, zA, zo (by simp only [zFv]; unfold LIM; omega), zFq]
       exact ht _
     refine (congrArg (fun o => Option.bind o _) hout).trans ?_
     rw [zFq]
     simpa using h2
 obtain ⟨r, h1, h2⟩ := key fs [] piece [] rfl (by simp; omega)
 rw [zA]
 refine (congrArg (fun o => Option.bind o _) h2).trans ?_
 rw [zFq]
 have hp : prt piece fs = (match (generalizing := false) r with
   | .inl x => (x, 0)
   | .inr x => x) := by rw [h1]; rfl
 rw [hp]
 cases r <;> exact Comp.zB _
theorem Jg {pieces : List Cell} (q : Cell) (hl : pieces.length ≤ 200) : (yi pieces q).val = some ((wth pieces q).1, (wth pieces q).2, ()) := by
 unfold yi
 rw [zA, Zy, zFq, ya]
 by_cases hf : ful q = true
 ·rw [if_neg (by simp [hf])]
  have hq := zCS (c := q)
  have key : ∀ (ys zs : List Cell) (out : List Cell), pieces = zs ++ ys → out.length + ys.length * 49 ≤ 20000 → ∃ r : List Cell ⊕ List Cell × Int, (match r with
    | .inl x => some x
    | .inr _ => none) = wo q ys out ∧ (∀ x, r = .inr x → x = ([], 9)) ∧ (Comp.loop
       (fun (x : List (List (Pln)) × Int) => if ltI x.2 (zD pieces) = true then
         jn (fun (x_1 : List (List (Pln))) => Comp.pure (.next (x_1, zI .i64 x.2 1)))
          fun (j :
            List (List (Pln)) → Comp
              (Comp.Step (List (List (Pln)) × Int)
               (List (List (Pln)) ⊕ List (List (Pln)) × Int))) =>
          (idx pieces x.2).bind fun x_1 => (Go.F.ze x_1 q).bind fun x_2 => if x_2.1 = true then
             (idx pieces x.2).bind fun x_3 => (app x.1 [x_3]).bind fun zs => j zs
            else
             (idx pieces x.2).bind fun x_3 => (Go.F.zh q).bind fun x_4 => (Go.F.gG x_3 x_4.1).bind fun x_5 => if neI x_5.2.1 0 = true then Comp.pure (.done (Sum.inr ([], x_5.2.1)))
                else (app x.1 x_5.1).bind fun zs => j zs
        else Comp.pure (.done (Sum.inl x.1))) (out, (zs.length : Int))).val = some r := by
   intro ys
   induction ys with
   | nil =>
    intro zs out hx hlen
    refine ⟨.inl out, rfl, (fun x h => nomatch h), ?_⟩
    rw [zL, if_neg (by rw [zF, zC, hx]; simp), Comp.zB]; rfl
   | cons y ys ih =>
    intro zs out hx hlen
    simp only [List.length_cons] at hlen
    have hy : pieces[zs.length]? = some y := by rw [hx]; simp
    have hlt := zK hy
    by_cases ha : apa y q = true
    ·obtain ⟨r, h1, h2, h4⟩ := ih (zs ++ [y]) (out ++ [y]) (by rw [hx]; simp) (by simp only [zFt, zFv]; omega)
     refine ⟨r, by rw [h1]; conv => rhs; unfold wo; rw [if_pos ha], h2, ?_⟩
     rw [zL, if_pos (by rw [zF, zC]; show (zs.length : Int) < _; omega), vb, zA, zG hy, zFq, zA, ky, zFq, if_pos ha, zA, zG hy, zFq, zA,
      zo (by simp only [zFv]; unfold LIM; show out.length + 1 ≤ _; omega), zFq, Comp.zB, zFq, zM (by omega)]
     simpa using h4
    ·have hpv := BE (piece := y) (fs := ln q) (by omega) hq.2
     by_cases hn : jQ (gp y (ln q)) = true
     ·have hp : prt y (ln q) = ([], 9) := by unfold prt; rw [if_pos hn]
      refine ⟨.inr ([], 9), by conv => rhs; unfold wo; rw [if_neg ha, if_pos hn], (fun x h => by cases h; rfl), ?_⟩
      rw [hp] at hpv
      rw [zL, if_pos (by rw [zF, zC]; show (zs.length : Int) < _; omega), vb, zA, zG hy, zFq, zA, ky, zFq, if_neg ha, zA, zG hy, zFq, zA,
       Yn, zFq, zA, hpv, zFq, if_pos (by rw [zX]; show (9 : Int) ≠ 0; decide), Comp.zB]
      rfl
     ·have hp : prt y (ln q) = (jy (gp y (ln q)), 0) := by unfold prt; rw [if_neg hn]
      have hs := Xt (l := gp y (ln q))
      have hg := pj (fs := ln q) (rest := y)
      obtain ⟨r, h1, h2, h4⟩ := ih (zs ++ [y]) (out ++ jy (gp y (ln q))) (by rw [hx]; simp) (by simp only [zFt]; omega)
      refine ⟨r, by rw [h1]; conv => rhs; unfold wo; rw [if_neg ha, if_neg hn], h2, ?_⟩
      rw [hp] at hpv
      rw [zL, if_pos (by rw [zF, zC]; show (zs.length : Int) < _; omega), vb, zA, zG hy, zFq, zA, ky, zFq, if_neg ha, zA, zG hy, zFq, zA,
       Yn, zFq, zA, hpv, zFq, if_neg (by rw [zX]; simp), zA, zo (by unfold LIM; show out.length + (jy (gp y (ln q))).length ≤ _; omega), zFq, Comp.zB, zFq, zM (by omega)]
      simpa using h4
  obtain ⟨r, h1, h2, h4⟩ := key pieces [] [] rfl (by simp; omega)
  rw [zA]
  refine (congrArg (fun o => Option.bind o _) h4).trans ?_
  rw [zFq]
  unfold wth
  rw [if_pos hf, ← h1]
  cases r with
  | inl x =>
   simp only
   by_cases hlen : 200 < x.length
   ·rw [if_pos (by rw [z8, zC]; omega), if_pos hlen, Comp.zB]
   ·rw [if_neg (by rw [z8, zC]; omega), if_neg hlen, Comp.zB]
  | inr x =>
   rw [h2 x rfl]
   exact Comp.zB _
 ·rw [if_pos (by simpa using hf), Comp.zB]
  unfold wth
  rw [if_neg hf]
theorem qZ : ∀ (s : List Cell), JV [] s = ([], 0)
 | [] => rfl
 | q :: s => by
  have h : wth [] q = ([], 0) := by
   unfold wth
   split
   ·rfl
   ·rfl
  unfold JV
  rw [h]
  exact qZ s
theorem BF (c : Cell) (s : List Cell) : (jL c s).val = some ((mns c s).1, (mns c s).2, ()) := by
 unfold jL mns
 rw [zA, jV, zFq, vb]
 by_cases hc : chk c = 0
 ·rw [if_pos (by rw [yd]; exact hc), if_pos hc, zA, p9, zFq]
  by_cases hs : sck s = 0
  ·have hlen : s.length ≤ 16 := by
    unfold sck at hs
    split at hs
    ·cases hs
    ·omega
   show (if neI (sck s) 0 = true then _ else _ : Comp (List Cell × Int × Unit)).val = _
   rw [if_neg (by rw [zX]; simp [hs]), if_pos hs, zA, Zy, zFq, vb]
   have key : ∀ (ys zs : List Cell) (pcs : List Cell), s = zs ++ ys → pcs.length ≤ 200 → ∃ r : List Cell ⊕ List Cell × Int, (match r with
     | .inl x => (x, 0)
     | .inr x =>
           x) = JV pcs ys ∧ (Comp.loop
           (fun (x : List (List (Pln)) × Int) => if ltI x.2 (zD s) = true then
             (idx s x.2).bind fun x_1 => (Go.F.yi x.1 x_1).bind fun x_2 => if neI x_2.2.1 0 = true then Comp.pure (.done (Sum.inr ([], x_2.2.1)))
               else Comp.pure (.next (x_2.1, zI .i64 x.2 1))
            else Comp.pure (.done (Sum.inl x.1))) (pcs, (zs.length : Int))).val = some r := by
    intro ys
    induction ys with
    | nil =>
     intro zs pcs hx hlen
     refine ⟨.inl pcs, rfl, ?_⟩
     rw [zL, if_neg (by rw [zF, zC, hx]; simp), Comp.zB]; rfl
    | cons y ys ih =>
     intro zs pcs hx hlen'
     have hy : s[zs.length]? = some y := by rw [hx]; simp
     have hlt := zK hy
     unfold JV
     by_cases he : (wth pcs y).2 = 0
     ·obtain ⟨r, h1, h2⟩ := ih (zs ++ [y]) (wth pcs y).1 (by rw [hx]; simp) (Ck hlen')
      refine ⟨r, by rw [if_pos he]; exact h1, ?_⟩
      rw [zL, if_pos (by rw [zF, zC]; show (zs.length : Int) < _; omega), zA, zG hy, zFq, zA, Jg y hlen', zFq, if_neg (by rw [zX]; simp [he]), Comp.zB, zM (by omega), zFq]
      simpa using h2
     ·refine ⟨.inr ([], (wth pcs y).2), by rw [if_neg he], ?_⟩
      rw [zL, if_pos (by rw [zF, zC]; show (zs.length : Int) < _; omega), zA, zG hy, zFq, zA, Jg y hlen', zFq, if_pos (by rw [zX]; exact he), Comp.zB, zFq]
   have tail : ∀ pcs : List Cell, pcs.length ≤ 200 → ((Comp.loop
            (fun (x : List (List (Pln)) × Int) => if ltI x.2 (zD s) = true then
              (idx s x.2).bind fun x_1 => (Go.F.yi x.1 x_1).bind fun x_2 => if neI x_2.2.1 0 = true then Comp.pure (.done (Sum.inr ([], x_2.2.1)))
                else Comp.pure (.next (x_2.1, zI .i64 x.2 1))
             else Comp.pure (.done (Sum.inl x.1)))
            (pcs, 0)).bind fun (x : List (List (Pln)) ⊕ List (List (Pln)) × Int) => match x with
          | Sum.inl x => (Comp.pure (x, 0, ()) : Comp (List Cell × Int × Unit))
          | Sum.inr x => Comp.pure (x.1, x.2, ())).val = some ((JV pcs s).1, (JV pcs s).2, ()) := by
    intro pcs hp
    obtain ⟨r, h1, h2⟩ := key s [] pcs rfl hp
    rw [zA]
    refine (congrArg (fun o => Option.bind o _) h2).trans ?_
    rw [zFq, ← h1]
    cases r <;> exact Comp.zB _
   by_cases hf : ful c = true
   ·rw [if_pos hf, if_pos hf, zA, Yn, zFq, zA, zo (by simp; unfold LIM; omega), zFq]
    exact tail [ln c] (by simp)
   ·rw [if_neg hf, if_neg hf]
    refine (tail [] (by simp)).trans ?_
    rw [qZ]
  ·show (if neI (sck s) 0 = true then _ else _ : Comp (List Cell × Int × Unit)).val = _
   rw [if_pos (by rw [zX]; exact hs), if_neg hs, Comp.zB]
 ·rw [if_neg (by rw [yd]; exact hc), if_neg hc]
  show (if neI (chk c) 0 = true then _ else _ : Comp (List Cell × Int × Unit)).val = _
  rw [if_pos (by rw [zX]; exact hc), Comp.zB]
theorem nG (s : List Cell) (c : Cell) : (yx s c).val = some ((cov s c).1, (cov s c).2, ()) := by
 unfold yx cov
 rw [zA, BF, zFq, Comp.zB, YD]
 unfold eqI
 rw [zC]
 congr 3
 by_cases h : (mns c s).1.length = 0
 ·simp [h]
 ·simp [h]
abbrev Part := yO × List Cell × List Int × Unit
abbrev yN := List Bool × List Bool × List Cell × Unit
abbrev Eff := List Cell × List Cell × Int × List Int × Unit
abbrev Job := Part × yN × List Eff × Unit
def ZR (w : Int) : Bool := decide (w < 1) || decide (3 < w)
def AH : List Cell → List Cell → Bool
 | _, [] => true
 | seen, c :: l => ful c && (sap c seen && AH (seen ++ [c]) l)
def ckP (p : Part) : Int :=
 if p.2.1.length = 0 ∨ 16 < p.2.1.length then 2 else if p.2.2.1.length ≠ p.2.1.length ∨ p.2.2.1.any ZR = true then 1 else bif AH [] p.2.1 then 0 else 13
def YB (p : Part) (x : yN) : Bool := (decide (x.1.length = p.2.1.length) && decide (x.2.1.length = p.2.1.length)) && (decide (x.2.2.1.length ≤ 24) && decide (jH x.2.2.1 = 0))
theorem KW {c : Cell} {s : List Cell} : jH (c :: s) = if chk c = 0 then jH s else chk c := rfl
theorem Yx {s : List Cell} : jH s = 0 ↔ ∀ c ∈ s, chk c = 0 := by
 induction s with
 | nil => simp [jH]
 | cons c s ih =>
  unfold jH
  by_cases h : chk c = 0
  ·rw [if_pos h, ih]
   constructor
   ·intro h2 d hd
    rcases List.mem_cons.1 hd with rfl | hd
    ·exact h
    ·exact h2 d hd
   ·exact fun h2 d hd => h2 d (List.mem_cons_of_mem _ hd)
  ·rw [if_neg h]
   exact ⟨fun e => absurd e h, fun h2 => absurd (h2 c (by simp)) h⟩
theorem lE {s t : List Cell} : jH (s ++ t) = if jH s = 0 then jH t else jH s := by
 induction s with
 | nil => simp [jH]
 | cons c s ih =>
  rw [List.cons_append, KW, KW]
  by_cases h : chk c = 0
  ·rw [if_pos h, if_pos h, ih]
  ·rw [if_neg h, if_neg h, if_neg h]
theorem Kx {s : List Cell} (hl : s.length < 9223372036854775807) : (jD s).val = some (jH s, ()) := by
 unfold jD
 obtain ⟨r, h1, h2⟩ := wa (s := s) hl
  (body := (fun (x : Int) => if ltI x (zD s) = true then
       (idx s x).bind fun x_1 => (Go.F.vV x_1).bind fun x_2 => if neI x_2.1 0 = true then Comp.pure (.done (Sum.inr x_2.1)) else Comp.pure (.next (zI .i64 x 1))
      else Comp.pure (.done (Sum.inl ()))))
  (fun i c hc => by
   have hlt := zK hc
   rw [if_pos (by rw [zF, zC]; omega), zA, zG hc, zFq, zA, gf, zFq, zM (by omega)]
   by_cases h : chk c = 0
   ·rw [if_neg (by rw [zX]; simp [h]), if_pos h, Comp.zB]
   ·rw [if_pos (by rw [zX]; exact h), if_neg h, Comp.zB])
  (by rw [if_neg (by rw [zF, zC]; omega), Comp.zB])
 rw [zA]
 refine (congrArg (fun o => Option.bind o _) h2).trans ?_
 rw [zFq, ← h1]
 cases r <;> exact Comp.zB _
theorem Y2 {s : List Cell} (hl : s.length < 9223372036854775807) : (yP s).val = some (jH s, ()) := by
 unfold yP
 obtain ⟨r, h1, h2⟩ := wa (s := s) hl
  (body := (fun (x : Int) => if ltI x (zD s) = true then
       (idx s x).bind fun x_1 => (Go.F.za x_1).bind fun x_2 => if neI x_2.1 0 = true then Comp.pure (.done (Sum.inr x_2.1)) else Comp.pure (.next (zI .i64 x 1))
      else Comp.pure (.done (Sum.inl ()))))
  (fun i c hc => by
   have hlt := zK hc
   rw [if_pos (by rw [zF, zC]; omega), zA, zG hc, zFq, zA, jV, zFq, zM (by omega)]
   by_cases h : chk c = 0
   ·rw [if_neg (by rw [zX]; simp [h]), if_pos h, Comp.zB]
   ·rw [if_pos (by rw [zX]; exact h), if_neg h, Comp.zB])
  (by rw [if_neg (by rw [zF, zC]; omega), Comp.zB])
 rw [zA]
 refine (congrArg (fun o => Option.bind o _) h2).trans ?_
 rw [zFq, ← h1]
 cases r <;> exact Comp.zB _
theorem Cv {xs : List α} {k : Nat} (h : k ≤ xs.length) : (sub xs 0 (k : Int)).val = some (xs.take k) := by
 rw [Zs (by omega)]; simp
theorem Zc {p : Part} (hw : p.2.2.1.length < 9223372036854775807) : (kJ p).val = some (ckP p, ()) := by
 unfold kJ ckP
 by_cases h1 : p.2.1.length = 0 ∨ 16 < p.2.1.length
 ·rw [if_pos (by rw [vk, Bool.or_eq_true, yd, z8, zC]; omega), if_pos h1, Comp.zB]
 ·rw [if_neg (by rw [vk, Bool.or_eq_true, yd, z8, zC]; omega), if_neg h1, zA]
  have hc : (zR p.2.2.1 fun z => vn z.1).val = some (p.2.2.1.any ZR, ()) :=
   ki (xs := p.2.2.1) (f := fun z => vn z.1) (p := ZR) hw fun w _ => by
    show (vn w).val = _
    unfold vn
    rw [Comp.zB, vk]; rfl
  have hloop : (Comp.loop
        (fun (x : Int) => if ltI x (zD p.2.1) = true then
          (idx p.2.1 x).bind fun x_1 => (Go.F.jl x_1).bind fun x_2 => (Comp.gd (ntB (ntB x_2.1)) (sub p.2.1 0 x) []).bind fun x_3 => (Comp.gd (ntB (ntB x_2.1)) (Go.F.yD x_1 x_3) (false, ())).bind fun x_4 => if sel (ntB x_2.1) true (ntB x_4.1) = true then Comp.pure (.done (Sum.inr 13))
              else Comp.pure (.next (zI .i64 x 1))
         else Comp.pure (.done (Sum.inl () : Unit ⊕ Int)))
        0).val = some (bif AH [] p.2.1 then .inl () else .inr 13) := by
   have key : ∀ (ys zs : List Cell), p.2.1 = zs ++ ys → (Comp.loop
        (fun (x : Int) => if ltI x (zD p.2.1) = true then
          (idx p.2.1 x).bind fun x_1 => (Go.F.jl x_1).bind fun x_2 => (Comp.gd (ntB (ntB x_2.1)) (sub p.2.1 0 x) []).bind fun x_3 => (Comp.gd (ntB (ntB x_2.1)) (Go.F.yD x_1 x_3) (false, ())).bind fun x_4 => if sel (ntB x_2.1) true (ntB x_4.1) = true then Comp.pure (.done (Sum.inr 13))
              else Comp.pure (.next (zI .i64 x 1))
         else Comp.pure (.done (Sum.inl () : Unit ⊕ Int))) (zs.length : Int)).val = some (bif AH zs ys then .inl () else .inr 13) := by
    intro ys
    induction ys with
    | nil =>
     intro zs hx
     rw [zL, if_neg (by rw [zF, zC, hx]; simp), Comp.zB]; rfl
    | cons y ys ih =>
     intro zs hx
     have hy : p.2.1[zs.length]? = some y := by rw [hx]; simp
     have hlt := zK hy
     have ht : p.2.1.take zs.length = zs := by rw [hx]; simp
     rw [zL, if_pos (by rw [zF, zC]; omega), zA, zG hy, zFq, zA, ZG, zFq]
     unfold AH
     cases hf : ful y with
     | false =>
      rw [zA]
      show Option.bind (Option.bind (Comp.pure _).val _) _ = _
      rw [Comp.zB, zFq, zA]
      show Option.bind (Option.bind (Comp.pure _).val _) _ = _
      rw [Comp.zB, zFq, if_pos (by rfl), Comp.zB]; rfl
     | true =>
      rw [zA]
      show Option.bind (Option.bind (sub p.2.1 0 (zs.length : Int)).val _) _ = _
      rw [Cv (by omega), zFq, ht, zA]
      show Option.bind (Option.bind (yD y zs).val _) _ = _
      rw [jA y (by omega), zFq]
      cases ha : sap y zs with
      | false => rw [if_pos (by rfl), Comp.zB]; rfl
      | true =>
       rw [if_neg (by simp [sel, ntB]), Comp.zB, zM (by omega), zFq]
       simpa using ih (zs ++ [y]) (by rw [hx]; simp)
   exact key p.2.1 [] rfl
  have htail : ∀ b : Bool, ((Comp.pure (bif b then Sum.inl () else Sum.inr 13) : Comp (Unit ⊕ Int)).bind fun (x : Unit ⊕ Int) => match x with
      | Sum.inl x => (Comp.pure (0, ()) : Comp (Int × Unit))
      | Sum.inr x => Comp.pure (x, ())).val = some (bif b then 0 else 13, ()) := fun b => by
   cases b <;> (rw [zA, Comp.zB, zFq]; exact Comp.zB _)
  by_cases h2 : p.2.2.1.length ≠ p.2.1.length
  ·have e : neI (zD p.2.2.1) (zD p.2.1) = true := by rw [zX, zC, zC]; omega
   rw [e]
   show Option.bind (Comp.pure _).val _ = _
   rw [Comp.zB, zFq, if_pos (by rfl), Comp.zB, if_pos (.inl h2)]
  ·have e : neI (zD p.2.2.1) (zD p.2.1) = false := by unfold neI; rw [decide_eq_false]; rw [zC, zC]; omega
   rw [e]
   show Option.bind (zR p.2.2.1 fun z => vn z.1).val _ = _
   rw [hc, zFq]
   by_cases h3 : p.2.2.1.any ZR = true
   ·rw [if_pos (by rw [h3]; rfl), Comp.zB, if_pos (.inr h3)]
   ·rw [if_neg (by simpa [sel] using h3), if_neg (by rintro (h | h); exact h2 h; exact h3 h), zA]
    refine (congrArg (fun o => Option.bind o _) hloop).trans ?_
    rw [zFq]
    have := htail (AH [] p.2.1)
    rw [zA, Comp.zB, zFq] at this
    exact this
theorem jX {p : Part} (hw : p.2.2.1.length < 9223372036854775807) : (yg p).val = some (ckP p, ()) := by
 unfold yg ckP
 by_cases h1 : p.2.1.length = 0 ∨ 16 < p.2.1.length
 ·rw [if_pos (by rw [vk, Bool.or_eq_true, zF, z8, zC]; omega), if_pos h1, Comp.zB]
 ·rw [if_neg (by rw [vk, Bool.or_eq_true, zF, z8, zC]; omega), if_neg h1]
  by_cases h2 : p.2.2.1.length ≠ p.2.1.length
  ·rw [if_pos (by rw [zX, zC, zC]; omega), Comp.zB, if_pos (.inl h2)]
  ·rw [if_neg (by rw [zX, zC, zC]; omega)]
   have hw1 := jC p.2.2.1 (fun w => !ZR w) (c := (Sum.inr 1 : Unit ⊕ Int)) (d := Sum.inl ())
    (body := (fun (x : Int) => if ltI x (zD p.2.2.1) = true then
         (idx p.2.2.1 x).bind fun x_1 => (Comp.gd (ntB (ltI x_1 1)) (idx p.2.2.1 x) (Int.ofNat 0)).bind fun x_2 => if sel (ltI x_1 1) true (gtI x_2 3) = true then Comp.pure (.done (Sum.inr 1))
           else Comp.pure (.next (zI .i64 x 1))
        else Comp.pure (.done (Sum.inl ()))))
    (fun i w hx => by
     have hlt := zK hx
     rw [if_pos (by rw [zF, zC]; omega), zA, zG hx, zFq, zA, I1, zG hx, zM (by omega)]
     unfold ZR
     by_cases h1 : w < 1
     ·have : ltI w 1 = true := by rw [zF]; exact h1
      simp [this, ya, sel, h1]
     ·have : ltI w 1 = false := by unfold ltI; exact decide_eq_false h1
      by_cases h3 : 3 < w
      ·have h4 : gtI w 3 = true := by rw [z8]; exact h3
       simp [this, ya, sel, h1, h3, h4]
      ·have h4 : gtI w 3 = false := by unfold gtI; exact decide_eq_false (by omega)
       simp [this, ya, sel, h1, h3, h4])
    (by rw [if_neg (by rw [zF, zC]; omega), Comp.zB])
   have hall : (p.2.2.1.all fun w => !ZR w) = !p.2.2.1.any ZR := by rw [List.all_eq_not_any_not]; simp
   rw [hall] at hw1
   rw [zA]
   refine (congrArg (fun o => Option.bind o _) hw1).trans ?_
   rw [zFq]
   by_cases h3 : p.2.2.1.any ZR = true
   ·rw [h3, if_pos (.inr rfl)]
    exact Comp.zB _
   ·have h3' : p.2.2.1.any ZR = false := by simpa using h3
    rw [h3', if_neg (by rintro (h | h); exact h2 h; cases h)]
    have inner : ∀ (k : Nat) (c : Cell), p.2.1[k]? = some c → (Comp.loop
                 (fun (x_3 : Int) => if ltI x_3 (k : Int) = true then
                   (idx p.2.1 x_3).bind fun x_4 => (idx p.2.1 (k : Int)).bind fun x => (Go.F.ze x_4 x).bind fun x => if ntB x.1 = true then Comp.pure (.done (Sum.inr 13))
                      else Comp.pure (.next (zI .i64 x_3 1))
                  else Comp.pure (.done (Sum.inl () : Unit ⊕ Int)))
                 0).val = some (bif sap c (p.2.1.take k) then .inl () else .inr 13) := by
     intro k c hc
     have hk := zK hc
     have h5 := jC (p.2.1.take k) (fun q => apa c q) (c := (Sum.inr 13 : Unit ⊕ Int)) (d := Sum.inl ())
      (body := (fun (x_3 : Int) => if ltI x_3 (k : Int) = true then
                   (idx p.2.1 x_3).bind fun x_4 => (idx p.2.1 (k : Int)).bind fun x => (Go.F.ze x_4 x).bind fun x => if ntB x.1 = true then Comp.pure (.done (Sum.inr 13))
                      else Comp.pure (.next (zI .i64 x_3 1))
                  else Comp.pure (.done (Sum.inl () : Unit ⊕ Int))))
      (fun i q hq => by
       have hi := zK hq
       rw [List.length_take] at hi
       have hq' : p.2.1[i]? = some q := by rw [← hq, List.getElem?_take_of_lt (by omega)]
       rw [if_pos (by rw [zF]; omega), zA, zG hq', zFq, zA, zG hc, zFq, zA, ky, zFq, ya, Iu q c, zM (by omega)]
       cases apa c q <;> exact Comp.zB _)
      (by rw [if_neg (by rw [zF, List.length_take]; omega), Comp.zB])
     exact h5
    have key : ∀ (ys zs : List Cell), p.2.1 = zs ++ ys → (Comp.loop
         (fun (x : Int) => if ltI x (zD p.2.1) = true then
           (idx p.2.1 x).bind fun x_1 => (Go.F.zp x_1).bind fun x_2 => if ntB x_2.1 = true then Comp.pure (.done (Sum.inr 13))
             else
              (Comp.loop
                 (fun (x_3 : Int) => if ltI x_3 x = true then
                   (idx p.2.1 x_3).bind fun x_4 => (idx p.2.1 x).bind fun x => (Go.F.ze x_4 x).bind fun x => if ntB x.1 = true then Comp.pure (.done (Sum.inr 13))
                      else Comp.pure (.next (zI .i64 x_3 1))
                  else Comp.pure (.done (Sum.inl ())))
                 0).bind fun (x_3 : Unit ⊕ Int) => match x_3 with
               | Sum.inl x_4 => Comp.pure (.next (zI .i64 x 1))
               | Sum.inr x => Comp.pure (.done (Sum.inr x))
          else Comp.pure (.done (Sum.inl () : Unit ⊕ Int))) (zs.length : Int)).val = some (bif AH zs ys then .inl () else .inr 13) := by
     intro ys
     induction ys with
     | nil =>
      intro zs hx
      rw [zL, if_neg (by rw [zF, zC, hx]; simp), Comp.zB]; rfl
     | cons y ys ih =>
      intro zs hx
      have hy : p.2.1[zs.length]? = some y := by rw [hx]; simp
      have hlt := zK hy
      have ht : p.2.1.take zs.length = zs := by rw [hx]; simp
      rw [zL, if_pos (by rw [zF, zC]; omega), zA, zG hy, zFq, zA, Zy, zFq, ya]
      unfold AH
      cases hf : ful y with
      | false => rw [if_pos (by simp), Comp.zB]; rfl
      | true =>
       rw [if_neg (by simp), zA]
       have h6 := inner zs.length y hy
       rw [ht] at h6
       refine (congrArg (fun o => Option.bind (Option.bind o _) _) h6).trans ?_
       cases ha : sap y zs with
       | false => rw [zFq]; exact (congrArg (fun o => Option.bind o _) (Comp.zB _)).trans rfl
       | true =>
        rw [zFq]
        refine (congrArg (fun o => Option.bind o _) (Comp.zB _)).trans ?_
        rw [zFq, zM (by omega)]
        simpa using ih (zs ++ [y]) (by rw [hx]; simp)
    have h7 := key p.2.1 [] rfl
    show (Comp.bind (Comp.loop _ _) _).val = _
    rw [zA]
    refine (congrArg (fun o => Option.bind o _) h7).trans ?_
    rw [zFq]
    cases AH [] p.2.1 <;> exact Comp.zB _
theorem DY {xs : List α} {ys : List β} : eqI (zD xs) (zD ys) = decide (xs.length = ys.length) := by
 rw [Bool.eq_iff_iff, yd, decide_eq_true_iff, zC, zC]; omega
theorem DI {xs : List α} {ys : List β} : neI (zD xs) (zD ys) = !decide (xs.length = ys.length) := by
 rw [Bool.eq_iff_iff, zX, zC, zC]; simp <;> omega
theorem Q8 {xs : List α} {n : Nat} : leI (zD xs) (n : Int) = decide (xs.length ≤ n) := by
 rw [Bool.eq_iff_iff, NU, decide_eq_true_iff, zC]; omega
theorem RB {xs : List α} {n : Nat} : gtI (zD xs) (n : Int) = !decide (xs.length ≤ n) := by
 rw [Bool.eq_iff_iff, z8, zC]; simp
theorem lJ (p : Part) (x : yN) : sel (sel (eqI (zD x.1) (zD p.2.1)) (eqI (zD x.2.1) (zD p.2.1)) false) (leI (zD x.2.2.1) 24) false = ((decide (x.1.length = p.2.1.length) && decide (x.2.1.length = p.2.1.length)) && decide (x.2.2.1.length ≤ 24)) := by
 rw [YD, YD, DY, DY, show (24 : Int) = ((24 : Nat) : Int) from rfl, Q8]
theorem uu (p : Part) (x : yN) : YB p x = (((decide (x.1.length = p.2.1.length) && decide (x.2.1.length = p.2.1.length)) && decide (x.2.2.1.length ≤ 24)) && decide (jH x.2.2.1 = 0)) := by
 unfold YB; rw [Bool.and_assoc (decide (x.1.length = p.2.1.length) && decide (x.2.1.length = p.2.1.length))]
theorem tz (p : Part) (x : yN) : (Xv p x).val = some (YB p x, ()) := by
 unfold Xv
 rw [lJ, uu, zA]
 cases hb : ((decide (x.1.length = p.2.1.length) && decide (x.2.1.length = p.2.1.length)) && decide (x.2.2.1.length ≤ 24)) with
 | false =>
  show Option.bind (Comp.pure _).val _ = _
  rw [Comp.zB, zFq, Comp.zB]; rfl
 | true =>
  have hl : x.2.2.1.length ≤ 24 := by
   rw [zFs] at hb; simpa using hb.2
  have h1 : (zQ x.2.2.1 fun z => gz z.1).val = some (x.2.2.1.any fun c => decide (chk c ≠ 0), ()) :=
   ki (xs := x.2.2.1) (f := fun z => gz z.1) (p := fun c => decide (chk c ≠ 0)) (by omega) fun c _ => by
    show (gz c).val = _
    unfold gz
    rw [zA, gf, zFq, Comp.zB]; rfl
  show Option.bind (zQ x.2.2.1 fun z => gz z.1).val _ = _
  rw [h1, zFq, Comp.zB, YD, Bool.true_and, Bool.true_and, ya]
  congr 2
  by_cases h : jH x.2.2.1 = 0
  ·rw [decide_eq_true h]
   have := Yx.1 h
   rw [Bool.not_eq_true', List.any_eq_false]
   intro c hc; simp [this c hc]
  ·rw [decide_eq_false h]
   simp only [Bool.not_eq_false', List.any_eq_true]
   rw [Yx] at h
   simp only [Classical.not_forall] at h
   obtain ⟨c, hc, h2⟩ := h
   exact ⟨c, hc, by simpa using h2⟩
theorem KQ (p : Part) (x : yN) : (vi p x).val = some (YB p x, ()) := by
 unfold vi
 rw [lJ, uu, zA]
 cases hb : ((decide (x.1.length = p.2.1.length) && decide (x.2.1.length = p.2.1.length)) && decide (x.2.2.1.length ≤ 24)) with
 | false =>
  show Option.bind (Comp.pure _).val _ = _
  rw [Comp.zB, zFq, Comp.zB]; rfl
 | true =>
  have hl : x.2.2.1.length ≤ 24 := by
   rw [zFs] at hb; simpa using hb.2
  show Option.bind (yP x.2.2.1).val _ = _
  rw [Y2 (by omega), zFq, Comp.zB]; rfl
def fit (p : Part) (x : yN) : Int := if ckP p = 0 then bif YB p x then 0 else 4 else ckP p
theorem Ye {p : Part} {x : yN} (hw : p.2.2.1.length < 9223372036854775807) : (kS p x).val = some (fit p x, ()) := by
 unfold kS fit
 rw [zA, Zc hw, zFq]
 by_cases h : ckP p = 0
 ·rw [if_neg (by rw [zX]; simp [h]), if_pos h, zA, uu]
  have e : sel (sel (neI (zD x.1) (zD p.2.1)) true (neI (zD x.2.1) (zD p.2.1))) true (gtI (zD x.2.2.1) 24) = !((decide (x.1.length = p.2.1.length) && decide (x.2.1.length = p.2.1.length)) && decide (x.2.2.1.length ≤ 24)) := by
   rw [vk, vk, Bool.not_and, Bool.not_and, DI, DI, show (24 : Int) = ((24 : Nat) : Int) from rfl, RB]
  rw [e]
  cases hb : ((decide (x.1.length = p.2.1.length) && decide (x.2.1.length = p.2.1.length)) && decide (x.2.2.1.length ≤ 24)) with
  | false =>
   show Option.bind (Comp.pure _).val _ = _
   rw [Comp.zB, zFq, if_pos (by rfl), Comp.zB]; rfl
  | true =>
   have hl : x.2.2.1.length ≤ 24 := by
    rw [zFs] at hb; simpa using hb.2
   show Option.bind (jD x.2.2.1).val _ = _
   rw [Kx (by omega), zFq]
   by_cases h2 : jH x.2.2.1 = 0
   ·rw [if_neg (by show ¬ (neI (jH x.2.2.1) 0) = true; rw [zX]; simp [h2]), Comp.zB, decide_eq_true h2]; rfl
   ·rw [if_pos (by show (neI (jH x.2.2.1) 0) = true; rw [zX]; exact h2), Comp.zB, decide_eq_false h2]; rfl
 ·rw [if_pos (by rw [zX]; exact h), if_neg h, Comp.zB]
theorem Bl {s : List Cell} (hl : s.length ≤ 1000000) (hc : ∀ c ∈ s, c.length ≤ 1000000) : (Zj s).val = some (s, ()) := by
 unfold Zj
 have h1 := gm s.length (fun k l => match s[k]? with | some c => l ++ [c] | none => l) (fun k l => l ++ s.drop k) (fun l k => l.length = k)
  (body := (fun (x : List (List (Pln)) × Int) => if ltI x.2 (zD s) = true then
       (idx s x.2).bind fun x_1 => (Go.F.zZ x_1).bind fun y => (app x.1 [y.1]).bind fun zs => Comp.pure (Comp.Step.next (zs, zI .i64 x.2 1))
      else Comp.pure (Comp.Step.done x.1)))
  (fun l k hk hI => by
   obtain ⟨c, hc'⟩ := zN (xs := s) (k := k) hk
   have hcl : (zZ c).val = some (c, ()) := KD (by have := hc c (List.mem_of_getElem? hc'); unfold LIM; omega)
   refine ⟨?_, by rw [hc']; simp [hI], by rw [drop_cons hc', hc']; simp⟩
   rw [hc']
   simp only
   rw [if_pos (by rw [zF, zC]; show (k : Int) < _; omega), zA, zG hc', zFq, zA, hcl, zFq, zA, zo (by simp only [zFv]; unfold LIM; omega), zFq, Comp.zB, zM (by omega)])
  (fun l => by rw [if_neg (by rw [zF, zC]; simp), Comp.zB]) (fun l => by rw [List.drop_length]; simp) 0 [] (Nat.zero_le _) rfl
 rw [zA]
 refine (congrArg (fun o => Option.bind o _) h1).trans ?_
 rw [zFq, Comp.zB]; simp
theorem qQ {s : List Cell} (hl : s.length ≤ 1000000) (hc : ∀ c ∈ s, c.length ≤ 1000000) : (gV s).val = some (s, ()) := by
 unfold gV
 have h1 := gm s.length (fun k l => match s[k]? with | some c => l ++ [c] | none => l) (fun k l => l ++ s.drop k) (fun l k => l.length = k)
  (body := (fun (x : List (List (Pln)) × Int) => if ltI x.2 (zD s) = true then
       (idx s x.2).bind fun x_1 => (app [] x_1).bind fun zs => (app x.1 [zs]).bind fun zs => Comp.pure (Comp.Step.next (zs, zI .i64 x.2 1))
      else Comp.pure (Comp.Step.done x.1)))
  (fun l k hk hI => by
   obtain ⟨c, hc'⟩ := zN (xs := s) (k := k) hk
   have hcl := hc c (List.mem_of_getElem? hc')
   refine ⟨?_, by rw [hc']; simp [hI], by rw [drop_cons hc', hc']; simp⟩
   rw [hc']
   simp only
   rw [if_pos (by rw [zF, zC]; show (k : Int) < _; omega), zA, zG hc', zFq, zA, zo (by simp; unfold LIM; omega), zFq, zA, zo (by simp only [zFv]; unfold LIM; omega), zFq, Comp.zB, zM (by omega), List.nil_append])
  (fun l => by rw [if_neg (by rw [zF, zC]; simp), Comp.zB]) (fun l => by rw [List.drop_length]; simp) 0 [] (Nat.zero_le _) rfl
 rw [zA]
 refine (congrArg (fun o => Option.bind o _) h1).trans ?_
 rw [zFq, Comp.zB]; simp
def nr (s : List Cell) (c : Cell) : List Cell := s.filter fun z => !apa z c
theorem Hy {s : List Cell} (c : Cell) (hl : s.length ≤ 1000000) : (yW s fun z => vH z.1 z.2.1 c).val = some (nr s c, ()) := by
 unfold yW
 have h1 := gm s.length (fun k l => match s[k]? with | some z => if (!apa z c) = true then l ++ [z] else l | none => l) (fun k l => l ++ nr (s.drop k) c) (fun l k => l.length ≤ k)
  (body := (fun (x : List (List (Pln)) × Int) => if ltI x.2 (zD s) = true then
       (idx s x.2).bind fun x_1 => ((fun (z : Int × List Pln × Unit) => vH z.1 z.2.1 c) (x.2, x_1, ())).bind fun x_2 => jn (fun (x_3 : List (List (Pln))) => Comp.pure (Comp.Step.next (x_3, zI .i64 x.2 1)))
          fun (j :
            List (List (Pln)) → Comp
              (Comp.Step (List (List (Pln)) × Int) (List (List (Pln))))) =>
          if x_2.1 = true then (app x.1 [x_1]).bind fun zs => j zs else j x.1
      else Comp.pure (Comp.Step.done x.1)))
  (fun l k hk hI => by
   obtain ⟨z, hz⟩ := zN (xs := s) (k := k) hk
   have hf : (vH (k : Int) z c).val = some (!apa z c, ()) := by
    unfold vH
    rw [zA, jU, zFq, Comp.zB]; rfl
   refine ⟨?_, ?_, ?_⟩
   ·rw [hz]
    simp only
    rw [if_pos (by rw [zF, zC]; show (k : Int) < _; omega), zA, zG hz, zFq, zA, hf, zFq, vb]
    by_cases h : (!apa z c) = true
    ·rw [if_pos h, if_pos h, zA, zo (by simp only [zFv]; unfold LIM; omega), zFq, Comp.zB, zM (by omega)]
    ·rw [if_neg h, if_neg h, Comp.zB, zM (by omega)]
   ·rw [hz]
    simp only
    split <;> first | omega | (simp; omega)
   ·rw [drop_cons hz, hz]
    unfold nr
    by_cases h : (!apa z c) = true
    ·show _ = (if (!apa z c) = true then l ++ [z] else l) ++ _
     rw [if_pos h, List.filter_cons, if_pos h]; simp
    ·show _ = (if (!apa z c) = true then l ++ [z] else l) ++ _
     rw [if_neg h, List.filter_cons, if_neg h])
  (fun l => by rw [if_neg (by rw [zF, zC]; simp), Comp.zB]) (fun l => by rw [List.drop_length]; simp [nr]) 0 [] (Nat.zero_le _) (by simp)
 rw [zA]
 refine (congrArg (fun o => Option.bind o _) h1).trans ?_
 rw [zFq, Comp.zB]; simp
theorem BG {s : List Cell} (c : Cell) (hl : s.length ≤ 1000000) : (vK s c).val = some (nr s c, ()) := by
 unfold vK
 have h1 := gm s.length (fun k l => match s[k]? with | some z => if (!apa z c) = true then l ++ [z] else l | none => l) (fun k l => l ++ nr (s.drop k) c) (fun l k => l.length ≤ k)
  (body := (fun (x : List (List (Pln)) × Int) => if ltI x.2 (zD s) = true then
       (idx s x.2).bind fun x_1 => (Go.F.ze x_1 c).bind fun x_2 => jn (fun (x_3 : List (List (Pln))) => Comp.pure (Comp.Step.next (x_3, zI .i64 x.2 1)))
          fun (j :
            List (List (Pln)) → Comp
              (Comp.Step (List (List (Pln)) × Int) (List (List (Pln))))) =>
          if ntB x_2.1 = true then
           (idx s x.2).bind fun x_3 => (app x.1 [x_3]).bind fun zs => j zs
          else j x.1
      else Comp.pure (Comp.Step.done x.1)))
  (fun l k hk hI => by
   obtain ⟨z, hz⟩ := zN (xs := s) (k := k) hk
   refine ⟨?_, ?_, ?_⟩
   ·rw [hz]
    simp only
    rw [if_pos (by rw [zF, zC]; show (k : Int) < _; omega), zA, zG hz, zFq, zA, ky, zFq, vb, ya]
    by_cases h : (!apa z c) = true
    ·rw [if_pos h, if_pos h, zA, zG hz, zFq, zA, zo (by simp only [zFv]; unfold LIM; omega), zFq, Comp.zB, zM (by omega)]
    ·rw [if_neg h, if_neg h, Comp.zB, zM (by omega)]
   ·rw [hz]
    simp only
    split <;> first | omega | (simp; omega)
   ·rw [drop_cons hz, hz]
    unfold nr
    by_cases h : (!apa z c) = true
    ·show _ = (if (!apa z c) = true then l ++ [z] else l) ++ _
     rw [if_pos h, List.filter_cons, if_pos h]; simp
    ·show _ = (if (!apa z c) = true then l ++ [z] else l) ++ _
     rw [if_neg h, List.filter_cons, if_neg h])
  (fun l => by rw [if_neg (by rw [zF, zC]; simp), Comp.zB]) (fun l => by rw [List.drop_length]; simp [nr]) 0 [] (Nat.zero_le _) (by simp)
 rw [zA]
 refine (congrArg (fun o => Option.bind o _) h1).trans ?_
 rw [zFq, Comp.zB]; simp
def sur (all : List Cell) (c : Cell) (s : Bool) : Bool := bif s then true else (cov (nr all c) c).1
def tch (cuts touches : List Cell) (c : Cell) (t : Bool) : Bool := (t || !sap c cuts) || !sap c touches
def apE (all : List Cell) : List Cell → List Bool → Int
 | c :: C, s :: S => bif s then apE all C S else if (cov (nr all c) c).2 = 0 then apE all C S else (cov (nr all c) c).2
 | _, _ => 0
def apS (all : List Cell) (C : List Cell) (S : List Bool) : List Bool := List.zipWith (sur all) C S
def apT (cuts touches : List Cell) (C : List Cell) (T : List Bool) : List Bool := List.zipWith (tch cuts touches) C T
def zP : yN := ([], [], [], ())
def apl (p : Part) (x : yN) (cuts touches : List Cell) : yN × Int :=
 if fit p x = 0 then if jH (cuts ++ touches) = 0 then if 24 < x.2.2.1.length + cuts.length then (zP, 2)
  else if apE (x.2.2.1 ++ cuts) p.2.1 x.1 = 0 then ((apS (x.2.2.1 ++ cuts) p.2.1 x.1, apT cuts touches p.2.1 x.2.1, x.2.2.1 ++ cuts, ()), 0) else (zP, apE (x.2.2.1 ++ cuts) p.2.1 x.1)
  else (zP, jH (cuts ++ touches)) else (zP, fit p x)
theorem Ct {t a b : Bool} {A B : Comp (Bool × Unit)} (hA : A.val = some (a, ())) (hB : B.val = some (b, ())) (K : Bool → Comp β) :
  ((Comp.gd (ntB t) A (false, ())).bind fun x6 => (Comp.gd (ntB (sel t true (ntB x6.1))) B (false, ())).bind fun x7 => K (sel (sel t true (ntB x6.1)) true (ntB x7.1))).val = (K ((t || !a) || !b)).val := by
 rw [zA]
 cases t with
 | true =>
  show Option.bind (Comp.pure _).val _ = _
  rw [Comp.zB, zFq, zA]
  show Option.bind (Comp.pure _).val _ = _
  rw [Comp.zB, zFq]; rfl
 | false =>
  show Option.bind A.val _ = _
  rw [hA, zFq, zA]
  cases a with
  | false =>
   show Option.bind (Comp.pure _).val _ = _
   rw [Comp.zB, zFq]; rfl
  | true =>
   show Option.bind B.val _ = _
   rw [hB, zFq]; rfl
theorem take_set {l m : List α} {k : Nat} {v : α} (hv : l[k]? = some v) (hm : k < m.length) (hl : l.length = m.length) : (l.take k ++ m.drop k).set k v = l.take (k + 1) ++ m.drop (k + 1) := by
 have hk : (l.take k).length = k := by rw [List.length_take]; omega
 rw [List.set_append, if_neg (by omega), hk, Nat.sub_self, List.take_add_one, hv, List.drop_eq_getElem_cons hm, List.set_cons_zero, List.append_assoc]
 rfl
theorem DL {l m : List α} {k : Nat} (hl : l.length = m.length) (hm : k < m.length) : (l.take k ++ m.drop k)[k]? = m[k]? := by
 have hk : (l.take k).length = k := by rw [List.length_take]; omega
 rw [List.getElem?_append_right (by omega), hk, Nat.sub_self, List.getElem?_drop]; simp
theorem DK {l m : List α} {k : Nat} (hl : l.length = m.length) (hm : k ≤ m.length) : (l.take k ++ m.drop k).length = m.length := by
 rw [zFt, List.length_take, List.length_drop]; omega
theorem IE {l m : List α} {k : Nat} {v : α} (hv : l[k]? = some v) (hmv : m[k]? = some v) (hl : l.length = m.length) : l.take k ++ m.drop k = l.take (k + 1) ++ m.drop (k + 1) := by
 rw [List.take_add_one, hv, drop_cons hmv]; simp
theorem wG {f : α → β → γ} {l : List α} {m : List β} {k : Nat} {a : α} {b : β} (h1 : l[k]? = some a) (h2 : m[k]? = some b) : (List.zipWith f l m)[k]? = some (f a b) := by
 rw [List.getElem?_zipWith, h1, h2]
theorem Gt {p : Part} {x : yN} {cuts touches : List Cell} (hw : p.2.2.1.length < 9223372036854775807) (hcl : cuts.length ≤ 100000000) (htl : touches.length ≤ 100000000) : (YK p x cuts touches).val = some ((apl p x cuts touches).1, (apl p x cuts touches).2, ()) := by
 unfold YK apl
 rw [zA, Ye hw, zFq]
 by_cases hf : fit p x = 0
 ·rw [if_neg (by rw [zX]; simp [hf]), if_pos hf]
  have hck : ckP p = 0 := by
   unfold fit at hf
   split at hf
   ·assumption
   ·exact hf
  have hfb : YB p x = true := by
   unfold fit at hf
   rw [if_pos hck] at hf
   cases h : YB p x with
   | true => rfl
   | false => rw [h] at hf; cases hf
  unfold YB at hfb
  simp only [zFs, decide_eq_true_eq] at hfb
  obtain ⟨⟨f1, f2⟩, f3, f4⟩ := hfb
  have hn : p.2.1.length ≤ 16 := by
   unfold ckP at hck
   split at hck
   ·cases hck
   ·rename_i h; omega
  have hcat : (zT [cuts, touches]).val = some (cuts ++ touches, ()) := by
   have := KF (z := ([] : Cell)) (xs := [cuts, touches]) (by simp; unfold LIM; omega) (by simp)
   simp only [List.flatten_cons, List.flatten_nil, List.append_nil] at this
   exact this
  rw [zA, hcat, zFq, zA, Kx (by simp; omega), zFq]
  by_cases he : jH (cuts ++ touches) = 0
  ·rw [if_neg (by rw [zX]; simp [he]), if_pos he]
   have hadd : zI .i64 (zD x.2.2.1) (zD cuts) = ((x.2.2.1.length + cuts.length : Nat) : Int) := by rw [zC, zC, yC (by omega)]; omega
   by_cases h24 : 24 < x.2.2.1.length + cuts.length
   ·rw [if_pos (by rw [z8, hadd]; omega), if_pos h24, Comp.zB]; rfl
   ·rw [if_neg (by rw [z8, hadd]; omega), if_neg h24]
    have hcell : ∀ c ∈ x.2.2.1 ++ cuts, c.length ≤ 1000000 := by
     intro c hc
     have : chk c = 0 := by
      rcases List.mem_append.1 hc with h | h
      ·exact Yx.1 f4 c h
      ·exact Yx.1 he c (List.mem_append_left _ h)
     have := (Yl this).1; omega
    have hcat2 : (zT [x.2.2.1, cuts]).val = some (x.2.2.1 ++ cuts, ()) := by
     have := KF (z := ([] : Cell)) (xs := [x.2.2.1, cuts]) (by simp; unfold LIM; omega) (by simp)
     simp only [List.flatten_cons, List.flatten_nil, List.append_nil] at this
     exact this
    have hc1 : (yf x.1).val = some (x.1, ()) := KD (by unfold LIM; omega)
    have hc2 : (yf x.2.1).val = some (x.2.1, ()) := KD (by unfold LIM; omega)
    rw [zA, hc1, zFq, zA, hc2, zFq, zA, hcat2, zFq, zA, Bl (by simp; omega) hcell, zFq]
    simp only
    generalize hall : x.2.2.1 ++ cuts = all
    have hal : all.length ≤ 24 := by rw [← hall]; simp; omega
    have hSl : (apS all p.2.1 x.1).length = x.1.length := by unfold apS; rw [List.length_zipWith]; omega
    have hTl : (apT cuts touches p.2.1 x.2.1).length = x.2.1.length := by unfold apT; rw [List.length_zipWith]; omega
    have key : ∀ (m k : Nat), k + m = p.2.1.length → (Comp.loop
              (fun (x_3 :
                 Int × (List Bool × List Bool × List (List (Pln)) × Unit) × List Bool × List Bool × List (List (Pln)) × Unit) =>
               if ltI x_3.1 (zD p.2.1) = true then
                jn
                 (fun (x :
                    (List Bool × List Bool × List (List (Pln)) × Unit) × List Bool × List Bool × List (List (Pln)) × Unit) =>
                  Comp.pure (Comp.Step.next (zI .i64 x_3.1 1, x.1, x.2.1, x.2.2.1, x.2.2.2.1, ())))
                 fun (j :
                   (List Bool × List Bool × List (List (Pln)) × Unit) × List Bool × List Bool × List (List (Pln)) × Unit → Comp
                     (Comp.Step
                      (Int × (List Bool × List Bool × List (List (Pln)) × Unit) × List Bool × List Bool × List (List (Pln)) × Unit)
                      ((List Bool × List Bool × List (List (Pln)) × Unit) × List Bool × List Bool × List (List (Pln)) × Unit ⊕
                       Int × List Bool × List Bool × List (List (Pln)) × Unit))) =>
                 (idx p.2.1 x_3.1).bind fun x_4 => (idx x_3.2.2.2.1 x_3.1).bind fun x_5 => (Comp.gd (ntB x_5) (Go.F.yD x_4 cuts) (false, ())).bind fun x_6 => (Comp.gd (ntB (sel x_5 true (ntB x_6.1))) (Go.F.yD x_4 touches) (false, ())).bind fun x_7 => (inb x_3.2.2.2.1.length x_3.1).bind fun x_8 => (idx x_3.2.2.1 x_3.1).bind fun x_9 => if x_9 = true then
                        j
                         (x_3.2.1, x_3.2.2.1, jv x_3.2.2.2.1 x_3.1 (sel (sel x_5 true (ntB x_6.1)) true (ntB x_7.1)), x_3.2.2.2.2.1,
                          ())
                       else
                        (Go.F.yW x_3.2.2.2.2.1 fun (z : Int × List (Pln) × Unit) => Go.F.vH z.1 z.2.1 x_4).bind fun y => (Go.F.je y.1 x_4).bind fun x => if neI x.2.1 0 = true then Comp.pure (Comp.Step.done (Sum.inr (x.2.1, [], [], [], ())))
                          else
                           (inb x_3.2.2.1.length x_3.1).bind fun x_10 => j
                             (x_3.2.1, jv x_3.2.2.1 x_3.1 x.1,
                              jv x_3.2.2.2.1 x_3.1 (sel (sel x_5 true (ntB x_6.1)) true (ntB x_7.1)), x_3.2.2.2.2.1, ())
               else Comp.pure (Comp.Step.done (Sum.inl (x_3.2.1, x_3.2.2.1, x_3.2.2.2.1, x_3.2.2.2.2.1, ()))))
              ((k : Int), zP, (apS all p.2.1 x.1).take k ++ x.1.drop k, (apT cuts touches p.2.1 x.2.1).take k ++ x.2.1.drop k, all, ())).val =
      some (if apE all (p.2.1.drop k) (x.1.drop k) = 0 then .inl (zP, apS all p.2.1 x.1, apT cuts touches p.2.1 x.2.1, all, ()) else .inr (apE all (p.2.1.drop k) (x.1.drop k), zP)) := by
     intro m
     induction m with
     | zero =>
      intro k hk
      have hk' : k = p.2.1.length := by omega
      rw [zL, if_neg (by rw [zF, zC]; show ¬ ((k : Int) < _); omega), Comp.zB, zFq]
      rw [List.drop_eq_nil_of_le (show p.2.1.length ≤ k by omega), List.drop_eq_nil_of_le (show x.1.length ≤ k by omega), List.drop_eq_nil_of_le (show x.2.1.length ≤ k by omega), List.take_of_length_le (by omega), List.take_of_length_le (by omega), List.append_nil, List.append_nil]
      rfl
     | succ m ih =>
      intro k hk
      obtain ⟨c, hc⟩ := zN (xs := p.2.1) (k := k) (by omega)
      obtain ⟨s, hs⟩ := zN (xs := x.1) (k := k) (by omega)
      obtain ⟨t, ht⟩ := zN (xs := x.2.1) (k := k) (by omega)
      have gS : (apS all p.2.1 x.1)[k]? = some (sur all c s) := wG hc hs
      have gT : (apT cuts touches p.2.1 x.2.1)[k]? = some (tch cuts touches c t) := wG hc ht
      have hT1 : ((apT cuts touches p.2.1 x.2.1).take k ++ x.2.1.drop k)[k]? = some t := by rw [DL hTl (by omega)]; exact ht
      have hS1 : ((apS all p.2.1 x.1).take k ++ x.1.drop k)[k]? = some s := by rw [DL hSl (by omega)]; exact hs
      have hTs : ((apT cuts touches p.2.1 x.2.1).take k ++ x.2.1.drop k).set k (tch cuts touches c t) = (apT cuts touches p.2.1 x.2.1).take (k + 1) ++ x.2.1.drop (k + 1) := take_set gT (by omega) hTl
      have hin : (inb ((apT cuts touches p.2.1 x.2.1).take k ++ x.2.1.drop k).length (k : Int)).val = some () := Yc (by rw [DK hTl (by omega)]; omega)
      have hin2 : (inb ((apS all p.2.1 x.1).take k ++ x.1.drop k).length (k : Int)).val = some () := Yc (by rw [DK hSl (by omega)]; omega)
      rw [zL, if_pos (by rw [zF, zC]; show (k : Int) < _; omega), vb, zA, zG hc, zFq, zA, zG hT1, zFq]
      have hE : apE all (p.2.1.drop k) (x.1.drop k) = bif s then apE all (p.2.1.drop (k + 1)) (x.1.drop (k + 1)) else if (cov (nr all c) c).2 = 0 then apE all (p.2.1.drop (k + 1)) (x.1.drop (k + 1)) else (cov (nr all c) c).2 := by
       rw [drop_cons hc, drop_cons hs]; rfl
      refine (congrArg (fun o => Option.bind o _) (Ct (jA c (s := cuts) (by omega)) (jA c (s := touches) (by omega)) (fun tt => (inb ((apT cuts touches p.2.1 x.2.1).take k ++ x.2.1.drop k).length (k : Int)).bind fun x_8 => (idx ((apS all p.2.1 x.1).take k ++ x.1.drop k) (k : Int)).bind fun x_9 => if x_9 = true then
                        (Comp.pure (Comp.Step.next (zI .i64 (k : Int) 1, zP, (apS all p.2.1 x.1).take k ++ x.1.drop k, jv ((apT cuts touches p.2.1 x.2.1).take k ++ x.2.1.drop k) (k : Int) tt, all, ())) : Comp (Comp.Step (Int × yN × yN) (yN × yN ⊕ Int × yN)))
                       else
                        (Go.F.yW all fun (z : Int × List (Pln) × Unit) => Go.F.vH z.1 z.2.1 c).bind fun y => (Go.F.je y.1 c).bind fun (x' : Bool × Int × Unit) => if neI x'.2.1 0 = true then Comp.pure (Comp.Step.done (Sum.inr (x'.2.1, [], [], [], ())))
                          else
                           (inb ((apS all p.2.1 x.1).take k ++ x.1.drop k).length (k : Int)).bind fun x_10 => (Comp.pure (Comp.Step.next (zI .i64 (k : Int) 1, zP, jv ((apS all p.2.1 x.1).take k ++ x.1.drop k) (k : Int) x'.1,
                              jv ((apT cuts touches p.2.1 x.2.1).take k ++ x.2.1.drop k) (k : Int) tt, all, ())) : Comp (Comp.Step (Int × yN × yN) (yN × yN ⊕ Int × yN)))))).trans ?_
      rw [zA, hin, zFq, zA, zG hS1, zFq, show jv ((apT cuts touches p.2.1 x.2.1).take k ++ x.2.1.drop k) (k : Int) ((t || !sap c cuts) || !sap c touches) = (apT cuts touches p.2.1 x.2.1).take (k + 1) ++ x.2.1.drop (k + 1) from hTs]
      cases s with
      | true =>
       have hSS : (apS all p.2.1 x.1).take k ++ x.1.drop k = (apS all p.2.1 x.1).take (k + 1) ++ x.1.drop (k + 1) := IE gS hs hSl
       rw [if_pos rfl, Comp.zB, zFq, zM (by omega), hSS, hE]
       exact ih (k + 1) (by omega)
      | false =>
       rw [if_neg (by simp), zA, Hy c (by omega), zFq, zA, Bk, zFq, hE]
       by_cases he0 : (cov (nr all c) c).2 = 0
       ·have hSs : ((apS all p.2.1 x.1).take k ++ x.1.drop k).set k (cov (nr all c) c).1 = (apS all p.2.1 x.1).take (k + 1) ++ x.1.drop (k + 1) := take_set gS (by omega) hSl
        rw [if_neg (by rw [zX]; simp [he0]), zA, hin2, zFq, Comp.zB, zFq, zM (by omega)]
        rw [show jv ((apS all p.2.1 x.1).take k ++ x.1.drop k) (k : Int) (cov (nr all c) c).1 = (apS all p.2.1 x.1).take (k + 1) ++ x.1.drop (k + 1) from hSs]
        rw [cond_false, if_pos he0]
        exact ih (k + 1) (by omega)
       ·rw [if_pos (by rw [zX]; exact he0), Comp.zB, zFq, cond_false, if_neg he0, if_neg he0]
        rfl
    have h0 := key p.2.1.length 0 (by omega)
    simp only [List.take_zero, List.nil_append, List.drop_zero] at h0
    rw [zA]
    refine (congrArg (fun o => Option.bind o _) h0).trans ?_
    rw [zFq]
    by_cases hE0 : apE all p.2.1 x.1 = 0
    ·rw [if_pos hE0, if_pos hE0]; exact Comp.zB _
    ·rw [if_neg hE0, if_neg hE0]; exact Comp.zB _
  ·rw [if_pos (by rw [zX]; exact he), if_neg he, Comp.zB]; rfl
 ·rw [if_pos (by rw [zX]; exact hf), if_neg hf, Comp.zB]; rfl
theorem tJ {p : Part} {x : yN} (hf : fit p x = 0) : ckP p = 0 ∧ YB p x = true ∧ x.1.length = p.2.1.length ∧ x.2.1.length = p.2.1.length ∧ x.2.2.1.length ≤ 24 ∧ jH x.2.2.1 = 0 ∧ p.2.1.length ≤ 16 ∧ p.2.2.1.length = p.2.1.length := by
 have hck : ckP p = 0 := by
  unfold fit at hf
  split at hf
  ·assumption
  ·exact hf
 have hfb : YB p x = true := by
  unfold fit at hf
  rw [if_pos hck] at hf
  cases h : YB p x with
  | true => rfl
  | false => rw [h] at hf; cases hf
 have hfb' := hfb
 unfold YB at hfb
 simp only [zFs, decide_eq_true_eq] at hfb
 obtain ⟨⟨f1, f2⟩, f3, f4⟩ := hfb
 have hck' := hck
 unfold ckP at hck
 split at hck
 ·cases hck
 ·rename_i h
  split at hck
  ·cases hck
  ·rename_i h'
   exact ⟨hck', hfb', f1, f2, f3, f4, by omega, by omega⟩
theorem uC {p : Part} {x : yN} {cuts touches : List Cell} (hw : p.2.2.1.length < 9223372036854775807) (hcl : cuts.length ≤ 100000000) (htl : touches.length ≤ 100000000) : (gE p x cuts touches).val = some ((apl p x cuts touches).1, (apl p x cuts touches).2, ()) := by
 unfold gE apl
 rw [zA, jX hw, zFq]
 by_cases hck : ckP p = 0
 ·rw [if_neg (by rw [zX]; simp [hck]), zA, KQ, zFq, ya]
  cases hfb : YB p x with
  | false =>
   have hf : fit p x = 4 := by unfold fit; rw [if_pos hck, hfb]; rfl
   rw [if_pos (by simp), if_neg (by rw [hf]; decide), hf, Comp.zB]; rfl
  | true =>
   have hf : fit p x = 0 := by unfold fit; rw [if_pos hck, hfb]; rfl
   obtain ⟨_, _, f1, f2, f3, f4, hn, hwn⟩ := tJ hf
   rw [if_neg (by simp), if_pos hf, zA, Y2 (by omega), zFq, vb]
   have hadd : zI .i64 (zD x.2.2.1) (zD cuts) = ((x.2.2.1.length + cuts.length : Nat) : Int) := by rw [zC, zC, yC (by omega)]; omega
   by_cases hc0 : jH cuts = 0
   ·rw [if_pos (by rw [yd]; exact hc0), zA, Y2 (by omega), zFq]
    have hE : jH (cuts ++ touches) = jH touches := by rw [lE, if_pos hc0]
    rw [hE]
    show (if neI (jH touches) 0 = true then _ else _ : Comp (yN × Int × Unit)).val = _
    by_cases he : jH touches = 0
    ·rw [if_neg (by rw [zX]; simp [he]), if_pos he]
     by_cases h24 : 24 < x.2.2.1.length + cuts.length
     ·rw [if_pos (by rw [z8, hadd]; omega), if_pos h24, Comp.zB]; rfl
     ·rw [if_neg (by rw [z8, hadd]; omega), if_neg h24]
      have hcellx : ∀ c ∈ x.2.2.1, c.length ≤ 1000000 := fun c hc => by have := (Yl (Yx.1 f4 c hc)).1; omega
      have hcellc : ∀ c ∈ cuts, c.length ≤ 1000000 := fun c hc => by have := (Yl (Yx.1 hc0 c hc)).1; omega
      rw [zA, qQ (by omega) hcellx, zFq, zA, qQ (by omega) hcellc, zFq, zA, zo (by show x.2.2.1.length + cuts.length ≤ _; unfold LIM; omega), zFq]
      simp only
      generalize hall : x.2.2.1 ++ cuts = all
      have hal : all.length ≤ 24 := by rw [← hall]; simp; omega
      have hSl : (apS all p.2.1 x.1).length = x.1.length := by unfold apS; rw [List.length_zipWith]; omega
      have hTl : (apT cuts touches p.2.1 x.2.1).length = x.2.1.length := by unfold apT; rw [List.length_zipWith]; omega
      have key : ∀ (m k : Nat), k + m = p.2.1.length → (Comp.loop
                 (fun
                   (x_1 :
                    Int ×
                     (List Bool × List Bool × List (List (Pln)) × Unit) ×
                      List Bool × List Bool × List (List (Pln)) × Unit) =>
                  if ltI x_1.1 (zD p.2.1) = true then
                   (idx p.2.1 x_1.1).bind fun (x_2 : List (Pln)) =>
                    (idx x.2.1 x_1.1).bind fun (x_3 : Bool) =>
                     (Comp.gd (ntB x_3) (Go.F.zd x_2 cuts) (false, ())).bind fun (x_4 : Bool × Unit) =>
                      (Comp.gd (ntB (sel x_3 true (ntB x_4.1))) (Go.F.zd x_2 touches) (false, ())).bind
                       fun (x_5 : Bool × Unit) =>
                       (app x_1.2.2.2.1 [sel (sel x_3 true (ntB x_4.1)) true (ntB x_5.1)]).bind fun (zs : List Bool) =>
                        (idx x.1 x_1.1).bind fun (x_6 : Bool) =>
                         jn
                          (fun (x_7 : Bool × List Bool × List Bool × List (List (Pln)) × Unit) =>
                           (app x_1.2.2.1 [x_7.1]).bind fun (zs_1 : List Bool) =>
                            Comp.pure (Comp.Step.next (zI .i64 x_1.1 1, x_7.2, zs_1, zs, x_1.2.2.2.2.1, ())))
                          fun
                           (j :
                            Bool × List Bool × List Bool × List (List (Pln)) × Unit →
                             Comp
                              (Comp.Step
                               (Int ×
                                (List Bool × List Bool × List (List (Pln)) × Unit) ×
                                 List Bool × List Bool × List (List (Pln)) × Unit)
                               ((List Bool × List Bool × List (List (Pln)) × Unit) ×
                                 List Bool × List Bool × List (List (Pln)) × Unit ⊕
                                Int × List Bool × List Bool × List (List (Pln)) × Unit))) =>
                          if ntB x_6 = true then
                           (Go.F.vK x_1.2.2.2.2.1 x_2).bind
                            fun (y : List (List (Pln)) × Unit) =>
                            (Go.F.yx y.1 x_2).bind fun (x_7 : Bool × Int × Unit) =>
                             if neI x_7.2.1 0 = true then Comp.pure (Comp.Step.done (Sum.inr (x_7.2.1, [], [], [], ())))
                             else j (x_7.1, x_1.2.1)
                          else j (x_6, x_1.2.1)
                  else Comp.pure (Comp.Step.done (Sum.inl (x_1.2.1, x_1.2.2.1, x_1.2.2.2.1, x_1.2.2.2.2.1, ()))))
              ((k : Int), zP, (apS all p.2.1 x.1).take k, (apT cuts touches p.2.1 x.2.1).take k, all, ())).val =
        some (if apE all (p.2.1.drop k) (x.1.drop k) = 0 then .inl (zP, apS all p.2.1 x.1, apT cuts touches p.2.1 x.2.1, all, ()) else .inr (apE all (p.2.1.drop k) (x.1.drop k), zP)) := by
       intro m
       induction m with
       | zero =>
        intro k hk
        rw [zL, if_neg (by rw [zF, zC]; show ¬ ((k : Int) < _); omega), Comp.zB, zFq]
        rw [List.drop_eq_nil_of_le (show p.2.1.length ≤ k by omega), List.drop_eq_nil_of_le (show x.1.length ≤ k by omega), List.take_of_length_le (by omega), List.take_of_length_le (by omega)]
        rfl
       | succ m ih =>
        intro k hk
        obtain ⟨c, hc⟩ := zN (xs := p.2.1) (k := k) (by omega)
        obtain ⟨s, hs⟩ := zN (xs := x.1) (k := k) (by omega)
        obtain ⟨t, ht⟩ := zN (xs := x.2.1) (k := k) (by omega)
        have gS : (apS all p.2.1 x.1)[k]? = some (sur all c s) := wG hc hs
        have gT : (apT cuts touches p.2.1 x.2.1)[k]? = some (tch cuts touches c t) := wG hc ht
        have hT2 : (apT cuts touches p.2.1 x.2.1).take k ++ [tch cuts touches c t] = (apT cuts touches p.2.1 x.2.1).take (k + 1) := by rw [List.take_add_one, gT]; rfl
        have hS2 : ∀ v, sur all c s = v → (apS all p.2.1 x.1).take k ++ [v] = (apS all p.2.1 x.1).take (k + 1) := fun v hv => by rw [List.take_add_one, gS, hv]; rfl
        have lT : ((apT cuts touches p.2.1 x.2.1).take k).length ≤ 16 := by rw [List.length_take]; omega
        have lS : ((apS all p.2.1 x.1).take k).length ≤ 16 := by rw [List.length_take]; omega
        rw [zL, if_pos (by rw [zF, zC]; show (k : Int) < _; omega), zA, zG hc, zFq, zA, zG ht, zFq]
        have hE : apE all (p.2.1.drop k) (x.1.drop k) = bif s then apE all (p.2.1.drop (k + 1)) (x.1.drop (k + 1)) else if (cov (nr all c) c).2 = 0 then apE all (p.2.1.drop (k + 1)) (x.1.drop (k + 1)) else (cov (nr all c) c).2 := by
         rw [drop_cons hc, drop_cons hs]; rfl
        have hj : ∀ v zs, ((app ((apS all p.2.1 x.1).take k) [v]).bind fun (zs_1 : List Bool) =>
                            (Comp.pure (Comp.Step.next (zI .i64 (k : Int) 1, zP, zs_1, zs, all, ())) : Comp (Comp.Step (Int × yN × yN) (yN × yN ⊕ Int × yN)))).val = some (.next (((k + 1 : Nat) : Int), zP, (apS all p.2.1 x.1).take k ++ [v], zs, all, ())) := fun v zs => by
         rw [zA, zo (by simp only [zFv]; unfold LIM; omega), zFq, Comp.zB, zM (by omega)]
        refine (congrArg (fun o => Option.bind o _) (Ct (YO c (s := cuts) (by omega)) (YO c (s := touches) (by omega)) (fun tt =>
                       (app ((apT cuts touches p.2.1 x.2.1).take k) [tt]).bind fun (zs : List Bool) =>
                        (idx x.1 (k : Int)).bind fun (x_6 : Bool) =>
                          if ntB x_6 = true then
                           (Go.F.vK all c).bind
                            fun (y : List (List (Pln)) × Unit) =>
                            (Go.F.yx y.1 c).bind fun (x_7 : Bool × Int × Unit) =>
                             if neI x_7.2.1 0 = true then Comp.pure (Comp.Step.done (Sum.inr (x_7.2.1, [], [], [], ())))
                             else ((app ((apS all p.2.1 x.1).take k) [x_7.1]).bind fun (zs_1 : List Bool) =>
                            (Comp.pure (Comp.Step.next (zI .i64 (k : Int) 1, zP, zs_1, zs, all, ())) : Comp (Comp.Step (Int × yN × yN) (yN × yN ⊕ Int × yN))))
                          else ((app ((apS all p.2.1 x.1).take k) [x_6]).bind fun (zs_1 : List Bool) =>
                            (Comp.pure (Comp.Step.next (zI .i64 (k : Int) 1, zP, zs_1, zs, all, ())) : Comp (Comp.Step (Int × yN × yN) (yN × yN ⊕ Int × yN))))))).trans ?_
        rw [zA, zo (by simp only [zFv]; unfold LIM; omega), zFq, show (apT cuts touches p.2.1 x.2.1).take k ++ [(t || !sap c cuts) || !sap c touches] = (apT cuts touches p.2.1 x.2.1).take (k + 1) from hT2, zA, zG hs, zFq, ya]
        cases s with
        | true =>
         rw [if_neg (by simp), hj, zFq, hS2 true rfl, hE]
         exact ih (k + 1) (by omega)
        | false =>
         rw [if_pos (by simp), zA, BG c (by omega), zFq, zA, nG, zFq, hE]
         by_cases he0 : (cov (nr all c) c).2 = 0
         ·rw [if_neg (by rw [zX]; simp [he0]), hj, zFq, hS2 (cov (nr all c) c).1 rfl, cond_false, if_pos he0]
          exact ih (k + 1) (by omega)
         ·rw [if_pos (by rw [zX]; exact he0), Comp.zB, zFq, cond_false, if_neg he0, if_neg he0]
          rfl
      have h0 := key p.2.1.length 0 (by omega)
      simp only [List.take_zero, List.drop_zero] at h0
      rw [zA]
      refine (congrArg (fun o => Option.bind o _) h0).trans ?_
      rw [zFq]
      by_cases hE0 : apE all p.2.1 x.1 = 0
      ·rw [if_pos hE0, if_pos hE0]; exact Comp.zB _
      ·rw [if_neg hE0, if_neg hE0]; exact Comp.zB _
    ·rw [if_pos (by rw [zX]; exact he), if_neg he, Comp.zB]; rfl
   ·have hE : jH (cuts ++ touches) = jH cuts := by rw [lE, if_neg hc0]
    rw [if_neg (by rw [yd]; exact hc0), hE, if_neg hc0]
    show (if neI (jH cuts) 0 = true then _ else _ : Comp (yN × Int × Unit)).val = _
    rw [if_pos (by rw [zX]; exact hc0), Comp.zB]; rfl
 ·have hf : fit p x = ckP p := by unfold fit; rw [if_neg hck]
  rw [if_pos (by rw [zX]; exact hck), hf, if_neg hck, Comp.zB]; rfl
def anyI (n : Nat) (g : Nat → Bool) : Bool := (List.range n).any g
theorem Yy {body : Int → Comp (Comp.Step Int ε)} (n : Nat) (g : Nat → Bool) {c d : ε} (hb : ∀ (i : Nat), i < n → (body (i : Int)).val = some (if g i = true then .done c else .next ((i + 1 : Nat) : Int))) (he : (body (n : Int)).val = some (.done d)) :
  (Comp.loop body 0).val = some (bif anyI n g then c else d) := by
 have h1 := jC (List.range n) (fun k => !g k) (c := c) (d := d) (body := body)
  (fun i k hk => by
   have hi := zK hk
   rw [List.length_range] at hi
   rw [List.getElem?_range hi] at hk
   cases hk
   rw [hb i hi]
   cases g i <;> rfl)
  (by rw [List.length_range]; exact he)
 rw [h1]
 have : ((List.range n).all fun k => !g k) = !anyI n g := by unfold anyI; rw [List.all_eq_not_any_not]; simp
 rw [this]
 cases anyI n g <;> rfl
def wt (p : Part) (k : Nat) : Int := p.2.2.1.getD k 0
def cl (p : Part) (k : Nat) : Cell := p.2.1.getD k []
def vS (p : Part) (x : yN) (k : Nat) : Bool := decide (wt p k = 1) && !sap (cl p k) x.2.2.1
def vT (p : Part) (x : yN) (k : Nat) : Bool := decide (wt p k = 1) && x.2.1.getD k false
def vL (p : Part) (x : yN) (k : Nat) : Bool := decide (wt p k = 2) && !x.1.getD k false
def vd (p : Part) (x : yN) : Int := if fit p x = 0 then bif anyI p.2.1.length (vS p x) then 35 else bif anyI p.2.1.length (vT p x) then 30 else bif anyI p.2.1.length (vL p x) then 34 else 0 else fit p x
theorem yZ {xs : List α} {k : Nat} {z v : α} (h : xs[k]? = some v) : xs.getD k z = v := by rw [List.getD_eq_getElem?_getD, h]; rfl
theorem BB {p : Part} {x : yN} {k : Nat} (hk : k < p.2.1.length) (hw : p.2.2.1.length = p.2.1.length) (hc : x.2.2.1.length ≤ 24) : (yJ (p, x, ()) (k : Int)).val = some (vS p x k, ()) := by
 obtain ⟨w, hw'⟩ := zN (xs := p.2.2.1) (k := k) (by omega)
 obtain ⟨c, hc'⟩ := zN (xs := p.2.1) (k := k) hk
 unfold yJ vS wt cl
 rw [yZ hw', yZ hc', zA, zG hw', zFq, zA]
 have e : eqI w 1 = decide (w = 1) := rfl
 rw [e]
 by_cases h : w = 1
 ·rw [decide_eq_true h]
  show Option.bind (idx p.2.1 (k : Int)).val _ = _
  rw [zG hc', zFq, zA]
  show Option.bind (yD c x.2.2.1).val _ = _
  rw [jA c (by omega), zFq, Comp.zB]; rfl
 ·rw [decide_eq_false h]
  show Option.bind (Comp.pure _).val _ = _
  rw [Comp.zB, zFq, zA]
  show Option.bind (Comp.pure _).val _ = _
  rw [Comp.zB, zFq, Comp.zB]; rfl
theorem Bf {p : Part} {x : yN} {k : Nat} (hk : k < p.2.1.length) (hw : p.2.2.1.length = p.2.1.length) (hc : x.2.1.length = p.2.1.length) : (yK (p, x, ()) (k : Int)).val = some (vT p x k, ()) := by
 obtain ⟨w, hw'⟩ := zN (xs := p.2.2.1) (k := k) (by omega)
 obtain ⟨c, hc'⟩ := zN (xs := x.2.1) (k := k) (by omega)
 unfold yK vT wt
 rw [yZ hw', yZ hc', zA, zG hw', zFq, zA]
 have e : eqI w 1 = decide (w = 1) := rfl
 rw [e]
 by_cases h : w = 1
 ·rw [decide_eq_true h]
  show Option.bind (idx x.2.1 (k : Int)).val _ = _
  rw [zG hc', zFq, Comp.zB]; rfl
 ·rw [decide_eq_false h]
  show Option.bind (Comp.pure _).val _ = _
  rw [Comp.zB, zFq, Comp.zB]; rfl
theorem IJ {p : Part} {x : yN} {k : Nat} (hk : k < p.2.1.length) (hw : p.2.2.1.length = p.2.1.length) (hc : x.1.length = p.2.1.length) : (yY (p, x, ()) (k : Int)).val = some (vL p x k, ()) := by
 obtain ⟨w, hw'⟩ := zN (xs := p.2.2.1) (k := k) (by omega)
 obtain ⟨c, hc'⟩ := zN (xs := x.1) (k := k) (by omega)
 unfold yY vL wt
 rw [yZ hw', yZ hc', zA, zG hw', zFq, zA]
 have e : eqI w 2 = decide (w = 2) := rfl
 rw [e]
 by_cases h : w = 2
 ·rw [decide_eq_true h]
  show Option.bind (idx x.1 (k : Int)).val _ = _
  rw [zG hc', zFq, Comp.zB]; rfl
 ·rw [decide_eq_false h]
  show Option.bind (Comp.pure _).val _ = _
  rw [Comp.zB, zFq, Comp.zB]; rfl
theorem pz {p : Part} {x : yN} (hw : p.2.2.1.length < 9223372036854775807) : (ZE p x).val = some (vd p x, ()) := by
 unfold ZE vd
 rw [zA, Ye hw, zFq]
 by_cases hf : fit p x = 0
 ·obtain ⟨_, _, f1, f2, f3, f4, hn, hwn⟩ := tJ hf
  rw [if_neg (by rw [zX]; simp [hf]), if_pos hf]
  have inner : ∀ (f : Int × Unit → Comp (Bool × Unit)) (e : Int) (g : Nat → Bool), (∀ k, k < p.2.1.length → (f ((k : Int), ())).val = some (g k, ())) → (Comp.loop
             (fun (x_2 : Int) => if ltI x_2 (zD p.2.1) = true then
               (f (x_2, ())).bind fun x_3 => if x_3.1 = true then Comp.pure (Comp.Step.done (Sum.inr e)) else Comp.pure (Comp.Step.next (zI .i64 x_2 1))
              else Comp.pure (Comp.Step.done (Sum.inl () : Unit ⊕ Int)))
             0).val = some (bif anyI p.2.1.length g then .inr e else .inl ()) := by
   intro f e g hg
   exact Yy p.2.1.length g (c := (Sum.inr e : Unit ⊕ Int)) (d := Sum.inl ()) (body := (fun (x_2 : Int) => if ltI x_2 (zD p.2.1) = true then
               (f (x_2, ())).bind fun x_3 => if x_3.1 = true then Comp.pure (Comp.Step.done (Sum.inr e)) else Comp.pure (Comp.Step.next (zI .i64 x_2 1))
              else Comp.pure (Comp.Step.done (Sum.inl () : Unit ⊕ Int))))
    (fun k hk => by
     rw [if_pos (by rw [zF, zC]; omega), zA, hg k hk, zFq, zM (by omega)]
     cases g k <;> exact Comp.zB _)
    (by rw [if_neg (by rw [zF, zC]; omega), Comp.zB])
  have i1 := inner (fun z => yJ (p, x, ()) z.1) 35 (vS p x) (fun k hk => BB hk hwn f3)
  have i2 := inner (fun z => yK (p, x, ()) z.1) 30 (vT p x) (fun k hk => Bf hk hwn f2)
  have i3 := inner (fun z => yY (p, x, ()) z.1) 34 (vL p x) (fun k hk => IJ hk hwn f1)
  generalize hL : [(fun (z : Int × Unit) => Go.F.yJ (p, x, ()) z.1, (35 : Int), ()), (fun (z : Int × Unit) => Go.F.yK (p, x, ()) z.1, 30, ()), (fun (z : Int × Unit) => Go.F.yY (p, x, ()) z.1, 34, ())] = L
  have l0 : (idx L ((0 : Nat) : Int)).val = some (fun z => yJ (p, x, ()) z.1, 35, ()) := zG (by rw [← hL]; rfl)
  have l1 : (idx L ((1 : Nat) : Int)).val = some (fun z => yK (p, x, ()) z.1, 30, ()) := zG (by rw [← hL]; rfl)
  have l2 : (idx L ((2 : Nat) : Int)).val = some (fun z => yY (p, x, ()) z.1, 34, ()) := zG (by rw [← hL]; rfl)
  have hlen : zD L = 3 := by rw [← hL]; rfl
  have hloop : (Comp.loop
       (fun (x_1 : Int) => if ltI x_1 (zD L) = true then
         (idx L x_1).bind fun x => (Comp.loop
             (fun (x_2 : Int) => if ltI x_2 (zD p.2.1) = true then
               (x.1 (x_2, ())).bind fun x_3 => if x_3.1 = true then Comp.pure (Comp.Step.done (Sum.inr x.2.1)) else Comp.pure (Comp.Step.next (zI .i64 x_2 1))
              else Comp.pure (Comp.Step.done (Sum.inl ())))
             0).bind fun (x : Unit ⊕ Int) => match x with
           | Sum.inl x => Comp.pure (Comp.Step.next (zI .i64 x_1 1))
           | Sum.inr x => Comp.pure (Comp.Step.done (Sum.inr x))
        else Comp.pure (Comp.Step.done (Sum.inl () : Unit ⊕ Int)))
       ((0 : Nat) : Int)).val = some (bif anyI p.2.1.length (vS p x) then .inr 35 else bif anyI p.2.1.length (vT p x) then .inr 30 else bif anyI p.2.1.length (vL p x) then .inr 34 else .inl ()) := by
   rw [zL, if_pos (by rw [zF, hlen]; decide), zA, l0, zFq, zA]
   refine (congrArg (fun o => Option.bind (Option.bind o _) _) i1).trans ?_
   cases anyI p.2.1.length (vS p x) with
   | true => rw [zFq]; exact (congrArg (fun o => Option.bind o _) (Comp.zB _)).trans rfl
   | false =>
    rw [zFq]
    refine (congrArg (fun o => Option.bind o _) (Comp.zB _)).trans ?_
    rw [zFq]
    show (Comp.loop _ ((1 : Nat) : Int)).val = _
    rw [zL, if_pos (by rw [zF, hlen]; decide), zA, l1, zFq, zA]
    refine (congrArg (fun o => Option.bind (Option.bind o _) _) i2).trans ?_
    cases anyI p.2.1.length (vT p x) with
    | true => rw [zFq]; exact (congrArg (fun o => Option.bind o _) (Comp.zB _)).trans rfl
    | false =>
     rw [zFq]
     refine (congrArg (fun o => Option.bind o _) (Comp.zB _)).trans ?_
     rw [zFq]
     show (Comp.loop _ ((2 : Nat) : Int)).val = _
     rw [zL, if_pos (by rw [zF, hlen]; decide), zA, l2, zFq, zA]
     refine (congrArg (fun o => Option.bind (Option.bind o _) _) i3).trans ?_
     cases anyI p.2.1.length (vL p x) with
     | true => rw [zFq]; exact (congrArg (fun o => Option.bind o _) (Comp.zB _)).trans rfl
     | false =>
      rw [zFq]
      refine (congrArg (fun o => Option.bind o _) (Comp.zB _)).trans ?_
      rw [zFq]
      show (Comp.loop _ ((3 : Nat) : Int)).val = _
      rw [zL, if_neg (by rw [zF, hlen]; decide), Comp.zB, zFq]; rfl
  subst hL
  rw [zA]
  refine (congrArg (fun o => Option.bind o _) hloop).trans ?_
  rw [zFq]
  cases anyI p.2.1.length (vS p x) <;> cases anyI p.2.1.length (vT p x) <;> cases anyI p.2.1.length (vL p x) <;> exact Comp.zB _
 ·rw [if_pos (by rw [zX]; exact hf), if_neg hf, Comp.zB]
theorem qq {p : Part} {x : yN} (hw : p.2.2.1.length < 9223372036854775807) : (gP p x).val = some (vd p x, ()) := by
 unfold gP vd
 rw [zA, jX hw, zFq]
 by_cases hck : ckP p = 0
 ·rw [if_neg (by rw [zX]; simp [hck]), zA, KQ, zFq, ya]
  cases hfb : YB p x with
  | false =>
   have hf : fit p x = 4 := by unfold fit; rw [if_pos hck, hfb]; rfl
   rw [if_pos (by simp), if_neg (by rw [hf]; decide), hf, Comp.zB]
  | true =>
   have hf : fit p x = 0 := by unfold fit; rw [if_pos hck, hfb]; rfl
   obtain ⟨_, _, f1, f2, f3, f4, hn, hwn⟩ := tJ hf
   rw [if_neg (by simp), if_pos hf]
   have hg : ∀ (b : Bool) (k : Nat) (e : Int), (if sel true b false = true then Comp.pure (Comp.Step.done (Sum.inr e : Unit ⊕ Int)) else Comp.pure (Comp.Step.next (zI .i64 (k : Int) 1))).val = (if b = true then Comp.pure (Comp.Step.done (Sum.inr e : Unit ⊕ Int)) else Comp.pure (Comp.Step.next (zI .i64 (k : Int) 1))).val := fun b k e => rfl
   have i1 := Yy p.2.1.length (vS p x) (c := (Sum.inr 35 : Unit ⊕ Int)) (d := Sum.inl ()) (body := (fun (x_1 : Int) => if ltI x_1 (zD p.2.1) = true then
           (idx p.2.2.1 x_1).bind fun x_2 => (Comp.gd (eqI x_2 1) (idx p.2.1 x_1) []).bind fun x_3 => (Comp.gd (eqI x_2 1) (Go.F.zd x_3 x.2.2.1) (false, ())).bind fun x_4 => if sel (eqI x_2 1) (ntB x_4.1) false = true then Comp.pure (Comp.Step.done (Sum.inr 35))
              else Comp.pure (Comp.Step.next (zI .i64 x_1 1))
          else Comp.pure (Comp.Step.done (Sum.inl ()))))
    (fun k hk => by
     obtain ⟨w, hw'⟩ := zN (xs := p.2.2.1) (k := k) (by omega)
     obtain ⟨c, hc'⟩ := zN (xs := p.2.1) (k := k) hk
     unfold vS wt cl
     rw [if_pos (by rw [zF, zC]; omega), yZ hw', yZ hc', zA, zG hw', zFq, zA, show eqI w 1 = decide (w = 1) from rfl]
     by_cases h : w = 1
     ·rw [decide_eq_true h]
      show Option.bind (idx p.2.1 (k : Int)).val _ = _
      rw [zG hc', zFq, zA]
      show Option.bind (zd c x.2.2.1).val _ = _
      rw [YO c (by omega), zFq, zM (by omega)]
      cases sap c x.2.2.1 <;> exact Comp.zB _
     ·rw [decide_eq_false h]
      show Option.bind (Comp.pure _).val _ = _
      rw [Comp.zB, zFq, zA]
      show Option.bind (Comp.pure _).val _ = _
      rw [Comp.zB, zFq, zM (by omega)]
      exact Comp.zB _)
    (by rw [if_neg (by rw [zF, zC]; omega), Comp.zB])
   have i2 := Yy p.2.1.length (vT p x) (c := (Sum.inr 30 : Unit ⊕ Int)) (d := Sum.inl ()) (body := (fun (x_1 : Int) => if ltI x_1 (zD p.2.1) = true then
             (idx p.2.2.1 x_1).bind fun x_2 => (Comp.gd (eqI x_2 1) (idx x.2.1 x_1) false).bind fun x_3 => if sel (eqI x_2 1) x_3 false = true then Comp.pure (Comp.Step.done (Sum.inr 30))
               else Comp.pure (Comp.Step.next (zI .i64 x_1 1))
            else Comp.pure (Comp.Step.done (Sum.inl ()))))
    (fun k hk => by
     obtain ⟨w, hw'⟩ := zN (xs := p.2.2.1) (k := k) (by omega)
     obtain ⟨c, hc'⟩ := zN (xs := x.2.1) (k := k) (by omega)
     unfold vT wt
     rw [if_pos (by rw [zF, zC]; omega), yZ hw', yZ hc', zA, zG hw', zFq, zA, show eqI w 1 = decide (w = 1) from rfl]
     by_cases h : w = 1
     ·rw [decide_eq_true h]
      show Option.bind (idx x.2.1 (k : Int)).val _ = _
      rw [zG hc', zFq, zM (by omega)]
      cases c <;> exact Comp.zB _
     ·rw [decide_eq_false h]
      show Option.bind (Comp.pure _).val _ = _
      rw [Comp.zB, zFq, zM (by omega)]
      exact Comp.zB _)
    (by rw [if_neg (by rw [zF, zC]; omega), Comp.zB])
   have i3 := Yy p.2.1.length (vL p x) (c := (Sum.inr 34 : Unit ⊕ Int)) (d := Sum.inl ()) (body := (fun (x_1 : Int) => if ltI x_1 (zD p.2.1) = true then
               (idx p.2.2.1 x_1).bind fun x_2 => (Comp.gd (eqI x_2 2) (idx x.1 x_1) false).bind fun x_3 => if sel (eqI x_2 2) (ntB x_3) false = true then Comp.pure (Comp.Step.done (Sum.inr 34))
                 else Comp.pure (Comp.Step.next (zI .i64 x_1 1))
              else Comp.pure (Comp.Step.done (Sum.inl ()))))
    (fun k hk => by
     obtain ⟨w, hw'⟩ := zN (xs := p.2.2.1) (k := k) (by omega)
     obtain ⟨c, hc'⟩ := zN (xs := x.1) (k := k) (by omega)
     unfold vL wt
     rw [if_pos (by rw [zF, zC]; omega), yZ hw', yZ hc', zA, zG hw', zFq, zA, show eqI w 2 = decide (w = 2) from rfl]
     by_cases h : w = 2
     ·rw [decide_eq_true h]
      show Option.bind (idx x.1 (k : Int)).val _ = _
      rw [zG hc', zFq, zM (by omega)]
      cases c <;> exact Comp.zB _
     ·rw [decide_eq_false h]
      show Option.bind (Comp.pure _).val _ = _
      rw [Comp.zB, zFq, zM (by omega)]
      exact Comp.zB _)
    (by rw [if_neg (by rw [zF, zC]; omega), Comp.zB])
   rw [zA]
   refine (congrArg (fun o => Option.bind o _) i1).trans ?_
   rw [zFq]
   cases anyI p.2.1.length (vS p x) with
   | true => exact Comp.zB _
   | false =>
    show (Comp.bind (Comp.loop _ _) _).val = _
    rw [zA]
    refine (congrArg (fun o => Option.bind o _) i2).trans ?_
    rw [zFq]
    cases anyI p.2.1.length (vT p x) with
    | true => exact Comp.zB _
    | false =>
     show (Comp.bind (Comp.loop _ _) _).val = _
     rw [zA]
     refine (congrArg (fun o => Option.bind o _) i3).trans ?_
     rw [zFq]
     cases anyI p.2.1.length (vL p x) <;> exact Comp.zB _
 ·have hf : fit p x = ckP p := by unfold fit; rw [if_neg hck]
  rw [if_pos (by rw [zX]; exact hck), hf, if_neg hck, Comp.zB]
def usl (p : Part) (cuts : List Cell) : Bool := !anyI p.2.1.length fun k => decide (wt p k = 2) && !sap (cl p k) cuts
theorem p6 {p : Part} {x : Eff} (hn : p.2.1.length ≤ 1000) (hwn : p.2.2.1.length = p.2.1.length) (hc : x.1.length < 9223372036854775807) : (Zl p x).val = some (usl p x.1, ()) := by
 unfold Zl usl
 have i1 := Yy p.2.1.length (fun k => decide (wt p k = 2) && !sap (cl p k) x.1) (c := (Sum.inr false : Unit ⊕ Bool)) (d := Sum.inl ()) (body := (fun (x_1 : Int) => if ltI x_1 (zD p.2.1) = true then
       (idx p.2.1 x_1).bind fun x_2 => (idx p.2.2.1 x_1).bind fun x_3 => (Comp.gd (eqI x_3 2) (Go.F.yD x_2 x.1) (false, ())).bind fun x_4 => if sel (eqI x_3 2) (ntB x_4.1) false = true then Comp.pure (Comp.Step.done (Sum.inr false))
          else Comp.pure (Comp.Step.next (zI .i64 x_1 1))
      else Comp.pure (Comp.Step.done (Sum.inl ()))))
  (fun k hk => by
   obtain ⟨w, hw'⟩ := zN (xs := p.2.2.1) (k := k) (by omega)
   obtain ⟨c, hc'⟩ := zN (xs := p.2.1) (k := k) hk
   unfold wt cl
   rw [if_pos (by rw [zF, zC]; omega), yZ hw', yZ hc', zA, zG hc', zFq, zA, zG hw', zFq, zA, show eqI w 2 = decide (w = 2) from rfl]
   by_cases h : w = 2
   ·rw [decide_eq_true h]
    show Option.bind (yD c x.1).val _ = _
    rw [jA c hc, zFq, zM (by omega)]
    cases sap c x.1 <;> exact Comp.zB _
   ·rw [decide_eq_false h]
    show Option.bind (Comp.pure _).val _ = _
    rw [Comp.zB, zFq, zM (by omega)]
    exact Comp.zB _)
  (by rw [if_neg (by rw [zF, zC]; omega), Comp.zB])
 rw [zA]
 refine (congrArg (fun o => Option.bind o _) i1).trans ?_
 rw [zFq]
 cases anyI p.2.1.length fun k => decide (wt p k = 2) && !sap (cl p k) x.1 <;> exact Comp.zB _
def SJ (a m : Nat) (g : Nat → Bool) : Bool := (List.range' a m).any g
theorem lx {body : Int → Comp (Comp.Step Int ε)} (g : Nat → Bool) {c d : ε} : ∀ (m a : Nat), (∀ (i : Nat), a ≤ i → i < a + m → (body (i : Int)).val = some (if g i = true then .done c else .next ((i + 1 : Nat) : Int))) → (body ((a + m : Nat) : Int)).val = some (.done d) → (Comp.loop body (a : Int)).val = some (bif SJ a m g then c else d)
 | 0, a, hb, he => by rw [zL]; rw [Nat.add_zero] at he; rw [he]; rfl
 | m + 1, a, hb, he => by
  have ih := lx g m (a + 1) (fun i h1 h2 => hb i (by omega) (by omega)) (by rw [show a + 1 + m = a + (m + 1) by omega]; exact he)
  rw [zL, hb a (zFu _) (by omega)]
  unfold SJ
  rw [List.range'_succ, List.any_cons]
  cases hg : g a with
  | true => rfl
  | false => exact ih
def Dz (l : List Int) : Bool := !SJ 1 (l.length - 1) fun k => decide (l.getD k 0 ≤ l.getD (k - 1) 0)
theorem XS {l : List Int} (hl : l.length ≤ 1000000) : (kQ l).val = some (Dz l, ()) := by
 unfold kQ Dz
 have h1 := lx (fun k => decide (l.getD k 0 ≤ l.getD (k - 1) 0)) (c := (Sum.inr false : Unit ⊕ Bool)) (d := Sum.inl ()) (body := (fun (x : Int) => if ltI x (zD l) = true then
       (idx l x).bind fun x_1 => (idx l (gM .i64 x 1)).bind fun x_2 => if leI x_1 x_2 = true then Comp.pure (Comp.Step.done (Sum.inr false)) else Comp.pure (Comp.Step.next (zI .i64 x 1))
      else Comp.pure (Comp.Step.done (Sum.inl ())))) (l.length - 1) 1
  (fun k h1 h2 => by
   obtain ⟨a, ha⟩ := zN (xs := l) (k := k) (by omega)
   obtain ⟨b, hb⟩ := zN (xs := l) (k := k - 1) (by omega)
   have hi : (idx l (gM .i64 (k : Int) 1)).val = some b := by
    rw [Zm (by omega), show (k : Int) - 1 = ((k - 1 : Nat) : Int) by omega]; exact zG hb
   rw [if_pos (by rw [zF, zC]; omega), zA, zG ha, zFq, zA, hi, zFq, yZ ha, yZ hb, zM (by omega)]
   by_cases h : a ≤ b
   ·rw [if_pos (by rw [NU]; exact h), if_pos (by simpa using h), Comp.zB]
   ·rw [if_neg (by rw [NU]; exact h), if_neg (by simpa using h), Comp.zB])
  (by rw [if_neg (by rw [zF, zC]; omega), Comp.zB])
 rw [zA]
 refine (congrArg (fun o => Option.bind o _) h1).trans ?_
 rw [zFq]
 cases SJ 1 (l.length - 1) fun k => decide (l.getD k 0 ≤ l.getD (k - 1) 0) <;> exact Comp.zB _
theorem wu {l : List Int} (hl : l.length ≤ 1000000) : (jI l).val = some (Dz l, ()) := XS hl
def qH (n k : Nat) (x : Int) : Bool := (decide (x < 0) || decide ((n : Int) ≤ x)) || decide (x = (k : Int))
def eE (n k : Nat) (x : Eff) : Int := if jH (x.1 ++ x.2.1) = 0 then if x.2.2.1 < 1 ∨ 1048576 < x.2.2.1 then 3 else bif x.2.2.2.1.any (qH n k) then 3 else bif Dz x.2.2.2.1 then 0 else 7 else jH (x.1 ++ x.2.1)
def SmE (x : Eff) : Prop := x.1.length ≤ 100000 ∧ x.2.1.length ≤ 100000 ∧ x.2.2.2.1.length ≤ 100000
theorem lD {s : List Cell} {body : Int → Comp (Comp.Step Int (Unit ⊕ Int))} (hb : ∀ (i : Nat) c, s[i]? = some c → (body (i : Int)).val = some (if chk c = 0 then .next ((i + 1 : Nat) : Int) else .done (.inr (chk c)))) (he : (body (s.length : Int)).val = some (.done (.inl ()))) :
  (Comp.loop body 0).val = some (if jH s = 0 then .inl () else .inr (jH s)) := by
 have key : ∀ (ys zs : List Cell), s = zs ++ ys → (Comp.loop body (zs.length : Int)).val = some (if jH ys = 0 then .inl () else .inr (jH ys)) := by
  intro ys
  induction ys with
  | nil =>
   intro zs hx
   rw [zL, show zs.length = s.length by rw [hx]; simp, he]; rfl
  | cons y ys ih =>
   intro zs hx
   have hy : s[zs.length]? = some y := by rw [hx]; simp
   rw [KW]
   by_cases h : chk y = 0
   ·rw [if_pos h, zL, hb _ _ hy, if_pos h, zFq]
    simpa using ih (zs ++ [y]) (by rw [hx]; simp)
   ·rw [if_neg h, if_neg h, zL, hb _ _ hy, if_neg h, zFq]
 exact key s [] rfl
theorem Ku {n k : Nat} {x : Eff} (hs : SmE x) (hn : n ≤ 100000) {ln0 : Int} (hl : ln0 = (n : Int)) {inc : List Int → Comp (Bool × Unit)} (hinc : ∀ l, l.length ≤ 1000000 → (inc l).val = some (Dz l, ())) {body : Int → Comp (Comp.Step Int (Unit ⊕ Int))}
  (hb : ∀ (i : Nat) w, x.2.2.2.1[i]? = some w → (body (i : Int)).val = some (if qH n k w = true then .done (.inr 3) else .next ((i + 1 : Nat) : Int))) (he : (body (x.2.2.2.1.length : Int)).val = some (.done (.inl ()))) :
  (if sel (ltI x.2.2.1 1) true (gtI x.2.2.1 1048576) = true then Comp.pure (3, ())
      else
       (Comp.loop body 0).bind fun (x_3 : Unit ⊕ Int) => match x_3 with
        | Sum.inl x_4 =>
         (inc x.2.2.2.1).bind fun x => if ntB x.1 = true then Comp.pure (7, ()) else (Comp.pure (0, ()) : Comp (Int × Unit))
        | Sum.inr x => Comp.pure (x, ())).val = some (if x.2.2.1 < 1 ∨ 1048576 < x.2.2.1 then 3 else bif x.2.2.2.1.any (qH n k) then 3 else bif Dz x.2.2.2.1 then 0 else 7, ()) := by
 obtain ⟨s1, s2, s3⟩ := hs
 by_cases hc : x.2.2.1 < 1 ∨ 1048576 < x.2.2.1
 ·rw [if_pos (by rw [vk, Bool.or_eq_true, zF, z8]; exact hc), if_pos hc, Comp.zB]
 ·rw [if_neg (by rw [vk, Bool.or_eq_true, zF, z8]; exact hc), if_neg hc, zA]
  have h1 := jC x.2.2.2.1 (fun w => !qH n k w) (c := (Sum.inr 3 : Unit ⊕ Int)) (d := Sum.inl ()) (body := body)
   (fun i w hw => by rw [hb i w hw]; cases qH n k w <;> rfl) he
  have hall : (x.2.2.2.1.all fun w => !qH n k w) = !x.2.2.2.1.any (qH n k) := by rw [List.all_eq_not_any_not]; simp
  rw [hall] at h1
  refine (congrArg (fun o => Option.bind o _) h1).trans ?_
  rw [zFq]
  cases x.2.2.2.1.any (qH n k) with
  | true => exact Comp.zB _
  | false =>
   show ((inc x.2.2.2.1).bind fun x => if ntB x.1 = true then Comp.pure (7, ()) else (Comp.pure (0, ()) : Comp (Int × Unit))).val = _
   rw [zA, hinc _ (by omega), zFq]
   cases Dz x.2.2.2.1 <;> exact Comp.zB _
theorem Bj {L : List Eff} {k : Nat} {x : Eff} (hx : L[k]? = some x) (hs : SmE x) (hL : L.length ≤ 100000) : (ZM L (k : Int)).val = some (eE L.length k x, ()) := by
 have hs' := hs
 obtain ⟨s1, s2, s3⟩ := hs
 unfold ZM eE
 have hcat : (zT [x.1, x.2.1]).val = some (x.1 ++ x.2.1, ()) := by
  have := KF (z := ([] : Cell)) (xs := [x.1, x.2.1]) (by simp; unfold LIM; omega) (by simp)
  simp only [List.flatten_cons, List.flatten_nil, List.append_nil] at this
  exact this
 rw [zA, zG hx, zFq, zA, hcat, zFq]
 simp only
 generalize hall : x.1 ++ x.2.1 = all
 have hal : all.length ≤ 200000 := by rw [← hall]; simp; omega
 have h2 := lD (s := all)
  (body := (fun (x_1 : Int) => if ltI x_1 (zD all) = true then
         (idx all x_1).bind fun x => (Go.F.vV x).bind fun x => if neI x.1 0 = true then Comp.pure (Comp.Step.done (Sum.inr x.1)) else Comp.pure (Comp.Step.next (zI .i64 x_1 1))
        else Comp.pure (Comp.Step.done (Sum.inl ()))))
  (fun i c hc => by
   have hlt := zK hc
   rw [if_pos (by rw [zF, zC]; omega), zA, zG hc, zFq, zA, gf, zFq, zM (by omega)]
   by_cases h : chk c = 0
   ·rw [if_neg (by rw [zX]; simp [h]), if_pos h, Comp.zB]
   ·rw [if_pos (by rw [zX]; exact h), if_neg h, Comp.zB])
  (by rw [if_neg (by rw [zF, zC]; omega), Comp.zB])
 rw [zA]
 refine (congrArg (fun o => Option.bind o _) h2).trans ?_
 rw [zFq]
 by_cases h0 : jH all = 0
 ·rw [if_pos h0, if_pos h0]
  refine Ku (n := L.length) (k := k) hs' hL (ln0 := zD L) rfl (fun l hl => XS hl) (fun i w hw => ?_) ?_
  ·have hlt := zK hw
   rw [if_pos (by rw [zF, zC]; omega), zA, zG hw, zFq, zM (by omega)]
   have e : sel (sel (ltI w 0) true (geI w (zD L))) true (eqI w (k : Int)) = qH L.length k w := by rw [vk, vk]; rfl
   rw [e]
   cases qH L.length k w <;> exact Comp.zB _
  ·rw [if_neg (by rw [zF, zC]; omega), Comp.zB]
 ·rw [if_neg h0, if_neg h0]; exact Comp.zB _
theorem nD {L : List Eff} {k : Nat} {x : Eff} (hx : L[k]? = some x) (hs : SmE x) (hL : L.length ≤ 100000) : (vj L (k : Int)).val = some (eE L.length k x, ()) := by
 have hs' := hs
 obtain ⟨s1, s2, s3⟩ := hs
 unfold vj eE
 rw [zA, zG hx, zFq, zA, zo (by simp; unfold LIM; omega), zFq, zA, zo (by simp; unfold LIM; omega), zFq]
 simp only [List.nil_append]
 generalize hall : x.1 ++ x.2.1 = all
 have hal : all.length ≤ 200000 := by rw [← hall]; simp; omega
 have h2 := lD (s := all)
  (body := (fun (x_1 : Int) => if ltI x_1 (zD all) = true then
         (idx all x_1).bind fun x => (Go.F.za x).bind fun x => if neI x.1 0 = true then Comp.pure (Comp.Step.done (Sum.inr x.1)) else Comp.pure (Comp.Step.next (zI .i64 x_1 1))
        else Comp.pure (Comp.Step.done (Sum.inl ()))))
  (fun i c hc => by
   have hlt := zK hc
   rw [if_pos (by rw [zF, zC]; omega), zA, zG hc, zFq, zA, jV, zFq, zM (by omega)]
   by_cases h : chk c = 0
   ·rw [if_neg (by rw [zX]; simp [h]), if_pos h, Comp.zB]
   ·rw [if_pos (by rw [zX]; exact h), if_neg h, Comp.zB])
  (by rw [if_neg (by rw [zF, zC]; omega), Comp.zB])
 rw [zA]
 refine (congrArg (fun o => Option.bind o _) h2).trans ?_
 rw [zFq]
 by_cases h0 : jH all = 0
 ·rw [if_pos h0, if_pos h0]
  refine Ku (n := L.length) (k := k) hs' hL (ln0 := zD L) rfl (fun l hl => wu hl) (fun i w hw => ?_) ?_
  ·have hlt := zK hw
   rw [if_pos (by rw [zF, zC]; omega), zA, zG hw, zFq, zM (by omega)]
   have e : qH L.length k w = ((ltI w 0 || geI w (zD L)) || eqI w (k : Int)) := rfl
   rw [e]
   cases h1 : ltI w 0 with
   | true =>
    rw [zA]
    show Option.bind (Comp.pure _).val _ = _
    rw [Comp.zB, zFq, zA]
    show Option.bind (Comp.pure _).val _ = _
    rw [Comp.zB, zFq]
    exact Comp.zB _
   | false =>
    rw [zA]
    show Option.bind (idx x.2.2.2.1 (i : Int)).val _ = _
    rw [zG hw, zFq, zA]
    cases h2 : geI w (zD L) with
    | true =>
     show Option.bind (Comp.pure _).val _ = _
     rw [Comp.zB, zFq]
     exact Comp.zB _
    | false =>
     show Option.bind (idx x.2.2.2.1 (i : Int)).val _ = _
     rw [zG hw, zFq]
     cases eqI w (k : Int) <;> exact Comp.zB _
  ·rw [if_neg (by rw [zF, zC]; omega), Comp.zB]
 ·rw [if_neg h0, if_neg h0]; exact Comp.zB _
def efs (n : Nat) : List Eff → Nat → Int
 | [], _ => 0
 | x :: l, k => if eE n k x = 0 then efs n l (k + 1) else eE n k x
def XC (L : List Eff) : Nat := (L.map fun x => x.1.length).sum
def ckJ (j : Job) : Int := if fit j.1 j.2.1 = 0 then if 8 < j.2.2.1.length then 2 else if efs j.2.2.1.length j.2.2.1 0 = 0 then if 24 < j.2.1.2.2.1.length + XC j.2.2.1 then 2 else 0 else efs j.2.2.1.length j.2.2.1 0 else fit j.1 j.2.1
theorem wv {j : Job} (hw : j.1.2.2.1.length < 9223372036854775807) (hs : ∀ x ∈ j.2.2.1, SmE x) : (Y5 j).val = some (ckJ j, ()) := by
 unfold Y5 ckJ
 rw [zA, Zc hw, zFq]
 by_cases hck : ckP j.1 = 0
 ·rw [if_neg (by rw [zX]; simp [hck]), zA, tz, zFq, ya]
  cases hfb : YB j.1 j.2.1 with
  | false =>
   have hf : fit j.1 j.2.1 = 4 := by unfold fit; rw [if_pos hck, hfb]; rfl
   rw [if_pos (by simp), if_neg (by rw [hf]; decide), hf, Comp.zB]
  | true =>
   have hf : fit j.1 j.2.1 = 0 := by unfold fit; rw [if_pos hck, hfb]; rfl
   obtain ⟨_, _, f1, f2, f3, f4, hn, hwn⟩ := tJ hf
   rw [if_neg (by simp), if_pos hf]
   by_cases h8 : 8 < j.2.2.1.length
   ·rw [if_pos (by rw [z8, zC]; omega), if_pos h8, Comp.zB]
   ·rw [if_neg (by rw [z8, zC]; omega), if_neg h8]
    generalize hL : j.2.2.1 = L at h8 hs
    have key : ∀ (ys zs : List Eff) (c : Nat), L = zs ++ ys → c + ys.length * 100000 ≤ 10000000 → (Comp.loop
          (fun (x : Int × Int) => if ltI x.2 (zD L) = true then
            (idx L x.2).bind fun (x_1 :
               List (List (Pln)) × List (List (Pln)) × Int × List Int × Unit) =>
             (Go.F.ZM L x.2).bind fun x_2 => if neI x_2.1 0 = true then Comp.pure (Comp.Step.done (Sum.inr x_2.1))
              else Comp.pure (Comp.Step.next (zI .i64 x.1 (zD x_1.1), zI .i64 x.2 1))
           else Comp.pure (Comp.Step.done (Sum.inl x.1 : Int ⊕ Int))) ((c : Int), (zs.length : Int))).val = some (if efs L.length ys zs.length = 0 then .inl ((c + XC ys : Nat) : Int) else .inr (efs L.length ys zs.length)) := by
     intro ys
     induction ys with
     | nil =>
      intro zs c hx _
      rw [zL, if_neg (by rw [zF, zC, hx]; simp), Comp.zB]; rfl
     | cons y ys ih =>
      intro zs c hx hc
      have hy : L[zs.length]? = some y := by rw [hx]; simp
      have hlt := zK hy
      have hsy := hs y (List.mem_of_getElem? hy)
      have hcy := hsy.1
      simp only [List.length_cons] at hc
      rw [zL, if_pos (by rw [zF, zC]; show (zs.length : Int) < _; omega), zA, zG hy, zFq, zA, Bj hy hsy (by omega), zFq]
      show _ = some (if (if eE L.length zs.length y = 0 then efs L.length ys (zs.length + 1) else eE L.length zs.length y) = 0 then _ else Sum.inr (if eE L.length zs.length y = 0 then efs L.length ys (zs.length + 1) else eE L.length zs.length y))
      by_cases he : eE L.length zs.length y = 0
      ·rw [if_neg (by rw [zX]; simp [he]), if_pos he, Comp.zB, zFq, zM (by omega)]
       have hadd : zI .i64 (c : Int) (zD y.1) = ((c + y.1.length : Nat) : Int) := by rw [zC, yC (by omega)]; omega
       rw [hadd]
       have := ih (zs ++ [y]) (c + y.1.length) (by rw [hx]; simp) (by omega)
       rw [show (zs ++ [y]).length = zs.length + 1 by simp] at this
       rw [show c + XC (y :: ys) = c + y.1.length + XC ys by unfold XC; rw [List.map_cons, List.sum_cons]; omega]
       exact this
      ·rw [if_pos (by rw [zX]; exact he), if_neg he, if_neg he, Comp.zB, zFq]
    have h0 := key L [] j.2.1.2.2.1.length rfl (by omega)
    rw [zA]
    refine (congrArg (fun o => Option.bind o _) h0).trans ?_
    rw [zFq]
    simp only [List.length_nil]
    by_cases he : efs L.length L 0 = 0
    ·rw [if_pos he, if_pos he]
     show (if gtI ((j.2.1.2.2.1.length + XC L : Nat) : Int) 24 = true then _ else _ : Comp (Int × Unit)).val = _
     by_cases h24 : 24 < j.2.1.2.2.1.length + XC L
     ·rw [if_pos (by rw [z8]; omega), if_pos h24, Comp.zB]
     ·rw [if_neg (by rw [z8]; omega), if_neg h24, Comp.zB]
    ·rw [if_neg he, if_neg he]; exact Comp.zB _
 ·have hf : fit j.1 j.2.1 = ckP j.1 := by unfold fit; rw [if_neg hck]
  rw [if_pos (by rw [zX]; exact hck), hf, if_neg hck, Comp.zB]
theorem XB {j : Job} (hw : j.1.2.2.1.length < 9223372036854775807) (hs : ∀ x ∈ j.2.2.1, SmE x) : (vJ j).val = some (ckJ j, ()) := by
 unfold vJ ckJ
 rw [zA, jX hw, zFq]
 by_cases hck : ckP j.1 = 0
 ·rw [if_neg (by rw [zX]; simp [hck]), zA, KQ, zFq, ya]
  cases hfb : YB j.1 j.2.1 with
  | false =>
   have hf : fit j.1 j.2.1 = 4 := by unfold fit; rw [if_pos hck, hfb]; rfl
   rw [if_pos (by simp), if_neg (by rw [hf]; decide), hf, Comp.zB]
  | true =>
   have hf : fit j.1 j.2.1 = 0 := by unfold fit; rw [if_pos hck, hfb]; rfl
   obtain ⟨_, _, f1, f2, f3, f4, hn, hwn⟩ := tJ hf
   rw [if_neg (by simp), if_pos hf]
   by_cases h8 : 8 < j.2.2.1.length
   ·rw [if_pos (by rw [z8, zC]; omega), if_pos h8, Comp.zB]
   ·rw [if_neg (by rw [z8, zC]; omega), if_neg h8]
    generalize hL : j.2.2.1 = L at h8 hs
    have key : ∀ (ys zs : List Eff) (c : Nat), L = zs ++ ys → c + ys.length * 100000 ≤ 10000000 → (Comp.loop
          (fun (x : Int × Int) => if ltI x.2 (zD L) = true then
            (Go.F.vj L x.2).bind fun x_1 => if neI x_1.1 0 = true then Comp.pure (Comp.Step.done (Sum.inr x_1.1))
             else
              (idx L x.2).bind fun (x_2 :
                 List (List (Pln)) × List (List (Pln)) × Int × List Int × Unit) =>
               Comp.pure (Comp.Step.next (zI .i64 x.1 (zD x_2.1), zI .i64 x.2 1))
           else Comp.pure (Comp.Step.done (Sum.inl x.1 : Int ⊕ Int))) ((c : Int), (zs.length : Int))).val = some (if efs L.length ys zs.length = 0 then .inl ((c + XC ys : Nat) : Int) else .inr (efs L.length ys zs.length)) := by
     intro ys
     induction ys with
     | nil =>
      intro zs c hx _
      rw [zL, if_neg (by rw [zF, zC, hx]; simp), Comp.zB]; rfl
     | cons y ys ih =>
      intro zs c hx hc
      have hy : L[zs.length]? = some y := by rw [hx]; simp
      have hlt := zK hy
      have hsy := hs y (List.mem_of_getElem? hy)
      have hcy := hsy.1
      simp only [List.length_cons] at hc
      rw [zL, if_pos (by rw [zF, zC]; show (zs.length : Int) < _; omega), zA, nD hy hsy (by omega), zFq]
      show _ = some (if (if eE L.length zs.length y = 0 then efs L.length ys (zs.length + 1) else eE L.length zs.length y) = 0 then _ else Sum.inr (if eE L.length zs.length y = 0 then efs L.length ys (zs.length + 1) else eE L.length zs.length y))
      by_cases he : eE L.length zs.length y = 0
      ·rw [if_neg (by rw [zX]; simp [he]), if_pos he, zA, zG hy, zFq, Comp.zB, zFq, zM (by omega)]
       have hadd : zI .i64 (c : Int) (zD y.1) = ((c + y.1.length : Nat) : Int) := by rw [zC, yC (by omega)]; omega
       rw [hadd]
       have := ih (zs ++ [y]) (c + y.1.length) (by rw [hx]; simp) (by omega)
       rw [show (zs ++ [y]).length = zs.length + 1 by simp] at this
       rw [show c + XC (y :: ys) = c + y.1.length + XC ys by unfold XC; rw [List.map_cons, List.sum_cons]; omega]
       exact this
      ·rw [if_pos (by rw [zX]; exact he), if_neg he, if_neg he, Comp.zB, zFq]
    have h0 := key L [] j.2.1.2.2.1.length rfl (by omega)
    rw [zA]
    refine (congrArg (fun o => Option.bind o _) h0).trans ?_
    rw [zFq]
    simp only [List.length_nil]
    by_cases he : efs L.length L 0 = 0
    ·rw [if_pos he, if_pos he]
     show (if gtI ((j.2.1.2.2.1.length + XC L : Nat) : Int) 24 = true then _ else _ : Comp (Int × Unit)).val = _
     by_cases h24 : 24 < j.2.1.2.2.1.length + XC L
     ·rw [if_pos (by rw [z8]; omega), if_pos h24, Comp.zB]
     ·rw [if_neg (by rw [z8]; omega), if_neg h24, Comp.zB]
    ·rw [if_neg he, if_neg he]; exact Comp.zB _
 ·have hf : fit j.1 j.2.1 = ckP j.1 := by unfold fit; rw [if_neg hck]
  rw [if_pos (by rw [zX]; exact hck), hf, if_neg hck, Comp.zB]
def YZ (n : Nat) (k : Int) : Bool := decide (k < 0) || decide ((n : Int) ≤ k)
def twc : List Int → List Int → Bool
 | _, [] => false
 | seen, k :: l => seen.contains k || twc (seen ++ [k]) l
def lsd (n : Nat) (done : List Int) : Int := bif done.any (YZ n) then 5 else bif twc [] done then 6 else 0
theorem Bb {n : Nat} {done : List Int} (hd : done.length ≤ 1000000) (hn : n ≤ 1000000) : (YU (n : Int) done).val = some (lsd n done, ()) := by
 unfold YU lsd
 have hc : (zR done fun z => gh z.1 (n : Int)).val = some (done.any (YZ n), ()) :=
  ki (xs := done) (f := fun z => gh z.1 (n : Int)) (p := YZ n) (by omega) fun k _ => by
   show (gh k (n : Int)).val = _
   unfold gh
   rw [Comp.zB, vk]; rfl
 rw [zA, hc, zFq]
 cases done.any (YZ n) with
 | true => rw [if_pos rfl, Comp.zB]; rfl
 | false =>
  rw [if_neg (by simp)]
  have inner : ∀ (k : Int) (l : List Int), l.length ≤ 1000000 → (Comp.loop
              (fun (x : Int × Int) => if ltI x.2 (zD l) = true then
                (idx l x.2).bind fun x_3 => if eqI k x_3 = true then Comp.pure (Comp.Step.done (Sum.inl 6)) else Comp.pure (Comp.Step.next (x.1, zI .i64 x.2 1))
               else Comp.pure (Comp.Step.done (Sum.inr x.1 : Int ⊕ Int)))
              (0, 0)).val = some (bif l.contains k then .inl 6 else .inr 0) := by
   intro k l hl
   have h1 := Xu (fun (_ : Unit) i => (((0 : Int), ((i : Nat) : Int)) : Int × Int)) l (fun (_ : Unit) m => if (!decide (k = m)) = true then Comp.Step.next () else Comp.Step.done (Sum.inl 6 : Int ⊕ Int)) (fun _ => (Sum.inr 0 : Int ⊕ Int)) ()
    (body := (fun (x : Int × Int) => if ltI x.2 (zD l) = true then
                (idx l x.2).bind fun x_3 => if eqI k x_3 = true then Comp.pure (Comp.Step.done (Sum.inl 6)) else Comp.pure (Comp.Step.next (x.1, zI .i64 x.2 1))
               else Comp.pure (Comp.Step.done (Sum.inr x.1 : Int ⊕ Int))))
    (fun s i m hm => by
     have hlt := zK hm
     rw [if_pos (by rw [zF, zC]; show (i : Int) < _; omega), zA, zG hm, zFq, zM (by omega), show eqI k m = decide (k = m) from rfl]
     cases decide (k = m) <;> exact Comp.zB _)
    (fun s => by rw [if_neg (by rw [zF, zC]; simp), Comp.zB])
   rw [KY] at h1
   have : (l.all fun m => !decide (k = m)) = !l.contains k := by
    rw [List.all_eq_not_any_not]
    simp only [Bool.not_not]
    congr 1
    rw [Bool.eq_iff_iff, List.any_eq_true, List.contains_iff_mem]
    constructor
    ·rintro ⟨m, h1, h2⟩
     have : k = m := by simpa using h2
     rw [this]; exact h1
    ·exact fun h => ⟨k, h, by simp⟩
   rw [this] at h1
   refine h1.trans ?_
   cases l.contains k <;> rfl
  have key : ∀ (ys zs : List Int), done = zs ++ ys → (Comp.loop
       (fun (x : Int × Int) => if ltI x.2 (zD done) = true then
         (idx done x.2).bind fun x_1 => (sub done 0 x.2).bind fun x_2 => (Comp.loop
              (fun (x : Int × Int) => if ltI x.2 (zD x_2) = true then
                (idx x_2 x.2).bind fun x_3 => if eqI x_1 x_3 = true then Comp.pure (Comp.Step.done (Sum.inl 6)) else Comp.pure (Comp.Step.next (x.1, zI .i64 x.2 1))
               else Comp.pure (Comp.Step.done (Sum.inr x.1)))
              (x.1, 0)).bind fun (x_3 : Int ⊕ Int) => match x_3 with
            | Sum.inl x => Comp.pure (Comp.Step.done x)
            | Sum.inr x_4 => Comp.pure (Comp.Step.next (x_4, zI .i64 x.2 1))
        else Comp.pure (Comp.Step.done x.1)) (0, (zs.length : Int))).val = some (bif twc zs ys then 6 else 0) := by
   intro ys
   induction ys with
   | nil =>
    intro zs hx
    rw [zL, if_neg (by rw [zF, zC, hx]; simp), Comp.zB]; rfl
   | cons y ys ih =>
    intro zs hx
    have hy : done[zs.length]? = some y := by rw [hx]; simp
    have hlt := zK hy
    have ht : done.take zs.length = zs := by rw [hx]; simp
    rw [zL, if_pos (by rw [zF, zC]; show (zs.length : Int) < _; omega), zA, zG hy, zFq, zA, Cv (by omega), zFq, ht, zA]
    refine (congrArg (fun o => Option.bind (Option.bind o _) _) (inner y zs (by omega))).trans ?_
    rw [zFq]
    unfold twc
    cases zs.contains y with
    | true => exact (congrArg (fun o => Option.bind o _) (Comp.zB _)).trans rfl
    | false =>
     refine (congrArg (fun o => Option.bind o _) (Comp.zB _)).trans ?_
     rw [zFq, zM (by omega)]
     simpa using ih (zs ++ [y]) (by rw [hx]; simp)
  rw [zA]
  refine (congrArg (fun o => Option.bind o _) (key done [] rfl)).trans ?_
  rw [zFq]
  exact Comp.zB _
def opn (L : List Eff) (k : Int) : Eff := L.getD k.toNat ([], [], 0, [], ())
def jk (L : List Eff) (done : List Int) : List Cell := done.flatMap fun k => (opn L k).1
def YY (L : List Eff) (done : List Int) : List Cell := done.flatMap fun k => (opn L k).2.1
def gw (j : Job) (want : List Int) : Part := (j.1.1, j.1.2.1, want, ())
def kY (j : Job) (want done : List Int) : List Int × Int :=
 if ckJ j = 0 then if ckP (gw j want) = 0 then if lsd j.2.2.1.length done = 0 then
  if (apl (gw j want) j.2.1 (jk j.2.2.1 done) (YY j.2.2.1 done)).2 = 0 then
   if vd (gw j want) (apl (gw j want) j.2.1 (jk j.2.2.1 done) (YY j.2.2.1 done)).1 = 35 then (done, 0) else (done.filter fun k => usl (gw j want) (opn j.2.2.1 k).1, 0)
  else ([], (apl (gw j want) j.2.1 (jk j.2.2.1 done) (YY j.2.2.1 done)).2)
  else ([], lsd j.2.2.1.length done) else ([], ckP (gw j want)) else ([], ckJ j)
theorem vu {f : Int → List Cell} (h : ∀ k, (f k).length ≤ 100000) : ∀ (done : List Int), (done.flatMap f).length ≤ done.length * 100000
 | [] => by simp
 | k :: done => by
  have := vu h done
  have := h k
  simp only [List.flatMap_cons, zFt, List.length_cons]; omega
theorem Zo {L : List Eff} (hs : ∀ x ∈ L, SmE x) (k : Int) : SmE (opn L k) := by
 unfold opn
 rw [List.getD_eq_getElem?_getD]
 cases h : L[k.toNat]? with
 | none => exact ⟨by simp, by simp, by simp⟩
 | some x => exact hs x (List.mem_of_getElem? h)
theorem Cb {n : Nat} {done : List Int} (h : lsd n done = 0) : ∀ k ∈ done, 0 ≤ k ∧ k < n := by
 unfold lsd at h
 cases ho : done.any (YZ n) with
 | true => rw [ho] at h; cases h
 | false =>
  rw [List.any_eq_false] at ho
  intro k hk
  have := ho k hk
  unfold YZ at this
  simp at this
  omega
theorem XG {L : List Eff} {k : Int} (h : 0 ≤ k ∧ k < L.length) : (idx L k).val = some (opn L k) := by
 obtain ⟨x, hx⟩ := zN (xs := L) (k := k.toNat) (by omega)
 rw [Jz h.1 hx]
 unfold opn
 rw [yZ hx]
theorem HD {L : List Eff} {done : List Int} (hd : done.length ≤ 1000) (hs : ∀ x ∈ L, SmE x) (hin : ∀ k ∈ done, 0 ≤ k ∧ k < L.length) : (Comp.loop
       (fun (x : List (List (Pln)) × List (List (Pln)) × Int) => if ltI x.2.2 (zD done) = true then
         (idx done x.2.2).bind fun x_1 => (idx L x_1).bind fun (x_2 :
             List (List (Pln)) × List (List (Pln)) × Int × List Int × Unit) =>
           (idx L x_1).bind fun (x_3 :
              List (List (Pln)) × List (List (Pln)) × Int × List Int × Unit) =>
            (app x.1 x_2.1).bind fun zs => (app x.2.1 x_3.2.1).bind fun zs_1 => Comp.pure (Comp.Step.next (zs, zs_1, zI .i64 x.2.2 1))
        else Comp.pure (Comp.Step.done (x.1, x.2.1)))
       ([], [], 0)).val = some (jk L done, YY L done) := by
 have key : ∀ (ys zs : List Int), done = zs ++ ys → (Comp.loop
       (fun (x : List (List (Pln)) × List (List (Pln)) × Int) => if ltI x.2.2 (zD done) = true then
         (idx done x.2.2).bind fun x_1 => (idx L x_1).bind fun (x_2 :
             List (List (Pln)) × List (List (Pln)) × Int × List Int × Unit) =>
           (idx L x_1).bind fun (x_3 :
              List (List (Pln)) × List (List (Pln)) × Int × List Int × Unit) =>
            (app x.1 x_2.1).bind fun zs => (app x.2.1 x_3.2.1).bind fun zs_1 => Comp.pure (Comp.Step.next (zs, zs_1, zI .i64 x.2.2 1))
        else Comp.pure (Comp.Step.done (x.1, x.2.1))) (jk L zs, YY L zs, (zs.length : Int))).val = some (jk L done, YY L done) := by
  intro ys
  induction ys with
  | nil =>
   intro zs hx
   rw [zL, if_neg (by rw [zF, zC, hx]; simp), Comp.zB, zFq, hx, List.append_nil]
  | cons y ys ih =>
   intro zs hx
   have hy : done[zs.length]? = some y := by rw [hx]; simp
   have hlt := zK hy
   have h1 := XG (hin y (List.mem_of_getElem? hy))
   have hsm := Zo hs y
   have hz1 : (jk L zs).length ≤ zs.length * 100000 := vu (fun k => (Zo hs k).1) zs
   have hz2 : (YY L zs).length ≤ zs.length * 100000 := vu (fun k => (Zo hs k).2.1) zs
   have hs1 := hsm.1
   have hs2 := hsm.2.1
   have hzl : zs.length ≤ 1000 := by omega
   have c1 : jk L (zs ++ [y]) = jk L zs ++ (opn L y).1 := by unfold jk; simp
   have c2 : YY L (zs ++ [y]) = YY L zs ++ (opn L y).2.1 := by unfold YY; simp
   rw [zL, if_pos (by rw [zF, zC]; show (zs.length : Int) < _; omega), zA, zG hy, zFq, zA, h1, zFq, zA, h1, zFq,
    zA, zo (by show (jk L zs).length + _ ≤ _; unfold LIM; omega), zFq, zA, zo (by show (YY L zs).length + _ ≤ _; unfold LIM; omega), zFq, Comp.zB, zFq, zM (by omega)]
   have := ih (zs ++ [y]) (by rw [hx]; simp)
   rw [c1, c2, zFt, zFv] at this
   exact this
 exact key done [] rfl
theorem Ev {c1 c2 c3 : Comp (Int × Unit)} {e1 e2 e3 : Int} (h1 : c1.val = some (e1, ())) (h2 : c2.val = some (e2, ())) (h3 : e1 = 0 → e2 = 0 → c3.val = some (e3, ())) : (Comp.loop
     (fun (x : Int) => if
        ltI x
          (zD
           [fun (z : Unit) => c1, fun (z : Unit) => c2, fun (z : Unit) => c3]) =
         true then
       (idx
          [fun (z : Unit) => c1, fun (z : Unit) => c2, fun (z : Unit) => c3]
          x).bind fun x_1 => (x_1 ()).bind fun x_2 => if neI x_2.1 0 = true then Comp.pure (Comp.Step.done (Sum.inr (([], x_2.1) : List Int × Int) : Unit ⊕ List Int × Int)) else Comp.pure (Comp.Step.next (zI .i64 x 1))
      else Comp.pure (Comp.Step.done (Sum.inl ())))
     0).val = some (if e1 = 0 then if e2 = 0 then if e3 = 0 then .inl () else .inr ([], e3) else .inr ([], e2) else .inr ([], e1)) := by
 generalize hL : [fun (z : Unit) => c1, fun (z : Unit) => c2, fun (z : Unit) => c3] = L
 have l0 : (idx L ((0 : Nat) : Int)).val = some (fun _ => c1) := zG (by rw [← hL]; rfl)
 have l1 : (idx L ((1 : Nat) : Int)).val = some (fun _ => c2) := zG (by rw [← hL]; rfl)
 have l2 : (idx L ((2 : Nat) : Int)).val = some (fun _ => c3) := zG (by rw [← hL]; rfl)
 have hlen : zD L = 3 := by rw [← hL]; rfl
 show (Comp.loop _ ((0 : Nat) : Int)).val = _
 rw [zL, if_pos (by rw [zF, hlen]; decide), zA, l0, zFq, zA, h1, zFq]
 by_cases he1 : e1 = 0
 ·rw [if_neg (by rw [zX]; simp [he1]), if_pos he1, Comp.zB, zFq]
  show (Comp.loop _ ((1 : Nat) : Int)).val = _
  rw [zL, if_pos (by rw [zF, hlen]; decide), zA, l1, zFq, zA, h2, zFq]
  by_cases he2 : e2 = 0
  ·rw [if_neg (by rw [zX]; simp [he2]), if_pos he2, Comp.zB, zFq]
   show (Comp.loop _ ((2 : Nat) : Int)).val = _
   rw [zL, if_pos (by rw [zF, hlen]; decide), zA, l2, zFq, zA, h3 he1 he2, zFq]
   by_cases he3 : e3 = 0
   ·rw [if_neg (by rw [zX]; simp [he3]), if_pos he3, Comp.zB, zFq]
    show (Comp.loop _ ((3 : Nat) : Int)).val = _
    rw [zL, if_neg (by rw [zF, hlen]; decide), Comp.zB, zFq]
   ·rw [if_pos (by rw [zX]; exact he3), if_neg he3, Comp.zB, zFq]
  ·rw [if_pos (by rw [zX]; exact he2), if_neg he2, Comp.zB, zFq]
 ·rw [if_pos (by rw [zX]; exact he1), if_neg he1, Comp.zB, zFq]
structure SmJ (j : Job) : Prop where
 w : j.1.2.2.1.length < 9223372036854775807
 e : ∀ x ∈ j.2.2.1, SmE x
 n : j.2.2.1.length ≤ 1000000
theorem uX {j : Job} {want done : List Int} (hj : SmJ j) (hwt : want.length < 9223372036854775807) (hd : done.length ≤ 1000) : (Z1 j want done).val = some ((kY j want done).1, (kY j want done).2, ()) := by
 unfold Z1 kY
 have e1 : (kX j).val = some (ckJ j, ()) := by unfold kX; rw [zA, wv hj.w hj.e, zFq, Comp.zB]
 have e2 : (kW (gw j want)).val = some (ckP (gw j want), ()) := by unfold kW; rw [zA, Zc (p := gw j want) hwt, zFq, Comp.zB]
 have e3 : (kV j done).val = some (lsd j.2.2.1.length done, ()) := by unfold kV; rw [zA, zC, Bb (by omega) hj.n, zFq, Comp.zB]
 rw [zA]
 refine (congrArg (fun o => Option.bind o _) (Ev e1 e2 (fun _ _ => e3))).trans ?_
 rw [zFq]
 by_cases h1 : ckJ j = 0
 ·rw [if_pos h1, if_pos h1]
  by_cases h2 : ckP (gw j want) = 0
  ·rw [if_pos h2, if_pos h2]
   by_cases h3 : lsd j.2.2.1.length done = 0
   ·rw [if_pos h3, if_pos h3]
    have hin := Cb h3
    have hc1 : (jk j.2.2.1 done).length ≤ 100000000 := by have := vu (fun k => (Zo hj.e k).1) done; unfold jk; omega
    have hc2 : (YY j.2.2.1 done).length ≤ 100000000 := by have := vu (fun k => (Zo hj.e k).2.1) done; unfold YY; omega
    show (Comp.bind (Comp.loop _ _) _).val = _
    rw [zA]
    refine (congrArg (fun o => Option.bind o _) (HD hd hj.e hin)).trans ?_
    rw [zFq, zA]
    refine (congrArg (fun o => Option.bind o _) (Gt (p := gw j want) (x := j.2.1) hwt hc1 hc2)).trans ?_
    rw [zFq]
    simp only
    by_cases h4 : (apl (gw j want) j.2.1 (jk j.2.2.1 done) (YY j.2.2.1 done)).2 = 0
    ·rw [if_neg (by rw [zX]; simp [h4]), if_pos h4, zA]
     refine (congrArg (fun o => Option.bind o _) (pz (p := gw j want) hwt)).trans ?_
     rw [zFq]
     have hcl : (gD done).val = some (done, ()) := KD (by unfold LIM; omega)
     by_cases h5 : vd (gw j want) (apl (gw j want) j.2.1 (jk j.2.2.1 done) (YY j.2.2.1 done)).1 = 35
     ·rw [if_pos (by rw [yd]; exact h5), if_pos h5, zA, hcl, zFq, Comp.zB]
     ·have hpw : (gw j want).2.2.1.length = (gw j want).2.1.length ∧ (gw j want).2.1.length ≤ 16 := by
       unfold ckP at h2
       split at h2
       ·cases h2
       ·split at h2
        ·cases h2
        ·omega
      have hdel : (vv done fun z => jg z.1 (gw j want) j).val = some (done.filter fun k => usl (gw j want) (opn j.2.2.1 k).1) := by
       refine (Dg (z := (0 : Int)) (f := fun z => jg z.1 (gw j want) j) (p := fun k => !usl (gw j want) (opn j.2.2.1 k).1) (by omega) fun k hk => ?_).trans ?_
       ·show (jg k (gw j want) j).val = _
        unfold jg
        rw [zA, XG (hin k hk), zFq, zA, p6 (by omega) hpw.1 (by have := (Zo hj.e k).1; omega), zFq, Comp.zB]; rfl
       ·simp only [Bool.not_not]
      rw [if_neg (by rw [yd]; exact h5), if_neg h5, zA, hcl, zFq, zA]
      refine (congrArg (fun o => Option.bind o _) hdel).trans ?_
      rw [zFq, Comp.zB]
    ·rw [if_pos (by rw [zX]; exact h4), if_neg h4, Comp.zB]
   ·rw [if_neg h3, if_neg h3]; exact Comp.zB _
  ·rw [if_neg h2, if_neg h2]; exact Comp.zB _
 ·rw [if_neg h1, if_neg h1]; exact Comp.zB _
abbrev Chg := Int × Int × Int × Unit
theorem Gj {xs : List Int} {n : Int} (hl : xs.length < 9223372036854775807) : (yX xs n).val = some (Nm (fnd (fun x => decide (n = x)) xs 0), ()) := by
 have e : yX xs n = (Comp.loop
   (fun (x : Int) => if ltI x (zD xs) = true then
     (idx xs x).bind fun x_1 => if eqI n x_1 = true then Comp.pure (Comp.Step.done (Sum.inr x)) else Comp.pure (Comp.Step.next (zI .i64 x 1))
    else Comp.pure (Comp.Step.done (Sum.inl ())))
   0).bind fun (x : Unit ⊕ Int) => match x with
  | Sum.inl x => Comp.pure (-1, ())
  | Sum.inr x => Comp.pure (x, ()) := by kernel_rfl
 rw [e]
 have key : ∀ (ys : List Int) (i : Nat), Comp.kN (fun (s : Nat) x => if decide (n = x) = true then Comp.Step.done (Sum.inr ((s : Nat) : Int)) else Comp.Step.next (s + 1)) (fun _ => (Sum.inl () : Unit ⊕ Int)) i ys = match fnd (fun x => decide (n = x)) ys i with | some j => Sum.inr ((j : Nat) : Int) | none => Sum.inl () := by
  intro ys
  induction ys with
  | nil => intro i; rfl
  | cons y ys ih =>
   intro i
   rw [Comp.kN, fnd]
   by_cases hp : decide (n = y) = true
   ·rw [if_pos hp, if_pos hp]
   ·rw [if_neg hp, if_neg hp]; exact ih (i + 1)
 have h := kz (fun (s : Nat) i => ((i : Nat) : Int)) xs (fun (s : Nat) x => if decide (n = x) = true then Comp.Step.done (Sum.inr ((s : Nat) : Int)) else Comp.Step.next (s + 1)) (fun _ => (Sum.inl () : Unit ⊕ Int)) (fun s i => s = i)
  (body := fun (x : Int) => if ltI x (zD xs) = true then
     (idx xs x).bind fun x_1 => if eqI n x_1 = true then Comp.pure (Comp.Step.done (Sum.inr x)) else Comp.pure (Comp.Step.next (zI .i64 x 1))
    else Comp.pure (Comp.Step.done (Sum.inl ())))
  (fun s i x hx hs => by
   subst hs
   have hlt := zK hx
   rw [if_pos (by rw [zF, zC]; omega), zA, zG hx, zFq, zM (show s < 9223372036854775807 by omega), show eqI n x = decide (n = x) from rfl]
   cases decide (n = x) <;> exact Comp.zB _)
  (fun s i x s' hx hs he => by
   subst hs
   by_cases hp : decide (n = x) = true
   ·rw [if_pos hp] at he; cases he
   ·rw [if_neg hp] at he; cases he; rfl)
  (fun s hs => by rw [if_neg (by rw [zF, zC]; omega), Comp.zB]) 0 rfl
 rw [key xs 0] at h
 rw [zA]
 refine (congrArg (fun o => Option.bind o _) h).trans ?_
 rw [zFq]
 cases fnd (fun x => decide (n = x)) xs 0 <;> exact Comp.zB _
def ix (done : List Int) (k : Int) : Nat := (fnd (fun x => decide (k = x)) done 0).getD 0
theorem pA {done : List Int} {k : Int} (h : k ∈ done) : fnd (fun x => decide (k = x)) done 0 = some (ix done k) ∧ done[ix done k]? = some k := by
 have h1 : (fnd (fun x => decide (k = x)) done 0).isSome = true := by rw [wb, List.any_eq_true]; exact ⟨k, h, by simp⟩
 obtain ⟨i, hi⟩ := Option.isSome_iff_exists.1 h1
 have hix : ix done k = i := by unfold ix; rw [hi]; rfl
 rw [hix]
 refine ⟨hi, ?_⟩
 obtain ⟨_, x, h2, h3, _⟩ := J0 hi
 rw [Nat.sub_zero] at h2
 have : k = x := by simpa using h3
 rw [this]; exact h2
def never (d : Int) : Bool := decide (d < 0) || decide (100000 < d)
def tc (done shops days told : List Int) (k : Int) : Int :=
 if told.getD (shops.getD (ix done k) 0).toNat 0 < days.getD (ix done k) 0 then shops.getD (ix done k) 0 else -1
def pQ (j : Job) (done shops days told : List Int) (v : List Int) : List Chg := v.map fun k => (k, tc done shops days told k, (opn j.2.2.1 k).2.2.1, ())
def chg (j : Job) (want done shops days told : List Int) : List Chg × Int :=
 if (kY j want done).2 = 0 then if shops.length ≠ done.length ∨ days.length ≠ done.length then ([], 4) else if 6 < told.length then ([], 2) else if shops.any (YZ told.length) = true then ([], 55) else if days.any never = true ∨ told.any never = true then ([], 3)
  else (pQ j done shops days told (kY j want done).1, 0) else ([], (kY j want done).2)
theorem nx {j : Job} {want done : List Int} : ∀ k ∈ (kY j want done).1, k ∈ done := by
 unfold kY
 intro k hk
 split at hk
 ·split at hk
  ·split at hk
   ·split at hk
    ·split at hk
     ·exact hk
     ·exact (List.mem_filter.1 hk).1
    ·cases hk
   ·cases hk
  ·cases hk
 ·cases hk
theorem Co {j : Job} {want done : List Int} (h : (kY j want done).2 = 0) : lsd j.2.2.1.length done = 0 ∧ ckJ j = 0 := by
 unfold kY at h
 split at h
 ·rename_i h1
  split at h
  ·split at h
   ·rename_i h3; exact ⟨h3, h1⟩
   ·rename_i h3; exact absurd h h3
  ·rename_i h3; exact absurd h h3
 ·rename_i h3; exact absurd h h3
theorem uY {j : Job} {want done : List Int} : (kY j want done).1.length ≤ done.length := by
 unfold kY
 split
 ·split
  ·split
   ·split
    ·split
     ·exact zFu _
     ·exact List.length_filter_le _ _
    ·simp
   ·simp
  ·simp
 ·simp
theorem XY {j : Job} {want done shops days told : List Int} (hj : SmJ j) (hwt : want.length < 9223372036854775807) (hd : done.length ≤ 1000) (hs : shops.length < 9223372036854775807) (hy : days.length < 9223372036854775807) (ht : told.length < 9223372036854775807) :
  (jh j want done shops days told).val = some ((chg j want done shops days told).1, (chg j want done shops days told).2, ()) := by
 unfold jh chg
 rw [zA, uX hj hwt hd, zFq]
 by_cases h0 : (kY j want done).2 = 0
 ·rw [if_neg (by rw [zX]; simp [h0]), if_pos h0]
  by_cases h1 : shops.length ≠ done.length ∨ days.length ≠ done.length
  ·rw [if_pos (by rw [vk, Bool.or_eq_true, zX, zX, zC, zC, zC]; omega), if_pos h1, Comp.zB]
  ·rw [if_neg (by rw [vk, Bool.or_eq_true, zX, zX, zC, zC, zC]; omega), if_neg h1]
   by_cases h2 : 6 < told.length
   ·rw [if_pos (by rw [z8, zC]; omega), if_pos h2, Comp.zB]
   ·rw [if_neg (by rw [z8, zC]; omega), if_neg h2]
    have c1 : (zR shops fun z => gA z.1 told).val = some (shops.any (YZ told.length), ()) :=
     ki (xs := shops) (f := fun z => gA z.1 told) (p := YZ told.length) hs fun k _ => by
      show (gA k told).val = _
      unfold gA
      rw [Comp.zB, vk]; rfl
    have cn : ∀ l : List Int, l.length < 9223372036854775807 → (zR l fun z => yr z.1).val = some (l.any never, ()) := fun l hl => ki (xs := l) (f := fun z => yr z.1) (p := never) hl fun k _ => by
      show (yr k).val = _
      unfold yr
      rw [Comp.zB, vk]; rfl
    rw [zA, c1, zFq]
    by_cases h3 : shops.any (YZ told.length) = true
    ·rw [if_pos h3, if_pos h3, Comp.zB]
    ·rw [if_neg h3, if_neg h3, zA, cn days hy, zFq, zA]
     have hgd : (Comp.gd (ntB (days.any never)) (zR told fun z => yr z.1) (false, ())).val = some (bif days.any never then false else told.any never, ()) := by
      cases days.any never with
      | true => exact Comp.zB _
      | false => exact cn told ht
     refine (congrArg (fun o => Option.bind o _) hgd).trans ?_
     rw [zFq]
     by_cases h4 : days.any never = true ∨ told.any never = true
     ·rw [if_pos (by
       show sel (days.any never) true (bif days.any never then false else told.any never) = true
       cases hh : days.any never with
       | true => rfl
       | false => rw [hh] at h4; simpa [sel] using h4), if_pos h4, Comp.zB]
     ·rw [if_neg (by
       show ¬ sel (days.any never) true (bif days.any never then false else told.any never) = true
       rw [not_or] at h4
       have a1 : days.any never = false := by simpa using h4.1
       have a2 : told.any never = false := by simpa using h4.2
       rw [a1, a2]; simp [sel]), if_neg h4]
      obtain ⟨hl0, hck⟩ := Co h0
      have hin := Cb hl0
      have hsub := nx (j := j) (want := want) (done := done)
      have hvl := uY (j := j) (want := want) (done := done)
      generalize hv : (kY j want done).1 = v at hsub hvl
      have hw := gm v.length (fun k l => match v[k]? with | some n => l ++ [(n, tc done shops days told n, (opn j.2.2.1 n).2.2.1, ())] | none => l) (fun k l => l ++ pQ j done shops days told (v.drop k)) (fun l k => l.length = k)
       (body := (fun (x : List (Int × Int × Int × Unit) × Int) => if ltI x.2 (zD v) = true then
                (idx v x.2).bind fun x_2 => (Go.F.yX done x_2).bind fun x_3 => (idx shops x_3.1).bind fun x_4 => (idx days x_3.1).bind fun x_5 => (idx told x_4).bind fun x_6 => jn
                      (fun (x_7 : Int) => (idx j.2.2.1 x_2).bind fun (x_8 :
                          List (List (Pln)) × List (List (Pln)) × Int × List Int × Unit) =>
                        (app x.1 [(x_2, x_7, x_8.2.2.1, ())]).bind fun zs => Comp.pure (Comp.Step.next (zs, zI .i64 x.2 1)))
                      fun (j : Int → Comp (Comp.Step (List (Int × Int × Int × Unit) × Int) (List (Int × Int × Int × Unit)))) => if gtI x_5 x_6 = true then j x_4 else j (-1)
               else Comp.pure (Comp.Step.done x.1)))
       (fun l k hk hI => by
        obtain ⟨n, hn⟩ := zN (xs := v) (k := k) hk
        have hnd := hsub n (List.mem_of_getElem? hn)
        obtain ⟨g1, g2⟩ := pA hnd
        have hil := zK g2
        have hi : (yX done n).val = some (((ix done n : Nat) : Int), ()) := by rw [Gj (by omega), g1]; rfl
        obtain ⟨s, hs'⟩ := zN (xs := shops) (k := ix done n) (by omega)
        obtain ⟨d, hd'⟩ := zN (xs := days) (k := ix done n) (by omega)
        have hsr : 0 ≤ s ∧ s < told.length := by
         have : shops.any (YZ told.length) = false := by simpa using h3
         rw [List.any_eq_false] at this
         have := this s (List.mem_of_getElem? hs')
         unfold YZ at this
         simp at this
         omega
        obtain ⟨t, ht'⟩ := zN (xs := told) (k := s.toNat) (by omega)
        refine ⟨?_, by rw [hn]; simp [hI], by rw [drop_cons hn, hn]; simp [pQ]⟩
        rw [hn]
        simp only
        rw [if_pos (by rw [zF, zC]; show (k : Int) < _; omega), zA, zG hn, zFq, zA, hi, zFq, zA, zG hs', zFq, zA, zG hd', zFq, zA, Jz hsr.1 ht', zFq, vb]
        have hjn : ∀ pay : Int, ((idx j.2.2.1 n).bind fun (x_8 :
                          List (List (Pln)) × List (List (Pln)) × Int × List Int × Unit) =>
                        (app l [(n, pay, x_8.2.2.1, ())]).bind fun zs => (Comp.pure (Comp.Step.next (zs, zI .i64 (k : Int) 1)) : Comp (Comp.Step (List Chg × Int) (List Chg)))).val = some (.next (l ++ [(n, pay, (opn j.2.2.1 n).2.2.1, ())], ((k + 1 : Nat) : Int))) := fun pay => by
         rw [zA, XG (hin n hnd), zFq, zA, zo (by simp only [zFv]; unfold LIM; omega), zFq, Comp.zB, zM (by omega)]
        have hpay : tc done shops days told n = if t < d then s else -1 := by
         unfold tc
         rw [yZ hs', yZ hd', yZ ht']
        rw [hpay]
        by_cases hlt : t < d
        ·rw [if_pos (by rw [z8]; exact hlt), if_pos hlt]; exact hjn s
        ·rw [if_neg (by rw [z8]; exact hlt), if_neg hlt]; exact hjn (-1))
       (fun l => by rw [if_neg (by rw [zF, zC]; simp), Comp.zB]) (fun l => by rw [List.drop_length]; simp [pQ]) 0 [] (Nat.zero_le _) rfl
      rw [zA]
      refine (congrArg (fun o => Option.bind o _) hw).trans ?_
      rw [zFq, Comp.zB]
      simp
 ·rw [if_pos (by rw [zX]; exact h0), if_neg h0, Comp.zB]
def gt0 (m : List (Int × Int)) (p : Int) : Int := match mgB (fun (x y : Int) => eqI x y) m p with
 | some x => x
 | none => 0
theorem zBs {m : List (Int × Int)} {q v p : Int} : mgB (fun (x y : Int) => eqI x y) (mpB (fun (x y : Int) => eqI x y) m q v) p = if p = q then some v else mgB (fun (x y : Int) => eqI x y) m p := by
 induction m with
 | nil =>
  show (bif eqI p q then some v else none) = _
  unfold eqI
  by_cases h : p = q <;> simp [h, mgB]
 | cons e m ih =>
  obtain ⟨k, u⟩ := e
  show mgB _ (bif eqI q k then (q, v) :: m else (k, u) :: mpB _ m q v) p = _
  by_cases h : q = k
  ·rw [show eqI q k = true by rw [yd]; exact h, cond_true]
   show (bif eqI p q then some v else mgB _ m p) = if p = q then some v else (bif eqI p k then some u else mgB _ m p)
   by_cases hp : p = q
   ·rw [show eqI p q = true by rw [yd]; exact hp, if_pos hp]; rfl
   ·rw [show eqI p q = false by unfold eqI; exact decide_eq_false hp, if_neg hp, show eqI p k = false by unfold eqI; exact decide_eq_false (by rw [← h]; exact hp)]; rfl
  ·rw [show eqI q k = false by unfold eqI; exact decide_eq_false h, cond_false]
   show (bif eqI p k then some u else mgB _ (mpB _ m q v) p) = if p = q then some v else (bif eqI p k then some u else mgB _ m p)
   by_cases hpk : p = k
   ·rw [show eqI p k = true by rw [yd]; exact hpk, cond_true, cond_true, if_neg (by rw [hpk]; exact fun e => h e.symm)]
   ·rw [show eqI p k = false by unfold eqI; exact decide_eq_false hpk, cond_false, cond_false]; exact ih
def smp (l : List Chg) (p : Int) : Int := l.foldl (fun a c => if c.2.1 = p then W (a + c.2.2.1) else a) 0
theorem rT {l : List Chg} {p : Int} (hl : l.length < 9223372036854775807) : (ZY l p).val = some (smp l p, ()) := by
 unfold ZY
 have hw := gm (σ := List (Int × Int)) l.length (fun k m => match l[k]? with | some c => mpB (fun (x y : Int) => eqI x y) m c.2.1 (W (gt0 m c.2.1 + c.2.2.1)) | none => m) (fun k m => (l.drop k).foldl (fun m c => mpB (fun (x y : Int) => eqI x y) m c.2.1 (W (gt0 m c.2.1 + c.2.2.1))) m) (fun _ _ => True)
  (body := (fun (x : List (Int × Int) × Int) => if ltI x.2 (zD l) = true then
       (idx l x.2).bind fun x_1 => Comp.pure
         (Comp.Step.next
          (mpB (fun (x x_2 : Int) => eqI x x_2) x.1 x_1.2.1
            (zI .i64
             (match mgB (fun (x x_2 : Int) => eqI x x_2) x.1 x_1.2.1 with
             | some x => x
             | none => 0)
             x_1.2.2.1),
           zI .i64 x.2 1))
      else Comp.pure (Comp.Step.done x.1)))
  (fun m k hk _ => by
   obtain ⟨c, hc⟩ := zN (xs := l) (k := k) hk
   refine ⟨?_, trivial, by rw [drop_cons hc, hc]; rfl⟩
   rw [hc]
   simp only
   rw [if_pos (by rw [zF, zC]; show (k : Int) < _; omega), zA, zG hc, zFq, Comp.zB, zM (by omega)]
   rfl)
  (fun m => by rw [if_neg (by rw [zF, zC]; simp), Comp.zB]) (fun m => by rw [List.drop_length]; rfl) 0 [] (Nat.zero_le _) trivial
 rw [zA]
 refine (congrArg (fun o => Option.bind o _) hw).trans ?_
 rw [zFq, Comp.zB, List.drop_zero]
 have key : ∀ (l : List Chg) (m : List (Int × Int)) (a : Int), gt0 m p = a → gt0 (l.foldl (fun m c => mpB (fun (x y : Int) => eqI x y) m c.2.1 (W (gt0 m c.2.1 + c.2.2.1))) m) p = l.foldl (fun a c => if c.2.1 = p then W (a + c.2.2.1) else a) a := by
  intro l
  induction l with
  | nil => intro m a h; exact h
  | cons c l ih =>
   intro m a h
   rw [List.foldl_cons, List.foldl_cons]
   refine ih _ _ ?_
   unfold gt0
   rw [zBs]
   by_cases hc : c.2.1 = p
   ·rw [if_pos hc.symm, if_pos hc, hc]
    show W (gt0 m p + c.2.2.1) = _
    rw [h]
   ·rw [if_neg (fun e => hc e.symm), if_neg hc]
    exact h
 exact congrArg (fun a => some (a, ())) (key l [] 0 rfl)
abbrev Drw := List Int × Int × Unit
def DOk (n : Int) (d : Drw) : Prop := 0 ≤ d.2.1 ∧ d.2.1 ≤ n
theorem CY {n m : Int} (hm : 1 ≤ m ∧ m ≤ 1000000) : Ok (yR n m) fun r => 0 ≤ r.1 ∧ r.1 < m := by
 unfold yR
 rw [if_neg (by rw [zF]; omega), Ok.bind, Ok.rem (by omega), Ok.bind]
 have h1 : -m < n.tmod m ∧ n.tmod m < m := by
  have := Int.tmod_lt_of_pos n (show 0 < m by omega)
  have h2 : -m < n.tmod m := by
   rcases Int.le_total 0 n with hn | hn
   ·have := Int.tmod_nonneg m hn; omega
   ·have h3 := Int.tmod_lt_of_pos (-n) (show 0 < m by omega)
    rw [Int.neg_tmod] at h3; omega
  exact ⟨h2, this⟩
 rw [yC (by omega), Ok.rem (by omega), Ok.pure]
 have h3 : 0 ≤ n.tmod m + m := by omega
 refine ⟨?_, ?_⟩
 ·show 0 ≤ (n.tmod m + m).tmod m
  exact Int.tmod_nonneg m h3
 ·show (n.tmod m + m).tmod m < m
  exact Int.tmod_lt_of_pos _ (by omega)
theorem Qz {d : Drw} {m k : Int} (hm : 1 ≤ m ∧ m ≤ 1000000) (hk : 0 ≤ k ∧ k ≤ 1000000000) (hd : DOk k d) : Ok (zJ d m) fun r => DOk (k + 1) r.1.1 ∧ (0 ≤ r.2.1 ∧ r.2.1 < m) := by
 obtain ⟨h1, h2⟩ := hd
 unfold zJ
 by_cases h : (zD d.1) ≤ d.2.1
 ·rw [if_pos (by rw [K8]; exact h), Ok.pure]
  refine ⟨⟨h1, ?_⟩, ?_⟩
  ·show d.2.1 ≤ k + 1; omega
  ·show 0 ≤ (0:Int) ∧ (0:Int) < m; omega
 ·rw [zC] at h
  rw [if_neg (by rw [K8, zC]; exact h), yC (by omega), Zm (by omega), show d.2.1 + 1 - 1 = d.2.1 by omega, Ok.bind]
  obtain ⟨x, hx⟩ := zN (xs := d.1) (k := d.2.1.toNat) (by omega)
  rw [Ok.idx h1 hx, Ok.bind]
  refine (CY hm).mono fun r hr => ?_
  rw [Ok.pure]
  refine ⟨⟨?_, ?_⟩, hr⟩
  ·show 0 ≤ d.2.1 + 1; omega
  ·show d.2.1 + 1 ≤ k + 1; omega
theorem Wb (a b : V3) : Ok (z7 a b) fun r => r.1.length = 6 := by
 unfold z7
 rw [Ok.pure]; rfl
def ju (b n : Nat) (C : List Cell) : Prop := C.length ≤ n ∧ ∀ c ∈ C, c ≠ [] ∧ c.length ≤ b
abbrev wq := ju 10
theorem ju.snoc {b n : Nat} {C : List Cell} {c : Cell} (h : ju b n C) (hc : c ≠ [] ∧ c.length ≤ b) : ju b (n + 1) (C ++ [c]) :=
by
  refine ⟨?_, fun d hd => ?_⟩
  · rw [zFt, zFv]; have := h.1; omega
  · rcases List.mem_append.1 hd with hd | hd
    · exact h.2 d hd
    · rw [List.mem_singleton.1 hd]; exact hc
theorem ju.mono {b n m : Nat} {C : List Cell} (h : ju b n C) (hnm : n ≤ m) : ju b m C := ⟨Nat.le_trans h.1 hnm, h.2⟩
theorem ju.wide {b d n : Nat} {C : List Cell} (h : ju b n C) (hbd : b ≤ d) : ju d n C := ⟨h.1, fun c hc => ⟨(h.2 c hc).1, Nat.le_trans (h.2 c hc).2 hbd⟩⟩
theorem I7 {c : Cell} (h : c.length = 6) : c ≠ [] ∧ c.length ≤ 6 := by
 refine ⟨fun e => ?_, ?_⟩
 ·rw [e] at h; cases h
 ·omega
theorem yT {d : Drw} {m k : Int} {f : ((Drw × Unit) × Int × Unit) → Comp α} {P : α → Prop} (hd : DOk k d) (hm : 1 ≤ m ∧ m ≤ 1000000) (hk : 0 ≤ k ∧ k ≤ 1000000000)
  (h : ∀ d' v, DOk (k + 1) d' → 0 ≤ v → v < m → Ok (f ((d', ()), v, ())) P) : Ok ((zJ d m).bind f) P := by
 rw [Ok.bind]
 exact (Qz hm hk hd).mono fun r hr => h r.1.1 r.2.1 hr.1 hr.2.1 hr.2.2
theorem vw {k : α → Comp β} {b : (α → Comp β) → Comp β} {P : β → Prop} (I : α → Prop) (hb : ∀ j, (∀ x, I x → Ok (j x) P) → Ok (b j) P) (hk : ∀ x, I x → Ok (k x) P) : Ok (jn k b) P := hb k hk
theorem d0 (x : List Int) : DOk 0 (x, 0, ()) := by unfold DOk; show (0:Int) ≤ 0 ∧ (0:Int) ≤ 0; omega
theorem jr {xs : List β} {i : Int} {f : β → Comp α} {P : α → Prop} (h0 : 0 ≤ i) (h1 : i < xs.length) (h : ∀ x, x ∈ xs → Ok (f x) P) : Ok ((idx xs i).bind f) P := by
 obtain ⟨x, hx⟩ := zN (xs := xs) (k := i.toNat) (by omega)
 rw [Ok.bind, Ok.idx h0 hx]
 exact h x (List.mem_of_getElem? hx)
theorem My : 1000000 ≤ LIM := by decide
theorem gC {xs ys : List β} {f : List β → Comp α} {P : α → Prop} (hl : xs.length + ys.length ≤ 1000000) (h : Ok (f (xs ++ ys)) P) : Ok ((app xs ys).bind f) P := by
 rw [Ok.bind, Ok.app (by have := My; omega)]; exact h
theorem Cg {a b : V3} {f : Cell × Unit → Comp α} {P : α → Prop} (h : ∀ c : Cell, c.length = 6 → Ok (f (c, ())) P) : Ok ((z7 a b).bind f) P := by
 rw [Ok.bind]
 exact (Wb a b).mono fun r hr => h r.1 hr
theorem Rv {ys : Cell} {f : Cell → Comp α} {P : α → Prop} (hn : ys ≠ []) (hl : ys.length ≤ 1000000) (h : Ok (f ys) P) : Ok ((SI ys).bind f) P := by
 cases ys with
 | nil => exact (hn rfl).elim
 | cons y ys =>
  show Ok ((app [] (y :: ys)).bind f) P
  exact gC (by simpa using hl) h
theorem AK {a b : Bool} (h : sel a b false = true) : a = true ∧ b = true := by cases a <;> cases b <;> simp_all [sel]
def kp (p : Part) : Prop := wq 12 p.2.1 ∧ p.2.1 ≠ [] ∧ p.2.2.1.length = p.2.1.length
theorem RY {x0 : List (List Int)} {p : Part} (hp : kp p) : Ok (y4 x0 p) fun r => r.1.length ≤ 4 := by
 unfold y4
 rw [Ok.bind]
 have hq : ∀ n : Nat, n < 9223372036854775807 → True := fun _ _ => trivial
 refine (Ok.loop (fun s : List Cell × Int => 0 ≤ s.2 ∧ s.2 ≤ 4 ∧ (s.1.length : Int) = s.2) (fun s => (4 - s.2).toNat) (P := fun r => r.length ≤ 4) ?_ ?_).mono fun r hr => ?_
 ·exact ⟨by show (0:Int) ≤ 0; omega, by show (0:Int) ≤ 4; omega, rfl⟩
 ·rintro ⟨C, i⟩ ⟨h1, h2, h3⟩
  dsimp only at h1 h2 h3 ⊢
  have hl : 0 < p.2.1.length := by cases hc : p.2.1 with
   | nil => exact (hp.2.1 hc).elim
   | cons _ _ => simp
  have hl2 := hp.1.1
  split
  ·rename_i hc
   obtain ⟨c1, c2⟩ := AK hc
   rw [zF] at c1 c2
   rw [zC] at c1
   refine jr h1 c1 fun d hd => ?_
   refine yT (d0 d) (by decide) (by decide) fun d1 v1 e1 g1 g1' => ?_
   refine yT e1 (by rw [zC]; omega) (by decide) fun d2 v2 e2 g2 g2' => ?_
   rw [zC] at g2'
   refine jr g2 g2' fun c hc => ?_
   obtain ⟨k1, k2⟩ := hp.1.2 c hc
   refine Rv k1 (by omega) ?_
   refine vw (fun x => DOk 4 x.2) (fun j hj => ?_) fun x hx => ?_
   ·dsimp only
    split
    ·refine yT e2 (by decide) (by decide) fun d3 v3 e3 g3 g3' => ?_
     refine yT e3 (by decide) (by decide) fun d4 v4 e4 g4 g4' => ?_
     refine gC (by simp; omega) ?_
     exact hj _ e4
    ·exact hj _ ⟨e2.1, by have := e2.2; show d2.2.1 ≤ 4; omega⟩
   ·refine vw (fun _ => True) (fun j hj => ?_) fun y _ => ?_
    ·dsimp only
     split
     ·refine yT hx (by decide) (by decide) fun d3 v3 e3 g3 g3' => ?_
      refine yT e3 (by decide) (by decide) fun d4 v4 e4 g4 g4' => ?_
      refine yT e4 (by decide) (by decide) fun d5 v5 e5 g5 g5' => ?_
      refine yT e5 (by decide) (by decide) fun d6 v6 e6 g6 g6' => ?_
      refine yT e6 (by decide) (by decide) fun d7 v7 e7 g7 g7' => ?_
      refine yT e7 (by decide) (by decide) fun d8 v8 e8 g8 g8' => ?_
      exact Cg fun c _ => hj _ trivial
     ·exact hj _ trivial
    ·refine gC (by simp; omega) ?_
     rw [Ok.pure]
     dsimp only
     rw [yC (by omega)]
     refine ⟨⟨by omega, by omega, by rw [zFt, zFv]; omega⟩, by omega⟩
  ·rw [Ok.pure]; dsimp only; omega
 ·rw [Ok.pure]; exact hr
theorem Ru {c : Cell} {f : Bool × Unit → Comp α} {P : α → Prop} (hc : c.length ≤ 100) (h : ∀ b, Ok (f (b, ())) P) : Ok ((zp c).bind f) P := by
 rw [Ok.zl (Zy c)]; exact h _
theorem DOk.up {k n : Int} {d : Drw} (h : DOk k d) (hk : k ≤ n) : DOk n d := ⟨h.1, by have := h.2; omega⟩
theorem ju.set {b n : Nat} {C : List Cell} {c : Cell} (h : ju b n C) (hc : c ≠ [] ∧ c.length ≤ b) (i : Int) : ju b n (jv C i c) := by
 unfold jv
 refine ⟨by rw [List.length_set]; exact h.1, fun d hd => ?_⟩
 rcases List.mem_or_eq_of_mem_set hd with hd | hd
 ·exact h.2 d hd
 ·rw [hd]; exact hc
theorem RF (p : Pln) : Ok (y6 p) fun _ => True := by
 unfold y6 Ze; rw [Ok.bind, Ok.pure, Ok.pure]; trivial
theorem Qa (x0 : List (List Int)) : Ok (jc x0) fun r => kp r.1 := by
 unfold jc
 rw [Ok.bind]
 refine (Ok.loop (fun s : Int × List (List Int) => 0 ≤ s.1 ∧ s.1 ≤ 2 ∧ s.2.length = 2) (fun s => (2 - s.1).toNat) (P := fun r => r.length = 2) ?_ ?_).mono fun L hL => ?_
 ·exact ⟨by show (0:Int) ≤ 0; omega, by show (0:Int) ≤ 2; omega, rfl⟩
 ·rintro ⟨i, L⟩ ⟨h1, h2, h3⟩
  dsimp only at h1 h2 h3 ⊢
  split
  ·rename_i hc
   obtain ⟨c1, c2⟩ := AK hc
   rw [zF] at c1 c2
   rw [zC] at c1
   refine jr h1 c1 fun d hd => ?_
   rw [Ok.zl (Yc ⟨h1, by omega⟩), Ok.pure]
   dsimp only
   rw [yC (by omega)]
   refine ⟨⟨by omega, by omega, by unfold jv; rw [List.length_set]; exact h3⟩, by omega⟩
  ·rw [Ok.pure]; exact h3
 refine jr (by decide) (by rw [hL]; decide) fun l0 _ => ?_
 refine yT (d0 l0) (by decide) (by decide) fun d1 v1 e1 g1 g1' => ?_
 refine vw (fun x => DOk 2 x.2) (fun j hj => ?_) fun x hx => ?_
 ·dsimp only
  refine yT e1 (by decide) (by decide) fun d2 v2 e2 g2 g2' => ?_
  dsimp only
  split
  ·exact hj _ e2
  ·exact hj _ e2
 dsimp only
 refine yT hx (by decide) (by decide) fun d2 v2 e2 g2 g2' => ?_
 refine yT e2 (by decide) (by decide) fun d3 v3 e3 g3 g3' => ?_
 dsimp only at e3 ⊢
 have hg1 : v1 < 3 := g1'
 rw [Ok.bind]
 refine (Ok.loop (fun s : Int × Int × Part × Drw => 0 ≤ s.2.1 ∧ s.2.1 ≤ 2 + v1 ∧ ju 6 (2 * s.2.1).toNat s.2.2.1.2.1 ∧ s.2.1 ≤ s.2.2.1.2.1.length ∧ s.2.2.1.2.2.1 = [] ∧ DOk (4 + s.2.1) s.2.2.2) (fun s => (2 + v1 - s.2.1).toNat)
  (P := fun r => ju 6 8 r.1.2.1 ∧ 2 ≤ r.1.2.1.length ∧ r.1.2.2.1 = [] ∧ DOk 8 r.2) ?_ ?_).mono fun R hR => ?_
 ·refine ⟨by show (0:Int) ≤ 0; omega, by show (0:Int) ≤ 2 + v1; omega, ⟨Nat.zero_le _, fun _ h => by cases h⟩, by show (0:Int) ≤ (0:Nat); omega, rfl, e3.up (by show (2:Int) + 1 + 1 ≤ 4 + 0; omega)⟩
 ·rintro ⟨X, i, ⟨nm, C, w, u⟩, d⟩ ⟨h1, h2, h3, h4, h5, h6⟩
  dsimp only at h1 h2 h3 h4 h5 h6 ⊢
  rw [yC (m := 2) (n := v1) (by omega)]
  split
  ·rename_i hc
   rw [zF] at hc
   refine yT h6 (by decide) (by omega) fun d4 v4 e4 g4 g4' => ?_
   refine Cg fun c hc6 => ?_
   have hl := h3.1
   refine gC (by simp; omega) ?_
   refine vw (fun y => ju 6 (2 * (i + 1)).toNat y.2.1 ∧ i + 1 ≤ y.2.1.length ∧ y.2.2.1 = []) (fun j hj => ?_) fun y hy => ?_
   ·dsimp only
    have s1 : ju 6 ((2 * i).toNat + 1) (C ++ [c]) := h3.snoc (I7 hc6)
    split
    ·refine Cg fun c2 hc62 => ?_
     refine gC (by simp; omega) ?_
     refine hj _ ⟨(s1.snoc (I7 hc62)).mono (by omega), ?_, h5⟩
     dsimp only
     rw [zFt, zFt, zFv]; omega
    ·refine hj _ ⟨s1.mono (by omega), ?_, h5⟩
     dsimp only
     rw [zFt, zFv]; omega
   ·rw [Ok.pure]
    dsimp only
    rw [yC (m := i) (n := 1) (by omega)]
    exact ⟨⟨by omega, by omega, hy.1, hy.2.1, hy.2.2, e4.up (by omega)⟩, by omega⟩
  ·rename_i hc
   rw [zF] at hc
   rw [Ok.pure]
   exact ⟨h3.mono (by omega), by dsimp only; omega, h5, h6.up (by omega)⟩
 obtain ⟨q1, q2, q3, q4⟩ := hR
 obtain ⟨⟨nm, C, w, u⟩, d⟩ := R
 dsimp only at q1 q2 q3 q4 ⊢
 refine vw (fun x => DOk 9 x.2) (fun j hj => ?_) fun x hx => ?_
 ·skip
  refine yT q4 (by decide) (by decide) fun d4 v4 e4 g4 g4' => ?_
  dsimp only
  split
  ·exact hj _ e4
  ·exact hj _ e4
 skip
 refine vw (fun y => wq 9 y.2.1 ∧ 2 ≤ y.2.1.length ∧ y.2.2.1 = []) (fun j hj => ?_) fun y hy => ?_
 ·skip
  have k0 : ∀ nm u, (fun y : Part => wq 9 y.2.1 ∧ 2 ≤ y.2.1.length ∧ y.2.2.1 = []) (nm, C, w, u) := fun _ _ => ⟨(q1.wide (by decide)).mono (by omega), q2, q3⟩
  split
  ·have hl := q1.1
   refine yT hx (by rw [zC]; omega) (by decide) fun d4 v4 e4 g4 g4' => ?_
   refine yT e4 (by decide) (by decide) fun d5 v5 e5 g5 g5' => ?_
   rw [zC] at g4'
   dsimp only
   refine jr g4 g4' fun c hc => ?_
   obtain ⟨m1, m2⟩ := q1.2 c hc
   refine gC (by simp; omega) ?_
   refine gC (by simp; omega) ?_
   refine jr g4 g4' fun c' hc' => ?_
   obtain ⟨m1', m2'⟩ := q1.2 c' hc'
   refine gC (by simp; omega) ?_
   rw [Ok.bind]
   refine (RF _).mono fun fl _ => ?_
   refine gC (by simp; omega) ?_
   refine Ru (by simp; omega) fun b1 => ?_
   rw [Ok.bind]
   refine Ok.zAB (fun _ => (Ok.kP (Zy _)).2 ?_) (fun _ => ?_)
   all_goals
    refine vw (fun y => wq 9 y.2.1 ∧ 2 ≤ y.2.1.length ∧ y.2.2.1 = []) (fun j' hj' => ?_) fun y hy => hj _ hy
    dsimp only
    split
    ·rw [Ok.zl (Yc ⟨g4, g4'⟩)]
     have t3 : ∀ z : Cell, (jv C v4 z).length = C.length := fun z => by unfold jv; rw [List.length_set]
     refine gC (by rw [zFv, t3]; omega) ?_
     refine hj' _ ⟨((q1.wide (by decide)).set (by simp; omega) v4).snoc (by simp; omega), ?_, q3⟩
     dsimp only
     rw [zFt, zFv, t3]; omega
    ·exact hj' _ ⟨(q1.wide (by decide)).mono (by omega), q2, q3⟩
  ·exact hj _ (k0 _ _)
 skip
 refine jr (by decide) (by rw [hL]; decide) fun l1 _ => ?_
 obtain ⟨nm2, C2, w2, u2⟩ := y
 obtain ⟨y1, y2, y3⟩ := hy
 dsimp only at y1 y2 y3 ⊢
 subst y3
 rw [Ok.bind]
 refine (Ok.loop (fun s : Int × Part × Drw => 0 ≤ s.1 ∧ s.1 ≤ C2.length ∧ s.2.1.2.1 = C2 ∧ (s.2.1.2.2.1.length : Int) = s.1 ∧ DOk s.1 s.2.2) (fun s => (C2.length - s.1).toNat)
  (P := fun r => kp r) ?_ ?_).mono fun R hR => ?_
 ·exact ⟨by show (0:Int) ≤ 0; omega, by show (0:Int) ≤ C2.length; omega, rfl, rfl, d0 l1⟩
 ·rintro ⟨i, ⟨nm3, C3, w3, u3⟩, d⟩ ⟨h1, h2, h3, h4, h5⟩
  dsimp only at h1 h2 h3 h4 h5 ⊢
  subst h3
  have hl := y1.1
  split
  ·rename_i hc
   rw [zF, zC] at hc
   refine yT h5 (by decide) (by omega) fun d4 v4 e4 g4 g4' => ?_
   dsimp only
   refine jr g4 g4' fun z _ => ?_
   refine gC (by simp; omega) ?_
   rw [Ok.pure]
   dsimp only
   rw [yC (m := i) (n := 1) (by omega)]
   exact ⟨⟨by omega, by omega, rfl, by rw [zFt, zFv]; omega, e4⟩, by omega⟩
  ·rename_i hc
   rw [zF, zC] at hc
   rw [Ok.pure]
   refine ⟨y1.mono (by omega), fun e => ?_, by dsimp only; omega⟩
   dsimp only at e
   rw [e] at y2; simp at y2
 ·rw [Ok.pure]; exact hR
theorem V1 {p : Part} (hp : kp p) : Ok (j9 p) fun _ => True := by
 unfold j9
 have h1 := hp.1.1
 have := My
 rw [Ok.bind, Ok.mk (by rw [zC]; omega), Ok.bind, Ok.mk (by rw [zC]; omega), Ok.pure]; trivial
def rP (x : Eff) : Prop := x.1.length ≤ 50 ∧ x.2.1.length ≤ 50 ∧ x.2.2.2.1.length ≤ 50
theorem Jf {xs : List β} {l h : Int} {f : List β → Comp α} {P : α → Prop} (hr : 0 ≤ l ∧ l ≤ h ∧ h ≤ xs.length) (k : ∀ ys, ys.length = (h - l).toNat → Ok (f ys) P) : Ok ((sub xs l h).bind f) P := by
 rw [Ok.bind, Ok.sub hr]
 exact k _ (by rw [List.length_drop, List.length_take]; omega)
theorem pN {x0 : List (List Int)} {p : Part} {f : List Cell × Unit → Comp α} {P : α → Prop} (hp : kp p) (k : ∀ C : List Cell, C.length ≤ 4 → Ok (f (C, ())) P) : Ok ((y4 x0 p).bind f) P := by
 rw [Ok.bind]; exact (RY hp).mono fun r hr => k r.1 hr
theorem jx (m n : Int) : Bs m n = min m n := rfl
theorem Gp {p : Part} {x1 : List Int} {x2 : Int} (hp : kp p) : Ok (yw p x1 x2) fun r => rP r.1 := by
 unfold yw
 have hl := hp.1.1
 refine yT (d0 x1) (by decide) (by decide) fun d1 v1 e1 g1 g1' => ?_
 refine vw (fun x => DOk 2 x.2) (fun j hj => ?_) fun x hx => ?_
 ·dsimp only
  split
  ·refine yT e1 (by decide) (by decide) fun d2 v2 e2 g2 g2' => ?_
   exact hj _ e2
  ·exact hj _ (e1.up (by decide))
 refine vw (fun x : Eff => x.1 = [] ∧ x.2.1 = [] ∧ x.2.2.2.1.length ≤ 50) (fun j hj => ?_) fun y hy => ?_
 ·dsimp only
  split
  ·exact hj _ ⟨rfl, rfl, by show 1 ≤ 50; omega⟩
  ·exact hj _ ⟨rfl, rfl, by show 0 ≤ 50; omega⟩
 refine yT hx (by decide) (by decide) fun d2 v2 e2 g2 g2' => ?_
 rw [Ok.bind]
 refine (Ok.loop (fun s : Int × Eff × Drw => 0 ≤ s.1 ∧ s.1 ≤ p.2.1.length ∧ (s.2.1.1.length ≤ s.1 ∧ s.2.1.2.1 = [] ∧ s.2.1.2.2.2.1.length ≤ 50) ∧ DOk (4 + 2 * s.1) s.2.2) (fun s => (p.2.1.length - s.1).toNat)
  (P := fun r : Eff => r.1.length ≤ 12 ∧ r.2.1 = [] ∧ r.2.2.2.1.length ≤ 50) ?_ ?_).mono fun R hR => ?_
 ·exact ⟨by show (0:Int) ≤ 0; omega, by show (0:Int) ≤ p.2.1.length; omega, ⟨by show ((y.1.length : Nat) : Int) ≤ 0; rw [hy.1]; decide, hy.2.1, hy.2.2⟩, e2.up (by show (2:Int) + 1 ≤ 4 + 2 * 0; omega)⟩
 ·rintro ⟨i, ⟨cu, to, co, ne, u⟩, d⟩ ⟨h1, h2, ⟨h3, h4, h5⟩, h6⟩
  dsimp only at h1 h2 h3 h4 h5 h6 ⊢
  split
  ·rename_i hc
   rw [zF, zC] at hc
   refine yT h6 (by decide) (by omega) fun d4 v4 e4 g4 g4' => ?_
   dsimp only
   refine jr h1 (by rw [hp.2.2]; exact hc) fun z _ => ?_
   refine vw (fun x => DOk (4 + 2 * (i + 1)) x.2) (fun j hj => ?_) fun x hx => ?_
   ·skip
    split
    ·refine vw (fun x => DOk (4 + 2 * (i + 1)) x.2) (fun j' hj' => ?_) fun x hx => hj _ hx
     skip
     split
     ·refine yT e4 (by decide) (by omega) fun d5 v5 e5 g5 g5' => ?_
      exact hj' _ (e5.up (by omega))
     ·exact hj' _ (e4.up (by omega))
    ·exact hj _ (e4.up (by omega))
   ·refine vw (fun x : Eff => x.1.length ≤ i + 1 ∧ x.2.1 = [] ∧ x.2.2.2.1.length ≤ 50) (fun j hj => ?_) fun y hy => ?_
    ·skip
     split
     ·refine jr h1 hc fun c hcc => ?_
      obtain ⟨m1, m2⟩ := hp.1.2 c hcc
      refine gC (by simp; omega) ?_
      refine gC (by simp; omega) ?_
      refine hj _ ⟨?_, h4, h5⟩
      dsimp only
      rw [zFt, zFv]; omega
     ·exact hj _ ⟨by dsimp only; omega, h4, h5⟩
    ·rw [Ok.pure]
     dsimp only
     rw [yC (m := i) (n := 1) (by omega)]
     exact ⟨⟨by omega, by omega, hy, hx⟩, by omega⟩
  ·rename_i hc
   rw [zF, zC] at hc
   rw [Ok.pure]
   exact ⟨by dsimp only; omega, h4, h5⟩
 refine vw (fun x : Eff => x.1.length ≤ 50 ∧ x.2.1.length ≤ 50 ∧ x.2.2.2.1.length ≤ 50) (fun j hj => ?_) fun y hy => ?_
 ·dsimp only
  split
  ·refine Jf ⟨by rw [jx, zC]; omega, by rw [jx]; omega, by rw [zC]; omega⟩ fun ys hys => ?_
   refine pN hp fun C hC => ?_
   have hr1 := hR.1
   refine gC (by dsimp only; omega) ?_
   refine hj _ ⟨?_, ?_, hR.2.2⟩
   ·dsimp only; rw [zFt]; omega
   ·dsimp only; rw [hR.2.1]; exact Nat.zero_le _
  ·refine hj _ ⟨by have := hR.1; dsimp only; omega, ?_, hR.2.2⟩
   dsimp only; rw [hR.2.1]; exact Nat.zero_le _
 refine vw (fun x : Eff => x.1.length ≤ 50 ∧ x.2.1.length ≤ 50 ∧ x.2.2.2.1.length ≤ 50) (fun j hj => ?_) fun y hy => ?_
 ·dsimp only
  split
  ·refine Jf ⟨by rw [jx, zC]; omega, by rw [jx]; omega, by rw [zC]; omega⟩ fun ys hys => ?_
   refine pN hp fun C hC => ?_
   exact hj _ ⟨hy.1, by dsimp only; omega, hy.2.2⟩
  ·exact hj _ hy
 rw [Ok.pure]
 exact hy
theorem ql {p : Part} {x1 : List Int} {x2 : Int} {f : Eff × Unit → Comp α} {P : α → Prop} (hp : kp p) (k : ∀ e : Eff, rP e → Ok (f (e, ())) P) : Ok ((yw p x1 x2).bind f) P := by
 rw [Ok.bind]; exact (Gp hp).mono fun r hr => k r.1 hr
structure JobOk (j : Job) : Prop where
 p : kp j.1
 e : ∀ x ∈ j.2.2.1, rP x
 n : j.2.2.1.length ≤ 8
theorem rP.sm {x : Eff} (h : rP x) : SmE x := ⟨Nat.le_trans h.1 (by decide), Nat.le_trans h.2.1 (by decide), Nat.le_trans h.2.2 (by decide)⟩
theorem kp.w {p : Part} (h : kp p) : p.2.2.1.length < 9223372036854775807 := by rw [h.2.2]; have := h.1.1; omega
theorem Gx {j : Job} {P : Int × Unit → Prop} (hj : JobOk j) (k : P (ckJ j, ())) : Ok (vJ j) P := (Ok.kP (XB hj.p.w fun x hx => (hj.e x hx).sm)).2 k
theorem Q9 (x0 : List (List Int)) : Ok (ja x0) fun r => JobOk r.1 ∧ 1 ≤ r.1.2.2.1.length := by
 unfold ja
 refine Jf ⟨by decide, by rw [jx, zC]; omega, by rw [jx, zC]; omega⟩ fun x hx => ?_
 rw [Ok.bind]
 refine (Qa x).mono ?_
 rintro ⟨p, u⟩ hp
 rw [Ok.bind]
 refine (V1 hp).mono ?_
 rintro ⟨pc, u'⟩ -
 dsimp only at hp ⊢
 refine vw (fun y : Job => kp y.1 ∧ y.2.2.1 = []) (fun j hj => ?_) fun y hy => ?_
 ·skip
  split
  ·rename_i hc
   rw [z8, zC] at hc
   refine jr (by decide) (by omega) fun d hd => ?_
   refine yT (d0 d) (by decide) (by decide) fun d1 v1 e1 g1 g1' => ?_
   refine vw (fun y : Job => kp y.1 ∧ y.2.2.1 = []) (fun j' hj' => ?_) fun y hy => hj _ hy
   dsimp only
   split
   ·obtain ⟨d2, hd2⟩ := zN (xs := x0) (k := 2) (by omega)
    rw [Ok.bind, Ok.idx (by decide) hd2, Ok.bind, Ok.idx (by decide) hd2]
    refine Jf ⟨by rw [jx, zC]; omega, by rw [jx]; omega, by rw [zC]; omega⟩ fun ys hys => ?_
    refine pN hp fun C hC => ?_
    rw [Ok.zl (uC hp.w (by dsimp only; omega) (by decide))]
    refine vw (fun y : Job => kp y.1 ∧ y.2.2.1 = []) (fun j'' hj'' => ?_) fun y hy => hj' _ hy
    split
    ·exact hj'' _ ⟨hp, rfl⟩
    ·exact hj'' _ ⟨hp, rfl⟩
   ·exact hj' _ ⟨hp, rfl⟩
  ·exact hj _ ⟨hp, rfl⟩
 rw [Ok.bind]
 refine (Ok.loop (fun s : Int × Job => 3 ≤ s.1 ∧ s.1 ≤ 7 ∧ kp s.2.1 ∧ (∀ x ∈ s.2.2.2.1, rP x) ∧ (s.2.2.2.1.length : Int) = s.1 - 3) (fun s => (7 - s.1).toNat)
  (P := fun r : Job => JobOk r ∧ r.2.2.1.length ≤ 4) ?_ ?_).mono fun R hR => ?_
 ·exact ⟨by show (3:Int) ≤ 3; omega, by show (3:Int) ≤ 7; omega, hy.1, fun x (hx : x ∈ y.2.2.1) => (by rw [hy.2] at hx; cases hx), by show ((y.2.2.1.length : Nat) : Int) = 3 - 3; rw [hy.2]; rfl⟩
 ·rintro ⟨i, p', pc', es, u''⟩ ⟨h1, h2, h3, h4, h5⟩
  dsimp only at h1 h2 h3 h4 h5 ⊢
  split
  ·rename_i hc
   obtain ⟨c1, c2⟩ := AK hc
   rw [zF] at c1 c2
   rw [zC] at c1
   refine jr (by omega) c1 fun d hd => ?_
   refine ql hp fun e he => ?_
   refine gC (by simp; omega) ?_
   rw [Ok.pure]
   dsimp only
   rw [yC (by omega)]
   refine ⟨⟨by omega, by omega, h3, fun x hx => ?_, by rw [zFt, zFv]; omega⟩, by omega⟩
   rcases List.mem_append.1 hx with hx | hx
   ·exact h4 x hx
   ·rw [List.mem_singleton.1 hx]; exact he
  ·rw [Ok.pure]
   exact ⟨⟨h3, h4, by dsimp only; omega⟩, by dsimp only; omega⟩
 refine vw (fun y : Job => JobOk y ∧ 1 ≤ y.2.2.1.length) (fun j hj => ?_) fun y hy => ?_
 ·skip
  split
  ·refine ql hp fun e he => ?_
   have := hR.2
   refine gC (by simp; omega) ?_
   refine hj _ ⟨⟨hR.1.p, fun x hx => ?_, ?_⟩, ?_⟩
   ·rcases List.mem_append.1 hx with hx | hx
    ·exact hR.1.e x hx
    ·rw [List.mem_singleton.1 hx]; exact he
   ·dsimp only; rw [zFt, zFv]; omega
   ·dsimp only; rw [zFt, zFv]; omega
  ·rename_i hc
   rw [yd, zC] at hc
   exact hj _ ⟨⟨hR.1.p, hR.1.e, hR.1.n⟩, by dsimp only; omega⟩
 rw [Ok.bind]
 refine (Ok.loop (fun s : Job => JobOk s ∧ 1 ≤ s.2.2.1.length) (fun s => s.2.2.1.length)
  (P := fun r : Job => JobOk r ∧ 1 ≤ r.2.2.1.length) hy ?_).mono fun R hR => ?_
 ·rintro ⟨p', pc', es, u''⟩ ⟨hs, hs1⟩
  have hn := hs.n
  dsimp only at hs hs1 hn ⊢
  rw [Ok.bind]
  have fin : ∀ x7 : Int × Unit, Ok (if sel (gtI (zD es) 1) (eqI x7.1 2) false = true then jn (fun x : Job => Comp.pure (Comp.Step.next (x.1, x.2.1, x.2.2.1, ()))) fun j => (sub es 0 (gM .i64 (zD es) 1)).bind fun ys => j (p', pc', ys, ()) else Comp.pure (Comp.Step.done (p', pc', es, ())))
    (fun t : Comp.Step Job Job => match t with | .next s' => (JobOk s' ∧ 1 ≤ s'.2.2.1.length) ∧ s'.2.2.1.length < es.length | .done r => JobOk r ∧ 1 ≤ r.2.2.1.length) := by
   intro x7
   split
   ·rename_i hc
    obtain ⟨c1, c2⟩ := AK hc
    rw [z8, zC] at c1
    rw [zC, Zm (by omega)]
    refine vw (fun y : Job => (JobOk y ∧ 1 ≤ y.2.2.1.length) ∧ y.2.2.1.length < es.length) (fun j hj => ?_) fun y hy => ?_
    ·show Ok ((sub es 0 ((es.length : Int) - 1)).bind fun ys => j (p', pc', ys, ())) _
     rw [Ok.bind, Ok.sub (by omega)]
     refine hj _ ⟨⟨⟨hs.p, fun x hx => hs.e x (List.mem_of_mem_take (List.mem_of_mem_drop hx)), ?_⟩, ?_⟩, ?_⟩
     ·dsimp only; rw [List.length_drop, List.length_take]; omega
     ·dsimp only; rw [List.length_drop, List.length_take]; omega
     ·dsimp only; rw [List.length_drop, List.length_take]; omega
    ·rw [Ok.pure]; exact hy
   ·rw [Ok.pure]; exact ⟨hs, hs1⟩
  refine Ok.zAB (fun _ => Gx ⟨hs.p, hs.e, hs.n⟩ ?_) (fun _ => ?_)
  ·refine (fin _).mono fun t ht => ?_
   cases t <;> exact ht
  ·refine (fin _).mono fun t ht => ?_
   cases t <;> exact ht
 ·rw [Ok.pure]; exact hR
theorem HF {j : Job} {x1 : List Int} (hj : JobOk j) : Ok (jK j x1) fun r => 1 ≤ r.1.length ∧ r.1.length ≤ 12 := by
 unfold jK
 have hl := hj.p.1.1
 have hw := hj.p.2.2
 have hne := List.length_pos_iff.2 hj.p.2.1
 rw [Ok.bind]
 refine (Ok.loop (fun s : List Int × Int × Drw => 0 ≤ s.2.1 ∧ s.2.1 ≤ j.1.2.2.1.length ∧ (s.1.length : Int) = s.2.1 ∧ DOk s.2.1 s.2.2) (fun s => (j.1.2.2.1.length - s.2.1).toNat)
  (P := fun r => 1 ≤ r.length ∧ r.length ≤ 12) ?_ ?_).mono fun R hR => ?_
 ·exact ⟨by show (0:Int) ≤ 0; omega, by show (0:Int) ≤ j.1.2.2.1.length; omega, rfl, d0 x1⟩
 ·rintro ⟨l, i, d⟩ ⟨h1, h2, h3, h4⟩
  dsimp only at h1 h2 h3 h4 ⊢
  split
  ·rename_i hc
   rw [zF, zC] at hc
   refine yT h4 (by decide) (by omega) fun d4 v4 e4 g4 g4' => ?_
   refine jr h1 hc fun z _ => ?_
   refine vw (fun _ => True) (fun j hj => ?_) fun y _ => ?_
   ·split
    ·exact hj _ trivial
    ·exact hj _ trivial
   ·refine gC (by simp; omega) ?_
    rw [Ok.pure]
    dsimp only
    rw [yC (m := i) (n := 1) (by omega)]
    exact ⟨⟨by omega, by omega, by rw [zFt, zFv]; omega, e4⟩, by omega⟩
  ·rename_i hc
   rw [zF, zC] at hc
   rw [Ok.pure]; dsimp only; omega
 ·rw [Ok.pure]; exact hR
theorem RQ {j : Job} {x1 : List Int} (hj : JobOk j) (h1 : 1 ≤ j.2.2.1.length) : Ok (jZ j x1) fun r => r.1.length ≤ 4 := by
 unfold jZ
 have hl := hj.n
 rw [Ok.bind]
 refine (Ok.loop (fun s : List Int × Int => 0 ≤ s.2 ∧ s.2 ≤ 4 ∧ (s.1.length : Int) ≤ s.2) (fun s => (4 - s.2).toNat)
  (P := fun r => r.length ≤ 4) ?_ ?_).mono fun R hR => ?_
 ·exact ⟨by show (0:Int) ≤ 0; omega, by show (0:Int) ≤ 4; omega, by show ((0:Nat):Int) ≤ 0; omega⟩
 ·rintro ⟨l, i⟩ ⟨h1, h2, h3⟩
  dsimp only at h1 h2 h3 ⊢
  split
  ·rename_i hc
   obtain ⟨c1, c2⟩ := AK hc
   rw [zF] at c1 c2
   rw [zC] at c1
   refine jr h1 c1 fun z _ => ?_
   rw [Ok.bind]
   refine (CY (by rw [zC]; omega)).mono fun r hr => ?_
   rw [Ok.bind]
   refine (Ok.loop (fun s : Bool × Int => 0 ≤ s.2 ∧ s.2 ≤ l.length) (fun s => (l.length - s.2).toNat) (P := fun _ => True) ?_ ?_).mono fun b _ => ?_
   ·exact ⟨by show (0:Int) ≤ 0; omega, by show (0:Int) ≤ l.length; omega⟩
   ·rintro ⟨b, k⟩ ⟨k1, k2⟩
    dsimp only at k1 k2 ⊢
    split
    ·rename_i hk
     rw [zF, zC] at hk
     obtain ⟨w, hw⟩ := zN (xs := l) (k := k.toNat) (by omega)
     rw [Ok.bind]
     refine Ok.zAB (fun _ => (Ok.idx k1 hw).2 ?_) (fun _ => ?_)
     all_goals
      rw [Ok.pure]
      dsimp only
      rw [yC (m := k) (n := 1) (by omega)]
      exact ⟨⟨by omega, by omega⟩, by omega⟩
    ·rw [Ok.pure]; trivial
   ·refine vw (fun y : List Int => (y.length : Int) ≤ i + 1) (fun j hj => ?_) fun y hy => ?_
    ·split
     ·refine gC (by simp; omega) ?_
      refine hj _ ?_
      rw [zFt, zFv]; omega
     ·refine hj _ ?_
      omega
    ·rw [Ok.pure]
     dsimp only
     rw [yC (m := i) (n := 1) (by omega)]
     exact ⟨⟨by omega, by omega, hy⟩, by omega⟩
  ·rw [Ok.pure]; dsimp only; omega
 ·rw [Ok.pure]; exact hR
abbrev Case := List (List Int) × List Int × List Int × Unit
abbrev Made := Job × List Int × List Int × Unit
def Wi (m : Made) : Prop := JobOk m.1 ∧ (1 ≤ m.2.1.length ∧ m.2.1.length ≤ 12) ∧ m.2.2.1.length ≤ 4
theorem Q6 (c : Case) : Ok (vq c) Wi := by
 unfold vq
 refine Jf ⟨by decide, by rw [jx, zC]; omega, by rw [jx, zC]; omega⟩ fun x hx => ?_
 rw [Ok.bind]
 refine (Q9 x).mono fun j hj => ?_
 rw [Ok.bind]
 refine (HF hj.1).mono fun w hw => ?_
 rw [Ok.bind]
 refine (RQ hj.1 hj.2).mono fun d hd => ?_
 rw [Ok.pure]
 exact ⟨hj.1, hw, hd⟩
abbrev zAL := List Int × List Int × List Int × Unit
structure DaysOk (n : Nat) (d : zAL) : Prop where
 s : d.1.length = n
 y : d.2.1.length = n
 t : d.2.2.1.length = 4
 s4 : ∀ x ∈ d.1, 0 ≤ x ∧ x < 4
 y20 : ∀ x ∈ d.2.1, 0 ≤ x ∧ x < 20
 t20 : ∀ x ∈ d.2.2.1, 0 ≤ x ∧ x < 20
theorem u4 {l : List β} {x : β} {P : β → Prop} (h : ∀ y ∈ l, P y) (hx : P x) : ∀ y ∈ l ++ [x], P y := fun y hy => by
 rcases List.mem_append.1 hy with hy | hy
 ·exact h y hy
 ·rw [List.mem_singleton.1 hy]; exact hx
theorem Cf {n m : Int} {f : Int × Unit → Comp α} {P : α → Prop} (hm : 1 ≤ m ∧ m ≤ 1000000) (k : ∀ r : Int, 0 ≤ r ∧ r < m → Ok (f (r, ())) P) : Ok ((yR n m).bind f) P := by
 rw [Ok.bind]; exact (CY hm).mono fun r hr => k r.1 hr
theorem IF {d : zAL} {n : Nat} (hn : n ≤ 1000) (hd : d.2.2.1.length = 4) : Ok (vW d (n : Int)) (DaysOk n) := by
 unfold vW
 rw [Ok.bind]
 refine (Ok.loop (fun s : List Int × List Int × Int => 0 ≤ s.2.2 ∧ s.2.2 ≤ n ∧ (s.1.length : Int) = s.2.2 ∧ (s.2.1.length : Int) = s.2.2 ∧ (∀ x ∈ s.1, 0 ≤ x ∧ x < 4) ∧ ∀ x ∈ s.2.1, 0 ≤ x ∧ x < 20) (fun s => (n - s.2.2).toNat)
  (P := fun r => r.1.length = n ∧ r.2.length = n ∧ (∀ x ∈ r.1, 0 ≤ x ∧ x < 4) ∧ ∀ x ∈ r.2, 0 ≤ x ∧ x < 20) ?_ ?_).mono fun R hR => ?_
 ·exact ⟨by show (0:Int) ≤ 0; omega, by show (0:Int) ≤ n; omega, rfl, rfl, (fun x hx => by cases hx), (fun x hx => by cases hx)⟩
 ·rintro ⟨l, m, i⟩ ⟨h1, h2, h3, h4, h5, h6⟩
  dsimp only at h1 h2 h3 h4 h5 h6 ⊢
  split
  ·rename_i hc
   rw [zF] at hc
   refine vw (fun _ => True) (fun j hj => ?_) fun a _ => ?_
   ·split
    ·rename_i hk
     rw [zF, zC] at hk
     exact jr h1 hk fun z _ => hj _ trivial
    ·exact hj _ trivial
   refine vw (fun _ => True) (fun j hj => ?_) fun b _ => ?_
   ·split
    ·rename_i hk
     rw [zF, zC] at hk
     exact jr h1 hk fun z _ => hj _ trivial
    ·exact hj _ trivial
   refine Cf (by decide) fun r hr => ?_
   refine gC (by simp; omega) ?_
   refine Cf (by decide) fun r2 hr2 => ?_
   refine gC (by simp; omega) ?_
   rw [Ok.pure]
   dsimp only
   rw [yC (m := i) (n := 1) (by omega)]
   exact ⟨⟨by omega, by omega, by rw [zFt, zFv]; omega, by rw [zFt, zFv]; omega, u4 h5 hr, u4 h6 hr2⟩, by omega⟩
  ·rename_i hc
   rw [zF] at hc
   rw [Ok.pure]; exact ⟨by dsimp only; omega, by dsimp only; omega, h5, h6⟩
 rw [Ok.bind]
 refine (Ok.loop (fun s : List Int × Int => 0 ≤ s.2 ∧ s.2 ≤ 4 ∧ (s.1.length : Int) = s.2 ∧ ∀ x ∈ s.1, 0 ≤ x ∧ x < 20) (fun s => (4 - s.2).toNat)
  (P := fun r => r.length = 4 ∧ ∀ x ∈ r, 0 ≤ x ∧ x < 20) ?_ ?_).mono fun Q hQ => ?_
 ·exact ⟨by show (0:Int) ≤ 0; omega, by show (0:Int) ≤ 4; omega, rfl, (fun x hx => by cases hx)⟩
 ·rintro ⟨l, i⟩ ⟨h1, h2, h3, h4⟩
  dsimp only at h1 h2 h3 h4 ⊢
  split
  ·rename_i hc
   rw [zF] at hc
   refine jr h1 (by omega) fun z _ => ?_
   refine Cf (by decide) fun r hr => ?_
   refine gC (by simp; omega) ?_
   rw [Ok.pure]
   dsimp only
   rw [yC (m := i) (n := 1) (by omega)]
   exact ⟨⟨by omega, by omega, by rw [zFt, zFv]; omega, u4 h4 hr⟩, by omega⟩
  ·rename_i hc
   rw [zF] at hc
   rw [Ok.pure]; exact ⟨by omega, h4⟩
 rw [Ok.pure]
 exact ⟨hR.1, hR.2.1, hQ.1, hR.2.2.1, hR.2.2.2, hQ.2⟩
theorem JobOk.sm {j : Job} (h : JobOk j) : SmJ j := ⟨h.p.w, fun x hx => (h.e x hx).sm, Nat.le_trans h.n (by decide)⟩
def tot : List Chg → Int
 | [] => 0
 | c :: l => c.2.2.1 + tot l
def bx (a b c d e f : Int) : Cell := [((1,0,0,()),d,()),((-1,0,0,()),-a,()),((0,1,0,()),e,()),((0,-1,0,()),-b,()),((0,0,1,()),f,()),((0,0,-1,()),-c,())]
def b1 := bx 0 0 0 2 2 2
def b2 := bx 2 0 0 4 2 2
def b3 := bx 4 0 0 6 2 2
def ex : Job := (([], [b1, b2, b3], [1, 2, 3], ()), ([false, false, false], [false, false, false], [], ()), [([b2], [], 3, [], ()), ([b3], [], 4, [], ()), ([b2, b3], [], 5, [], ())], ())
theorem v1 : kY ex [1, 2, 3] [0, 1] = ([1], 0) := by decide +kernel
theorem v2 : kY ex [1, 3, 2] [0, 1] = ([0], 0) := by decide +kernel
theorem v3 : kY ex [3, 3, 3] [0, 1] = ([0, 1], 0) := by decide +kernel
theorem v4 : kY ex [1, 2, 1] [0, 1] = ([0, 1], 0) := by decide +kernel
theorem v5 : kY ex [1, 2, 3] [0, 3] = ([], 5) := by decide +kernel
theorem v6 : kY ex [1, 2, 3] [0, 0] = ([], 6) := by decide +kernel
theorem v7 : kY ex [1, 2] [0, 1] = ([], 1) := by decide +kernel
theorem c1 : chg ex [1, 3, 2] [0, 1] [1, 0] [5, 6] [9, 4] = ([(0, 1, 3, ())], 0) := by unfold chg; rw [v2]; decide +kernel
theorem c2 : chg ex [1, 3, 2] [0, 1] [1, 0] [4, 6] [9, 4] = ([(0, -1, 3, ())], 0) := by unfold chg; rw [v2]; decide +kernel
theorem nX : gQ.val = some (ex, ()) := by
 have h : gQ.run 20 = some (ex, ()) := by kernel_rfl
 exact Zr h
theorem EY : SmJ ex where
 w := by decide
 e := fun x hx => by
  have : x = ([b2], [], 3, [], ()) ∨ x = ([b3], [], 4, [], ()) ∨ x = ([b2, b3], [], 5, [], ()) := by
   rcases List.mem_cons.1 hx with e | hx
   ·exact .inl e
   ·rcases List.mem_cons.1 hx with e | hx
    ·exact .inr (.inl e)
    ·rcases List.mem_cons.1 hx with e | hx
     ·exact .inr (.inr e)
     ·cases hx
  rcases this with e | e | e <;> rw [e] <;> exact ⟨by decide, by decide, by decide⟩
 n := by decide
theorem ph {w d v : List Int} (hv : kY ex w d = (v, 0)) (hw : w.length < 1000) (hd : d.length ≤ 1000) (hs : (vG v v).run 20 = some (true, ())) : (vp ex w d v).val = some (true, ()) := by
 unfold vp
 rw [zA, uX EY (by omega) hd, zFq, hv]
 show ((Comp.gd true (vG v v) (false, ())).bind fun x => Comp.pure (sel true x.1 false, ())).val = _
 rw [zA]
 show Option.bind (vG v v).val _ = _
 rw [Zr hs, zFq, Comp.zB]; rfl
theorem Kb {w d : List Int} {n : Int} (hv : kY ex w d = ([], n)) (hw : w.length < 1000) (hd : d.length ≤ 1000) : (vN ex w d n).val = some (true, ()) := by
 unfold vN
 rw [zA, uX EY (by omega) hd, zFq, hv, Comp.zB]
 have : eqI n n = true := by rw [yd]
 dsimp only
 rw [this]; rfl
theorem BC : gv.val = some (true, ()) := by
 unfold gv
 rw [zA, nX, zFq, vb]
 dsimp only
 rw [zA, ph v1 (by decide) (by decide) (by kernel_rfl), zFq, if_pos rfl,
  zA, ph v2 (by decide) (by decide) (by kernel_rfl), zFq, if_pos rfl,
  zA, ph v3 (by decide) (by decide) (by kernel_rfl), zFq, if_pos rfl,
  zA, ph v4 (by decide) (by decide) (by kernel_rfl), zFq, vb,
  zA, Kb (n := Int.ofNat 5) v5 (by decide) (by decide), zFq, if_pos rfl,
  zA, Kb (n := Int.ofNat 6) v6 (by decide) (by decide), zFq, if_pos rfl,
  zA, Kb (n := Int.ofNat 1) v7 (by decide) (by decide), zFq,
  zA, XY EY (by decide) (by decide) (by decide) (by decide) (by decide), zFq, c1,
  zA, XY EY (by decide) (by decide) (by decide) (by decide) (by decide), zFq, c2, vb]
 refine Zr (n := 20) ?_
 kernel_rfl
end Go.Geo
end
