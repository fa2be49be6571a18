/- Lifting: what loops of plain computations yield. No statement of the program stands here. -/
import Derived.Test.YtbkmnghnjajdmaaLij
set_option linter.unusedVariables false
set_option linter.unusedSimpArgs false
namespace Go.Lift
open Go Go.Eng
variable {α β γ δ ε σ τ : Type}
namespace Comp
/-- a walk along a list that may stop early -/
def foldE (f : σ → α → Step σ ε) (fin : σ → ε) : σ → List α → ε
  | s, [] => fin s
  | s, x :: xs => match f s x with
    | .next s' => foldE f fin s' xs
    | .done e => e
def Step.map (g : σ → τ) : Step σ ε → Step τ ε
  | .next s => .next (g s)
  | .done e => .done e
theorem loop_foldE {body : τ → Comp (Step τ ε)} (st : σ → Nat → τ) (xs : List α) (f : σ → α → Step σ ε) (fin : σ → ε) (I : σ → Nat → Prop)
    (hb : ∀ s i x, xs[i]? = some x → I s i → (body (st s i)).val = some ((f s x).map fun s' => st s' (i + 1)))
    (hI : ∀ s i x s', xs[i]? = some x → I s i → f s x = .next s' → I s' (i + 1))
    (he : ∀ s, I s xs.length → (body (st s xs.length)).val = some (.done (fin s))) (s : σ) (h0 : I s 0) : (loop body (st s 0)).val = some (foldE f fin s xs) := by
  have key : ∀ (ys zs : List α) (s : σ), xs = zs ++ ys → I s zs.length → (loop body (st s zs.length)).val = some (foldE f fin s ys) := by
    intro ys
    induction ys with
    | nil =>
      intro zs s hx hs
      rw [List.append_nil] at hx; subst hx
      rw [val_loop, he s hs]; rfl
    | cons y ys ih =>
      intro zs s hx hs
      have hy : xs[zs.length]? = some y := by rw [hx]; simp
      rw [val_loop, hb s _ y hy hs]
      simp only [foldE, Option.bind_some]
      cases hf : f s y with
      | next s' =>
        simp only [Step.map]
        have := ih (zs ++ [y]) s' (by rw [hx]; simp) (by have := hI s _ y s' hy hs hf; simpa using this)
        simpa using this
      | done e => rfl
  exact key xs [] s rfl h0
theorem foldE_next {f : σ → α → σ} {fin : σ → ε} : ∀ (xs : List α) (s : σ), foldE (fun s x => .next (f s x)) fin s xs = fin (xs.foldl f s)
  | [], _ => rfl
  | x :: xs, s => by simp only [foldE, List.foldl_cons]; exact foldE_next xs (f s x)
theorem foldE_any {p : α → Bool} {c : ε} {d : ε} : ∀ (xs : List α), foldE (fun (_ : Unit) x => if p x = true then .done c else .next ()) (fun _ => d) () xs = if xs.any p then c else d
  | [] => by simp [foldE]
  | x :: xs => by
      simp only [foldE, List.any_cons]
      by_cases h : p x = true
      · simp [h]
      · have := foldE_any (p := p) (c := c) (d := d) xs
        rw [if_neg h]
        simp only [h, Bool.false_or]
        exact this
theorem foldl_filter {p : α → Bool} : ∀ (xs ys : List α), xs.foldl (fun acc x => if p x = true then acc ++ [x] else acc) ys = ys ++ xs.filter p
  | [], ys => by simp
  | x :: xs, ys => by
      simp only [List.foldl_cons, List.filter_cons]
      cases h : p x with
      | true => simp [foldl_filter xs]
      | false => simp [foldl_filter xs]
theorem foldl_flatMap {f : α → List β} : ∀ (xs : List α) (ys : List β), xs.foldl (fun acc x => acc ++ f x) ys = ys ++ xs.flatMap f
  | [], ys => by simp
  | x :: xs, ys => by simp [List.foldl_cons, foldl_flatMap xs]
theorem foldl_all {p : α → Bool} : ∀ (xs : List α) (b : Bool), xs.foldl (fun b x => b && p x) b = (b && xs.all p)
  | [], b => by simp
  | x :: xs, b => by simp [List.foldl_cons, foldl_all xs, Bool.and_assoc]
theorem foldl_any {p : α → Bool} : ∀ (xs : List α) (b : Bool), xs.foldl (fun b x => b || p x) b = (b || xs.any p)
  | [], b => by simp
  | x :: xs, b => by simp [List.foldl_cons, foldl_any xs, Bool.or_assoc]
/-- a loop whose states are known -/
theorem loop_seq {body : τ → Comp (Step τ ε)} (st : Nat → τ) (N : Nat) (e : ε) (hb : ∀ i, i < N → (body (st i)).val = some (.next (st (i + 1)))) (he : (body (st N)).val = some (.done e)) : (loop body (st 0)).val = some e := by
  have key : ∀ k i, i + k = N → (loop body (st i)).val = some e := by
    intro k
    induction k with
    | zero =>
      intro i hi
      have : i = N := by omega
      subst this
      rw [val_loop, he]; rfl
    | succ k ih =>
      intro i hi
      rw [val_loop, hb i (by omega)]
      exact ih (i + 1) (by omega)
  exact key N 0 (by omega)
/-! the usual loops over a list, by index -/
theorem wrap_succ {i : Nat} (h : i < 9223372036854775807) : IntKind.wrap .i64 ((i : Int) + 1) = ((i + 1 : Nat) : Int) := by
  rw [IntWalk.i64_in _ ⟨by omega, by omega⟩]; omega
/-- does one satisfy p? -/
theorem loop_any {body : Int → Comp (Step Int (Sum β Unit))} (xs : List α) (p : α → Bool) (c : β)
    (hb : ∀ (i : Nat) x, xs[i]? = some x → (body i).val = some (if p x = true then .done (.inl c) else .next ((i + 1 : Nat) : Int)))
    (he : (body xs.length).val = some (.done (.inr ()))) : (loop body 0).val = some (if xs.any p then .inl c else .inr ()) := by
  have := loop_foldE (σ := Unit) (fun _ i => ((i : Nat) : Int)) xs (fun _ x => if p x = true then .done (.inl c) else .next ()) (fun _ => (.inr () : Sum β Unit)) (fun _ _ => True) (body := body)
    (fun _ i x hx _ => by rw [hb i x hx]; cases p x <;> rfl) (fun _ _ _ _ _ _ _ => trivial) (fun _ _ => he) () trivial
  rw [← foldE_any (p := p) (c := (.inl c : Sum β Unit)) (d := .inr ())]
  exact this
/-- a fold, without an end before the end -/
theorem loop_fold {body : σ × Int → Comp (Step (σ × Int) ε)} (xs : List α) (f : σ → α → σ) (fin : σ → ε) (I : σ → Nat → Prop) (s : σ)
    (hb : ∀ s (i : Nat) x, xs[i]? = some x → I s i → (body (s, i)).val = some (.next (f s x, ((i + 1 : Nat) : Int))))
    (hI : ∀ s i x, xs[i]? = some x → I s i → I (f s x) (i + 1))
    (he : ∀ s, I s xs.length → (body (s, xs.length)).val = some (.done (fin s))) (h0 : I s 0) : (loop body (s, 0)).val = some (fin (xs.foldl f s)) := by
  have := loop_foldE (fun s i => (s, ((i : Nat) : Int))) xs (fun s x => .next (f s x)) fin I (body := body)
    (fun s i x hx h => by rw [hb s i x hx h]; rfl) (fun s i x s' hx h e => by cases e; exact hI s i x hx h) he s h0
  rw [foldE_next] at this
  exact this
/-- a fold that may end early -/
theorem loop_foldS {body : σ × Int → Comp (Step (σ × Int) ε)} (xs : List α) (f : σ → α → Step σ ε) (fin : σ → ε) (I : σ → Nat → Prop) (s : σ)
    (hb : ∀ s (i : Nat) x, xs[i]? = some x → I s i → (body (s, i)).val = some ((f s x).map fun s' => (s', ((i + 1 : Nat) : Int))))
    (hI : ∀ s i x s', xs[i]? = some x → I s i → f s x = .next s' → I s' (i + 1))
    (he : ∀ s, I s xs.length → (body (s, xs.length)).val = some (.done (fin s))) (h0 : I s 0) : (loop body (s, 0)).val = some (foldE f fin s xs) :=
  loop_foldE (fun s i => (s, ((i : Nat) : Int))) xs f fin I hb hI he s h0
end Comp
/-! partial operations where they go well -/
theorem idx_val {xs : List α} {i : Nat} {x : α} (h : xs[i]? = some x) : (idx xs (i : Int)).val = some x := by
  unfold idx; rw [if_pos (by omega)]; simp [h]
theorem idx_val' {xs : List α} {i : Int} {x : α} (h0 : 0 ≤ i) (h : xs[i.toNat]? = some x) : (idx xs i).val = some x := by
  unfold idx; rw [if_pos h0]; simp [h]
theorem app_val {xs ys : List α} (h : xs.length + ys.length ≤ LIM) : (app xs ys).val = some (xs ++ ys) := by
  unfold app; rw [if_pos h]; simp
theorem sub_val {xs : List α} {l h : Int} (hr : 0 ≤ l ∧ l ≤ h ∧ h ≤ xs.length) : (sub xs l h).val = some ((xs.take h.toNat).drop l.toNat) := by
  unfold sub; rw [if_pos hr]; simp
theorem mk_val {n : Int} {z : α} (h : 0 ≤ n ∧ n ≤ LIM) : (mk n z).val = some (List.replicate n.toNat z) := by
  unfold mk; rw [if_pos h]; simp
theorem nonneg_val {n : Int} (h : 0 ≤ n) : (nonneg n).val = some () := by
  unfold nonneg; rw [if_pos h]; simp
theorem upd_val {xs : List α} {i : Int} {x : α} (h : 0 ≤ i ∧ i < xs.length) : (upd xs i x).val = some (xs.set i.toNat x) := by
  unfold upd; rw [if_pos h]; simp
theorem rem_val {a b : Int} (h : b ≠ 0) : (rem a b).val = some (a.tmod b) := by
  unfold rem; rw [if_neg h]; simp
theorem getElem?_len {xs : List α} {i : Nat} {x : α} (h : xs[i]? = some x) : i < xs.length := (List.getElem?_eq_some_iff.1 h).1
theorem bif_ite (b c d : Bool) : (bif b then c else d) = if b = true then c else d := by cases b <;> rfl
end Go.Lift
