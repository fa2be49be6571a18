/- Lifting: partial computations, and how Go's values read as plain data. No statement of the program stands here. -/
import Derived.Test.YtbkmnghnjajdmaaRow
set_option linter.unusedVariables false
set_option linter.unusedSimpArgs false
namespace Go.Lift
open Go Go.RowKit Go.Eng

/-! ## Partial computations -/
/-- A computation that may fail, or not end: what it yields with some fuel. -/
structure Comp (α : Type) where
  run : Nat → Option α
  mono : ∀ {n m : Nat} {a : α}, n ≤ m → run n = some a → run m = some a
namespace Comp
variable {α β σ ε : Type}
def pure (a : α) : Comp α := ⟨fun _ => some a, fun _ h => h⟩
def fail : Comp α := ⟨fun _ => none, fun _ h => h⟩
def bind (c : Comp α) (f : α → Comp β) : Comp β := ⟨fun n => match c.run n with | none => none | some a => (f a).run n, by
  intro n m a hnm h
  cases hc : c.run n with
  | none => rw [hc] at h; cases h
  | some x => rw [hc] at h; rw [c.mono hnm hc]; exact (f x).mono hnm h⟩
/-- if g holds, then c; otherwise d -/
def gd (g : Bool) (c : Comp α) (d : α) : Comp α := match g with | true => c | false => pure d
def ofOpt (o : Option α) : Comp α := match o with | some a => pure a | none => fail
/-- a step of a loop -/
inductive Step (σ ε : Type) where
  | next (s : σ)
  | done (e : ε)
def loopN (body : σ → Comp (Step σ ε)) (n : Nat) : Nat → σ → Option ε
  | 0, _ => none
  | k + 1, s => match (body s).run n with
    | none => none
    | some (.next s') => loopN body n k s'
    | some (.done e) => some e
theorem loopN_mono {body : σ → Comp (Step σ ε)} {n m : Nat} (hnm : n ≤ m) : ∀ {k l : Nat} {s : σ} {e : ε}, k ≤ l → loopN body n k s = some e → loopN body m l s = some e := by
  intro k
  induction k with
  | zero => intro l s e _ h; cases h
  | succ k ih =>
    intro l s e hkl h
    obtain ⟨l, rfl⟩ : ∃ l', l = l' + 1 := ⟨l - 1, by omega⟩
    simp only [loopN] at h ⊢
    cases hb : (body s).run n with
    | none => rw [hb] at h; cases h
    | some x =>
      rw [(body s).mono hnm hb]; rw [hb] at h
      cases x with
      | next s' => exact ih (by omega) h
      | done e' => exact h
def loop (body : σ → Comp (Step σ ε)) (s : σ) : Comp ε := ⟨fun n => loopN body n n s, fun hnm h => loopN_mono hnm hnm h⟩
/-- a function that calls itself -/
def recN (F : (α → Comp β) → α → Comp β) : Nat → α → Comp β
  | 0, _ => fail
  | k + 1, a => F (recN F k) a

theorem run_pure {a b : α} {n : Nat} (h : (pure a).run n = some b) : a = b := by cases h; rfl
theorem run_bind {c : Comp α} {f : α → Comp β} {n : Nat} {b : β} (h : (c.bind f).run n = some b) : ∃ a, c.run n = some a ∧ (f a).run n = some b := by
  unfold bind at h
  simp only [] at h
  cases hc : c.run n with
  | none => rw [hc] at h; cases h
  | some x => rw [hc] at h; exact ⟨x, rfl, h⟩
theorem run_ite_t {p : Prop} [Decidable p] {c d : Comp α} {n : Nat} {a : α} (hp : p) (h : (if p then c else d).run n = some a) : c.run n = some a := by rwa [if_pos hp] at h
theorem run_ite_f {p : Prop} [Decidable p] {c d : Comp α} {n : Nat} {a : α} (hp : ¬ p) (h : (if p then c else d).run n = some a) : d.run n = some a := by rwa [if_neg hp] at h
theorem run_b_t {p : Bool} {c d : Comp α} {n : Nat} {a : α} (hp : p = true) (h : (if p = true then c else d).run n = some a) : c.run n = some a := by rwa [if_pos hp] at h
theorem run_b_f {p : Bool} {c d : Comp α} {n : Nat} {a : α} (hp : p = false) (h : (if p = true then c else d).run n = some a) : d.run n = some a := by rwa [if_neg (by simp [hp])] at h
theorem run_gd {g : Bool} {c : Comp α} {d : α} {n : Nat} {a : α} (h : (gd g c d).run n = some a) (hg : g = true) : c.run n = some a := by subst hg; exact h
theorem run_ofOpt {o : Option α} {n : Nat} {a : α} (h : (ofOpt o).run n = some a) : o = some a := by
  cases o with
  | none => cases h
  | some x => cases h; rfl
theorem run_loop {body : σ → Comp (Step σ ε)} {s : σ} {n : Nat} {e : ε} (h : (loop body s).run n = some e) : loopN body n n s = some e := h
theorem loopN_zero {body : σ → Comp (Step σ ε)} {s : σ} {n : Nat} {e : ε} (h : loopN body n 0 s = some e) : False := by cases h
theorem loopN_succ {body : σ → Comp (Step σ ε)} {s : σ} {n m : Nat} {e : ε} (h : loopN body n m s = some e) :
    ∃ m', m' < m ∧ ∃ st, (body s).run n = some st ∧ (∀ s', st = .next s' → loopN body n m' s' = some e) ∧ (∀ e', st = .done e' → e' = e) := by
  cases m with
  | zero => cases h
  | succ k =>
    simp only [loopN] at h
    cases hb : (body s).run n with
    | none => rw [hb] at h; cases h
    | some x =>
      rw [hb] at h
      refine ⟨k, by omega, x, rfl, fun s' hs => ?_, fun e' he => ?_⟩
      · subst hs; exact h
      · subst he; cases h; rfl

/-! what it yields at all -/
open Classical in
noncomputable def val (c : Comp α) : Option α := if h : ∃ a, ∃ n, c.run n = some a then some h.choose else none
theorem run_unique {c : Comp α} {n m : Nat} {a b : α} (h : c.run n = some a) (k : c.run m = some b) : a = b := by
  have h' := c.mono (Nat.le_max_left n m) h
  have k' := c.mono (Nat.le_max_right n m) k
  rw [h'] at k'; cases k'; rfl
theorem val_some {c : Comp α} {a : α} : c.val = some a ↔ ∃ n, c.run n = some a := by
  unfold val
  constructor
  · intro h
    split at h
    · rename_i hx; cases h; exact hx.choose_spec
    · cases h
  · rintro ⟨n, hn⟩
    have hx : ∃ a, ∃ n, c.run n = some a := ⟨a, n, hn⟩
    rw [dif_pos hx]
    obtain ⟨m, hm⟩ := hx.choose_spec
    rw [run_unique hm hn]
theorem val_run {c : Comp α} {n : Nat} {a : α} (h : c.run n = some a) : c.val = some a := val_some.2 ⟨n, h⟩
theorem val_none {c : Comp α} : c.val = none ↔ ∀ n, c.run n = none := by
  constructor
  · intro h n
    cases hn : c.run n with
    | none => rfl
    | some a => rw [val_run hn] at h; cases h
  · intro h
    cases hv : c.val with
    | none => rfl
    | some a => obtain ⟨n, hn⟩ := val_some.1 hv; rw [h n] at hn; cases hn
theorem val_ext {c d : Comp α} (h : ∀ a, c.val = some a ↔ d.val = some a) : c.val = d.val := by
  cases hc : c.val with
  | none =>
    cases hd : d.val with
    | none => rfl
    | some a => rw [(h a).2 hd] at hc; cases hc
  | some a => rw [(h a).1 hc]
@[simp] theorem val_pure (a : α) : (pure a).val = some a := val_run (n := 0) rfl
@[simp] theorem val_fail : (fail : Comp α).val = none := val_none.2 fun _ => rfl
@[simp] theorem val_ofOpt (o : Option α) : (ofOpt o).val = o := by cases o <;> simp [ofOpt]
theorem val_bind (c : Comp α) (f : α → Comp β) : (c.bind f).val = c.val.bind fun a => (f a).val := by
  cases hc : c.val with
  | none =>
    rw [Option.bind_none, val_none]
    intro n
    have := val_none.1 hc n
    simp [bind, this]
  | some a =>
    rw [Option.bind_some]
    obtain ⟨n, hn⟩ := val_some.1 hc
    refine val_ext fun b => ?_
    rw [val_some, val_some]
    constructor
    · rintro ⟨m, hm⟩
      obtain ⟨x, h1, h2⟩ := run_bind hm
      rw [run_unique hn h1]; exact ⟨m, h2⟩
    · rintro ⟨m, hm⟩
      refine ⟨max n m, ?_⟩
      have h1 := c.mono (Nat.le_max_left n m) hn
      have h2 := (f a).mono (Nat.le_max_right n m) hm
      simp [bind, h1, h2]
theorem val_bind_of {c : Comp α} {a : α} (h : c.val = some a) (f : α → Comp β) : (c.bind f).val = (f a).val := by rw [val_bind, h]; rfl
theorem val_ite {p : Prop} [Decidable p] (c d : Comp α) : (if p then c else d).val = if p then c.val else d.val := by split <;> rfl
theorem val_gd (g : Bool) (c : Comp α) (d : α) : (gd g c d).val = if g then c.val else some d := by cases g <;> simp [gd]
theorem opt_ext {c d : Option α} (h : ∀ a, c = some a ↔ d = some a) : c = d := by
  cases hc : c with
  | none =>
    cases hd : d with
    | none => rfl
    | some a => rw [(h a).2 hd] at hc; cases hc
  | some a => rw [(h a).1 hc]
theorem val_loop (body : σ → Comp (Step σ ε)) (s : σ) : (loop body s).val = (body s).val.bind fun | .next s' => (loop body s').val | .done e => some e := by
  refine opt_ext fun e => ?_
  constructor
  · intro h
    obtain ⟨n, hn⟩ := val_some.1 h
    obtain ⟨m', hm, st, h1, h2, h3⟩ := loopN_succ (run_loop hn)
    rw [val_run h1, Option.bind_some]
    cases st with
    | next s' =>
      have := h2 s' rfl
      exact val_run (n := n) (loopN_mono (Nat.le_refl _) (Nat.le_of_lt hm) this)
    | done e' => rw [h3 e' rfl]
  · intro h
    cases hb : (body s).val with
    | none => rw [hb] at h; cases h
    | some st =>
      rw [hb, Option.bind_some] at h
      obtain ⟨n, hn⟩ := val_some.1 hb
      cases st with
      | next s' =>
        obtain ⟨m, hm⟩ := val_some.1 h
        refine val_run (n := max n m + 1) ?_
        show loopN body _ (max n m + 1) s = some e
        simp only [loopN]
        rw [(body s).mono (by omega : n ≤ max n m + 1) hn]
        exact loopN_mono (by omega) (by omega) (run_loop hm)
      | done e' =>
        refine val_run (n := n + 1) ?_
        show loopN body _ (n + 1) s = some e
        simp only [loopN]
        rw [(body s).mono (by omega : n ≤ n + 1) hn]
        exact h
/-- A loop, by an invariant and a measure: what it yields. -/
theorem loop_rule {body : σ → Comp (Step σ ε)} (I : σ → Prop) (m : σ → Nat) (e : ε)
    (hb : ∀ s, I s → (∃ s', (body s).val = some (.next s') ∧ I s' ∧ m s' < m s) ∨ (body s).val = some (.done e)) : ∀ s, I s → (loop body s).val = some e := by
  have key : ∀ k s, m s = k → I s → (loop body s).val = some e := by
    intro k
    induction k using Nat.strongRecOn with
    | _ k ih =>
      intro s hk hI
      rw [val_loop]
      rcases hb s hI with ⟨s', h1, h2, h3⟩ | h1
      · rw [h1]; exact ih (m s') (by omega) s' rfl h2
      · rw [h1]; rfl
  exact fun s h => key _ s rfl h
/-- .. where what it yields depends on where it begins -/
theorem loop_rule' {body : σ → Comp (Step σ ε)} (I : σ → ε → Prop) (m : σ → Nat)
    (hb : ∀ s e, I s e → (∃ s', (body s).val = some (.next s') ∧ I s' e ∧ m s' < m s) ∨ (body s).val = some (.done e)) {s e} (h : I s e) : (loop body s).val = some e :=
  loop_rule (fun s => I s e) m e (fun s hs => hb s e hs) s h
end Comp
end Go.Lift
