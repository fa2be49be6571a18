/- Lemmas behind a claim of this seat. No statement of the program stands here. -/
import Derived.Test.YtebmpjdegajhgaaKCTrueA
import Derived.MapKept
import Derived.Carry
import Derived.Shelf.Small.Bits
import Derived.Shelf.Small.Wraps
import Derived.Shelf.Strconv.Itoa0
import Derived.Shelf.Sort.Plain
import Derived.Ground.Names2Prog
import Derived.Shelf.Slices.Clone
import Derived.Shelf.Slices.CompactI
import Derived.Shelf.Slices.Cells
import Derived.Shelf.Slices.In.SortNone
import Derived.Test.YtebmpjdegajhgaaProg
set_option linter.unusedSimpArgs false
set_option linter.unusedVariables false
section
set_option linter.unusedVariables false
set_option linter.unusedSimpArgs false
namespace Go.Lift
open Go Go.Eng
variable {α β γ δ ε σ τ : Type}
namespace Comp
def foldE (f : σ → α → Step σ ε) (fin : σ → ε) : σ → List α → ε
 | s, [] => fin s
 | s, x :: xs => match f s x with
  | .next s' => foldE f fin s' xs
  | .done e => e
def Step.map (g : σ → τ) : Step σ ε → Step τ ε
 | .next s => .next (g s)
 | .done e => .done e
theorem loop_foldE {body : τ → Comp (Step τ ε)} (st : σ → Nat → τ) (xs : List α) (f : σ → α → Step σ ε) (fin : σ → ε) (I : σ → Nat → Prop)
  (hb : ∀ s i x, xs[i]? = some x → I s i → (body (st s i)).val = some ((f s x).map fun s' => st s' (i + 1)))
  (hI : ∀ s i x s', xs[i]? = some x → I s i → f s x = .next s' → I s' (i + 1))
  (he : ∀ s, I s xs.length → (body (st s xs.length)).val = some (.done (fin s))) (s : σ) (h0 : I s 0) : (loop body (st s 0)).val = some (foldE f fin s xs) := by
 have key : ∀ (ys zs : List α) (s : σ), xs = zs ++ ys → I s zs.length → (loop body (st s zs.length)).val = some (foldE f fin s ys) := by
  intro ys
  induction ys with
  | nil =>
   intro zs s hx hs
   rw [List.append_nil] at hx; subst hx
   rw [val_loop, he s hs]; rfl
  | cons y ys ih =>
   intro zs s hx hs
   have hy : xs[zs.length]? = some y := by rw [hx]; simp
   rw [val_loop, hb s _ y hy hs]
   simp only [foldE, Option.bind_some]
   cases hf : f s y with
   | next s' =>
    simp only [Step.map]
    have := ih (zs ++ [y]) s' (by rw [hx]; simp) (by have := hI s _ y s' hy hs hf; simpa using this)
    simpa using this
   | done e => rfl
 exact key xs [] s rfl h0
theorem foldE_next {f : σ → α → σ} {fin : σ → ε} : ∀ (xs : List α) (s : σ), foldE (fun s x => .next (f s x)) fin s xs = fin (xs.foldl f s)
 | [], _ => rfl
 | x :: xs, s => by simp only [foldE, List.foldl_cons]; exact foldE_next xs (f s x)
theorem foldE_any {p : α → Bool} {c : ε} {d : ε} : ∀ (xs : List α), foldE (fun (_ : Unit) x => if p x = true then .done c else .next ()) (fun _ => d) () xs = if xs.any p then c else d
 | [] => by simp [foldE]
 | x :: xs => by
   simp only [foldE, List.any_cons]
   by_cases h : p x = true
   ·simp [h]
   ·have := foldE_any (p := p) (c := c) (d := d) xs
    rw [if_neg h]
    simp only [h, Bool.false_or]
    exact this
theorem foldl_filter {p : α → Bool} : ∀ (xs ys : List α), xs.foldl (fun acc x => if p x = true then acc ++ [x] else acc) ys = ys ++ xs.filter p
 | [], ys => by simp
 | x :: xs, ys => by
   simp only [List.foldl_cons, List.filter_cons]
   cases h : p x with
   | true => simp [foldl_filter xs]
   | false => simp [foldl_filter xs]
theorem foldl_flatMap {f : α → List β} : ∀ (xs : List α) (ys : List β), xs.foldl (fun acc x => acc ++ f x) ys = ys ++ xs.flatMap f
 | [], ys => by simp
 | x :: xs, ys => by simp [List.foldl_cons, foldl_flatMap xs]
theorem foldl_any {p : α → Bool} : ∀ (xs : List α) (b : Bool), xs.foldl (fun b x => b || p x) b = (b || xs.any p)
 | [], b => by simp
 | x :: xs, b => by simp [List.foldl_cons, foldl_any xs, Bool.or_assoc]
theorem wrap_succ {i : Nat} (h : i < 9223372036854775807) : IntKind.wrap .i64 ((i : Int) + 1) = ((i + 1 : Nat) : Int) := by
 rw [IntWalk.i64_in _ ⟨by omega, by omega⟩]; omega
theorem loop_any {body : Int → Comp (Step Int (Sum β Unit))} (xs : List α) (p : α → Bool) (c : β)
  (hb : ∀ (i : Nat) x, xs[i]? = some x → (body i).val = some (if p x = true then .done (.inl c) else .next ((i + 1 : Nat) : Int)))
  (he : (body xs.length).val = some (.done (.inr ()))) : (loop body 0).val = some (if xs.any p then .inl c else .inr ()) := by
 have := loop_foldE (σ := Unit) (fun _ i => ((i : Nat) : Int)) xs (fun _ x => if p x = true then .done (.inl c) else .next ()) (fun _ => (.inr () : Sum β Unit)) (fun _ _ => True) (body := body)
  (fun _ i x hx _ => by rw [hb i x hx]; cases p x <;> rfl) (fun _ _ _ _ _ _ _ => trivial) (fun _ _ => he) () trivial
 rw [← foldE_any (p := p) (c := (.inl c : Sum β Unit)) (d := .inr ())]
 exact this
theorem loop_fold {body : σ × Int → Comp (Step (σ × Int) ε)} (xs : List α) (f : σ → α → σ) (fin : σ → ε) (I : σ → Nat → Prop) (s : σ)
  (hb : ∀ s (i : Nat) x, xs[i]? = some x → I s i → (body (s, i)).val = some (.next (f s x, ((i + 1 : Nat) : Int))))
  (hI : ∀ s i x, xs[i]? = some x → I s i → I (f s x) (i + 1))
  (he : ∀ s, I s xs.length → (body (s, xs.length)).val = some (.done (fin s))) (h0 : I s 0) : (loop body (s, 0)).val = some (fin (xs.foldl f s)) := by
 have := loop_foldE (fun s i => (s, ((i : Nat) : Int))) xs (fun s x => .next (f s x)) fin I (body := body)
  (fun s i x hx h => by rw [hb s i x hx h]; rfl) (fun s i x s' hx h e => by cases e; exact hI s i x hx h) he s h0
 rw [foldE_next] at this
 exact this
end Comp
theorem idx_val {xs : List α} {i : Nat} {x : α} (h : xs[i]? = some x) : (idx xs (i : Int)).val = some x := by
 unfold idx; rw [if_pos (by omega)]; simp [h]
theorem idx_val' {xs : List α} {i : Int} {x : α} (h0 : 0 ≤ i) (h : xs[i.toNat]? = some x) : (idx xs i).val = some x := by
 unfold idx; rw [if_pos h0]; simp [h]
theorem app_val {xs ys : List α} (h : xs.length + ys.length ≤ LIM) : (app xs ys).val = some (xs ++ ys) := by
 unfold app; rw [if_pos h]; simp
theorem sub_val {xs : List α} {l h : Int} (hr : 0 ≤ l ∧ l ≤ h ∧ h ≤ xs.length) : (sub xs l h).val = some ((xs.take h.toNat).drop l.toNat) := by
 unfold sub; rw [if_pos hr]; simp
theorem mk_val {n : Int} {z : α} (h : 0 ≤ n ∧ n ≤ LIM) : (mk n z).val = some (List.replicate n.toNat z) := by
 unfold mk; rw [if_pos h]; simp
theorem nonneg_val {n : Int} (h : 0 ≤ n) : (nonneg n).val = some () := by
 unfold nonneg; rw [if_pos h]; simp
theorem upd_val {xs : List α} {i : Int} {x : α} (h : 0 ≤ i ∧ i < xs.length) : (upd xs i x).val = some (xs.set i.toNat x) := by
 unfold upd; rw [if_pos h]; simp
theorem rem_val {a b : Int} (h : b ≠ 0) : (rem a b).val = some (a.tmod b) := by
 unfold rem; rw [if_neg h]; simp
theorem getElem?_len {xs : List α} {i : Nat} {x : α} (h : xs[i]? = some x) : i < xs.length := (List.getElem?_eq_some_iff.1 h).1
theorem bif_ite (b c d : Bool) : (bif b then c else d) = if b = true then c else d := by cases b <;> rfl
end Go.Lift
end
section
set_option linter.unusedVariables false
namespace Go.Lift
open Go Go.Eng
theorem leb {n m : Nat} (h : Nat.ble n m = true) : n ≤ m := Nat.le_of_ble_eq_true h
end Go.Lift
end
section
set_option linter.unusedVariables false
set_option linter.unusedSimpArgs false
namespace Go.Lift
open Go Go.RowKit Go.Eng
variable {α β : Type}
def rIf (tag : α → Nat) (sub : α → Tags → World → Value → Prop) (hm : ∀ x {O w O' w' v}, Keep 0 O w O' w' → sub x O w v → sub x O' w' v) : GR α where
 agg := false
 sz := 1
 rel := fun O w cs x => ∃ v, cs = [.iface (tag x) v] ∧ sub x O w v
 len := fun ⟨_, h, _⟩ => by rw [h]; rfl
 one := fun ⟨v, h, _⟩ c hc => by rw [h] at hc; simp at hc; subst hc; rfl
 mono := fun hk ⟨v, h, h1⟩ => ⟨v, h, hm _ hk h1⟩
theorem rIf_v {tag : α → Nat} {sub : α → Tags → World → Value → Prop} {hm O w u x} : (rIf tag sub hm).v O w u x ↔ ∃ v, u = .iface (tag x) v ∧ sub x O w v :=
 ⟨fun ⟨cs, ⟨v, h, h1⟩, hu⟩ => by rw [h] at hu; exact ⟨v, hu, h1⟩, fun ⟨v, h, h1⟩ => ⟨_, ⟨v, rfl, h1⟩, h⟩⟩
def notIface : TypeDesc → Bool
 | .interface _ => false
 | _ => true
structure Meth (P : Program) (T : TypeId) (name : String) (f : FuncId) : Prop where
 finds : ∀ v w, (method (P.types.size + Made.depth) T v name).run P w = .ok (f, v) w
section ops
variable {P : Program} {a : Act} {w : World} {d : Option Tmp} {T : TypeId} {pos : String} {aft : Array Edge} {g : Option (Nat × Bool)}
theorem okl_mkIface {x : Operand} {X : TypeId} {u : Value} {dd z sz by_} (hT : Ty P X dd z sz by_) (hd : notIface dd = true) (hx : a.eval x = u) : Ok P ⟨d, .makeInterface X x, T, pos, aft, g⟩ a w (SP.isv (.iface X u)).holds := by
 refine ok_pure ?_
 have hu : (underlying X).run P w = .ok dd w := by simp [underlying, hT.u]
 cases dd <;> first | (cases hd; done) | simp [execOp, Instr.makeInterface, hu, hx]
theorem okl_assertY {x : Operand} {I A : TypeId} {v : Value} {dd z sz by_} (hT : Ty P A dd z sz by_) (hd : notIface dd = true) (hx : a.eval x = .iface A v) : Ok P ⟨d, .typeAssert x I A true, T, pos, aft, g⟩ a w (SP.isv (.tuple #[v, .bool true])).holds := by
 refine ok_pure ?_
 have hu : (underlying A).run P w = .ok dd w := by simp [underlying, hT.u]
 cases dd <;> first | (cases hd; done) | simp [execOp, Instr.typeAssert, hu, hx]
theorem okl_assertN {x : Operand} {I A D : TypeId} {v : Value} {dd z sz by_} (hT : Ty P A dd z sz by_) (hd : notIface dd = true) (hx : a.eval x = .iface D v) (hn : D ≠ A) : Ok P ⟨d, .typeAssert x I A true, T, pos, aft, g⟩ a w (SP.isv (.tuple #[z, .bool false])).holds := by
 refine ok_pure ?_
 have hu : (underlying A).run P w = .ok dd w := by simp [underlying, hT.u]
 cases dd <;> first | (cases hd; done) | simp [execOp, Instr.typeAssert, hu, hx, hn, hT.run_zero]
end ops
section tails
variable {P : Program} {a : Act} {w : World} {T : TypeId} {pos : String} {aft : Array Edge} {ops : Array Oper} {Q : Exit → Act → World → Prop} {rest : List Oper} {A : Nat → Prop}
theorem t_invoke {f : FuncId} {x : Operand} {name : String} {D : TypeId} {v : Value} {xs : Array Operand} {ts : Array TypeId} {args : Array Value} {R : Ending → World → Prop} {d : Option Tmp} (hm : Meth P D name f) (hf : FnOk P f) (hx : a.eval x = .iface D v) (ha : xs.map a.eval = args) (h : Calls P f (#[v] ++ args) w R)
  (hK : ∀ e w', R e w' → ∃ v, e = .returned v ∧ wpList P ops Q rest (a.put d v) w') : wpList P ops Q (⟨d, .call ⟨.invoke x name, xs, ts⟩, T, pos, aft, none⟩ :: rest) a w := by
 have hw : Region.wanted (⟨d, .call ⟨.invoke x name, xs, ts⟩, T, pos, aft, none⟩ : Oper) (yielded ops a.tmps) = true := by simp [Region.wanted]
 simp only [wpList, hw, if_true]
 left
 obtain ⟨fn, h1, h2, h3⟩ := hf.h
 have hr : (execOp a.eval ⟨d, .call ⟨.invoke x name, xs, ts⟩, T, pos, aft, none⟩).run P w = .ok (.enter f (#[v] ++ args)) w := by
  have e1 : (#[Value.iface D v] ++ args).extract 1 (#[Value.iface D v] ++ args).size = args := by
   apply Array.ext'
   simp
  have e0 : (#[Value.iface D v] ++ args)[0]? = some (Value.iface D v) := by rw [Array.getElem?_append_left (by simp)]; rfl
  simp only [execOp, resolve, ha, hx, Sem.run_bind, Sem.run_pure, Result.andThen, invoke, e0, e1, callMethod, run_program, hm.finds, callFunc, h1]
  simp [h2, h3]
 unfold Oper.wp
 rw [hr]
 refine Calls.mono h fun e w' he => ?_
 obtain ⟨v, rfl, hv⟩ := hK e w' he
 exact hv
theorem l_pioI {f : FuncId} {z : Operand} {name : String} {D : TypeId} {vz : Value} {xs : Array Operand} {ts : Array TypeId} {args : Array Value} {d : Option Tmp} {r : GR α} {k b : Nat} {T' : TypeId} {O O0 : Tags} {w0 : World} (hO0 : OkO O0 w0) (hB : Base A O0 w0 O w) {B : Nat → Prop} (hAB : OkB A w0 B) (hm : Meth P D name f) (hf : FnOk P f) (hz : a.eval z = .iface D vz) (ha : xs.map a.eval = args) {x y : α} {φ : SP}
  (h : Calls P f (#[vz] ++ args) w (BioPost r T' O w b y φ)) (hOb : BoxO k B O w b T' r x) (hK : ∀ v w2, BoxO k B O w2 b T' r y → Base A O0 w0 O w2 → KX (some k) O w O w2 → φ.holds w2 v → wpList P ops Q rest (a.put d v) w2) : wpList P ops Q (⟨d, .call ⟨.invoke z name, xs, ts⟩, T, pos, aft, none⟩ :: rest) a w :=
 t_invoke hm hf hz ha h fun e w2 he => by
  obtain ⟨v, h1, h2, h3, h4, h5⟩ := pio_post hO0 hB hAB hOb he
  exact ⟨v, h1, hK v w2 h2 h3 h4 h5⟩
end tails
end Go.Lift
end
section
set_option linter.unusedVariables false
set_option linter.unusedSimpArgs false
namespace Go.Lift
open Go Go.RowKit Go.Eng
variable {α κ ν : Type}
def mget [DecidableEq κ] : List (κ × ν) → κ → Option ν
 | [], _ => none
 | p :: ps, x => if x = p.1 then some p.2 else mget ps x
def mput [DecidableEq κ] : List (κ × ν) → κ → ν → List (κ × ν)
 | [], x, y => [(x, y)]
 | p :: ps, x, y => if x = p.1 then (x, y) :: ps else p :: mput ps x y
def fndE [DecidableEq κ] : List MapEntry → List κ → κ → Nat → Option (Nat × Value)
 | e :: es, y :: ys, x, i => if x = y then some (i, e.val) else fndE es ys x (i + 1)
 | _, _, _, _ => none
structure KeyOk (P : Program) (kT : TypeId) [DecidableEq κ] (ek : κ → Value) : Prop where
 check : ∀ e x w, (Instr.checkKey e 10000 kT (ek x)).run P w = .ok () w
 find : ∀ (es : List MapEntry) (ys : List κ) (x : κ) (w : World), es.map (·.key) = ys.map ek → (Instr.findKey kT (ek x) es).run P w = .ok (fndE es ys x 0) w
 same : ∀ x, Instr.sameBits 10000 (ek x) (ek x) = true
theorem findAsking_run [DecidableEq κ] {P : Program} {kT : TypeId} {ek : κ → Value} (heq : ∀ x y w, (Op.equal kT (ek x) (ek y)).run P w = .ok (decide (x = y)) w) : ∀ (es : List MapEntry) (ys : List κ) (x : κ) (w : World) (i : Nat), es.map (·.key) = ys.map ek → (Instr.findAsking kT (ek x) es i).run P w = .ok (fndE es ys x i) w
 | [], ys, x, w, i, h => by cases ys <;> simp [Instr.findAsking, fndE]
 | e :: es, [], x, w, i, h => by simp at h
 | e :: es, y :: ys, x, w, i, h => by
  simp only [List.map_cons, List.cons.injEq] at h
  simp only [Instr.findAsking, h.1, Sem.run_bind, heq, Result.andThen_ok, fndE]
  by_cases hxy : x = y
  ·simp [hxy]
  ·simp [hxy, findAsking_run heq es ys x w (i + 1) h.2]
theorem findNow_agg {dd : TypeDesc} (hd : isAggD dd = true) (k : Value) (e : MapEntry) (es : List MapEntry) (i : Nat) : Instr.findNow dd k (e :: es) i = none := by
 have : Instr.sameNow dd k e.key = none := by cases dd <;> first | (cases hd; done) | rfl
 simp [Instr.findNow, this]
theorem KeyOk.agg [DecidableEq κ] {P : Program} {kT : TypeId} {r : GR κ} {D : Nat} {cells : κ → List Value} (hE : EqR P kT r D) (hD : D ≤ 10000) (ha : r.agg = true) (hr : ∀ O w x, r.rel O w (cells x) x) {dd z sz by_} (hT : Ty P kT dd z sz by_) (hd : isAggD dd = true)
  (hc : ∀ e x w, (Instr.checkKey e 10000 kT (.agg (cells x).toArray)).run P w = .ok () w) (hs : ∀ x, Instr.sameBits 10000 (.agg (cells x).toArray) (.agg (cells x).toArray) = true) : KeyOk P kT (fun x => .agg (cells x).toArray) where
 check := hc
 same := hs
 find := fun es ys x w h => by
  have heq : ∀ x y w, (Op.equal kT (.agg (cells x).toArray) (.agg (cells y).toArray)).run P w = .ok (decide (x = y)) w := by
   intro x y w
   have e := hE.run (10000 - D) w (fun _ => 0) w (fun _ => 0) w (cells x) (cells y) x y (hr _ _ _) (hr _ _ _)
   rw [show 10000 - D + D = 10000 by omega, ha] at e
   exact e
  have hu : (underlying kT).run P w = .ok dd w := by simp [underlying, hT.u]
  cases es with
  | nil => cases ys <;> simp [Instr.findKey, hu, Instr.findNow, fndE]
  | cons e es => simp only [Instr.findKey, Sem.run_bind, hu, Result.andThen_ok, findNow_agg hd, findAsking_run heq (e :: es) ys x w 0 h]
theorem findNow_int (k : IntKind) : ∀ (es : List MapEntry) (ys : List Int) (x : Int) (i : Nat), es.map (·.key) = ys.map (Value.int k) → Instr.findNow (.int k) (.int k x) es i = some (fndE es ys x i)
 | [], ys, x, i, h => by cases ys <;> simp [Instr.findNow, fndE]
 | e :: es, [], x, i, h => by simp at h
 | e :: es, y :: ys, x, i, h => by
  simp only [List.map_cons, List.cons.injEq] at h
  simp only [Instr.findNow, h.1, Instr.sameNow, if_true, fndE]
  by_cases hxy : x = y
  ·simp [hxy]
  ·have : (x == y) = false := by simp [hxy]
   simp [hxy, this, findNow_int k es ys x (i + 1) h.2]
theorem KeyOk.int {P : Program} {kT : TypeId} {k : IntKind} {z sz by_} (hT : Ty P kT (.int k) z sz by_) : KeyOk P kT (Value.int k) where
 check := fun e x w => by
  have hu : (underlying kT).run P w = .ok (.int k) w := by simp [underlying, hT.u]
  rw [show (10000 : Nat) = 9999 + 1 from rfl, Instr.checkKey]
  simp [hu]
 same := fun x => by simp [Instr.sameBits]
 find := fun es ys x w h => by
  have hu : (underlying kT).run P w = .ok (.int k) w := by simp [underlying, hT.u]
  simp [Instr.findKey, hu, findNow_int k es ys x 0 h]
theorem fnd_get [DecidableEq κ] {ek : κ → Value} {ev : ν → Value} : ∀ (es : List MapEntry) (xs : List (κ × ν)) (x : κ) (i : Nat), es.map (fun e => (e.key, e.val)) = xs.map (fun p => (ek p.1, ev p.2)) → (fndE es (xs.map (·.1)) x i).map (·.2) = (mget xs x).map ev
 | [], [], x, i, h => rfl
 | [], p :: ps, x, i, h => by simp at h
 | e :: es, [], x, i, h => by simp at h
 | e :: es, p :: ps, x, i, h => by
  simp only [List.map_cons, List.cons.injEq, Prod.mk.injEq] at h
  simp only [List.map_cons, fndE, mget]
  by_cases hx : x = p.1
  ·simp [hx, h.1.2]
  ·simp [hx, fnd_get es ps x (i + 1) h.2]
theorem fnd_put [DecidableEq κ] {ek : κ → Value} {ev : ν → Value} (y : ν) : ∀ (es : List MapEntry) (xs : List (κ × ν)) (x : κ) (n i : Nat) (v : Value), es.map (fun e => (e.key, e.val)) = xs.map (fun p => (ek p.1, ev p.2)) → fndE es (xs.map (·.1)) x n = some (i, v) →
   n ≤ i ∧ (es.modify (i - n) fun e => { e with key := ek x, val := ev y }).map (fun e => (e.key, e.val)) = (mput xs x y).map (fun p => (ek p.1, ev p.2))
 | [], [], x, n, i, v, h, hf => by simp [fndE] at hf
 | [], p :: ps, x, n, i, v, h, hf => by simp at h
 | e :: es, [], x, n, i, v, h, hf => by simp at h
 | e :: es, p :: ps, x, n, i, v, h, hf => by
  simp only [List.map_cons, List.cons.injEq, Prod.mk.injEq] at h
  simp only [List.map_cons, fndE] at hf
  by_cases hx : x = p.1
  ·rw [if_pos hx] at hf
   simp only [Option.some.injEq, Prod.mk.injEq] at hf
   obtain ⟨rfl, _⟩ := hf
   refine ⟨Nat.le_refl _, ?_⟩
   simp [mput, hx, h.2]
  ·rw [if_neg hx] at hf
   obtain ⟨h1, h2⟩ := fnd_put y es ps x (n + 1) i v h.2 hf
   refine ⟨by omega, ?_⟩
   rw [show i - n = (i - (n + 1)) + 1 by omega]
   simp only [List.modify_succ_cons, List.map_cons, mput, if_neg hx, h2, h.1]
theorem fnd_none [DecidableEq κ] {ek : κ → Value} {ev : ν → Value} (y : ν) : ∀ (es : List MapEntry) (xs : List (κ × ν)) (x : κ) (n : Nat), es.map (fun e => (e.key, e.val)) = xs.map (fun p => (ek p.1, ev p.2)) → fndE es (xs.map (·.1)) x n = none → mput xs x y = xs ++ [(x, y)]
 | [], [], x, n, h, hf => rfl
 | [], p :: ps, x, n, h, hf => by simp at h
 | e :: es, [], x, n, h, hf => by simp at h
 | e :: es, p :: ps, x, n, h, hf => by
  simp only [List.map_cons, List.cons.injEq] at h
  simp only [List.map_cons, fndE] at hf
  by_cases hx : x = p.1
  ·rw [if_pos hx] at hf; cases hf
  ·rw [if_neg hx] at hf
   simp [mput, hx, fnd_none y es ps x (n + 1) h.2 hf]
theorem fndE_key [DecidableEq κ] {ek : κ → Value} : ∀ (es : List MapEntry) (ys : List κ) (x : κ) (n i : Nat) (v : Value), es.map (·.key) = ys.map ek → fndE es ys x n = some (i, v) → ∃ e, n ≤ i ∧ es[i - n]? = some e ∧ e.key = ek x
 | [], ys, x, n, i, v, h, hf => by simp [fndE] at hf
 | e :: es, [], x, n, i, v, h, hf => by simp at h
 | e :: es, y :: ys, x, n, i, v, h, hf => by
  simp only [List.map_cons, List.cons.injEq] at h
  simp only [fndE] at hf
  by_cases hx : x = y
  ·rw [if_pos hx] at hf
   simp only [Option.some.injEq, Prod.mk.injEq] at hf
   obtain ⟨rfl, _⟩ := hf
   exact ⟨e, Nat.le_refl _, by simp, by rw [h.1, hx]⟩
  ·rw [if_neg hx] at hf
   obtain ⟨e', h1, h2, h3⟩ := fndE_key es ys x (n + 1) i v h.2 hf
   exact ⟨e', by omega, by rw [show i - n = (i - (n + 1)) + 1 by omega]; simpa using h2, h3⟩
theorem vec2 {α : Type} (x : Vector α 2) : ∃ a b, x = #v[a, b] := by
 obtain ⟨⟨l⟩, h⟩ := x
 match l, h with
 | [a, b], _ => exact ⟨a, b, rfl⟩
def OwnM (k : Nat) (ek : κ → Value) (ev : ν → Value) (B : Nat → Prop) (O : Tags) (w : World) (u : Value) (xs : List (κ × ν)) : Prop :=
 ∃ b es clock, u = .map (some b) ∧ w.heap[b]? = some (.map es clock) ∧ es.toList.map (fun e => (e.key, e.val)) = xs.map (fun p => (ek p.1, ev p.2)) ∧ B b ∧ O b = k
theorem OwnM.keep {k : Nat} {ek : κ → Value} {ev : ν → Value} {B : Nat → Prop} {O O' : Tags} {w w' : World} {u : Value} {xs : List (κ × ν)} (h : OwnM k ek ev B O w u xs) (hk : Keep k O w O' w') : OwnM k ek ev B O' w' u xs := by
 obtain ⟨b, es, clock, h1, h2, h3, h4, h5⟩ := h
 obtain ⟨h6, h7⟩ := hk.2 b (Array.getElem?_eq_some_iff.1 h2).1 h5
 exact ⟨b, es, clock, h1, h7.trans h2, h3, h4, h6⟩
theorem OwnM.ext {k : Nat} {ek : κ → Value} {ev : ν → Value} {B : Nat → Prop} {O : Tags} {w w' : World} {u : Value} {xs : List (κ × ν)} (h : OwnM k ek ev B O w u xs) (hE : Ext w w') : OwnM k ek ev B O w' u xs := h.keep (Keep.ext hE)
theorem OwnM.kx {j : Option Nat} {k : Nat} {ek : κ → Value} {ev : ν → Value} {B : Nat → Prop} {O O' : Tags} {w w' : World} {u : Value} {xs : List (κ × ν)} (h : OwnM k ek ev B O w u xs) (hx : KX j O w O' w') (hk : some k ≠ j) : OwnM k ek ev B O' w' u xs := h.keep (hx.keep hk)
def SP.map0 (L : Nat) : SP := .pr (fun w v => ∃ b, L ≤ b ∧ v = .map (some b) ∧ w.heap[b]? = some (.map #[] 0)) (fun _ _ _ hE ⟨b, h1, h2, h3⟩ => ⟨b, h1, h2, (hE.block b (Array.getElem?_eq_some_iff.1 h3).1).trans h3⟩)
section ops
variable {P : Program} {a : Act} {w : World} {d : Option Tmp} {T : TypeId} {pos : String} {aft : Array Edge} {g : Option (Nat × Bool)}
theorem ok_makeMap {X : TypeId} {L : Nat} (hL : L ≤ w.heap.size) : Ok P ⟨d, .makeMap X none, T, pos, aft, g⟩ a w (SP.map0 L).holds :=
 ok_run (v := .map (some w.heap.size)) (w' := w.alloc (.map #[] 0)) (by simp [execOp, run_makeMap]) (Ext.alloc _ _) ⟨_, hL, rfl, (Go.MapKept.heap_alloc w _).1⟩
theorem okl_lookup [DecidableEq κ] {X kT vT : TypeId} {ek : κ → Value} {ev : ν → Value} {m x : Operand} {k : Nat} {B : Nat → Prop} {O : Tags} {u : Value} {xs : List (κ × ν)} {y : κ} {z0 : ν} {z1 s1 b1 dd z2 s2 b2} (hX : Ty P X (.map kT vT) z1 s1 b1) (hV : Ty P vT dd z2 s2 b2) (hz : z2 = ev z0) (hK : KeyOk P kT ek) (hm : a.eval m = u) (hO : OwnM k ek ev B O w u xs) (hx : a.eval x = ek y) :
  Ok P ⟨d, .lookup X m x false, T, pos, aft, g⟩ a w (SP.isv (ev ((mget xs y).getD z0))).holds := by
 obtain ⟨b, es, clock, rfl, h2, h3, _, _⟩ := hO
 have hu : (underlying X).run P w = .ok (.map kT vT) w := by simp [underlying, hX.u]
 have hkeys : es.toList.map (·.key) = (xs.map (·.1)).map ek := by
  have := congrArg (List.map (·.1)) h3
  simpa [List.map_map, Function.comp_def] using this
 have hf := hK.find es.toList (xs.map (·.1)) y w hkeys
 have hg := fnd_get es.toList xs y 0 h3
 refine ok_pure ?_
 subst hz
 cases hfe : fndE es.toList (xs.map (·.1)) y 0 with
 | none =>
  rw [hfe] at hf hg
  have hn : mget xs y = none := by simpa using hg.symm
  simp [execOp, Instr.lookup, hm, hx, hu, Go.MapKept.run_getObj_map h2, hK.check, hf, hV.run_zero, hn]
 | some p =>
  rw [hfe] at hf hg
  obtain ⟨q, hq⟩ : ∃ q, mget xs y = some q := by
   cases hm : mget xs y with
   | none => rw [hm] at hg; simp at hg
   | some q => exact ⟨q, rfl⟩
  rw [hq] at hg
  have hv : p.2 = ev q := by simpa using hg
  obtain ⟨i, v⟩ := p
  simp at hv
  simp [execOp, Instr.lookup, hm, hx, hu, Go.MapKept.run_getObj_map h2, hK.check, hf, hq, hv]
end ops
section tails
variable {P : Program} {a : Act} {w : World} {T : TypeId} {pos : String} {aft : Array Edge} {ops : Array Oper} {Q : Exit → Act → World → Prop} {rest : List Oper} {A : Nat → Prop}
theorem mapNew {O0 O : Tags} {w0 w w' : World} (hO0 : OkO O0 w0) (hB : Base A O0 w0 O w) (hE : Ext w w') {u : Value} (h : (SP.map0 w.heap.size).holds w' u) (k : Nat) (hk : k ≠ 0) (ek : κ → Value) (ev : ν → Value) :
  ∃ O', Base A O0 w0 O' w' ∧ KX none O w O' w' ∧ OwnM k ek ev (Fr w0) O' w' u [] := by
 obtain ⟨b, h1, h2, h3⟩ := h
 have hs := hB.size
 have hlt := (Array.getElem?_eq_some_iff.1 h3).1
 refine ⟨tag O (some b) k, (hB.step hE hO0).tag hk fun g hg => ?_, KX.tag hE fun g hg => ?_, b, _, _, h2, h3, rfl, by unfold Fr; omega, tag_same _ _ _⟩
 ·cases hg; exact ⟨hB.new _ (by omega), hlt⟩
 ·cases hg; exact h1
theorem but_setObj (w : World) (b : Nat) (o : Obj) : But b w { w with heap := w.heap.setIfInBounds b o } :=
 ⟨rfl, rfl, rfl, by simp, fun c hc hn => by simp [Array.getElem?_setIfInBounds, Ne.symm hn]⟩
theorem l_mapUpdate [DecidableEq κ] {X kT vT : TypeId} {ek : κ → Value} {ev : ν → Value} {m x v : Operand} {k : Nat} {B : Nat → Prop} {O O0 : Tags} {w0 : World} {u : Value} {xs : List (κ × ν)} {y : κ} {z : ν} {z1 s1 b1} (hO0 : OkO O0 w0) (hB : Base A O0 w0 O w) (hAB : OkB A w0 B) (hX : Ty P X (.map kT vT) z1 s1 b1) (hK : KeyOk P kT ek) (hm : a.eval m = u) (hO : OwnM k ek ev B O w u xs) (hx : a.eval x = ek y) (hv : a.eval v = ev z)
  (hK' : ∀ w', OwnM k ek ev B O w' u (mput xs y z) → Base A O0 w0 O w' → KX (some k) O w O w' → wpList P ops Q rest a w') : wpList P ops Q (⟨none, .mapUpdate X m x v, T, pos, aft, none⟩ :: rest) a w := by
 obtain ⟨b, es, clock, rfl, h2, h3, h4, h5⟩ := hO
 have hu : (underlying X).run P w = .ok (.map kT vT) w := by simp [underlying, hX.u]
 have hkeys : es.toList.map (·.key) = (xs.map (·.1)).map ek := by
  have := congrArg (List.map (·.1)) h3
  simpa [List.map_map, Function.comp_def] using this
 have hlt := (Array.getElem?_eq_some_iff.1 h2).1
 have hf := hK.find es.toList (xs.map (·.1)) y w hkeys
 have hw : Region.wanted (⟨none, .mapUpdate X m x v, T, pos, aft, none⟩ : Oper) (yielded ops a.tmps) = true := by simp [Region.wanted]
 have fin : ∀ es' clock', es'.toList.map (fun e : MapEntry => (e.key, e.val)) = (mput xs y z).map (fun p => (ek p.1, ev p.2)) → wpList P ops Q rest a { w with heap := w.heap.setIfInBounds b (.map es' clock') } := by
  intro es' clock' he
  refine hK' _ ⟨b, es', clock', rfl, by simp [hlt], he, h4, h5⟩ (hB.but (hAB.sub _ h4) (but_setObj w b _) hO0) (KX.but (but_setObj w b _) h5)
 simp only [wpList, hw, if_true]
 left
 cases hfe : fndE es.toList (xs.map (·.1)) y 0 with
 | none =>
  rw [hfe] at hf
  have hr : (execOp a.eval ⟨none, .mapUpdate X m x v, T, pos, aft, none⟩).run P w = .ok .skip { w with heap := w.heap.setIfInBounds b (.map (es.push { key := ek y, val := ev z, born := clock }) (clock + 1)) } := by
   simp [execOp, Instr.mapUpdate, hm, hx, hv, hu, Go.MapKept.run_getObj_map h2, hK.check, hf, Go.MapKept.run_setObj_map _ h2]
  unfold Oper.wp
  rw [hr]
  refine fin _ _ ?_
  rw [fnd_none z es.toList xs y 0 h3 hfe]
  simp [h3]
 | some p =>
  rw [hfe] at hf
  obtain ⟨i, v0⟩ := p
  obtain ⟨_, hmod⟩ := fnd_put z es.toList xs y 0 i v0 h3 hfe
  obtain ⟨e0, _, he0, hek⟩ := fndE_key es.toList (xs.map (·.1)) y 0 i v0 hkeys hfe
  rw [Nat.sub_zero, Array.getElem?_toList] at he0
  have hkeep : (Instr.keyThatStays e0.key (ek y)).run P w = .ok (ek y) w := by simp [Instr.keyThatStays, hek, hK.same]
  have hr : (execOp a.eval ⟨none, .mapUpdate X m x v, T, pos, aft, none⟩).run P w = .ok .skip { w with heap := w.heap.setIfInBounds b (.map (es.modify i fun e => { e with key := ek y, val := ev z }) clock) } := by
   simp [execOp, Instr.mapUpdate, hm, hx, hv, hu, Go.MapKept.run_getObj_map h2, hK.check, hf, he0, hkeep, Go.MapKept.run_setObj_map _ h2]
  unfold Oper.wp
  rw [hr]
  refine fin _ _ ?_
  rw [Array.toList_modify]
  simpa using hmod
end tails
end Go.Lift
end
section
set_option linter.unusedVariables false
set_option linter.unusedSimpArgs false
namespace Go.Lift
open Go Go.RowKit Go.Eng
variable {α : Type}
def OwnA (r : GR α) (T : Nat) (O : Tags) (w : World) (u : Value) (xs : List α) : Prop := OwnR r T 0 O w u xs ∧ ∀ g, u.ownBlock = some g → O g ≠ 0
theorem OwnL.argA {k : Nat} {r : GR α} {T B O w u xs} (h : OwnL k r T B O w u xs) (hk : k ≠ 0) : OwnA r T O w u xs :=
 ⟨h.arg hk, fun g hg => by obtain ⟨vs, _, _, h3⟩ := h; rw [(h3 g hg).1]; exact hk⟩
def FrS (w0 : World) (u : Value) : Nat → Prop := fun b => w0.heap.size ≤ b ∨ u.ownBlock = some b
theorem sioStart {r : GR α} {T : TypeId} {O : Tags} {w : World} {u : Value} {xs : List α} (hO : OkO O w) (h : OwnA r T O w u xs) :
  ∃ O', Base (FrS w u) O w O' w ∧ OwnL 1 r T (FrS w u) O' w u xs ∧ Keep 0 O w O' w := by
 obtain ⟨⟨vs, h1, h2⟩, h3⟩ := h
 refine ⟨tag O u.ownBlock 1, ⟨rfl, rfl, rfl, Nat.le_refl _, fun _ _ _ => rfl, hO.tag fun g hg => h1.block_lt g hg, fun c _ hc => tag_ne fun e => hc (.inr e), fun c _ hz => ?_, fun _ h => .inl h⟩, ⟨vs, h1, h2, fun g hg => ⟨by rw [hg]; exact tag_same _ _ _, .inr hg⟩⟩, Nat.le_refl _, fun c _ hc => ⟨?_, rfl⟩⟩
 ·by_cases e : u.ownBlock = some c
  ·rw [e, tag_same] at hz; cases hz
  ·rw [tag_ne e] at hz; exact hz
 ·rw [tag_ne fun e => h3 c e hc]; exact hc
theorem OwnL.appd {k : Nat} {r : GR α} {T : TypeId} {O O' : Tags} {w0 w : World} {u u' : Value} {ys : List α} (hB : Base (FrS w0 u) O w0 O' w) (h : OwnL k r T (FrS w0 u) O' w u' ys) : Appd w0 w u u' :=
 ⟨⟨hB.os, hB.tape, hB.output, hB.size, fun c hc hn => hB.block c hc fun e => by
   rcases e with e | e
   ·omega
   ·exact hn e.symm⟩, by
  obtain ⟨vs, _, _, h3⟩ := h
  cases hu : u'.ownBlock with
  | none => exact .inr fun g hg => by cases hg
  | some g =>
   rcases (h3 g hu).2 with e | e
   ·exact .inr fun g' hg => by cases hg; exact e
   ·exact .inl e.symm⟩
theorem sioEnd {k : Nat} {r : GR α} {T : TypeId} {O O' : Tags} {w0 w : World} {u u' v : Value} {ys : List α} (hB : Base (FrS w0 u) O w0 O' w) (h : OwnL k r T (FrS w0 u) O' w u' ys) (hk : k ≠ 0) (hv : v = u') : IoPost r T O w0 u ys (fun v u' => v = u') (.returned v) w := by
 refine ⟨v, u', rfl, h.appd hB, ?_, hv⟩
 obtain ⟨vs, h1, h2, h3⟩ := h
 refine ⟨vs, h1, h2.mono ⟨Nat.le_refl _, fun c hc h0 => ⟨?_, rfl⟩⟩⟩
 rw [tag_ne fun e => by rw [(h3 c e).1] at h0; exact hk h0]
 exact hB.zero c hc h0
theorem OwnL.pre {k : Nat} {r : GR α} {T : TypeId} {B : Nat → Prop} {O : Tags} {w : World} {u : Value} {xs ys : List α} (h : OwnL k r T B O w u xs) {m : Int} {n : Nat} (hs : (sub xs 0 m).run n = some ys) : OwnL k r T B O w (preV u ys.length) ys := by
 obtain ⟨⟨_, h2', h3'⟩, h4'⟩ := run_sub hs
 obtain ⟨vs, h1, h2, h3⟩ := h
 have hl := h2.len
 have e4 : ys = xs.take m.toNat := by simpa using h4'.symm
 have e5 : ys.length = m.toNat := by rw [e4, List.length_take]; omega
 refine ⟨vs.take ys.length, ownS_pre h1 (by omega), ?_, fun g hg => h3 g (by rw [← hg, preV_block])⟩
 have e6 : ys = xs.take ys.length := by rw [e5]; exact e4
 conv => rhs; rw [e6]
 exact h2.take _
def sufV : Value → Nat → Nat → Value
 | .slice a n c, lo, E => .slice (if c = lo then a else a.map (·.add (lo * E))) (n - lo) (c - lo)
 | v, _, _ => v
section ops
variable {P : Program} {a : Act} {w : World} {d : Option Tmp} {T : TypeId} {pos : String} {aft : Array Edge} {g : Option (Nat × Bool)}
theorem okl_slice_s {x l : Operand} {X e : TypeId} {r : GR α} {O : Tags} {xs ys : List α} {n : Int} {k : IntKind} {m : Nat} {z sz by_ dd z' E by_'} (hT : Ty P X (.slice e) z sz by_) (he : Ty P e dd z' E by_') (hE : r.sz = E) {u : Value} (hu : a.eval x = u) (hx : (rSl r).v O w u xs) (hl : a.eval l = .int k n) (hr : (sub xs n xs.length).run m = some ys) :
  Ok P ⟨d, .slice X x (some l) none none, T, pos, aft, g⟩ a w (SP.isv (sufV u n.toNat E)).holds := by
 obtain ⟨⟨h1, h2, h3⟩, h4⟩ := run_sub hr
 obtain ⟨vs, s1, s2, s3⟩ := rSl_v.1 hx
 subst hE
 have hlen := s2.len
 obtain ⟨p, c, hu', hc⟩ := s1.slice
 rw [hu'] at hu
 refine ok_run (v := sufV u n.toNat r.sz) (w' := w) ?_ (Ext.refl w) rfl
 simp [execOp, Instr.sliceAt, Instr.slice, Instr.sliceBounds, hu, hl, hT.run_u, he.run_size, bound_run h1 (show n ≤ (vs.length : Int) by omega), hu', sufV]
end ops
theorem range_zero (zc : Array Value) (n : Nat) : (Builtin.zeroCells zc n).toList = (List.replicate n zc.toList).flatten := by
 simp only [Builtin.zeroCells, Array.toList_map, Array.toList_range]
 induction n with
 | zero => simp
 | succ n ih =>
  rw [Nat.add_mul, Nat.one_mul, List.range_add, List.map_append, ih, List.replicate_succ', List.flatten_append]
  congr 1
  simp only [List.flatten_cons, List.flatten_nil, List.append_nil, List.map_map]
  apply List.ext_getElem
  ·simp
  ·intro i h1 h2
   have hi : i < zc.size := by simpa using h1
   simp [Nat.add_mod, Nat.mod_eq_of_lt hi, hi]
section tails
variable {P : Program} {a : Act} {w : World} {T : TypeId} {pos : String} {aft : Array Edge} {ops : Array Oper} {Q : Exit → Act → World → Prop} {rest : List Oper} {A : Nat → Prop}
theorem t_run {o : Oper} {v : Value} {w' : World} (h : (execOp a.eval o).run P w = .ok (.value v) w') (hg : o.guard = none) (hd : o.dst = none) (hK : wpList P ops Q rest a w') : wpList P ops Q (o :: rest) a w := by
 have : Region.wanted o (yielded ops a.tmps) = true := by simp [Region.wanted, hg]
 simp only [wpList, this, if_true]
 left
 unfold Oper.wp; rw [h]
 show wpList P ops Q rest (a.put o.dst v) w'
 rw [hd]; exact hK
theorem l_clear {x : Operand} {t e E k : Nat} {m : Int} {nf : Nat} {r : GR α} (hr : r.fits) (hE : r.sz = E) {O O0 : Tags} {w0 : World} (hO0 : OkO O0 w0) (hB : Base A O0 w0 O w) {B : Nat → Prop} (hAB : OkB A w0 B) {xs ys : List α} {u z : Value} {z0 : α} {z1 s1 b1 dd b2} (hT : Ty P t (.slice e) z1 s1 b1) (he : Ty P e dd z E b2) (hx : a.eval x = sufV u m.toNat E) (hO : OwnL k r e B O w u xs) (hk : k ≠ 0) (hs : (sub xs m xs.length).run nf = some ys) (hz : ∀ O w, r.v O w z z0)
  (hK : ∀ w', OwnL k r e B O w' u (xs.take m.toNat ++ List.replicate (xs.length - m.toNat) z0) → Base A O0 w0 O w' → KX (some k) O w O w' → wpList P ops Q rest a w') : wpList P ops Q (⟨none, .call ⟨.builtin .clear, #[x], #[t]⟩, T, pos, aft, none⟩ :: rest) a w := by
 obtain ⟨⟨h1', h2', _⟩, _⟩ := run_sub hs
 have hlo : m.toNat ≤ xs.length := by omega
 clear hs h1' h2'
 generalize m.toNat = lo at hx hK hlo
 subst hE
 have hge := hO.ge
 have htag := hO.tagged
 have hO' := hO
 obtain ⟨vs, h1, h2, h3⟩ := hO
 have hlen := h2.len
 have hu : (underlying t).run P w = .ok (.slice e) w := by simp [underlying, hT.u]
 have zsz : z.cells.size = r.sz := r.cells_size hr (hz O w)
 by_cases h0 : xs.length - lo = 0
 ·have e : xs.take lo ++ List.replicate (xs.length - lo) z0 = xs := by rw [h0, List.take_of_length_le (by omega)]; simp
  rw [e] at hK
  refine t_run (v := .tuple #[]) (w' := w) ?_ rfl rfl (hK w hO' hB ⟨Nat.le_refl _, fun _ _ _ => ⟨rfl, rfl⟩⟩)
  obtain ⟨p, c, hu', hc⟩ := h1.slv.slice
  have : vs.length - lo = 0 := by omega
  cases p <;> by_cases hcl : c = lo <;> simp [execOp, resolve, invoke, builtin, hx, hu', sufV, Builtin.clear_, hu, this, hcl]
 ·rcases h1.row.2 with ⟨_, h4⟩ | ⟨g, cap, cur, hu', hBg, hg, hnc, hcm, hcs, htk⟩
  ·omega
  have hcl : ¬ cap = lo := by omega
  have hxv : sufV u lo r.sz = .slice (some ⟨g, lo * r.sz, none⟩) (vs.length - lo) (cap - lo) := by
   rw [hu']
   simp only [sufV, if_neg hcl, Option.map_some, addr_add, Nat.zero_add]
  have hLl : (List.replicate (vs.length - lo) z.cells.toList).flatten.length = (vs.length - lo) * r.sz := by simp [zsz]
  have hmul : vs.length * r.sz = lo * r.sz + (vs.length - lo) * r.sz := by rw [← Nat.add_mul]; congr 1; omega
  have hcap : vs.length * r.sz ≤ cap * r.sz := Nat.mul_le_mul_right _ hnc
  have hone : ∀ v ∈ (List.replicate (vs.length - lo) z.cells.toList).flatten, v.oneCell' = true := by
   intro v hv
   obtain ⟨l, hl, hvl⟩ := List.mem_flatten.1 hv
   rw [List.eq_of_mem_replicate hl] at hvl
   exact r.cells_one hr (hz O w) v hvl
  obtain ⟨w', cs', s1, s2, s3, s4, s5, s6, s7, s8, s9⟩ := run_storeCells2 (P := P) (off := lo * r.sz) (List.replicate (vs.length - lo) z.cells.toList).flatten 0 w cur hone hg (by rw [hLl, hcs]; omega)
  have h5 : Appd w w' u u := ⟨⟨s5, s6, s7, by omega, fun c _ hc => s9 c (fun e => hc (by rw [hu', e]; rfl))⟩, .inl rfl⟩
  have hkx : KX (some k) O w O w' := ⟨h5.by_.size, fun b hb hbk => ⟨rfl, h5.by_.block b hb (fun e => hbk (by rw [htag b e.symm]))⟩⟩
  have k0 := hkx.keep (k := 0) (by simpa using hk.symm)
  have hsb := hB.size
  have hs2 := h5.by_.size
  have hsz : ∀ x ∈ vs.take lo ++ List.replicate (vs.length - lo) z, x.cells.size = r.sz := by
   intro x hx'
   rcases List.mem_append.1 hx' with h | h
   ·exact h1.sz x (List.mem_of_mem_take h)
   ·rw [List.eq_of_mem_replicate h]; exact zsz
  have hl' : (vs.take lo ++ List.replicate (vs.length - lo) z).length = vs.length := by simp; omega
  have hfl : flat (vs.take lo ++ List.replicate (vs.length - lo) z) = cur.toList.take (lo * r.sz) ++ (List.replicate (vs.length - lo) z.cells.toList).flatten := by
   have e1 : flat (vs.take lo ++ List.replicate (vs.length - lo) z) = flat (vs.take lo) ++ flat (List.replicate (vs.length - lo) z) := by unfold flat; rw [List.flatMap_append]
   rw [e1, ← flat_take h1.sz lo, ← htk, List.take_take, Nat.min_eq_left (by omega)]
   congr 1
   unfold flat
   rw [List.flatMap_def, List.map_replicate]
  have hO2 : OwnS w' 0 e r.sz u (vs.take lo ++ List.replicate (vs.length - lo) z) := by
   refine ⟨hsz, by rw [flat_len hsz], .inr ⟨g, cap, cs', by rw [hu', hl'], hBg, s2, by rw [hl']; exact hnc, hcm, by rw [s3, hcs], ?_⟩⟩
   rw [hfl, hl']
   apply List.ext_getElem?
   intro j
   have hcl' : cur.toList.length = cap * r.sz := by rw [Array.length_toList, hcs]
   rw [List.getElem?_take, List.getElem?_append, List.length_take, hcl', Nat.min_eq_left (by omega)]
   have hj := s4 j
   rw [hLl, Nat.add_zero] at hj
   by_cases ha : j < lo * r.sz
   ·rw [if_pos (by omega), if_pos ha, List.getElem?_take, if_pos ha, Array.getElem?_toList, hj, if_neg (by omega), Array.getElem?_toList]
   ·rw [if_neg ha]
    by_cases hb : j < vs.length * r.sz
    ·rw [if_pos hb, Array.getElem?_toList, hj, if_pos (by omega)]
    ·rw [if_neg hb, List.getElem?_eq_none (by rw [hLl]; omega)]
  have hRel : RelL r O w' (vs.take lo ++ List.replicate (vs.length - lo) z) (xs.take lo ++ List.replicate (xs.length - lo) z0) := by
   rw [hlen]
   exact RelL.append ((h2.mono k0).take lo) (RelL.replicate (hz O w') _)
  refine t_run (v := .tuple #[]) (w' := w') ?_ rfl rfl (hK w' ⟨_, hO2, hRel, h3⟩ ?_ hkx)
  ·obtain ⟨n1, hn1⟩ : ∃ n1, vs.length - lo = n1 + 1 := ⟨vs.length - lo - 1, by omega⟩
   rw [hn1] at hxv s1
   rw [← range_zero] at s1
   simp [execOp, resolve, invoke, builtin, hx, hxv, Builtin.clear_, hu, he.run_zero, s1]
  ·exact ⟨h5.by_.os.trans hB.os, h5.by_.tape.trans hB.tape, h5.by_.output.trans hB.output, by omega, fun b hb hnA => (h5.by_.block b (by omega) (fun e => hnA (hAB.sub b (hge b e.symm).1))).trans (hB.block b hb hnA),
    fun b hb' => hB.ok b (by omega), hB.old, fun b _ ho => by
     by_cases hlt : b < w.heap.size
     ·exact hB.zero b hlt ho
     ·exact hO0 b (by omega), hB.new⟩
end tails
end Go.Lift
end
section
namespace Go.F
open Go Go.Lift
set_option linter.unusedVariables false
structure api_Claim where
 Party : Int
 Kind : Int
 Gauge : Int
 Sure : List Int
 Touched : List Int
instance : Inhabited api_Claim := ⟨⟨default, default, default, default, default⟩⟩
structure api_Sight where
 Gauge : Int
 Cell : Int
 There : Bool
 deriving DecidableEq
instance : Inhabited api_Sight := ⟨⟨default, default, default⟩⟩
structure court_cut where
 sure_ : List Int
 touched_ : List Int
instance : Inhabited court_cut := ⟨⟨default, default⟩⟩
structure court_blank where
 cells_ : List Int
instance : Inhabited court_blank := ⟨⟨default⟩⟩
inductive court_voice where
 | c96 (x : court_cut)
 | c101 (x : court_blank)
 | c102 (x : List api_Sight)
instance : Inhabited court_voice := ⟨.c96 default⟩
def court_voice.as96 : court_voice → court_cut × Bool
 | .c96 x => (x, true)
 | _ => ((court_cut.mk [] []), false)
structure court_fate where
 solid_ : Bool
 empty_ : Bool
 taken_ : Bool
 loose_ : Bool
 there_ : Bool
 gone_ : Bool
 deriving DecidableEq
instance : Inhabited court_fate := ⟨⟨default, default, default, default, default, default⟩⟩
structure colletref01_Draw where
 L : List Int
 At : Int
instance : Inhabited colletref01_Draw := ⟨⟨default, default⟩⟩
structure colletlaw43_Case where
 Claims : List (List Int)
 Cells : Int
 Sights : List Int
instance : Inhabited colletlaw43_Case := ⟨⟨default, default, default⟩⟩
structure colletlaw43_world where
 material_ : Int
 removed_ : List Int
instance : Inhabited colletlaw43_world := ⟨⟨default, default⟩⟩
def colletlaw43_example  : Comp (List api_Claim) :=
  Comp.pure [(api_Claim.mk (-1) 1 0 [] [0, 1]), (api_Claim.mk 0 2 0 [0] [0]), (api_Claim.mk 1 2 0 [] [1]), (api_Claim.mk 2 3 0 [] [])]
def slices_Index_int_int_l2 (x_0 : List Int) (x_1 : Int) (x1 : Int) : Comp (Comp.Step Int (Sum Int Unit)) :=
  if (decide (x1 < (x_0.length : Int))) = true then
  ( (idx x_0 x1).bind fun x3 => if (decide (x_1 = x3)) = true then
  ( Comp.pure (.done (.inl x1)))
  else
  ( Comp.pure (.next (IntKind.wrap .i64 (x1 + 1)))))
  else
  (Comp.pure (.done (.inr ())))
def slices_Index_int_int_j1  : Comp Int :=
  Comp.pure (-1)
def slices_Index_int_int (x_0 : List Int) (x_1 : Int) : Comp Int :=
  (Comp.loop (fun s => slices_Index_int_int_l2 x_0 x_1 s) 0).bind (fun e => match e with | (.inl x4) => (Comp.pure x4) | (.inr ()) => (slices_Index_int_int_j1))
def slices_Contains_int_int (x_0 : List Int) (x_1 : Int) : Comp Bool :=
  (slices_Index_int_int x_0 x_1).bind fun x1 => Comp.pure (decide (x1 ≥ 0))
def court_check_f1 (x_0 : Int) (x_1 : api_Claim) : Comp Bool :=
  (slices_Contains_int_int x_1.Touched x_0).bind fun x1 => Comp.pure (!x1)
def cmp_isNaN_int (x_0 : Int) : Comp Bool :=
  Comp.pure (decide (x_0 ≠ x_0))
def cmp_Less_int (x_0 : Int) (x_1 : Int) : Comp Bool :=
  (cmp_isNaN_int x_0).bind fun x1 => (Comp.gd (x1 == true) (cmp_isNaN_int x_1) default).bind fun x2 => (Comp.pure ((bif (bif x1 then (!x2) else false) then true else (decide (x_0 < x_1))))).bind fun x3 => Comp.pure x3
def slices_IsSorted_int_int_l2 (x_0 : List Int) (x2 : Int) : Comp (Comp.Step Int (Sum Bool Unit)) :=
  if (decide (x2 > 0)) = true then
  ((idx x_0 x2).bind fun x4 => (idx x_0 (IntKind.wrap .i64 (x2 - 1))).bind fun x5 => (cmp_Less_int x4 x5).bind fun x6 => if x6 = true then
  ( Comp.pure (.done (.inl false)))
  else
  ( Comp.pure (.next (IntKind.wrap .i64 (x2 - 1)))))
  else
  (Comp.pure (.done (.inr ())))
def slices_IsSorted_int_int_j1  : Comp Bool :=
  Comp.pure true
def slices_IsSorted_int_int (x_0 : List Int) : Comp Bool :=
  (Comp.pure ((IntKind.wrap .i64 ((x_0.length : Int) - 1)))).bind fun x1 => (Comp.loop (fun s => slices_IsSorted_int_int_l2 x_0 s) x1).bind (fun e => match e with | (.inl x7) => (Comp.pure x7) | (.inr ()) => (slices_IsSorted_int_int_j1))
def slices_Clone_int_int (x_0 : List Int) : Comp (List Int) :=
   (app [] x_0).bind fun x5 => Comp.pure x5
def court_sorted (x_0 : List Int) : Comp Bool :=
  (slices_IsSorted_int_int x_0).bind fun x1 => (Comp.gd (x1 == true) (slices_Clone_int_int x_0) default).bind fun x2 => (Comp.gd (x1 == true) (compactI x2) default).bind fun x3 => (Comp.pure ((bif x1 then (decide ((x3.length : Int) = (x_0.length : Int))) else false))).bind fun x5 => Comp.pure x5
def court_outside_f1 (x_0 : Int) (x_1 : Int) : Comp Bool :=
  (Comp.pure ((bif (decide (x_0 < 0)) then true else (decide (x_0 ≥ x_1))))).bind fun x1 => Comp.pure x1
def slices_IndexFunc_int_int_l2 (x_0 : List Int) (x_1 : Int → Comp Bool) (x1 : Int) : Comp (Comp.Step Int (Sum Int Unit)) :=
  if (decide (x1 < (x_0.length : Int))) = true then
  ( (idx x_0 x1).bind fun x3 => (x_1 x3).bind fun x4 => if x4 = true then
  ( Comp.pure (.done (.inl x1)))
  else
  ( Comp.pure (.next (IntKind.wrap .i64 (x1 + 1)))))
  else
  (Comp.pure (.done (.inr ())))
def slices_IndexFunc_int_int_j1  : Comp Int :=
  Comp.pure (-1)
def slices_IndexFunc_int_int (x_0 : List Int) (x_1 : Int → Comp Bool) : Comp Int :=
  (Comp.loop (fun s => slices_IndexFunc_int_int_l2 x_0 x_1 s) 0).bind (fun e => match e with | (.inl x5) => (Comp.pure x5) | (.inr ()) => (slices_IndexFunc_int_int_j1))
def slices_ContainsFunc_int_int (x_0 : List Int) (x_1 : Int → Comp Bool) : Comp Bool :=
  (slices_IndexFunc_int_int x_0 x_1).bind fun x1 => Comp.pure (decide (x1 ≥ 0))
def court_outside (x_0 : List Int) (x_1 : Int) : Comp Bool :=
  (slices_ContainsFunc_int_int x_0 (fun z0 => court_outside_f1 z0 x_1)).bind fun x3 => Comp.pure x3
def court_check_j1 (x_0 : api_Claim) (x11 : Bool) : Comp Int :=
 if x11 = true then
  ( Comp.pure 4)
  else
  ( (Comp.pure ((bif (decide (x_0.Gauge < 0)) then true else (decide (x_0.Gauge ≥ 8))))).bind fun x16 => if x16 = true then
  ( Comp.pure 3)
  else
  ( Comp.pure 0))
def court_check (x_0 : api_Claim) (x_1 : Int) : Comp Int :=
   (Comp.pure ((bif (decide (x_0.Party < (-1))) then true else (decide (x_0.Party ≥ 6))))).bind fun x4 => if x4 = true then
  ( Comp.pure 55)
  else
  ( (Comp.pure ((bif (decide (x_0.Kind < 1)) then true else (decide (x_0.Kind > 3))))).bind fun x5 => if x5 = true then
  ( Comp.pure 4)
  else
  ((court_sorted x_0.Sure).bind fun x6 => (Comp.gd ((!x6) == false) (court_sorted x_0.Touched) default).bind fun x7 => if (bif (!x6) then true else (!x7)) = true then
  ( Comp.pure 7)
  else
  ((court_outside x_0.Sure x_1).bind fun x8 => (Comp.gd (x8 == false) (court_outside x_0.Touched x_1) default).bind fun x9 => if (bif x8 then true else x9) = true then
  ( Comp.pure 3)
  else
  ( (Comp.pure ((bif (decide (x_0.Kind ≠ 3)) then (decide (x_0.Gauge ≠ 0)) else false))).bind fun x10 => if x10 = true then
  (court_check_j1 x_0 x10)
  else
  ( (Comp.pure ((bif (decide (x_0.Kind ≠ 2)) then (decide ((x_0.Sure.length : Int) > 0)) else false))).bind fun x12 => if x12 = true then
  (court_check_j1 x_0 x12)
  else
  ( (Comp.pure ((bif (decide (x_0.Kind = 3)) then (decide ((x_0.Touched.length : Int) > 0)) else false))).bind fun x13 => if x13 = true then
  (court_check_j1 x_0 x13)
  else
  ((slices_ContainsFunc_int_int x_0.Sure (fun z0 => court_check_f1 z0 x_0)).bind fun x14 => court_check_j1 x_0 x14)))))))
def court_Check_j3 (x10 : Int) (x36 : List ((Vector Int 2) × Bool)) : Comp (Comp.Step ((List ((Vector Int 2) × Bool)) × Int) (Sum Int Unit)) :=
  Comp.pure (.next (x36, (IntKind.wrap .i64 (x10 + 1))))
def court_Check_l2 (x_0 : List api_Claim) (x_2 : Int) (x7 : List ((Vector Int 2) × Bool)) (x10 : Int) : Comp (Comp.Step ((List ((Vector Int 2) × Bool)) × Int) (Sum Int Unit)) :=
  if (decide (x10 < (x_0.length : Int))) = true then
  ((idx x_0 x10).bind fun x12 => (court_check x12 x_2).bind fun x25 =>  if (decide (x25 ≠ 0)) = true then
  ( Comp.pure (.done (.inl x25)))
  else
  (  if (decide (x12.Kind ≠ 2)) = true then
  ( (Comp.pure (((mget x7 (#v[x12.Kind, x12.Gauge] : Vector Int 2)).getD false))).bind fun x33 => if x33 = true then
  ( Comp.pure (.done (.inl 6)))
  else
  ( court_Check_j3 x10 (mput x7 (#v[x12.Kind, x12.Gauge] : Vector Int 2) true)))
  else
  (court_Check_j3 x10 x7)))
  else
  (Comp.pure (.done (.inr ())))
def court_Check_l5 (x_1 : List api_Sight) (x_2 : Int) (x41 : Int) : Comp (Comp.Step Int (Sum Int Unit)) :=
  if (decide (x41 < (x_1.length : Int))) = true then
  ((idx x_1 x41).bind fun x43 =>  (Comp.pure ((bif (bif (bif (decide (x43.Gauge < 0)) then true else (decide (x43.Gauge ≥ 8))) then true else (decide (x43.Cell < 0))) then true else (decide (x43.Cell ≥ x_2))))).bind fun x50 => if x50 = true then
  ( Comp.pure (.done (.inl 3)))
  else
  ( Comp.pure (.next (IntKind.wrap .i64 (x41 + 1)))))
  else
  (Comp.pure (.done (.inr ())))
def court_Check_j4  : Comp Int :=
  Comp.pure 0
def court_Check_j1 (x_1 : List api_Sight) (x_2 : Int) : Comp Int :=
  (Comp.loop (fun s => court_Check_l5 x_1 x_2 s) 0).bind (fun e => match e with | (.inl x51) => (Comp.pure x51) | (.inr ()) => (court_Check_j4))
def court_Check (x_0 : List api_Claim) (x_1 : List api_Sight) (x_2 : Int) : Comp Int :=
  (Comp.pure ((bif (decide (x_2 < 1)) then true else (decide (x_2 > 16))))).bind fun x1 => if x1 = true then
  ( Comp.pure 3)
  else
  ( (Comp.pure ((bif (decide ((x_0.length : Int) > 10)) then true else (decide ((x_1.length : Int) > 40))))).bind fun x2 => if x2 = true then
  ( Comp.pure 2)
  else
  (  (Comp.loop (fun s => court_Check_l2 x_0 x_2 s.1 s.2) ([], 0)).bind (fun e => match e with | (.inl x26) => (Comp.pure x26) | (.inr ()) => (court_Check_j1 x_1 x_2))))
def court_voices_j6 (x37 : Int) (x52 : List api_Sight) : Comp (Comp.Step ((List api_Sight) × Int) (List api_Sight)) :=
  Comp.pure (.next (x52, (IntKind.wrap .i64 (x37 + 1))))
def court_voices_l5 (x_1 : List api_Sight) (x6 : api_Claim) (x34 : List api_Sight) (x37 : Int) : Comp (Comp.Step ((List api_Sight) × Int) (List api_Sight)) :=
  if (decide (x37 < (x_1.length : Int))) = true then
  ((idx x_1 x37).bind fun x39 =>  if (decide (x39.Gauge = x6.Gauge)) = true then
  ( (app x34 [x39]).bind fun x48 => court_voices_j6 x37 x48)
  else
  (court_voices_j6 x37 x34))
  else
  (Comp.pure (.done x34))
def court_voices_j3 (x4 : Int) (x25 : List court_voice) : Comp (Comp.Step ((List court_voice) × Int) (List court_voice)) :=
  Comp.pure (.next (x25, (IntKind.wrap .i64 (x4 + 1))))
def court_voices_j4 (x1 : List court_voice) (x4 : Int) (x58 : List api_Sight) : Comp (Comp.Step ((List court_voice) × Int) (List court_voice)) :=
  (app x1 [(court_voice.c102 x58)]).bind fun x66 => court_voices_j3 x4 x66
def court_voices_l2 (x_0 : List api_Claim) (x_1 : List api_Sight) (x1 : List court_voice) (x4 : Int) : Comp (Comp.Step ((List court_voice) × Int) (List court_voice)) :=
  if (decide (x4 < (x_0.length : Int))) = true then
  ((idx x_0 x4).bind fun x6 =>   if (decide (x6.Kind = 1)) = true then
  ( (app x1 [(court_voice.c101 (court_blank.mk x6.Touched))]).bind fun x21 => court_voices_j3 x4 x21)
  else
  ( if (decide (x6.Kind = 2)) = true then
  ( (app x1 [(court_voice.c96 (court_cut.mk x6.Sure x6.Touched))]).bind fun x30 => court_voices_j3 x4 x30)
  else
  (  (Comp.loop (fun s => court_voices_l5 x_1 x6 s.1 s.2) ([], 0)).bind (fun x57 => court_voices_j4 x1 x4 x57))))
  else
  (Comp.pure (.done x1))
def court_voices_j1 (x73 : List court_voice) : Comp (List court_voice) :=
  Comp.pure x73
def court_voices (x_0 : List api_Claim) (x_1 : List api_Sight) : Comp (List court_voice) :=
   (Comp.loop (fun s => court_voices_l2 x_0 x_1 s.1 s.2) ([], 0)).bind (fun x72 => court_voices_j1 x72)
def court_cut_speak (x_0 : court_cut) (x_1 : Int) (x_2 : court_fate) : Comp court_fate :=
  (Comp.gd (x_2.taken_ == false) (slices_Contains_int_int x_0.sure_ x_1) default).bind fun x3 => (Comp.gd (x_2.loose_ == false) (slices_Contains_int_int x_0.touched_ x_1) default).bind fun x5 => Comp.pure (court_fate.mk x_2.solid_ x_2.empty_ (bif x_2.taken_ then true else x3) (bif x_2.loose_ then true else x5) x_2.there_ x_2.gone_)
def court_blank_speak (x_0 : court_blank) (x_1 : Int) (x_2 : court_fate) : Comp court_fate :=
  (slices_Contains_int_int x_0.cells_ x_1).bind fun x3 => if x3 = true then
  ( Comp.pure (court_fate.mk x_2.solid_ false x_2.taken_ x_2.loose_ x_2.there_ x_2.gone_))
  else
  ( Comp.pure (court_fate.mk false x_2.empty_ x_2.taken_ x_2.loose_ x_2.there_ x_2.gone_))
def court_gauge_speak_j2 (x1 : Int) (x13 : Bool) (x14 : Bool) (x15 : Bool) (x16 : Bool) (x17 : Bool) (x18 : Bool) : Comp (Comp.Step (Int × court_fate) court_fate) :=
  Comp.pure (.next ((IntKind.wrap .i64 (x1 + 1)), (court_fate.mk x13 x14 x15 x16 x17 x18)))
def court_gauge_speak_l1 (x_0 : List api_Sight) (x_1 : Int) (x1 : Int) (x2 : court_fate) : Comp (Comp.Step (Int × court_fate) court_fate) :=
  if (decide (x1 < (x_0.length : Int))) = true then
  ((idx x_0 x1).bind fun x4 =>  if (decide (x4.Cell = x_1)) = true then
  ( court_gauge_speak_j2 x1 x2.solid_ x2.empty_ x2.taken_ x2.loose_ (bif x2.there_ then true else x4.There) (bif x2.gone_ then true else (!x4.There)))
  else
  (court_gauge_speak_j2 x1 x2.solid_ x2.empty_ x2.taken_ x2.loose_ x2.there_ x2.gone_))
  else
  (Comp.pure (.done x2))
def court_gauge_speak (x_0 : List api_Sight) (x_1 : Int) (x_2 : court_fate) : Comp court_fate :=
  (Comp.loop (fun s => court_gauge_speak_l1 x_0 x_1 s.1 s.2) (0, x_2)).bind (fun x20 => Comp.pure x20)
def court_voice_speak : court_voice → Int → court_fate → Comp court_fate
 | .c96 x, x_1, x_2 => court_cut_speak x x_1 x_2
 | .c101 x, x_1, x_2 => court_blank_speak x x_1 x_2
 | .c102 x, x_1, x_2 => court_gauge_speak x x_1 x_2
def court_agrees_j5 (x10 : Int) (x35 : court_fate) : Comp (Comp.Step (Int × court_fate) court_fate) :=
  Comp.pure (.next ((IntKind.wrap .i64 (x10 + 1)), x35))
def court_agrees_l4 (x_0 : List court_voice) (x_2 : Int) (x2 : Int) (x10 : Int) (x11 : court_fate) : Comp (Comp.Step (Int × court_fate) court_fate) :=
  if (decide (x10 < (x_0.length : Int))) = true then
  ((idx x_0 x10).bind fun x13 =>  (nonneg x10).bind fun x28 => (Comp.pure ((decide ((andB .i64 (shrF .i64 x_2 x10) 1) = 1)))).bind fun x29 => if x29 = true then
  ( (court_voice_speak x13 x2 x11).bind fun x30 => court_agrees_j5 x10 x30)
  else
  ( if ((court_voice.as96 x13).2) = true then
  ( court_agrees_j5 x10 (court_fate.mk x11.solid_ x11.empty_ x11.taken_ true x11.there_ x11.gone_))
  else
  (court_agrees_j5 x10 x11)))
  else
  (Comp.pure (.done x11))
def court_agrees_j3 (x1 : Bool) (x2 : Int) (x39 : court_fate) : Comp (Comp.Step (Bool × Int) Bool) :=
  (Comp.pure ((bif (bif x39.there_ then (bif (bif x39.gone_ then true else (!x39.solid_)) then true else x39.taken_) else false) then true else (bif (bif x39.gone_ then (!x39.empty_) else false) then (!x39.loose_) else false)))).bind fun x41 => if x41 = true then
  ( Comp.pure (.done false))
  else
  ( Comp.pure (.next (x1, (IntKind.wrap .i64 (x2 + 1)))))
def court_agrees_l2 (x_1 : Int) (x_0 : List court_voice) (x_2 : Int) (x1 : Bool) (x2 : Int) : Comp (Comp.Step (Bool × Int) Bool) :=
  if (decide (x2 < x_1)) = true then
  (   (Comp.loop (fun s => court_agrees_l4 x_0 x_2 x2 s.1 s.2) (0, (court_fate.mk true true false false false false))).bind (fun x38 => court_agrees_j3 x1 x2 x38))
  else
  (Comp.pure (.done x1))
def court_agrees_j1 (x44 : Bool) : Comp Bool :=
  Comp.pure x44
def court_agrees (x_0 : List court_voice) (x_1 : Int) (x_2 : Int) : Comp Bool :=
   (Comp.loop (fun s => court_agrees_l2 x_1 x_0 x_2 s.1 s.2) (true, 0)).bind (fun x43 => court_agrees_j1 x43)
def court_Agrees (x_0 : List api_Claim) (x_1 : List api_Sight) (x_2 : Int) (x_3 : Int) : Comp Bool :=
  (court_Check x_0 x_1 x_2).bind fun x1 => (Comp.gd ((bif (decide (x1 = 0)) then (decide (x_3 ≥ 0)) else false) == true) (nonneg (x_0.length : Int)) default).bind fun x2 => (Comp.gd ((bif (bif (decide (x1 = 0)) then (decide (x_3 ≥ 0)) else false) then (decide (x_3 < (shlF .i64 1 (x_0.length : Int)))) else false) == true) (court_voices x_0 x_1) default).bind fun x3 => (Comp.gd ((bif (bif (decide (x1 = 0)) then (decide (x_3 ≥ 0)) else false) then (decide (x_3 < (shlF .i64 1 (x_0.length : Int)))) else false) == true) (court_agrees x3 x_2 x_3) default).bind fun x4 => (Comp.pure ((bif (bif (bif (decide (x1 = 0)) then (decide (x_3 ≥ 0)) else false) then (decide (x_3 < (shlF .i64 1 (x_0.length : Int)))) else false) then x4 else false))).bind fun x5 => Comp.pure x5
def math_bits_Len64_j3 (x7 : Int) (x8 : Int) : Comp Int :=
 (strIdx [0, 1, 2, 2, 3, 3, 3, 3, 4, 4, 4, 4, 4, 4, 4, 4, 5, 5, 5, 5, 5, 5, 5, 5, 5, 5, 5, 5, 5, 5, 5, 5, 6, 6, 6, 6, 6, 6, 6, 6, 6, 6, 6, 6, 6, 6, 6, 6, 6, 6, 6, 6, 6, 6, 6, 6, 6, 6, 6, 6, 6, 6, 6, 6, 7, 7, 7, 7, 7, 7, 7, 7, 7, 7, 7, 7, 7, 7, 7, 7, 7, 7, 7, 7, 7, 7, 7, 7, 7, 7, 7, 7, 7, 7, 7, 7, 7, 7, 7, 7, 7, 7, 7, 7, 7, 7, 7, 7, 7, 7, 7, 7, 7, 7, 7, 7, 7, 7, 7, 7, 7, 7, 7, 7, 7, 7, 7, 7, 8, 8, 8, 8, 8, 8, 8, 8, 8, 8, 8, 8, 8, 8, 8, 8, 8, 8, 8, 8, 8, 8, 8, 8, 8, 8, 8, 8, 8, 8, 8, 8, 8, 8, 8, 8, 8, 8, 8, 8, 8, 8, 8, 8, 8, 8, 8, 8, 8, 8, 8, 8, 8, 8, 8, 8, 8, 8, 8, 8, 8, 8, 8, 8, 8, 8, 8, 8, 8, 8, 8, 8, 8, 8, 8, 8, 8, 8, 8, 8, 8, 8, 8, 8, 8, 8, 8, 8, 8, 8, 8, 8, 8, 8, 8, 8, 8, 8, 8, 8, 8, 8, 8, 8, 8, 8, 8, 8, 8, 8, 8, 8, 8, 8, 8, 8, 8, 8, 8, 8, 8, 8, 8, 8, 8, 8, 8, 8] (IntKind.wrap .u8 x7)).bind fun x10 => (Comp.pure ((IntKind.wrap .i64 (x8 + (IntKind.wrap .i64 x10))))).bind fun x11 => Comp.pure x11
def math_bits_Len64_j2 (x4 : Int) (x5 : Int) : Comp Int :=
  if (decide (x4 ≥ 256)) = true then
  (  math_bits_Len64_j3 (shrF .u64 x4 8) (IntKind.wrap .i64 (x5 + 8)))
  else
  (math_bits_Len64_j3 x4 x5)
def math_bits_Len64_j1 (x1 : Int) (x2 : Int) : Comp Int :=
  if (decide (x1 ≥ 65536)) = true then
  (  math_bits_Len64_j2 (shrF .u64 x1 16) (IntKind.wrap .i64 (x2 + 16)))
  else
  (math_bits_Len64_j2 x1 x2)
def math_bits_Len64 (x_0 : Int) : Comp Int :=
  if (decide (x_0 ≥ 4294967296)) = true then
  (  math_bits_Len64_j1 (shrF .u64 x_0 32) 32)
  else
  (math_bits_Len64_j1 x_0 0)
def math_bits_Len (x_0 : Int) : Comp Int :=
  (math_bits_Len64 x_0).bind fun x1 => Comp.pure x1
def core_Conflicts_f1_l2 (x_1 : Int) (x_0 : Int) (x_2 : List Bool) (x1 : Int) : Comp (Comp.Step Int (Sum Bool Unit)) :=
  if (decide (x1 < x_1)) = true then
  ( (nonneg x1).bind fun x3 => (Comp.gd ((decide ((andB .i64 (shrF .i64 x_0 x1) 1) = 1)) == true) (nonneg x1) default).bind fun x4 => (Comp.gd ((decide ((andB .i64 (shrF .i64 x_0 x1) 1) = 1)) == true) (idx x_2 (andNotB .i64 x_0 (shlF .i64 1 x1))) default).bind fun x5 => (Comp.pure ((bif (decide ((andB .i64 (shrF .i64 x_0 x1) 1) = 1)) then (!x5) else false))).bind fun x6 => if x6 = true then
  ( Comp.pure (.done (.inl false)))
  else
  ( Comp.pure (.next (IntKind.wrap .i64 (x1 + 1)))))
  else
  (Comp.pure (.done (.inr ())))
def core_Conflicts_f1_j1  : Comp Bool :=
  Comp.pure true
def core_Conflicts_f1 (x_0 : Int) (x_1 : Int) (x_2 : List Bool) : Comp Bool :=
  (Comp.loop (fun s => core_Conflicts_f1_l2 x_1 x_0 x_2 s) 0).bind (fun e => match e with | (.inl x7) => (Comp.pure x7) | (.inr ()) => (core_Conflicts_f1_j1))
def core_Conflicts_f2 (x_0 : Int) (x_1 : List Bool) (x_2 : Int → Comp Bool) : Comp Bool :=
  (idx x_1 x_0).bind fun x1 => (Comp.gd (x1 == true) (x_2 x_0) default).bind fun x2 => Comp.pure (bif x1 then (!x2) else false)
def core_only_j3 (x4 : Int) (x13 : List Int) : Comp (Comp.Step ((List Int) × Int) (List Int)) :=
  Comp.pure (.next (x13, (IntKind.wrap .i64 (x4 + 1))))
def core_only_l2 (x_0 : Int) (x_1 : Int → Comp Bool) (x1 : List Int) (x4 : Int) : Comp (Comp.Step ((List Int) × Int) (List Int)) :=
  if (decide (x4 < x_0)) = true then
  ( (x_1 x4).bind fun x6 => if x6 = true then
  ( (app x1 [x4]).bind fun x9 => core_only_j3 x4 x9)
  else
  (core_only_j3 x4 x1))
  else
  (Comp.pure (.done x1))
def core_only_j1 (x19 : List Int) : Comp (List Int) :=
  Comp.pure x19
def core_only (x_0 : Int) (x_1 : Int → Comp Bool) : Comp (List Int) :=
   (Comp.loop (fun s => core_only_l2 x_0 x_1 s.1 s.2) ([], 0)).bind (fun x18 => core_only_j1 x18)
def core_Conflicts_f3 (x_0 : Int) (x_1 : List Bool) (x_2 : Int → Comp Bool) : Comp Bool :=
  (idx x_1 x_0).bind fun x1 => (Comp.gd ((!x1) == true) (x_2 x_0) default).bind fun x2 => Comp.pure (bif (!x1) then x2 else false)
def core_Conflicts (x_0 : List Bool) : Comp ((List Int) × Int) :=
   if (decide ((x_0.length : Int) > 1024)) = true then
  ( Comp.pure ([], 2))
  else
  ( (Comp.pure ((bif (decide ((x_0.length : Int) = 0)) then true else (decide ((andB .i64 (x_0.length : Int) (IntKind.wrap .i64 ((x_0.length : Int) - 1))) ≠ 0))))).bind fun x3 => if x3 = true then
  ( Comp.pure ([], 4))
  else
  ((math_bits_Len (IntKind.wrap .u64 (x_0.length : Int))).bind fun x4 =>  (core_only (x_0.length : Int) (fun z0 => core_Conflicts_f2 z0 x_0 (fun z0 => core_Conflicts_f1 z0 (IntKind.wrap .i64 (x4 - 1)) x_0))).bind fun x22 => if (decide ((x22.length : Int) > 0)) = true then
  ( Comp.pure ([], 7))
  else
  ( (core_only (x_0.length : Int) (fun z0 => core_Conflicts_f3 z0 x_0 (fun z0 => core_Conflicts_f1 z0 (IntKind.wrap .i64 (x4 - 1)) x_0))).bind fun x24 => Comp.pure (x24, 0))))
def court_Conflicts_l2 (x6 : List Bool) (x2 : (List court_voice)) (x_2 : Int) (x11 : List Bool) (x14 : Int) : Comp (Comp.Step ((List Bool) × Int) (List Bool)) :=
  if (decide (x14 < (x6.length : Int))) = true then
  ( (court_agrees x2 x_2 x14).bind fun x18 => (idx x11 x14).bind fun x19 => (upd x11 x14 x18).bind fun x23 =>  Comp.pure (.next (x23, (IntKind.wrap .i64 (x14 + 1)))))
  else
  (Comp.pure (.done x11))
def court_Conflicts_j1 (x26 : List Bool) : Comp ((List Int) × Int) :=
 (core_Conflicts x26).bind fun x32 => Comp.pure (x32.1, x32.2)
def court_Conflicts (x_0 : List api_Claim) (x_1 : List api_Sight) (x_2 : Int) : Comp ((List Int) × Int) :=
  (court_Check x_0 x_1 x_2).bind fun x1 =>  if (decide (x1 ≠ 0)) = true then
  ( Comp.pure ([], x1))
  else
  ((court_voices x_0 x_1).bind fun x2 => (nonneg (x_0.length : Int)).bind fun x5 => (mk (shlF .i64 1 (x_0.length : Int)) false).bind fun x6 =>  (Comp.loop (fun s => court_Conflicts_l2 x6 x2 x_2 s.1 s.2) (x6, 0)).bind (fun x25 => court_Conflicts_j1 x25))
def colletref04_SameInts_l2 (x_0 : List Int) (x_1 : List Int) (x2 : Int) : Comp (Comp.Step Int (Sum Bool Unit)) :=
  if (decide (x2 < (x_0.length : Int))) = true then
  ((idx x_0 x2).bind fun x4 => (idx x_1 x2).bind fun x5 => if (decide (x4 ≠ x5)) = true then
  ( Comp.pure (.done (.inl false)))
  else
  ( Comp.pure (.next (IntKind.wrap .i64 (x2 + 1)))))
  else
  (Comp.pure (.done (.inr ())))
def colletref04_SameInts_j1  : Comp Bool :=
  Comp.pure true
def colletref04_SameInts (x_0 : List Int) (x_1 : List Int) : Comp Bool :=
  (Comp.pure ((decide ((x_0.length : Int) ≠ (x_1.length : Int))))).bind fun x1 => if x1 = true then
  ( Comp.pure false)
  else
  ( (Comp.loop (fun s => colletref04_SameInts_l2 x_0 x_1 s) 0).bind (fun e => match e with | (.inl x6) => (Comp.pure x6) | (.inr ()) => (colletref04_SameInts_j1)))
def colletlaw43_conflicts (x_0 : List api_Claim) (x_1 : List api_Sight) (x_2 : List Int) : Comp Bool :=
  (court_Conflicts x_0 x_1 2).bind fun x1 => (Comp.gd ((decide (x1.2 = 0)) == true) (colletref04_SameInts x1.1 x_2) default).bind fun x4 => (Comp.pure ((bif (decide (x1.2 = 0)) then x4 else false))).bind fun x5 => Comp.pure x5
def core_Hitting_f1 (x_0 : Int) (x_1 : Int) : Comp Bool :=
  (Comp.gd ((decide (x_0 < 0)) == false) (nonneg x_1) default).bind fun x1 => (Comp.pure ((bif (decide (x_0 < 0)) then true else (decide (x_0 ≥ (shlF .i64 1 x_1)))))).bind fun x2 => Comp.pure x2
def core_Minimal_l5 (x11 : List Int) (x21 : Int) (x22 : Int) : Comp (Comp.Step Int (Sum Unit Unit)) :=
  if (decide (x22 < (x11.length : Int))) = true then
  ((idx x11 x22).bind fun x24 =>  (Comp.pure ((bif (decide (x24 ≠ x21)) then (decide ((andB .i64 x21 x24) = x24)) else false))).bind fun x25 => if x25 = true then
  (Comp.pure (.done (.inl ())))
  else
  ( Comp.pure (.next (IntKind.wrap .i64 (x22 + 1)))))
  else
  (Comp.pure (.done (.inr ())))
def core_Minimal_j3 (x19 : Int) (x26 : List Int) : Comp (Comp.Step ((List Int) × Int) (List Int)) :=
  Comp.pure (.next (x26, (IntKind.wrap .i64 (x19 + 1))))
def core_Minimal_j4 (x16 : List Int) (x21 : Int) (x19 : Int) : Comp (Comp.Step ((List Int) × Int) (List Int)) :=
  (app x16 [x21]).bind fun x32 => core_Minimal_j3 x19 x32
def core_Minimal_l2 (x11 : List Int) (x16 : List Int) (x19 : Int) : Comp (Comp.Step ((List Int) × Int) (List Int)) :=
  if (decide (x19 < (x11.length : Int))) = true then
  ((idx x11 x19).bind fun x21 =>  (Comp.loop (fun s => core_Minimal_l5 x11 x21 s) 0).bind (fun e => match e with | (.inl ()) => (core_Minimal_j3 x19 x16) | (.inr ()) => (core_Minimal_j4 x16 x21 x19)))
  else
  (Comp.pure (.done x16))
def core_Minimal_j1 (x39 : List Int) : Comp (List Int) :=
  Comp.pure x39
def core_Minimal (x_0 : List Int) : Comp (List Int) :=
  (slices_Clone_int_int x_0).bind fun x1 =>  (sortI x1).bind fun x6 =>  (compactI x6).bind fun x11 =>   (Comp.loop (fun s => core_Minimal_l2 x11 s.1 s.2) ([], 0)).bind (fun x38 => core_Minimal_j1 x38)
def core_Hitting_j7 (x36 : Int) (x47 : List Int) : Comp (Comp.Step ((List Int) × Int) (List Int)) :=
  Comp.pure (.next (x47, (IntKind.wrap .i64 (x36 + 1))))
def core_Hitting_l6 (x_1 : Int) (x17 : Int) (x23 : Int) (x33 : List Int) (x36 : Int) : Comp (Comp.Step ((List Int) × Int) (List Int)) :=
  if (decide (x36 < x_1)) = true then
  ( (nonneg x36).bind fun x38 => (Comp.pure ((decide ((andB .i64 (shrF .i64 x17 x36) 1) = 1)))).bind fun x39 => if x39 = true then
  ((nonneg x36).bind fun x40 => (app x33 [(orB .i64 x23 (shlF .i64 1 x36))]).bind fun x43 => core_Hitting_j7 x36 x43)
  else
  (core_Hitting_j7 x36 x33))
  else
  (Comp.pure (.done x33))
def core_Hitting_j5 (x21 : Int) (x30 : List Int) : Comp (Comp.Step ((List Int) × Int) (List Int)) :=
  Comp.pure (.next (x30, (IntKind.wrap .i64 (x21 + 1))))
def core_Hitting_l4 (x10 : List Int) (x17 : Int) (x_1 : Int) (x18 : List Int) (x21 : Int) : Comp (Comp.Step ((List Int) × Int) (List Int)) :=
  if (decide (x21 < (x10.length : Int))) = true then
  ((idx x10 x21).bind fun x23 =>  if (decide ((andB .i64 x23 x17) ≠ 0)) = true then
  ( (app x18 [x23]).bind fun x26 => core_Hitting_j5 x21 x26)
  else
  ( (Comp.loop (fun s => core_Hitting_l6 x_1 x17 x23 s.1 s.2) (x18, 0)).bind (fun x52 => core_Hitting_j5 x21 x52)))
  else
  (Comp.pure (.done x18))
def core_Hitting_j3 (x13 : Int) (x56 : List Int) : Comp (Comp.Step ((List Int) × Int) (List Int)) :=
  (core_Minimal x56).bind fun x62 =>  Comp.pure (.next (x62, (IntKind.wrap .i64 (x13 + 1))))
def core_Hitting_l2 (x_0 : List Int) (x_1 : Int) (x10 : List Int) (x13 : Int) : Comp (Comp.Step ((List Int) × Int) (List Int)) :=
  if (decide (x13 < (x_0.length : Int))) = true then
  ((idx x_0 x13).bind fun x17 =>   (Comp.loop (fun s => core_Hitting_l4 x10 x17 x_1 s.1 s.2) ([], 0)).bind (fun x55 => core_Hitting_j3 x13 x55))
  else
  (Comp.pure (.done x10))
def core_Hitting_j1 (x71 : List Int) : Comp ((List Int) × Int) :=
  Comp.pure (x71, 0)
def core_Hitting (x_0 : List Int) (x_1 : Int) : Comp ((List Int) × Int) :=
  (Comp.pure ((bif (decide (x_1 < 0)) then true else (decide (x_1 > 10))))).bind fun x3 => if x3 = true then
  ( Comp.pure ([], 2))
  else
  ( (slices_ContainsFunc_int_int x_0 (fun z0 => core_Hitting_f1 z0 x_1)).bind fun x5 => if x5 = true then
  ( Comp.pure ([], 3))
  else
  (  (Comp.loop (fun s => core_Hitting_l2 x_0 x_1 s.1 s.2) ([0], 0)).bind (fun x70 => core_Hitting_j1 x70)))
def court_Explains_f1_j3 (x4 : Int) (x21 : Int) : Comp (Comp.Step (Int × Int) Int) :=
  Comp.pure (.next (x21, (IntKind.wrap .i64 (x4 + 1))))
def court_Explains_f1_l2 (x_1 : List api_Claim) (x_0 : Int) (x3 : Int) (x4 : Int) : Comp (Comp.Step (Int × Int) Int) :=
  if (decide (x4 < (x_1.length : Int))) = true then
  ((idx x_1 x4).bind fun x6 =>  if (decide (x6.Kind = 3)) = true then
  ((nonneg x4).bind fun x19 => (Comp.pure ((IntKind.wrap .i64 (x3 + (andB .i64 (shrF .i64 x_0 x4) 1))))).bind fun x20 => court_Explains_f1_j3 x4 x20)
  else
  (court_Explains_f1_j3 x4 x3))
  else
  (Comp.pure (.done x3))
def court_Explains_f1_j1 (x_2 : Int) (x25 : Int) : Comp Bool :=
  Comp.pure (decide (x25 > x_2))
def court_Explains_f1 (x_0 : Int) (x_1 : List api_Claim) (x_2 : Int) : Comp Bool :=
   (Comp.loop (fun s => court_Explains_f1_l2 x_1 x_0 s.1 s.2) (0, 0)).bind (fun x24 => court_Explains_f1_j1 x_2 x24)
def slices_DeleteFunc_int_int_j3 (x7 : Int) (x16 : List Int) (x19 : Int) : Comp (Comp.Step ((List Int) × Int × Int) ((List Int) × Int)) :=
  Comp.pure (.next (x16, x19, (IntKind.wrap .i64 (x7 + 1))))
def slices_DeleteFunc_int_int_l2 (x_1 : Int → Comp Bool) (x3 : List Int) (x6 : Int) (x7 : Int) : Comp (Comp.Step ((List Int) × Int × Int) ((List Int) × Int)) :=
  if (decide (x7 < (x3.length : Int))) = true then
  ((idx x3 x7).bind fun x9 => (x_1 x9).bind fun x10 => if (!x10) = true then
  ((idx x3 x6).bind fun x11 => (upd x3 x6 x9).bind fun x15 =>  slices_DeleteFunc_int_int_j3 x7 x15 (IntKind.wrap .i64 (x6 + 1)))
  else
  (slices_DeleteFunc_int_int_j3 x7 x3 x6))
  else
  (Comp.pure (.done (x3, x6)))
def slices_DeleteFunc_int_int_j1 (x25 : List Int) (x28 : Int) : Comp (List Int) :=
 (sub x25 x28 x25.length).bind fun x30 => (sub (x25.take (Int.toNat x28) ++ List.replicate (x25.length - Int.toNat x28) 0) 0 x28).bind fun x32 => Comp.pure x32
def slices_DeleteFunc_int_int (x_0 : List Int) (x_1 : Int → Comp Bool) : Comp (List Int) :=
  (slices_IndexFunc_int_int x_0 x_1).bind fun x2 =>  if (decide (x2 = (-1))) = true then
  ( Comp.pure x_0)
  else
  ( (Comp.loop (fun s => slices_DeleteFunc_int_int_l2 x_1 s.1 s.2.1 s.2.2) (x_0, x2, (IntKind.wrap .i64 (x2 + 1)))).bind (fun (x23, x24) => slices_DeleteFunc_int_int_j1 x23 x24))
def court_Explains (x_0 : List api_Claim) (x_1 : List api_Sight) (x_2 : Int) (x_3 : Int) : Comp ((List Int) × Int) :=
  (court_Conflicts x_0 x_1 x_2).bind fun x5 =>  if (decide (x5.2 ≠ 0)) = true then
  ( Comp.pure ([], x5.2))
  else
  ( (Comp.pure ((bif (decide (x_3 < 0)) then true else (decide (x_3 > 3))))).bind fun x8 => if x8 = true then
  ( Comp.pure ([], 3))
  else
  ((core_Hitting x5.1 (x_0.length : Int)).bind fun x9 =>  if (decide (x9.2 ≠ 0)) = true then
  ( Comp.pure ([], x9.2))
  else
  ( (slices_DeleteFunc_int_int x9.1 (fun z0 => court_Explains_f1 z0 x_0 x_3)).bind fun x15 => Comp.pure (x15, 0))))
def colletlaw43_explains (x_0 : List api_Sight) (x_1 : Int) (x_2 : List Int) : Comp Bool :=
  (colletlaw43_example).bind fun x1 => (court_Explains x1 x_0 2 x_1).bind fun x2 => (Comp.gd ((decide (x2.2 = 0)) == true) (colletref04_SameInts x2.1 x_2) default).bind fun x5 => (Comp.pure ((bif (decide (x2.2 = 0)) then x5 else false))).bind fun x6 => Comp.pure x6
def court_Certain_f1 (x_0 : Int) (x_1 : Int) : Comp Bool :=
  Comp.pure (decide ((andB .i64 x_0 x_1) = 0))
def court_Certain_j6 (x15 : Int) (x33 : Int) : Comp (Comp.Step (Int × Int) Int) :=
  Comp.pure (.next ((IntKind.wrap .i64 (x15 + 1)), x33))
def court_Certain_l5 (x_0 : List api_Claim) (x7 : Int) (x15 : Int) (x16 : Int) : Comp (Comp.Step (Int × Int) Int) :=
  if (decide (x15 < (x_0.length : Int))) = true then
  ((idx x_0 x15).bind fun x18 =>  if (decide (x18.Party = x7)) = true then
  ((nonneg x15).bind fun x31 => court_Certain_j6 x15 (orB .i64 x16 (shlF .i64 1 x15)))
  else
  (court_Certain_j6 x15 x16))
  else
  (Comp.pure (.done x16))
def court_Certain_j3 (x7 : Int) (x47 : List Int) : Comp (Comp.Step ((List Int) × Int) (List Int)) :=
  Comp.pure (.next (x47, (IntKind.wrap .i64 (x7 + 1))))
def court_Certain_j4 (x1 : ((List Int) × Int)) (x4 : List Int) (x7 : Int) (x36 : Int) : Comp (Comp.Step ((List Int) × Int) (List Int)) :=
 (slices_ContainsFunc_int_int x1.1 (fun z0 => court_Certain_f1 z0 x36)).bind fun x40 => if (!x40) = true then
  ( (app x4 [x7]).bind fun x43 => court_Certain_j3 x7 x43)
  else
  (court_Certain_j3 x7 x4)
def court_Certain_l2 (x_0 : List api_Claim) (x1 : ((List Int) × Int)) (x4 : List Int) (x7 : Int) : Comp (Comp.Step ((List Int) × Int) (List Int)) :=
  if (decide (x7 < 6)) = true then
  (  (Comp.loop (fun s => court_Certain_l5 x_0 x7 s.1 s.2) (0, 0)).bind (fun x35 => court_Certain_j4 x1 x4 x7 x35))
  else
  (Comp.pure (.done x4))
def court_Certain_j1 (x53 : List Int) : Comp ((List Int) × Int) :=
  Comp.pure (x53, 0)
def court_Certain (x_0 : List api_Claim) (x_1 : List api_Sight) (x_2 : Int) (x_3 : Int) : Comp ((List Int) × Int) :=
  (court_Explains x_0 x_1 x_2 x_3).bind fun x1 =>  if (decide (x1.2 ≠ 0)) = true then
  ( Comp.pure ([], x1.2))
  else
  ( if (decide ((x1.1.length : Int) = 0)) = true then
  ( Comp.pure ([], 21))
  else
  (  (Comp.loop (fun s => court_Certain_l2 x_0 x1 s.1 s.2) ([], (-1))).bind (fun x52 => court_Certain_j1 x52)))
def colletlaw43_certain (x_0 : List api_Sight) (x_1 : Int) (x_2 : List Int) : Comp Bool :=
  (colletlaw43_example).bind fun x1 => (court_Certain x1 x_0 2 x_1).bind fun x2 => (Comp.gd ((decide (x2.2 = 0)) == true) (colletref04_SameInts x2.1 x_2) default).bind fun x5 => (Comp.pure ((bif (decide (x2.2 = 0)) then x5 else false))).bind fun x6 => Comp.pure x6
def colletlaw43_sanity  : Comp Bool :=
   (colletlaw43_example).bind fun x15 => (court_Agrees x15 [(api_Sight.mk 0 0 false), (api_Sight.mk 0 1 true)] 2 15).bind fun x16 => (Comp.gd (x16 == true) (colletlaw43_example) default).bind fun x17 => (Comp.gd (x16 == true) (colletlaw43_conflicts x17 [(api_Sight.mk 0 0 false), (api_Sight.mk 0 1 true)] []) default).bind fun x18 => (Comp.gd ((bif x16 then x18 else false) == true) (colletlaw43_explains [(api_Sight.mk 0 0 false), (api_Sight.mk 0 1 true)] 0 [0]) default).bind fun x19 => (Comp.gd ((bif (bif x16 then x18 else false) then x19 else false) == true) (colletlaw43_certain [(api_Sight.mk 0 0 false), (api_Sight.mk 0 1 true)] 0 []) default).bind fun x20 => (Comp.pure ((bif (bif (bif x16 then x18 else false) then x19 else false) then x20 else false))).bind fun x21 =>  (colletlaw43_example).bind fun x24 => (colletlaw43_conflicts x24 [(api_Sight.mk 0 0 true)] [10]).bind fun x25 => (Comp.gd (x25 == true) (colletlaw43_explains [(api_Sight.mk 0 0 true)] 0 [2]) default).bind fun x26 => (Comp.gd ((bif x25 then x26 else false) == true) (colletlaw43_explains [(api_Sight.mk 0 0 true)] 1 [2, 8]) default).bind fun x27 => (Comp.gd ((bif (bif x25 then x26 else false) then x27 else false) == true) (colletlaw43_certain [(api_Sight.mk 0 0 true)] 0 [0]) default).bind fun x28 => (Comp.gd ((bif (bif (bif x25 then x26 else false) then x27 else false) then x28 else false) == true) (colletlaw43_certain [(api_Sight.mk 0 0 true)] 1 []) default).bind fun x29 => (Comp.pure ((bif (bif (bif (bif x25 then x26 else false) then x27 else false) then x28 else false) then x29 else false))).bind fun x30 =>  (colletlaw43_example).bind fun x33 => (court_Certain x33 [(api_Sight.mk 0 0 true), (api_Sight.mk 0 0 false)] 2 0).bind fun x34 => (colletlaw43_example).bind fun x35 => (colletlaw43_conflicts x35 [(api_Sight.mk 0 0 true), (api_Sight.mk 0 0 false)] [8]).bind fun x36 => (Comp.gd (x36 == true) (colletlaw43_explains [(api_Sight.mk 0 0 true), (api_Sight.mk 0 0 false)] 0 []) default).bind fun x37 => (Comp.pure ((bif (bif x36 then x37 else false) then (decide (x34.2 = 21)) else false))).bind fun x38 =>  (colletlaw43_example).bind fun x41 => (sub x41 0 2).bind fun x42 => (colletlaw43_example).bind fun x43 => (idx x43 3).bind fun x44 => (app x42 [x44]).bind fun x45 => (Comp.gd ((bif (bif x21 then x30 else false) then x38 else false) == true) (colletlaw43_example) default).bind fun x49 => (Comp.gd ((bif (bif x21 then x30 else false) then x38 else false) == true) (colletlaw43_conflicts x49 [(api_Sight.mk 0 1 false)] []) default).bind fun x50 => (Comp.gd ((bif (bif (bif x21 then x30 else false) then x38 else false) then x50 else false) == true) (colletlaw43_conflicts x45 [(api_Sight.mk 0 1 false)] [7]) default).bind fun x51 => (Comp.gd ((bif (bif (bif (bif x21 then x30 else false) then x38 else false) then x50 else false) then x51 else false) == true) (colletlaw43_example) default).bind fun x52 => (Comp.gd ((bif (bif (bif (bif x21 then x30 else false) then x38 else false) then x50 else false) then x51 else false) == true) (colletlaw43_conflicts x52 [(api_Sight.mk 5 0 true)] []) default).bind fun x53 => (Comp.pure ((bif (bif (bif (bif (bif x21 then x30 else false) then x38 else false) then x50 else false) then x51 else false) then x53 else false))).bind fun x54 => Comp.pure x54
def colletref01_Mod (x_0 : Int) (x_1 : Int) : Comp Int :=
  if (decide (x_1 < 1)) = true then
  ( Comp.pure 0)
  else
  ((rem x_0 x_1).bind fun x1 => (rem (IntKind.wrap .i64 (x1 + x_1)) x_1).bind fun x2 => Comp.pure x2)
def colletref01_Draw_Next (x_0 : colletref01_Draw) (x_1 : Int) : Comp (colletref01_Draw × Int) :=
  if (decide (x_0.At ≥ (x_0.L.length : Int))) = true then
  ( Comp.pure (x_0, 0))
  else
  ( (idx x_0.L (IntKind.wrap .i64 ((IntKind.wrap .i64 (x_0.At + 1)) - 1))).bind fun x4 => (colletref01_Mod x4 x_1).bind fun x5 => Comp.pure ((colletref01_Draw.mk x_0.L (IntKind.wrap .i64 (x_0.At + 1))), x5))
def colletref43_Subset_j3 (x4 : Int) (x14 : List Int) : Comp (Comp.Step ((List Int) × Int) (List Int)) :=
  Comp.pure (.next (x14, (IntKind.wrap .i64 (x4 + 1))))
def colletref43_Subset_l2 (x_1 : Int) (x_0 : Int) (x1 : List Int) (x4 : Int) : Comp (Comp.Step ((List Int) × Int) (List Int)) :=
  if (decide (x4 < x_1)) = true then
  ((nonneg x4).bind fun x6 => (Comp.pure ((decide ((andB .i64 (shrF .i64 x_0 x4) 1) = 1)))).bind fun x7 => if x7 = true then
  ( (app x1 [x4]).bind fun x10 => colletref43_Subset_j3 x4 x10)
  else
  (colletref43_Subset_j3 x4 x1))
  else
  (Comp.pure (.done x1))
def colletref43_Subset_j1 (x20 : List Int) : Comp (List Int) :=
  Comp.pure x20
def colletref43_Subset (x_0 : Int) (x_1 : Int) : Comp (List Int) :=
   (Comp.loop (fun s => colletref43_Subset_l2 x_1 x_0 s.1 s.2) ([], 0)).bind (fun x19 => colletref43_Subset_j1 x19)
def colletref43_Claims_j3 (x6 : Int) (x43 : List api_Claim) (x46 : Bool) (x47 : Int) : Comp (Comp.Step ((List api_Claim) × Bool × Int × Int) (List api_Claim)) :=
  Comp.pure (.next (x43, x46, x47, (IntKind.wrap .i64 (x6 + 1))))
def colletref43_Claims_j4 (x1 : List api_Claim) (x6 : Int) (x52 : Bool) (x53 : Int) (x54 : Int) (x55 : Int) (x56 : Int) (x57 : List Int) (x60 : List Int) : Comp (Comp.Step ((List api_Claim) × Bool × Int × Int) (List api_Claim)) :=
  (app x1 [(api_Claim.mk x54 x55 x56 x57 x60)]).bind fun x75 => colletref43_Claims_j3 x6 x75 x52 x53
def colletref43_Claims_l2 (x_0 : List (List Int)) (x_2 : Int) (x_1 : Int) (x1 : List api_Claim) (x4 : Bool) (x5 : Int) (x6 : Int) : Comp (Comp.Step ((List api_Claim) × Bool × Int × Int) (List api_Claim)) :=
  (Comp.pure ((bif (decide (x6 < (x_0.length : Int))) then (decide ((x1.length : Int) < x_2)) else false))).bind fun x8 => if x8 = true then
  ((idx x_0 x6).bind fun x9 => (colletref01_Draw_Next (colletref01_Draw.mk x9 0) 4).bind fun x17 => (idx [2, 2, 3, 1] x17.2).bind fun x18 => (colletref01_Draw_Next x17.1 5).bind fun x19 => (nonneg x_1).bind fun x27 => (colletref01_Draw_Next x19.1 (shlF .i64 1 x_1)).bind fun x28 => (nonneg x_1).bind fun x35 => (colletref01_Draw_Next x28.1 (shlF .i64 1 x_1)).bind fun x36 =>   if (decide (x18 = 1)) = true then
  ( if x4 = true then
  (colletref43_Claims_j3 x6 x1 x4 x5)
  else
  ( (colletref43_Subset (orB .i64 x28.2 x36.2) x_1).bind fun x48 => colletref43_Claims_j4 x1 x6 true x5 (IntKind.wrap .i64 (x19.2 - 1)) x18 0 [] x48))
  else
  ( if (decide (x18 = 2)) = true then
  ((colletref43_Subset (andB .i64 x28.2 x36.2) x_1).bind fun x63 => (colletref43_Subset x28.2 x_1).bind fun x64 => colletref43_Claims_j4 x1 x6 x4 x5 (IntKind.wrap .i64 (x19.2 - 1)) x18 0 x63 x64)
  else
  ( if (decide (x18 = 3)) = true then
  (  colletref43_Claims_j4 x1 x6 x4 (IntKind.wrap .i64 (x5 + 1)) (IntKind.wrap .i64 (x19.2 - 1)) x18 x5 [] [])
  else
  (colletref43_Claims_j4 x1 x6 x4 x5 (IntKind.wrap .i64 (x19.2 - 1)) x18 0 [] []))))
  else
  (Comp.pure (.done x1))
def colletref43_Claims_j1 (x82 : List api_Claim) : Comp (List api_Claim) :=
  Comp.pure x82
def colletref43_Claims (x_0 : List (List Int)) (x_1 : Int) (x_2 : Int) : Comp (List api_Claim) :=
    (Comp.loop (fun s => colletref43_Claims_l2 x_0 x_2 x_1 s.1 s.2.1 s.2.2.1 s.2.2.2) ([], false, 0, 0)).bind (fun x81 => colletref43_Claims_j1 x81)
def colletref43_Sights_l2 (x_0 : List Int) (x_1 : Int) (x6 : List api_Sight) (x9 : Int) (x10 : List Int) (x13 : Int) : Comp (Comp.Step ((List api_Sight) × Int × (List Int) × Int) (List api_Sight)) :=
  (Comp.pure ((bif (decide ((IntKind.wrap .i64 (x9 + 2)) < (x_0.length : Int))) then (decide (x9 < 30)) else false))).bind fun x15 => if x15 = true then
  ((colletref01_Draw_Next (colletref01_Draw.mk x10 x13) 4).bind fun x16 => (idx [0, 0, 1, 2] x16.2).bind fun x17 => (colletref01_Draw_Next x16.1 x_1).bind fun x18 => (colletref01_Draw_Next x18.1 2).bind fun x19 => (app x6 [(api_Sight.mk x17 x18.2 (decide (x19.2 = 1)))]).bind fun x20 =>  Comp.pure (.next (x20, (IntKind.wrap .i64 (x9 + 3)), x19.1.L, x19.1.At)))
  else
  (Comp.pure (.done x6))
def colletref43_Sights_j1 (x30 : List api_Sight) : Comp (List api_Sight) :=
  Comp.pure x30
def colletref43_Sights (x_0 : List Int) (x_1 : Int) : Comp (List api_Sight) :=
   (Comp.loop (fun s => colletref43_Sights_l2 x_0 x_1 s.1 s.2.1 s.2.2.1 s.2.2.2) ([], 0, x_0, 0)).bind (fun x29 => colletref43_Sights_j1 x29)
def colletlaw43_Case_made_l2 (x_0 : colletlaw43_Case) (x4 : List (List Int)) (x7 : Int) : Comp (Comp.Step ((List (List Int)) × Int) (List (List Int))) :=
  (Comp.pure ((bif (decide (x7 < (x_0.Claims.length : Int))) then (decide (x7 < 6)) else false))).bind fun x9 => if x9 = true then
  ((idx x_0.Claims x7).bind fun x10 => (idx x_0.Claims x7).bind fun x11 => (sub x10 0 (min (x11.length : Int) 5)).bind fun x12 => (app x4 [x12]).bind fun x15 =>  Comp.pure (.next (x15, (IntKind.wrap .i64 (x7 + 1)))))
  else
  (Comp.pure (.done x4))
def colletlaw43_Case_made_j1 (x3 : Int) (x_1 : Int) (x_0 : colletlaw43_Case) (x21 : List (List Int)) : Comp ((List api_Claim) × (List api_Sight) × Int) :=
 (colletref43_Claims x21 x3 x_1).bind fun x27 => (sub x_0.Sights 0 (min (x_0.Sights.length : Int) 30)).bind fun x28 => (colletref43_Sights x28 x3).bind fun x29 => Comp.pure (x27, x29, x3)
def colletlaw43_Case_made (x_0 : colletlaw43_Case) (x_1 : Int) : Comp ((List api_Claim) × (List api_Sight) × Int) :=
  (Comp.pure ((IntKind.wrap .i64 (1 + (Int.tmod (IntKind.wrap .i64 x_0.Cells) 4))))).bind fun x3 =>   (Comp.loop (fun s => colletlaw43_Case_made_l2 x_0 s.1 s.2) ([], 0)).bind (fun x20 => colletlaw43_Case_made_j1 x3 x_1 x_0 x20)
def colletlaw43_bits_l2 (x_0 : List Int) (x1 : Int) (x2 : Int) : Comp (Comp.Step (Int × Int) Int) :=
  if (decide (x2 < (x_0.length : Int))) = true then
  ((idx x_0 x2).bind fun x4 => (nonneg x4).bind fun x5 =>  Comp.pure (.next ((orB .i64 x1 (shlF .i64 1 x4)), (IntKind.wrap .i64 (x2 + 1)))))
  else
  (Comp.pure (.done x1))
def colletlaw43_bits_j1 (x8 : Int) : Comp Int :=
  Comp.pure x8
def colletlaw43_bits (x_0 : List Int) : Comp Int :=
   (Comp.loop (fun s => colletlaw43_bits_l2 x_0 s.1 s.2) (0, 0)).bind (fun x7 => colletlaw43_bits_j1 x7)
def colletlaw43_world_there_j3 (x4 : Int) (x8 : Int) : Comp (Comp.Step (Int × Int) Int) :=
  Comp.pure (.next (x8, (IntKind.wrap .i64 (x4 + 1))))
def colletlaw43_world_there_l2 (x_1 : List api_Claim) (x_0 : colletlaw43_world) (x3 : Int) (x4 : Int) : Comp (Comp.Step (Int × Int) Int) :=
  if (decide (x4 < (x_1.length : Int))) = true then
  ( (idx x_1 x4).bind fun x6 => if (decide (x6.Kind = 2)) = true then
  ((idx x_0.removed_ x4).bind fun x7 => colletlaw43_world_there_j3 x4 (andNotB .i64 x3 x7))
  else
  (colletlaw43_world_there_j3 x4 x3))
  else
  (Comp.pure (.done x3))
def colletlaw43_world_there_j1 (x12 : Int) : Comp Int :=
  Comp.pure x12
def colletlaw43_world_there (x_0 : colletlaw43_world) (x_1 : List api_Claim) : Comp Int :=
   (Comp.loop (fun s => colletlaw43_world_there_l2 x_1 x_0 s.1 s.2) (x_0.material_, 0)).bind (fun x11 => colletlaw43_world_there_j1 x11)
def colletlaw43_world_holds_l2 (x_2 : List api_Sight) (x3 : api_Claim) (x22 : Int) (x23 : Int) : Comp (Comp.Step Int (Sum Bool Unit)) :=
  if (decide (x23 < (x_2.length : Int))) = true then
  ((idx x_2 x23).bind fun x25 => (Comp.gd ((decide (x25.Gauge = x3.Gauge)) == true) (nonneg x25.Cell) default).bind fun x32 => (Comp.pure ((bif (decide (x25.Gauge = x3.Gauge)) then (decide ((decide ((andB .i64 (shrF .i64 x22 x25.Cell) 1) = 1)) ≠ x25.There)) else false))).bind fun x33 => if x33 = true then
  ( Comp.pure (.done (.inl false)))
  else
  ( Comp.pure (.next (IntKind.wrap .i64 (x23 + 1)))))
  else
  (Comp.pure (.done (.inr ())))
def colletlaw43_world_holds_j1  : Comp Bool :=
  Comp.pure true
def colletlaw43_world_holds (x_0 : colletlaw43_world) (x_1 : List api_Claim) (x_2 : List api_Sight) (x_3 : Int) : Comp Bool :=
  (idx x_1 x_3).bind fun x3 =>   if (decide (x3.Kind = 1)) = true then
  ((colletlaw43_bits x3.Touched).bind fun x16 => Comp.pure (decide (x_0.material_ = x16)))
  else
  ( if (decide (x3.Kind = 2)) = true then
  ((colletlaw43_bits x3.Sure).bind fun x17 => (idx x_0.removed_ x_3).bind fun x18 => (Comp.gd ((decide ((andNotB .i64 x17 x18) = 0)) == true) (idx x_0.removed_ x_3) default).bind fun x19 => (Comp.gd ((decide ((andNotB .i64 x17 x18) = 0)) == true) (colletlaw43_bits x3.Touched) default).bind fun x20 => (Comp.pure ((bif (decide ((andNotB .i64 x17 x18) = 0)) then (decide ((andNotB .i64 x19 x20) = 0)) else false))).bind fun x21 => Comp.pure x21)
  else
  ((colletlaw43_world_there x_0 x_1).bind fun x22 =>  (Comp.loop (fun s => colletlaw43_world_holds_l2 x_2 x3 x22 s) 0).bind (fun e => match e with | (.inl x34) => (Comp.pure x34) | (.inr ()) => (colletlaw43_world_holds_j1))))
def colletlaw43_world_truth_j3 (x4 : Int) (x8 : Int) : Comp (Comp.Step (Int × Int) Int) :=
  Comp.pure (.next (x8, (IntKind.wrap .i64 (x4 + 1))))
def colletlaw43_world_truth_l2 (x_1 : List api_Claim) (x_0 : colletlaw43_world) (x_2 : List api_Sight) (x3 : Int) (x4 : Int) : Comp (Comp.Step (Int × Int) Int) :=
  if (decide (x4 < (x_1.length : Int))) = true then
  ( (colletlaw43_world_holds x_0 x_1 x_2 x4).bind fun x6 => if x6 = true then
  ((nonneg x4).bind fun x7 => colletlaw43_world_truth_j3 x4 (orB .i64 x3 (shlF .i64 1 x4)))
  else
  (colletlaw43_world_truth_j3 x4 x3))
  else
  (Comp.pure (.done x3))
def colletlaw43_world_truth_j1 (x12 : Int) : Comp Int :=
  Comp.pure x12
def colletlaw43_world_truth (x_0 : colletlaw43_world) (x_1 : List api_Claim) (x_2 : List api_Sight) : Comp Int :=
   (Comp.loop (fun s => colletlaw43_world_truth_l2 x_1 x_0 x_2 s.1 s.2) (0, 0)).bind (fun x11 => colletlaw43_world_truth_j1 x11)
def colletlaw43_seen_l2 (x5 : List api_Sight) (x_2 : Int) (x_1 : Int) (x9 : List api_Sight) (x12 : Int) : Comp (Comp.Step ((List api_Sight) × Int) (List api_Sight)) :=
  if (decide (x12 < (x5.length : Int))) = true then
  ( (idx x9 x12).bind fun x16 => (nonneg x16.Cell).bind fun x17 => (nonneg (Int.tmod x12 8)).bind fun x18 => (Comp.gd ((decide ((andB .u8 (shrF .u8 x_2 (Int.tmod x12 8)) 1) = 1)) == true) (idx x9 x12) default).bind fun x19 => (idx x9 x12).bind fun x20 => (idx x9 x12).bind fun x24 => (upd x9 x12 (api_Sight.mk x24.Gauge x24.Cell (decide ((decide ((andB .i64 (shrF .i64 x_1 x16.Cell) 1) = 1)) ≠ (bif (decide ((andB .u8 (shrF .u8 x_2 (Int.tmod x12 8)) 1) = 1)) then (decide (x19.Gauge ≠ 0)) else false))))).bind fun x25 =>  Comp.pure (.next (x25, (IntKind.wrap .i64 (x12 + 1)))))
  else
  (Comp.pure (.done x9))
def colletlaw43_seen_j1 (x28 : List api_Sight) : Comp (List api_Sight) :=
  Comp.pure x28
def colletlaw43_seen (x_0 : List api_Sight) (x_1 : Int) (x_2 : Int) : Comp (List api_Sight) :=
  (app [] x_0).bind fun x5 =>  (Comp.loop (fun s => colletlaw43_seen_l2 x5 x_2 x_1 s.1 s.2) (x5, 0)).bind (fun x27 => colletlaw43_seen_j1 x27)
def colletlaw43_gauges_j3 (x2 : Int) (x6 : Int) : Comp (Comp.Step (Int × Int) Int) :=
  Comp.pure (.next (x6, (IntKind.wrap .i64 (x2 + 1))))
def colletlaw43_gauges_l2 (x_0 : List api_Claim) (x1 : Int) (x2 : Int) : Comp (Comp.Step (Int × Int) Int) :=
  if (decide (x2 < (x_0.length : Int))) = true then
  ( (idx x_0 x2).bind fun x4 => if (decide (x4.Kind = 3)) = true then
  ((nonneg x2).bind fun x5 => colletlaw43_gauges_j3 x2 (orB .i64 x1 (shlF .i64 1 x2)))
  else
  (colletlaw43_gauges_j3 x2 x1))
  else
  (Comp.pure (.done x1))
def colletlaw43_gauges_j1 (x10 : Int) : Comp Int :=
  Comp.pure x10
def colletlaw43_gauges (x_0 : List api_Claim) : Comp Int :=
   (Comp.loop (fun s => colletlaw43_gauges_l2 x_0 s.1 s.2) (0, 0)).bind (fun x9 => colletlaw43_gauges_j1 x9)
def colletlaw43_many_l2 (x1 : Int) (x2 : Int) : Comp (Comp.Step (Int × Int) Int) :=
  if (decide (x1 > 0)) = true then
  ( (Comp.pure ((IntKind.wrap .i64 (x2 + (andB .i64 x1 1))))).bind fun x4 =>  Comp.pure (.next ((shrF .i64 x1 1), x4)))
  else
  (Comp.pure (.done x2))
def colletlaw43_many_j1 (x7 : Int) : Comp Int :=
  Comp.pure x7
def colletlaw43_many (x_0 : Int) : Comp Int :=
  (Comp.loop (fun s => colletlaw43_many_l2 s.1 s.2) (x_0, 0)).bind (fun x6 => colletlaw43_many_j1 x6)
def colletlaw43_CourtTrue_j3 (x24 : Int) (x46 : Int) (x47 : List Int) : Comp (Comp.Step (Int × Int × (List Int)) (Int × (List Int))) :=
  Comp.pure (.next ((IntKind.wrap .i64 (x24 + 1)), x46, x47))
def colletlaw43_CourtTrue_l2 (x6 : ((List api_Claim) × (List api_Sight) × Int)) (x_2 : Vector Int 6) (x12 : Int) (x24 : Int) (x25 : Int) (x26 : List Int) : Comp (Comp.Step (Int × Int × (List Int)) (Int × (List Int))) :=
  if (decide (x24 < (x6.1.length : Int))) = true then
  ( (idx x_2.toList x24).bind fun x32 => (idx x26 x24).bind fun x33 => (upd x26 x24 (andB .i64 (IntKind.wrap .i64 (IntKind.wrap .u8 (Int.tdiv x32 2))) x12)).bind fun x37 => (idx x_2.toList x24).bind fun x38 => if (decide ((Int.tmod x38 2) = 0)) = true then
  ((idx x6.1 x24).bind fun x39 => (colletlaw43_bits x39.Sure).bind fun x40 => (idx x37 x24).bind fun x41 => (upd x37 x24 x40).bind fun x45 => colletlaw43_CourtTrue_j3 x24 x25 x45)
  else
  (colletlaw43_CourtTrue_j3 x24 x25 x37))
  else
  (Comp.pure (.done (x25, x26)))
def colletlaw43_CourtTrue_l5 (x68 : ((List Int) × Int)) (x66 : Int) (x71 : Int) : Comp (Comp.Step Int (Sum Bool Unit)) :=
  if (decide (x71 < (x68.1.length : Int))) = true then
  ((idx x68.1 x71).bind fun x73 =>  if (decide ((andB .i64 x73 x66) = 0)) = true then
  ( Comp.pure (.done (.inl false)))
  else
  ( Comp.pure (.next (IntKind.wrap .i64 (x71 + 1)))))
  else
  (Comp.pure (.done (.inr ())))
def colletlaw43_CourtTrue_l7 (x78 : ((List Int) × Int)) (x66 : Int) (x84 : Bool) (x85 : Int) : Comp (Comp.Step (Bool × Int) Bool) :=
  if (decide (x85 < (x78.1.length : Int))) = true then
  ((idx x78.1 x85).bind fun x87 =>  (Comp.pure ((bif x84 then true else (decide ((andNotB .i64 x87 x66) = 0))))).bind fun x88 =>  Comp.pure (.next (x88, (IntKind.wrap .i64 (x85 + 1)))))
  else
  (Comp.pure (.done x84))
def colletlaw43_CourtTrue_l11 (x6 : ((List api_Claim) × (List api_Sight) × Int)) (x96 : Int) (x66 : Int) (x97 : Bool) (x98 : Int) : Comp (Comp.Step (Bool × Int) Bool) :=
  if (decide (x98 < (x6.1.length : Int))) = true then
  ( (Comp.gd (x97 == false) (idx x6.1 x98) default).bind fun x100 => (Comp.gd ((x97 == false) && ((decide (x100.Party = x96)) == true)) (nonneg x98) default).bind fun x101 => (Comp.pure ((bif x97 then true else (bif (decide (x100.Party = x96)) then (decide ((andB .i64 (shrF .i64 x66 x98) 1) = 1)) else false)))).bind fun x102 =>  Comp.pure (.next (x102, (IntKind.wrap .i64 (x98 + 1)))))
  else
  (Comp.pure (.done x97))
def colletlaw43_CourtTrue_j10 (x94 : Int) (x105 : Bool) : Comp (Comp.Step Int (Sum Bool Unit)) :=
  if (!x105) = true then
  ( Comp.pure (.done (.inl false)))
  else
  ( Comp.pure (.next (IntKind.wrap .i64 (x94 + 1))))
def colletlaw43_CourtTrue_l9 (x81 : ((List Int) × Int)) (x6 : ((List api_Claim) × (List api_Sight) × Int)) (x66 : Int) (x94 : Int) : Comp (Comp.Step Int (Sum Bool Unit)) :=
  if (decide (x94 < (x81.1.length : Int))) = true then
  ((idx x81.1 x94).bind fun x96 =>   (Comp.loop (fun s => colletlaw43_CourtTrue_l11 x6 x96 x66 s.1 s.2) (false, 0)).bind (fun x104 => colletlaw43_CourtTrue_j10 x94 x104))
  else
  (Comp.pure (.done (.inr ())))
def colletlaw43_CourtTrue_j8 (x5 : Bool) : Comp Bool :=
  Comp.pure x5
def colletlaw43_CourtTrue_j6 (x78 : ((List Int) × Int)) (x81 : ((List Int) × Int)) (x6 : ((List api_Claim) × (List api_Sight) × Int)) (x66 : Int) (x5 : Bool) (x91 : Bool) : Comp Bool :=
  (Comp.pure ((bif (bif (decide (x78.2 ≠ 0)) then true else (decide (x81.2 ≠ 0))) then true else (!x91)))).bind fun x93 => if x93 = true then
  ( Comp.pure false)
  else
  ( (Comp.loop (fun s => colletlaw43_CourtTrue_l9 x81 x6 x66 s) 0).bind (fun e => match e with | (.inl x107) => (Comp.pure x107) | (.inr ()) => (colletlaw43_CourtTrue_j8 x5)))
def colletlaw43_CourtTrue_j4 (x6 : ((List api_Claim) × (List api_Sight) × Int)) (x66 : Int) (x5 : Bool) (x61 : (List api_Sight)) : Comp Bool :=
 (colletlaw43_gauges x6.1).bind fun x76 => (colletlaw43_many (andB .i64 x66 x76)).bind fun x77 =>  if (decide (x77 > 3)) = true then
  ( Comp.pure x5)
  else
  ((court_Explains x6.1 x61 x6.2.2 x77).bind fun x78 => (court_Certain x6.1 x61 x6.2.2 x77).bind fun x81 =>   (Comp.loop (fun s => colletlaw43_CourtTrue_l7 x78 x66 s.1 s.2) (false, 0)).bind (fun x90 => colletlaw43_CourtTrue_j6 x78 x81 x6 x66 x5 x90))
def colletlaw43_CourtTrue_j1 (x6 : ((List api_Claim) × (List api_Sight) × Int)) (x_3 : Int) (x5 : Bool) (x53 : Int) (x54 : List Int) : Comp Bool :=
 (colletlaw43_world_there (colletlaw43_world.mk x53 x54) x6.1).bind fun x60 => (colletlaw43_seen x6.2.1 x60 x_3).bind fun x61 => (colletlaw43_world_truth (colletlaw43_world.mk x53 x54) x6.1 x61).bind fun x64 => (nonneg (x6.1.length : Int)).bind fun x65 => (Comp.pure ((andNotB .i64 (IntKind.wrap .i64 ((shlF .i64 1 (x6.1.length : Int)) - 1)) x64))).bind fun x66 => (court_Agrees x6.1 x61 x6.2.2 x64).bind fun x67 => if (!x67) = true then
  ( Comp.pure false)
  else
  ((court_Conflicts x6.1 x61 x6.2.2).bind fun x68 =>  if (decide (x68.2 ≠ 0)) = true then
  ( Comp.pure false)
  else
  ( (Comp.loop (fun s => colletlaw43_CourtTrue_l5 x68 x66 s) 0).bind (fun e => match e with | (.inl x74) => (Comp.pure x74) | (.inr ()) => (colletlaw43_CourtTrue_j4 x6 x66 x5 x61))))
def colletlaw43_CourtTrue (x_0 : colletlaw43_Case) (x_1 : Int) (x_2 : Vector Int 6) (x_3 : Int) : Comp Bool :=
  (colletlaw43_sanity).bind fun x5 => (colletlaw43_Case_made x_0 6).bind fun x6 => (nonneg x6.2.2).bind fun x11 => (Comp.pure ((IntKind.wrap .i64 ((shlF .i64 1 x6.2.2) - 1)))).bind fun x12 =>  (mk (x6.1.length : Int) 0).bind fun x13 =>  (Comp.loop (fun s => colletlaw43_CourtTrue_l2 x6 x_2 x12 s.1 s.2.1 s.2.2) (0, (andB .i64 (IntKind.wrap .i64 x_1) x12), x13)).bind (fun (x51, x52) => colletlaw43_CourtTrue_j1 x6 x_3 x5 x51 x52)
end Go.F
end
section
namespace Go.Proofs
open Go.Shelf
def Try.lays215_ren : Go.Shelf.Ren := ⟨fun | 215 => 85 | n => n, fun | 3 => 3 | 4 => 4 | n => n, fun | n => n⟩
theorem Try.lays215 : Go.Proofs.Lays.n215 Try.prog Try.lays215_ren := {
 mixed := by kernel_rfl
 f215 := Try.func85.trans (congrArg some (by kernel_rfl))
 t3 := Try.underlying3
 a3 := Try.isAgg3
 z3 := Try.sizeOf3
 v3 := Try.zeroValue3
 t4 := Try.underlying4
 a4 := Try.isAgg4
 z4 := Try.sizeOf4
 v4 := Try.zeroValue4 }
open Go.RowKit in
theorem Try.cmp_isNaN_int (x : Int) (w : World) :
  Calls Try.prog 85 #[.int .i64 x] w fun e w' => e = .returned (.bool false) ∧ w' = w := Any.cmp_isNaN_int Try.lays215 x w
def Try.lays189_ren : Go.Shelf.Ren := ⟨fun | 189 => 80 | 125 => 69 | 257 => 84 | 128 => 81 | 129 => 82 | 294 => 86 | 295 => 87 | 296 => 88 | 297 => 89 | 298 => 90 | 299 => 91 | 216 => 83 | 300 => 92 | 301 => 93 | 328 => 94 | 329 => 95 | 330 => 96 | 331 => 97 | 332 => 98 | 215 => 85 | 343 => 99 | n => n, fun | 28 => 23 | 3 => 3 | 46 => 85 | 0 => 0 | 51 => 113 | 53 => 115 | 4 => 4 | 183 => 120 | 182 => 119 | 131 => 124 | 5 => 5 | 9 => 9 | 218 => 126 | 222 => 130 | 228 => 132 | 229 => 133 | n => n, fun | n => n⟩
theorem Try.lays189 : Go.Proofs.Lays.n189 Try.prog Try.lays189_ren := {
 mixed := by kernel_rfl
 f125 := Try.func69.trans (congrArg some (by kernel_rfl))
 f128 := Try.func81.trans (congrArg some (by kernel_rfl))
 f129 := Try.func82.trans (congrArg some (by kernel_rfl))
 f189 := Try.func80.trans (congrArg some (by kernel_rfl))
 f215 := Try.func85.trans (congrArg some (by kernel_rfl))
 f216 := Try.func83.trans (congrArg some (by kernel_rfl))
 f257 := Try.func84.trans (congrArg some (by kernel_rfl))
 f294 := Try.func86.trans (congrArg some (by kernel_rfl))
 f295 := Try.func87.trans (congrArg some (by kernel_rfl))
 f296 := Try.func88.trans (congrArg some (by kernel_rfl))
 f297 := Try.func89.trans (congrArg some (by kernel_rfl))
 f298 := Try.func90.trans (congrArg some (by kernel_rfl))
 f299 := Try.func91.trans (congrArg some (by kernel_rfl))
 f300 := Try.func92.trans (congrArg some (by kernel_rfl))
 f301 := Try.func93.trans (congrArg some (by kernel_rfl))
 f328 := Try.func94.trans (congrArg some (by kernel_rfl))
 f329 := Try.func95.trans (congrArg some (by kernel_rfl))
 f330 := Try.func96.trans (congrArg some (by kernel_rfl))
 f331 := Try.func97.trans (congrArg some (by kernel_rfl))
 f332 := Try.func98.trans (congrArg some (by kernel_rfl))
 f343 := Try.func99.trans (congrArg some (by kernel_rfl))
 t0 := Try.underlying0
 a0 := Try.isAgg0
 z0 := Try.sizeOf0
 v0 := Try.zeroValue0
 t3 := Try.underlying3
 a3 := Try.isAgg3
 z3 := Try.sizeOf3
 v3 := Try.zeroValue3
 t4 := Try.underlying4
 a4 := Try.isAgg4
 z4 := Try.sizeOf4
 v4 := Try.zeroValue4
 t5 := Try.underlying5
 a5 := Try.isAgg5
 z5 := Try.sizeOf5
 v5 := Try.zeroValue5
 t9 := Try.underlying9
 a9 := Try.isAgg9
 z9 := Try.sizeOf9
 v9 := Try.zeroValue9
 t28 := Try.underlying23
 a28 := Try.isAgg23
 z28 := Try.sizeOf23
 v28 := Try.zeroValue23
 t46 := Try.underlying85
 a46 := Try.isAgg85
 z46 := Try.sizeOf85
 v46 := Try.zeroValue85
 t51 := Try.underlying113
 a51 := Try.isAgg113
 z51 := Try.sizeOf113
 v51 := Try.zeroValue113
 t53 := Try.underlying115
 a53 := Try.isAgg115
 z53 := Try.sizeOf115
 v53 := Try.zeroValue115
 t131 := Try.underlying124
 a131 := Try.isAgg124
 z131 := Try.sizeOf124
 v131 := Try.zeroValue124
 t182 := Try.underlying119
 a182 := Try.isAgg119
 z182 := Try.sizeOf119
 v182 := Try.zeroValue119
 t183 := Try.underlying120
 a183 := Try.isAgg120
 z183 := Try.sizeOf120
 v183 := Try.zeroValue120
 t218 := Try.underlying126
 a218 := Try.isAgg126
 z218 := Try.sizeOf126
 v218 := Try.zeroValue126
 t222 := Try.underlying130
 a222 := Try.isAgg130
 z222 := Try.sizeOf130
 v222 := Try.zeroValue130
 t228 := Try.underlying132
 a228 := Try.isAgg132
 z228 := Try.sizeOf132
 v228 := Try.zeroValue132
 t229 := Try.underlying133
 a229 := Try.isAgg133
 z229 := Try.sizeOf133
 v229 := Try.zeroValue133 }
open Go.Sort Go.RowKit in
theorem Try.slices_Sort_int (blk off cap : Nat) (zs : List Int) (w : World) (hH : Holds (Value.int .i64) w blk off zs.toArray) (hblk : blk < w.heap.size) (hsz : zs.length < 4611686018427387904) :
  Calls Try.prog 80 #[.slice (some ⟨blk, off, none⟩) zs.length cap] w fun e w' =>
   e = .returned (.tuple #[]) ∧ ∃ n os, w' = grow (putRow (Value.int .i64) (Sort.ahead w n) blk off (zs.mergeSort fun x y => decide (x ≤ y)).toArray) os := Any.slices_Sort_int Try.lays189 blk off cap zs w hH hblk hsz
def Try.laysNm220_ren : Go.Shelf.Ren := ⟨fun | 20 => 76 | n => n, fun | 22 => 23 | 3 => 3 | 4 => 4 | 0 => 0 | n => n, fun | n => n⟩
theorem Try.laysNm220 : Go.Proofs.Lays2.n20 Try.prog Try.laysNm220_ren := {
 mixed := by kernel_rfl
 f20 := Try.func76.trans (congrArg some (by kernel_rfl))
 t0 := Try.underlying0
 a0 := Try.isAgg0
 z0 := Try.sizeOf0
 v0 := Try.zeroValue0
 t3 := Try.underlying3
 a3 := Try.isAgg3
 z3 := Try.sizeOf3
 v3 := Try.zeroValue3
 t4 := Try.underlying4
 a4 := Try.isAgg4
 z4 := Try.sizeOf4
 v4 := Try.zeroValue4
 t22 := Try.underlying23
 a22 := Try.isAgg23
 z22 := Try.sizeOf23
 v22 := Try.zeroValue23
 i3 := by kernel_rfl }
open Go.RowKit Go.Lib Go.Sort in
theorem Try.slices_Compact_int (blk off cap : Nat) (zs : List Int) (w : World) (hH : Holds (Value.int .i64) w blk off zs.toArray) (hsz : zs.length ≤ 9223372036854775807) (hcap : zs.length ≤ cap) :
  Calls Try.prog 76 #[.slice (some ⟨blk, off, none⟩) zs.length cap] w fun e w' => e = .returned (.slice (some ⟨blk, off, none⟩) (Lib.compact zs).length cap) ∧ ∃ q, w' = putRow (Value.int .i64) (Sort.ahead w q) blk off (Lib.compact zs ++ List.replicate (zs.length - (Lib.compact zs).length) 0).toArray := Any.slices_Compact_int Try.laysNm220 blk off cap zs w hH hsz hcap
open Go.RowKit Go.Lib Go.Sort in
theorem Try.slices_Compact_int_empty (a : Option Addr) (cap : Nat) (w : World) :
  Calls Try.prog 76 #[.slice a 0 cap] w fun e w' => e = .returned (.slice a 0 cap) ∧ w' = w := Any.slices_Compact_int_empty Try.laysNm220 a cap w
open Go.RowKit Go.Sort in
theorem Try.slices_Sort_int_none (p : Option Addr) (cap : Nat) (w : World) :
  Calls Try.prog 80 #[.slice p 0 cap] w fun e w' => e = .returned (.tuple #[]) ∧ w' = w := Any.slices_Sort_int_none Try.lays189 p cap w
end Go.Proofs
end
