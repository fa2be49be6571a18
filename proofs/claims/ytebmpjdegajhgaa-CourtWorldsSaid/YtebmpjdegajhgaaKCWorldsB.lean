/- Lemmas behind a claim of this seat. No statement of the program stands here. -/
import Derived.Test.YtebmpjdegajhgaaKCWorldsA
import Derived.MapKept
import Derived.Carry
import Derived.Shelf.Small.Bits
import Derived.Shelf.Small.Wraps
import Derived.Shelf.Strconv.Itoa0
import Derived.Shelf.Sort.Plain
import Derived.Ground.Names2Prog
import Derived.Shelf.Slices.Clone
import Derived.Shelf.Slices.CompactI
import Derived.Shelf.Slices.Cells
import Derived.Shelf.Slices.In.SortNone
import Derived.Test.YtebmpjdegajhgaaProg
set_option linter.unusedSimpArgs false
set_option linter.unusedVariables false
section
set_option linter.unusedVariables false
set_option linter.unusedSimpArgs false
namespace Go.Lift
open Go Go.RowKit Go.Eng
variable {α κ ν : Type}
def mget [DecidableEq κ] : List (κ × ν) → κ → Option ν
 | [], _ => none
 | p :: ps, x => if x = p.1 then some p.2 else mget ps x
def mput [DecidableEq κ] : List (κ × ν) → κ → ν → List (κ × ν)
 | [], x, y => [(x, y)]
 | p :: ps, x, y => if x = p.1 then (x, y) :: ps else p :: mput ps x y
def fndE [DecidableEq κ] : List MapEntry → List κ → κ → Nat → Option (Nat × Value)
 | e :: es, y :: ys, x, i => if x = y then some (i, e.val) else fndE es ys x (i + 1)
 | _, _, _, _ => none
structure KeyOk (P : Program) (kT : TypeId) [DecidableEq κ] (ek : κ → Value) : Prop where
 check : ∀ e x w, (Instr.checkKey e 10000 kT (ek x)).run P w = .ok () w
 find : ∀ (es : List MapEntry) (ys : List κ) (x : κ) (w : World), es.map (·.key) = ys.map ek → (Instr.findKey kT (ek x) es).run P w = .ok (fndE es ys x 0) w
 same : ∀ x, Instr.sameBits 10000 (ek x) (ek x) = true
theorem findAsking_run [DecidableEq κ] {P : Program} {kT : TypeId} {ek : κ → Value} (heq : ∀ x y w, (Op.equal kT (ek x) (ek y)).run P w = .ok (decide (x = y)) w) : ∀ (es : List MapEntry) (ys : List κ) (x : κ) (w : World) (i : Nat), es.map (·.key) = ys.map ek → (Instr.findAsking kT (ek x) es i).run P w = .ok (fndE es ys x i) w
 | [], ys, x, w, i, h => by cases ys <;> simp [Instr.findAsking, fndE]
 | e :: es, [], x, w, i, h => by simp at h
 | e :: es, y :: ys, x, w, i, h => by
  simp only [List.map_cons, List.cons.injEq] at h
  simp only [Instr.findAsking, h.1, Sem.run_bind, heq, Result.andThen_ok, fndE]
  by_cases hxy : x = y
  ·simp [hxy]
  ·simp [hxy, findAsking_run heq es ys x w (i + 1) h.2]
theorem findNow_agg {dd : TypeDesc} (hd : isAggD dd = true) (k : Value) (e : MapEntry) (es : List MapEntry) (i : Nat) : Instr.findNow dd k (e :: es) i = none := by
 have : Instr.sameNow dd k e.key = none := by cases dd <;> first | (cases hd; done) | rfl
 simp [Instr.findNow, this]
theorem KeyOk.agg [DecidableEq κ] {P : Program} {kT : TypeId} {r : GR κ} {D : Nat} {cells : κ → List Value} (hE : EqR P kT r D) (hD : D ≤ 10000) (ha : r.agg = true) (hr : ∀ O w x, r.rel O w (cells x) x) {dd z sz by_} (hT : Ty P kT dd z sz by_) (hd : isAggD dd = true)
  (hc : ∀ e x w, (Instr.checkKey e 10000 kT (.agg (cells x).toArray)).run P w = .ok () w) (hs : ∀ x, Instr.sameBits 10000 (.agg (cells x).toArray) (.agg (cells x).toArray) = true) : KeyOk P kT (fun x => .agg (cells x).toArray) where
 check := hc
 same := hs
 find := fun es ys x w h => by
  have heq : ∀ x y w, (Op.equal kT (.agg (cells x).toArray) (.agg (cells y).toArray)).run P w = .ok (decide (x = y)) w := by
   intro x y w
   have e := hE.run (10000 - D) w (fun _ => 0) w (fun _ => 0) w (cells x) (cells y) x y (hr _ _ _) (hr _ _ _)
   rw [show 10000 - D + D = 10000 by omega, ha] at e
   exact e
  have hu : (underlying kT).run P w = .ok dd w := by simp [underlying, hT.u]
  cases es with
  | nil => cases ys <;> simp [Instr.findKey, hu, Instr.findNow, fndE]
  | cons e es => simp only [Instr.findKey, Sem.run_bind, hu, Result.andThen_ok, findNow_agg hd, findAsking_run heq (e :: es) ys x w 0 h]
theorem findNow_int (k : IntKind) : ∀ (es : List MapEntry) (ys : List Int) (x : Int) (i : Nat), es.map (·.key) = ys.map (Value.int k) → Instr.findNow (.int k) (.int k x) es i = some (fndE es ys x i)
 | [], ys, x, i, h => by cases ys <;> simp [Instr.findNow, fndE]
 | e :: es, [], x, i, h => by simp at h
 | e :: es, y :: ys, x, i, h => by
  simp only [List.map_cons, List.cons.injEq] at h
  simp only [Instr.findNow, h.1, Instr.sameNow, if_true, fndE]
  by_cases hxy : x = y
  ·simp [hxy]
  ·have : (x == y) = false := by simp [hxy]
   simp [hxy, this, findNow_int k es ys x (i + 1) h.2]
theorem KeyOk.int {P : Program} {kT : TypeId} {k : IntKind} {z sz by_} (hT : Ty P kT (.int k) z sz by_) : KeyOk P kT (Value.int k) where
 check := fun e x w => by
  have hu : (underlying kT).run P w = .ok (.int k) w := by simp [underlying, hT.u]
  rw [show (10000 : Nat) = 9999 + 1 from rfl, Instr.checkKey]
  simp [hu]
 same := fun x => by simp [Instr.sameBits]
 find := fun es ys x w h => by
  have hu : (underlying kT).run P w = .ok (.int k) w := by simp [underlying, hT.u]
  simp [Instr.findKey, hu, findNow_int k es ys x 0 h]
theorem fnd_get [DecidableEq κ] {ek : κ → Value} {ev : ν → Value} : ∀ (es : List MapEntry) (xs : List (κ × ν)) (x : κ) (i : Nat), es.map (fun e => (e.key, e.val)) = xs.map (fun p => (ek p.1, ev p.2)) → (fndE es (xs.map (·.1)) x i).map (·.2) = (mget xs x).map ev
 | [], [], x, i, h => rfl
 | [], p :: ps, x, i, h => by simp at h
 | e :: es, [], x, i, h => by simp at h
 | e :: es, p :: ps, x, i, h => by
  simp only [List.map_cons, List.cons.injEq, Prod.mk.injEq] at h
  simp only [List.map_cons, fndE, mget]
  by_cases hx : x = p.1
  ·simp [hx, h.1.2]
  ·simp [hx, fnd_get es ps x (i + 1) h.2]
theorem fnd_put [DecidableEq κ] {ek : κ → Value} {ev : ν → Value} (y : ν) : ∀ (es : List MapEntry) (xs : List (κ × ν)) (x : κ) (n i : Nat) (v : Value), es.map (fun e => (e.key, e.val)) = xs.map (fun p => (ek p.1, ev p.2)) → fndE es (xs.map (·.1)) x n = some (i, v) →
   n ≤ i ∧ (es.modify (i - n) fun e => { e with key := ek x, val := ev y }).map (fun e => (e.key, e.val)) = (mput xs x y).map (fun p => (ek p.1, ev p.2))
 | [], [], x, n, i, v, h, hf => by simp [fndE] at hf
 | [], p :: ps, x, n, i, v, h, hf => by simp at h
 | e :: es, [], x, n, i, v, h, hf => by simp at h
 | e :: es, p :: ps, x, n, i, v, h, hf => by
  simp only [List.map_cons, List.cons.injEq, Prod.mk.injEq] at h
  simp only [List.map_cons, fndE] at hf
  by_cases hx : x = p.1
  ·rw [if_pos hx] at hf
   simp only [Option.some.injEq, Prod.mk.injEq] at hf
   obtain ⟨rfl, _⟩ := hf
   refine ⟨Nat.le_refl _, ?_⟩
   simp [mput, hx, h.2]
  ·rw [if_neg hx] at hf
   obtain ⟨h1, h2⟩ := fnd_put y es ps x (n + 1) i v h.2 hf
   refine ⟨by omega, ?_⟩
   rw [show i - n = (i - (n + 1)) + 1 by omega]
   simp only [List.modify_succ_cons, List.map_cons, mput, if_neg hx, h2, h.1]
theorem fnd_none [DecidableEq κ] {ek : κ → Value} {ev : ν → Value} (y : ν) : ∀ (es : List MapEntry) (xs : List (κ × ν)) (x : κ) (n : Nat), es.map (fun e => (e.key, e.val)) = xs.map (fun p => (ek p.1, ev p.2)) → fndE es (xs.map (·.1)) x n = none → mput xs x y = xs ++ [(x, y)]
 | [], [], x, n, h, hf => rfl
 | [], p :: ps, x, n, h, hf => by simp at h
 | e :: es, [], x, n, h, hf => by simp at h
 | e :: es, p :: ps, x, n, h, hf => by
  simp only [List.map_cons, List.cons.injEq] at h
  simp only [List.map_cons, fndE] at hf
  by_cases hx : x = p.1
  ·rw [if_pos hx] at hf; cases hf
  ·rw [if_neg hx] at hf
   simp [mput, hx, fnd_none y es ps x (n + 1) h.2 hf]
theorem fndE_key [DecidableEq κ] {ek : κ → Value} : ∀ (es : List MapEntry) (ys : List κ) (x : κ) (n i : Nat) (v : Value), es.map (·.key) = ys.map ek → fndE es ys x n = some (i, v) → ∃ e, n ≤ i ∧ es[i - n]? = some e ∧ e.key = ek x
 | [], ys, x, n, i, v, h, hf => by simp [fndE] at hf
 | e :: es, [], x, n, i, v, h, hf => by simp at h
 | e :: es, y :: ys, x, n, i, v, h, hf => by
  simp only [List.map_cons, List.cons.injEq] at h
  simp only [fndE] at hf
  by_cases hx : x = y
  ·rw [if_pos hx] at hf
   simp only [Option.some.injEq, Prod.mk.injEq] at hf
   obtain ⟨rfl, _⟩ := hf
   exact ⟨e, Nat.le_refl _, by simp, by rw [h.1, hx]⟩
  ·rw [if_neg hx] at hf
   obtain ⟨e', h1, h2, h3⟩ := fndE_key es ys x (n + 1) i v h.2 hf
   exact ⟨e', by omega, by rw [show i - n = (i - (n + 1)) + 1 by omega]; simpa using h2, h3⟩
theorem vec2 {α : Type} (x : Vector α 2) : ∃ a b, x = #v[a, b] := by
 obtain ⟨⟨l⟩, h⟩ := x
 match l, h with
 | [a, b], _ => exact ⟨a, b, rfl⟩
def OwnM (k : Nat) (ek : κ → Value) (ev : ν → Value) (B : Nat → Prop) (O : Tags) (w : World) (u : Value) (xs : List (κ × ν)) : Prop :=
 ∃ b es clock, u = .map (some b) ∧ w.heap[b]? = some (.map es clock) ∧ es.toList.map (fun e => (e.key, e.val)) = xs.map (fun p => (ek p.1, ev p.2)) ∧ B b ∧ O b = k
theorem OwnM.keep {k : Nat} {ek : κ → Value} {ev : ν → Value} {B : Nat → Prop} {O O' : Tags} {w w' : World} {u : Value} {xs : List (κ × ν)} (h : OwnM k ek ev B O w u xs) (hk : Keep k O w O' w') : OwnM k ek ev B O' w' u xs := by
 obtain ⟨b, es, clock, h1, h2, h3, h4, h5⟩ := h
 obtain ⟨h6, h7⟩ := hk.2 b (Array.getElem?_eq_some_iff.1 h2).1 h5
 exact ⟨b, es, clock, h1, h7.trans h2, h3, h4, h6⟩
theorem OwnM.ext {k : Nat} {ek : κ → Value} {ev : ν → Value} {B : Nat → Prop} {O : Tags} {w w' : World} {u : Value} {xs : List (κ × ν)} (h : OwnM k ek ev B O w u xs) (hE : Ext w w') : OwnM k ek ev B O w' u xs := h.keep (Keep.ext hE)
theorem OwnM.kx {j : Option Nat} {k : Nat} {ek : κ → Value} {ev : ν → Value} {B : Nat → Prop} {O O' : Tags} {w w' : World} {u : Value} {xs : List (κ × ν)} (h : OwnM k ek ev B O w u xs) (hx : KX j O w O' w') (hk : some k ≠ j) : OwnM k ek ev B O' w' u xs := h.keep (hx.keep hk)
def SP.map0 (L : Nat) : SP := .pr (fun w v => ∃ b, L ≤ b ∧ v = .map (some b) ∧ w.heap[b]? = some (.map #[] 0)) (fun _ _ _ hE ⟨b, h1, h2, h3⟩ => ⟨b, h1, h2, (hE.block b (Array.getElem?_eq_some_iff.1 h3).1).trans h3⟩)
section ops
variable {P : Program} {a : Act} {w : World} {d : Option Tmp} {T : TypeId} {pos : String} {aft : Array Edge} {g : Option (Nat × Bool)}
theorem ok_makeMap {X : TypeId} {L : Nat} (hL : L ≤ w.heap.size) : Ok P ⟨d, .makeMap X none, T, pos, aft, g⟩ a w (SP.map0 L).holds :=
 ok_run (v := .map (some w.heap.size)) (w' := w.alloc (.map #[] 0)) (by simp [execOp, run_makeMap]) (Ext.alloc _ _) ⟨_, hL, rfl, (Go.MapKept.heap_alloc w _).1⟩
theorem okl_lookup [DecidableEq κ] {X kT vT : TypeId} {ek : κ → Value} {ev : ν → Value} {m x : Operand} {k : Nat} {B : Nat → Prop} {O : Tags} {u : Value} {xs : List (κ × ν)} {y : κ} {z0 : ν} {z1 s1 b1 dd z2 s2 b2} (hX : Ty P X (.map kT vT) z1 s1 b1) (hV : Ty P vT dd z2 s2 b2) (hz : z2 = ev z0) (hK : KeyOk P kT ek) (hm : a.eval m = u) (hO : OwnM k ek ev B O w u xs) (hx : a.eval x = ek y) :
  Ok P ⟨d, .lookup X m x false, T, pos, aft, g⟩ a w (SP.isv (ev ((mget xs y).getD z0))).holds := by
 obtain ⟨b, es, clock, rfl, h2, h3, _, _⟩ := hO
 have hu : (underlying X).run P w = .ok (.map kT vT) w := by simp [underlying, hX.u]
 have hkeys : es.toList.map (·.key) = (xs.map (·.1)).map ek := by
  have := congrArg (List.map (·.1)) h3
  simpa [List.map_map, Function.comp_def] using this
 have hf := hK.find es.toList (xs.map (·.1)) y w hkeys
 have hg := fnd_get es.toList xs y 0 h3
 refine ok_pure ?_
 subst hz
 cases hfe : fndE es.toList (xs.map (·.1)) y 0 with
 | none =>
  rw [hfe] at hf hg
  have hn : mget xs y = none := by simpa using hg.symm
  simp [execOp, Instr.lookup, hm, hx, hu, Go.MapKept.run_getObj_map h2, hK.check, hf, hV.run_zero, hn]
 | some p =>
  rw [hfe] at hf hg
  obtain ⟨q, hq⟩ : ∃ q, mget xs y = some q := by
   cases hm : mget xs y with
   | none => rw [hm] at hg; simp at hg
   | some q => exact ⟨q, rfl⟩
  rw [hq] at hg
  have hv : p.2 = ev q := by simpa using hg
  obtain ⟨i, v⟩ := p
  simp at hv
  simp [execOp, Instr.lookup, hm, hx, hu, Go.MapKept.run_getObj_map h2, hK.check, hf, hq, hv]
end ops
section tails
variable {P : Program} {a : Act} {w : World} {T : TypeId} {pos : String} {aft : Array Edge} {ops : Array Oper} {Q : Exit → Act → World → Prop} {rest : List Oper} {A : Nat → Prop}
theorem mapNew {O0 O : Tags} {w0 w w' : World} (hO0 : OkO O0 w0) (hB : Base A O0 w0 O w) (hE : Ext w w') {u : Value} (h : (SP.map0 w.heap.size).holds w' u) (k : Nat) (hk : k ≠ 0) (ek : κ → Value) (ev : ν → Value) :
  ∃ O', Base A O0 w0 O' w' ∧ KX none O w O' w' ∧ OwnM k ek ev (Fr w0) O' w' u [] := by
 obtain ⟨b, h1, h2, h3⟩ := h
 have hs := hB.size
 have hlt := (Array.getElem?_eq_some_iff.1 h3).1
 refine ⟨tag O (some b) k, (hB.step hE hO0).tag hk fun g hg => ?_, KX.tag hE fun g hg => ?_, b, _, _, h2, h3, rfl, by unfold Fr; omega, tag_same _ _ _⟩
 ·cases hg; exact ⟨hB.new _ (by omega), hlt⟩
 ·cases hg; exact h1
theorem but_setObj (w : World) (b : Nat) (o : Obj) : But b w { w with heap := w.heap.setIfInBounds b o } :=
 ⟨rfl, rfl, rfl, by simp, fun c hc hn => by simp [Array.getElem?_setIfInBounds, Ne.symm hn]⟩
theorem l_mapUpdate [DecidableEq κ] {X kT vT : TypeId} {ek : κ → Value} {ev : ν → Value} {m x v : Operand} {k : Nat} {B : Nat → Prop} {O O0 : Tags} {w0 : World} {u : Value} {xs : List (κ × ν)} {y : κ} {z : ν} {z1 s1 b1} (hO0 : OkO O0 w0) (hB : Base A O0 w0 O w) (hAB : OkB A w0 B) (hX : Ty P X (.map kT vT) z1 s1 b1) (hK : KeyOk P kT ek) (hm : a.eval m = u) (hO : OwnM k ek ev B O w u xs) (hx : a.eval x = ek y) (hv : a.eval v = ev z)
  (hK' : ∀ w', OwnM k ek ev B O w' u (mput xs y z) → Base A O0 w0 O w' → KX (some k) O w O w' → wpList P ops Q rest a w') : wpList P ops Q (⟨none, .mapUpdate X m x v, T, pos, aft, none⟩ :: rest) a w := by
 obtain ⟨b, es, clock, rfl, h2, h3, h4, h5⟩ := hO
 have hu : (underlying X).run P w = .ok (.map kT vT) w := by simp [underlying, hX.u]
 have hkeys : es.toList.map (·.key) = (xs.map (·.1)).map ek := by
  have := congrArg (List.map (·.1)) h3
  simpa [List.map_map, Function.comp_def] using this
 have hlt := (Array.getElem?_eq_some_iff.1 h2).1
 have hf := hK.find es.toList (xs.map (·.1)) y w hkeys
 have hw : Region.wanted (⟨none, .mapUpdate X m x v, T, pos, aft, none⟩ : Oper) (yielded ops a.tmps) = true := by simp [Region.wanted]
 have fin : ∀ es' clock', es'.toList.map (fun e : MapEntry => (e.key, e.val)) = (mput xs y z).map (fun p => (ek p.1, ev p.2)) → wpList P ops Q rest a { w with heap := w.heap.setIfInBounds b (.map es' clock') } := by
  intro es' clock' he
  refine hK' _ ⟨b, es', clock', rfl, by simp [hlt], he, h4, h5⟩ (hB.but (hAB.sub _ h4) (but_setObj w b _) hO0) (KX.but (but_setObj w b _) h5)
 simp only [wpList, hw, if_true]
 left
 cases hfe : fndE es.toList (xs.map (·.1)) y 0 with
 | none =>
  rw [hfe] at hf
  have hr : (execOp a.eval ⟨none, .mapUpdate X m x v, T, pos, aft, none⟩).run P w = .ok .skip { w with heap := w.heap.setIfInBounds b (.map (es.push { key := ek y, val := ev z, born := clock }) (clock + 1)) } := by
   simp [execOp, Instr.mapUpdate, hm, hx, hv, hu, Go.MapKept.run_getObj_map h2, hK.check, hf, Go.MapKept.run_setObj_map _ h2]
  unfold Oper.wp
  rw [hr]
  refine fin _ _ ?_
  rw [fnd_none z es.toList xs y 0 h3 hfe]
  simp [h3]
 | some p =>
  rw [hfe] at hf
  obtain ⟨i, v0⟩ := p
  obtain ⟨_, hmod⟩ := fnd_put z es.toList xs y 0 i v0 h3 hfe
  obtain ⟨e0, _, he0, hek⟩ := fndE_key es.toList (xs.map (·.1)) y 0 i v0 hkeys hfe
  rw [Nat.sub_zero, Array.getElem?_toList] at he0
  have hkeep : (Instr.keyThatStays e0.key (ek y)).run P w = .ok (ek y) w := by simp [Instr.keyThatStays, hek, hK.same]
  have hr : (execOp a.eval ⟨none, .mapUpdate X m x v, T, pos, aft, none⟩).run P w = .ok .skip { w with heap := w.heap.setIfInBounds b (.map (es.modify i fun e => { e with key := ek y, val := ev z }) clock) } := by
   simp [execOp, Instr.mapUpdate, hm, hx, hv, hu, Go.MapKept.run_getObj_map h2, hK.check, hf, he0, hkeep, Go.MapKept.run_setObj_map _ h2]
  unfold Oper.wp
  rw [hr]
  refine fin _ _ ?_
  rw [Array.toList_modify]
  simpa using hmod
end tails
end Go.Lift
end
section
set_option linter.unusedVariables false
set_option linter.unusedSimpArgs false
namespace Go.Lift
open Go Go.RowKit Go.Eng
variable {α : Type}
def OwnA (r : GR α) (T : Nat) (O : Tags) (w : World) (u : Value) (xs : List α) : Prop := OwnR r T 0 O w u xs ∧ ∀ g, u.ownBlock = some g → O g ≠ 0
theorem OwnL.argA {k : Nat} {r : GR α} {T B O w u xs} (h : OwnL k r T B O w u xs) (hk : k ≠ 0) : OwnA r T O w u xs :=
 ⟨h.arg hk, fun g hg => by obtain ⟨vs, _, _, h3⟩ := h; rw [(h3 g hg).1]; exact hk⟩
def FrS (w0 : World) (u : Value) : Nat → Prop := fun b => w0.heap.size ≤ b ∨ u.ownBlock = some b
theorem sioStart {r : GR α} {T : TypeId} {O : Tags} {w : World} {u : Value} {xs : List α} (hO : OkO O w) (h : OwnA r T O w u xs) :
  ∃ O', Base (FrS w u) O w O' w ∧ OwnL 1 r T (FrS w u) O' w u xs ∧ Keep 0 O w O' w := by
 obtain ⟨⟨vs, h1, h2⟩, h3⟩ := h
 refine ⟨tag O u.ownBlock 1, ⟨rfl, rfl, rfl, Nat.le_refl _, fun _ _ _ => rfl, hO.tag fun g hg => h1.block_lt g hg, fun c _ hc => tag_ne fun e => hc (.inr e), fun c _ hz => ?_, fun _ h => .inl h⟩, ⟨vs, h1, h2, fun g hg => ⟨by rw [hg]; exact tag_same _ _ _, .inr hg⟩⟩, Nat.le_refl _, fun c _ hc => ⟨?_, rfl⟩⟩
 ·by_cases e : u.ownBlock = some c
  ·rw [e, tag_same] at hz; cases hz
  ·rw [tag_ne e] at hz; exact hz
 ·rw [tag_ne fun e => h3 c e hc]; exact hc
theorem OwnL.appd {k : Nat} {r : GR α} {T : TypeId} {O O' : Tags} {w0 w : World} {u u' : Value} {ys : List α} (hB : Base (FrS w0 u) O w0 O' w) (h : OwnL k r T (FrS w0 u) O' w u' ys) : Appd w0 w u u' :=
 ⟨⟨hB.os, hB.tape, hB.output, hB.size, fun c hc hn => hB.block c hc fun e => by
   rcases e with e | e
   ·omega
   ·exact hn e.symm⟩, by
  obtain ⟨vs, _, _, h3⟩ := h
  cases hu : u'.ownBlock with
  | none => exact .inr fun g hg => by cases hg
  | some g =>
   rcases (h3 g hu).2 with e | e
   ·exact .inr fun g' hg => by cases hg; exact e
   ·exact .inl e.symm⟩
theorem sioEnd {k : Nat} {r : GR α} {T : TypeId} {O O' : Tags} {w0 w : World} {u u' v : Value} {ys : List α} (hB : Base (FrS w0 u) O w0 O' w) (h : OwnL k r T (FrS w0 u) O' w u' ys) (hk : k ≠ 0) (hv : v = u') : IoPost r T O w0 u ys (fun v u' => v = u') (.returned v) w := by
 refine ⟨v, u', rfl, h.appd hB, ?_, hv⟩
 obtain ⟨vs, h1, h2, h3⟩ := h
 refine ⟨vs, h1, h2.mono ⟨Nat.le_refl _, fun c hc h0 => ⟨?_, rfl⟩⟩⟩
 rw [tag_ne fun e => by rw [(h3 c e).1] at h0; exact hk h0]
 exact hB.zero c hc h0
theorem sioEndG {k : Nat} {r : GR α} {T : TypeId} {O O' : Tags} {w0 w : World} {u u' v : Value} {ys : List α} {ψ : Value → Value → Prop} (hB : Base (FrS w0 u) O w0 O' w) (h : OwnL k r T (FrS w0 u) O' w u' ys) (hk : k ≠ 0) (hv : ψ v u') : IoPost r T O w0 u ys ψ (.returned v) w := by
 refine ⟨v, u', rfl, h.appd hB, ?_, hv⟩
 obtain ⟨vs, h1, h2, h3⟩ := h
 refine ⟨vs, h1, h2.mono ⟨Nat.le_refl _, fun c hc h0 => ⟨?_, rfl⟩⟩⟩
 rw [tag_ne fun e => by rw [(h3 c e).1] at h0; exact hk h0]
 exact hB.zero c hc h0
theorem OwnL.pre {k : Nat} {r : GR α} {T : TypeId} {B : Nat → Prop} {O : Tags} {w : World} {u : Value} {xs ys : List α} (h : OwnL k r T B O w u xs) {m : Int} {n : Nat} (hs : (sub xs 0 m).run n = some ys) : OwnL k r T B O w (preV u ys.length) ys := by
 obtain ⟨⟨_, h2', h3'⟩, h4'⟩ := run_sub hs
 obtain ⟨vs, h1, h2, h3⟩ := h
 have hl := h2.len
 have e4 : ys = xs.take m.toNat := by simpa using h4'.symm
 have e5 : ys.length = m.toNat := by rw [e4, List.length_take]; omega
 refine ⟨vs.take ys.length, ownS_pre h1 (by omega), ?_, fun g hg => h3 g (by rw [← hg, preV_block])⟩
 have e6 : ys = xs.take ys.length := by rw [e5]; exact e4
 conv => rhs; rw [e6]
 exact h2.take _
def sufV : Value → Nat → Nat → Value
 | .slice a n c, lo, E => .slice (if c = lo then a else a.map (·.add (lo * E))) (n - lo) (c - lo)
 | v, _, _ => v
section ops
variable {P : Program} {a : Act} {w : World} {d : Option Tmp} {T : TypeId} {pos : String} {aft : Array Edge} {g : Option (Nat × Bool)}
theorem okl_slice_s {x l : Operand} {X e : TypeId} {r : GR α} {O : Tags} {xs ys : List α} {n : Int} {k : IntKind} {m : Nat} {z sz by_ dd z' E by_'} (hT : Ty P X (.slice e) z sz by_) (he : Ty P e dd z' E by_') (hE : r.sz = E) {u : Value} (hu : a.eval x = u) (hx : (rSl r).v O w u xs) (hl : a.eval l = .int k n) (hr : (sub xs n xs.length).run m = some ys) :
  Ok P ⟨d, .slice X x (some l) none none, T, pos, aft, g⟩ a w (SP.isv (sufV u n.toNat E)).holds := by
 obtain ⟨⟨h1, h2, h3⟩, h4⟩ := run_sub hr
 obtain ⟨vs, s1, s2, s3⟩ := rSl_v.1 hx
 subst hE
 have hlen := s2.len
 obtain ⟨p, c, hu', hc⟩ := s1.slice
 rw [hu'] at hu
 refine ok_run (v := sufV u n.toNat r.sz) (w' := w) ?_ (Ext.refl w) rfl
 simp [execOp, Instr.sliceAt, Instr.slice, Instr.sliceBounds, hu, hl, hT.run_u, he.run_size, bound_run h1 (show n ≤ (vs.length : Int) by omega), hu', sufV]
end ops
theorem range_zero (zc : Array Value) (n : Nat) : (Builtin.zeroCells zc n).toList = (List.replicate n zc.toList).flatten := by
 simp only [Builtin.zeroCells, Array.toList_map, Array.toList_range]
 induction n with
 | zero => simp
 | succ n ih =>
  rw [Nat.add_mul, Nat.one_mul, List.range_add, List.map_append, ih, List.replicate_succ', List.flatten_append]
  congr 1
  simp only [List.flatten_cons, List.flatten_nil, List.append_nil, List.map_map]
  apply List.ext_getElem
  ·simp
  ·intro i h1 h2
   have hi : i < zc.size := by simpa using h1
   simp [Nat.add_mod, Nat.mod_eq_of_lt hi, hi]
section tails
variable {P : Program} {a : Act} {w : World} {T : TypeId} {pos : String} {aft : Array Edge} {ops : Array Oper} {Q : Exit → Act → World → Prop} {rest : List Oper} {A : Nat → Prop}
theorem t_run {o : Oper} {v : Value} {w' : World} (h : (execOp a.eval o).run P w = .ok (.value v) w') (hg : o.guard = none) (hd : o.dst = none) (hK : wpList P ops Q rest a w') : wpList P ops Q (o :: rest) a w := by
 have : Region.wanted o (yielded ops a.tmps) = true := by simp [Region.wanted, hg]
 simp only [wpList, this, if_true]
 left
 unfold Oper.wp; rw [h]
 show wpList P ops Q rest (a.put o.dst v) w'
 rw [hd]; exact hK
theorem l_clear {x : Operand} {t e E k : Nat} {m : Int} {nf : Nat} {r : GR α} (hr : r.fits) (hE : r.sz = E) {O O0 : Tags} {w0 : World} (hO0 : OkO O0 w0) (hB : Base A O0 w0 O w) {B : Nat → Prop} (hAB : OkB A w0 B) {xs ys : List α} {u z : Value} {z0 : α} {z1 s1 b1 dd b2} (hT : Ty P t (.slice e) z1 s1 b1) (he : Ty P e dd z E b2) (hx : a.eval x = sufV u m.toNat E) (hO : OwnL k r e B O w u xs) (hk : k ≠ 0) (hs : (sub xs m xs.length).run nf = some ys) (hz : ∀ O w, r.v O w z z0)
  (hK : ∀ w', OwnL k r e B O w' u (xs.take m.toNat ++ List.replicate (xs.length - m.toNat) z0) → Base A O0 w0 O w' → KX (some k) O w O w' → wpList P ops Q rest a w') : wpList P ops Q (⟨none, .call ⟨.builtin .clear, #[x], #[t]⟩, T, pos, aft, none⟩ :: rest) a w := by
 obtain ⟨⟨h1', h2', _⟩, _⟩ := run_sub hs
 have hlo : m.toNat ≤ xs.length := by omega
 clear hs h1' h2'
 generalize m.toNat = lo at hx hK hlo
 subst hE
 have hge := hO.ge
 have htag := hO.tagged
 have hO' := hO
 obtain ⟨vs, h1, h2, h3⟩ := hO
 have hlen := h2.len
 have hu : (underlying t).run P w = .ok (.slice e) w := by simp [underlying, hT.u]
 have zsz : z.cells.size = r.sz := r.cells_size hr (hz O w)
 by_cases h0 : xs.length - lo = 0
 ·have e : xs.take lo ++ List.replicate (xs.length - lo) z0 = xs := by rw [h0, List.take_of_length_le (by omega)]; simp
  rw [e] at hK
  refine t_run (v := .tuple #[]) (w' := w) ?_ rfl rfl (hK w hO' hB ⟨Nat.le_refl _, fun _ _ _ => ⟨rfl, rfl⟩⟩)
  obtain ⟨p, c, hu', hc⟩ := h1.slv.slice
  have : vs.length - lo = 0 := by omega
  cases p <;> by_cases hcl : c = lo <;> simp [execOp, resolve, invoke, builtin, hx, hu', sufV, Builtin.clear_, hu, this, hcl]
 ·rcases h1.row.2 with ⟨_, h4⟩ | ⟨g, cap, cur, hu', hBg, hg, hnc, hcm, hcs, htk⟩
  ·omega
  have hcl : ¬ cap = lo := by omega
  have hxv : sufV u lo r.sz = .slice (some ⟨g, lo * r.sz, none⟩) (vs.length - lo) (cap - lo) := by
   rw [hu']
   simp only [sufV, if_neg hcl, Option.map_some, addr_add, Nat.zero_add]
  have hLl : (List.replicate (vs.length - lo) z.cells.toList).flatten.length = (vs.length - lo) * r.sz := by simp [zsz]
  have hmul : vs.length * r.sz = lo * r.sz + (vs.length - lo) * r.sz := by rw [← Nat.add_mul]; congr 1; omega
  have hcap : vs.length * r.sz ≤ cap * r.sz := Nat.mul_le_mul_right _ hnc
  have hone : ∀ v ∈ (List.replicate (vs.length - lo) z.cells.toList).flatten, v.oneCell' = true := by
   intro v hv
   obtain ⟨l, hl, hvl⟩ := List.mem_flatten.1 hv
   rw [List.eq_of_mem_replicate hl] at hvl
   exact r.cells_one hr (hz O w) v hvl
  obtain ⟨w', cs', s1, s2, s3, s4, s5, s6, s7, s8, s9⟩ := run_storeCells2 (P := P) (off := lo * r.sz) (List.replicate (vs.length - lo) z.cells.toList).flatten 0 w cur hone hg (by rw [hLl, hcs]; omega)
  have h5 : Appd w w' u u := ⟨⟨s5, s6, s7, by omega, fun c _ hc => s9 c (fun e => hc (by rw [hu', e]; rfl))⟩, .inl rfl⟩
  have hkx : KX (some k) O w O w' := ⟨h5.by_.size, fun b hb hbk => ⟨rfl, h5.by_.block b hb (fun e => hbk (by rw [htag b e.symm]))⟩⟩
  have k0 := hkx.keep (k := 0) (by simpa using hk.symm)
  have hsb := hB.size
  have hs2 := h5.by_.size
  have hsz : ∀ x ∈ vs.take lo ++ List.replicate (vs.length - lo) z, x.cells.size = r.sz := by
   intro x hx'
   rcases List.mem_append.1 hx' with h | h
   ·exact h1.sz x (List.mem_of_mem_take h)
   ·rw [List.eq_of_mem_replicate h]; exact zsz
  have hl' : (vs.take lo ++ List.replicate (vs.length - lo) z).length = vs.length := by simp; omega
  have hfl : flat (vs.take lo ++ List.replicate (vs.length - lo) z) = cur.toList.take (lo * r.sz) ++ (List.replicate (vs.length - lo) z.cells.toList).flatten := by
   have e1 : flat (vs.take lo ++ List.replicate (vs.length - lo) z) = flat (vs.take lo) ++ flat (List.replicate (vs.length - lo) z) := by unfold flat; rw [List.flatMap_append]
   rw [e1, ← flat_take h1.sz lo, ← htk, List.take_take, Nat.min_eq_left (by omega)]
   congr 1
   unfold flat
   rw [List.flatMap_def, List.map_replicate]
  have hO2 : OwnS w' 0 e r.sz u (vs.take lo ++ List.replicate (vs.length - lo) z) := by
   refine ⟨hsz, by rw [flat_len hsz], .inr ⟨g, cap, cs', by rw [hu', hl'], hBg, s2, by rw [hl']; exact hnc, hcm, by rw [s3, hcs], ?_⟩⟩
   rw [hfl, hl']
   apply List.ext_getElem?
   intro j
   have hcl' : cur.toList.length = cap * r.sz := by rw [Array.length_toList, hcs]
   rw [List.getElem?_take, List.getElem?_append, List.length_take, hcl', Nat.min_eq_left (by omega)]
   have hj := s4 j
   rw [hLl, Nat.add_zero] at hj
   by_cases ha : j < lo * r.sz
   ·rw [if_pos (by omega), if_pos ha, List.getElem?_take, if_pos ha, Array.getElem?_toList, hj, if_neg (by omega), Array.getElem?_toList]
   ·rw [if_neg ha]
    by_cases hb : j < vs.length * r.sz
    ·rw [if_pos hb, Array.getElem?_toList, hj, if_pos (by omega)]
    ·rw [if_neg hb, List.getElem?_eq_none (by rw [hLl]; omega)]
  have hRel : RelL r O w' (vs.take lo ++ List.replicate (vs.length - lo) z) (xs.take lo ++ List.replicate (xs.length - lo) z0) := by
   rw [hlen]
   exact RelL.append ((h2.mono k0).take lo) (RelL.replicate (hz O w') _)
  refine t_run (v := .tuple #[]) (w' := w') ?_ rfl rfl (hK w' ⟨_, hO2, hRel, h3⟩ ?_ hkx)
  ·obtain ⟨n1, hn1⟩ : ∃ n1, vs.length - lo = n1 + 1 := ⟨vs.length - lo - 1, by omega⟩
   rw [hn1] at hxv s1
   rw [← range_zero] at s1
   simp [execOp, resolve, invoke, builtin, hx, hxv, Builtin.clear_, hu, he.run_zero, s1]
  ·exact ⟨h5.by_.os.trans hB.os, h5.by_.tape.trans hB.tape, h5.by_.output.trans hB.output, by omega, fun b hb hnA => (h5.by_.block b (by omega) (fun e => hnA (hAB.sub b (hge b e.symm).1))).trans (hB.block b hb hnA),
    fun b hb' => hB.ok b (by omega), hB.old, fun b _ ho => by
     by_cases hlt : b < w.heap.size
     ·exact hB.zero b hlt ho
     ·exact hO0 b (by omega), hB.new⟩
end tails
end Go.Lift
end
section
namespace Go.F
open Go Go.Lift
set_option linter.unusedVariables false
structure api_Claim where
 Party : Int
 Kind : Int
 Gauge : Int
 Sure : List Int
 Touched : List Int
instance : Inhabited api_Claim := ⟨⟨default, default, default, default, default⟩⟩
structure api_Sight where
 Gauge : Int
 Cell : Int
 There : Bool
 deriving DecidableEq
instance : Inhabited api_Sight := ⟨⟨default, default, default⟩⟩
structure court_cut where
 sure_ : List Int
 touched_ : List Int
instance : Inhabited court_cut := ⟨⟨default, default⟩⟩
structure court_blank where
 cells_ : List Int
instance : Inhabited court_blank := ⟨⟨default⟩⟩
inductive court_voice where
 | c96 (x : court_cut)
 | c101 (x : court_blank)
 | c102 (x : List api_Sight)
instance : Inhabited court_voice := ⟨.c96 default⟩
def court_voice.as96 : court_voice → court_cut × Bool
 | .c96 x => (x, true)
 | _ => ((court_cut.mk [] []), false)
structure court_fate where
 solid_ : Bool
 empty_ : Bool
 taken_ : Bool
 loose_ : Bool
 there_ : Bool
 gone_ : Bool
 deriving DecidableEq
instance : Inhabited court_fate := ⟨⟨default, default, default, default, default, default⟩⟩
structure colletref01_Draw where
 L : List Int
 At : Int
instance : Inhabited colletref01_Draw := ⟨⟨default, default⟩⟩
structure colletlaw43_Case where
 Claims : List (List Int)
 Cells : Int
 Sights : List Int
instance : Inhabited colletlaw43_Case := ⟨⟨default, default, default⟩⟩
structure colletlaw43_world where
 material_ : Int
 removed_ : List Int
instance : Inhabited colletlaw43_world := ⟨⟨default, default⟩⟩
def colletlaw43_example  : Comp (List api_Claim) :=
  Comp.pure [(api_Claim.mk (-1) 1 0 [] [0, 1]), (api_Claim.mk 0 2 0 [0] [0]), (api_Claim.mk 1 2 0 [] [1]), (api_Claim.mk 2 3 0 [] [])]
def slices_Index_int_int_l2 (x_0 : List Int) (x_1 : Int) (x1 : Int) : Comp (Comp.Step Int (Sum Int Unit)) :=
  if (decide (x1 < (x_0.length : Int))) = true then
  ( (idx x_0 x1).bind fun x3 => if (decide (x_1 = x3)) = true then
  ( Comp.pure (.done (.inl x1)))
  else
  ( Comp.pure (.next (IntKind.wrap .i64 (x1 + 1)))))
  else
  (Comp.pure (.done (.inr ())))
def slices_Index_int_int_j1  : Comp Int :=
  Comp.pure (-1)
def slices_Index_int_int (x_0 : List Int) (x_1 : Int) : Comp Int :=
  (Comp.loop (fun s => slices_Index_int_int_l2 x_0 x_1 s) 0).bind (fun e => match e with | (.inl x4) => (Comp.pure x4) | (.inr ()) => (slices_Index_int_int_j1))
def slices_Contains_int_int (x_0 : List Int) (x_1 : Int) : Comp Bool :=
  (slices_Index_int_int x_0 x_1).bind fun x1 => Comp.pure (decide (x1 ≥ 0))
def court_check_f1 (x_0 : Int) (x_1 : api_Claim) : Comp Bool :=
  (slices_Contains_int_int x_1.Touched x_0).bind fun x1 => Comp.pure (!x1)
def cmp_isNaN_int (x_0 : Int) : Comp Bool :=
  Comp.pure (decide (x_0 ≠ x_0))
def cmp_Less_int (x_0 : Int) (x_1 : Int) : Comp Bool :=
  (cmp_isNaN_int x_0).bind fun x1 => (Comp.gd (x1 == true) (cmp_isNaN_int x_1) default).bind fun x2 => (Comp.pure ((bif (bif x1 then (!x2) else false) then true else (decide (x_0 < x_1))))).bind fun x3 => Comp.pure x3
def slices_IsSorted_int_int_l2 (x_0 : List Int) (x2 : Int) : Comp (Comp.Step Int (Sum Bool Unit)) :=
  if (decide (x2 > 0)) = true then
  ((idx x_0 x2).bind fun x4 => (idx x_0 (IntKind.wrap .i64 (x2 - 1))).bind fun x5 => (cmp_Less_int x4 x5).bind fun x6 => if x6 = true then
  ( Comp.pure (.done (.inl false)))
  else
  ( Comp.pure (.next (IntKind.wrap .i64 (x2 - 1)))))
  else
  (Comp.pure (.done (.inr ())))
def slices_IsSorted_int_int_j1  : Comp Bool :=
  Comp.pure true
def slices_IsSorted_int_int (x_0 : List Int) : Comp Bool :=
  (Comp.pure ((IntKind.wrap .i64 ((x_0.length : Int) - 1)))).bind fun x1 => (Comp.loop (fun s => slices_IsSorted_int_int_l2 x_0 s) x1).bind (fun e => match e with | (.inl x7) => (Comp.pure x7) | (.inr ()) => (slices_IsSorted_int_int_j1))
def slices_Clone_int_int (x_0 : List Int) : Comp (List Int) :=
   (app [] x_0).bind fun x5 => Comp.pure x5
def court_sorted (x_0 : List Int) : Comp Bool :=
  (slices_IsSorted_int_int x_0).bind fun x1 => (Comp.gd (x1 == true) (slices_Clone_int_int x_0) default).bind fun x2 => (Comp.gd (x1 == true) (compactI x2) default).bind fun x3 => (Comp.pure ((bif x1 then (decide ((x3.length : Int) = (x_0.length : Int))) else false))).bind fun x5 => Comp.pure x5
def court_outside_f1 (x_0 : Int) (x_1 : Int) : Comp Bool :=
  (Comp.pure ((bif (decide (x_0 < 0)) then true else (decide (x_0 ≥ x_1))))).bind fun x1 => Comp.pure x1
def slices_IndexFunc_int_int_l2 (x_0 : List Int) (x_1 : Int → Comp Bool) (x1 : Int) : Comp (Comp.Step Int (Sum Int Unit)) :=
  if (decide (x1 < (x_0.length : Int))) = true then
  ( (idx x_0 x1).bind fun x3 => (x_1 x3).bind fun x4 => if x4 = true then
  ( Comp.pure (.done (.inl x1)))
  else
  ( Comp.pure (.next (IntKind.wrap .i64 (x1 + 1)))))
  else
  (Comp.pure (.done (.inr ())))
def slices_IndexFunc_int_int_j1  : Comp Int :=
  Comp.pure (-1)
def slices_IndexFunc_int_int (x_0 : List Int) (x_1 : Int → Comp Bool) : Comp Int :=
  (Comp.loop (fun s => slices_IndexFunc_int_int_l2 x_0 x_1 s) 0).bind (fun e => match e with | (.inl x5) => (Comp.pure x5) | (.inr ()) => (slices_IndexFunc_int_int_j1))
def slices_ContainsFunc_int_int (x_0 : List Int) (x_1 : Int → Comp Bool) : Comp Bool :=
  (slices_IndexFunc_int_int x_0 x_1).bind fun x1 => Comp.pure (decide (x1 ≥ 0))
def court_outside (x_0 : List Int) (x_1 : Int) : Comp Bool :=
  (slices_ContainsFunc_int_int x_0 (fun z0 => court_outside_f1 z0 x_1)).bind fun x3 => Comp.pure x3
def court_check_j1 (x_0 : api_Claim) (x11 : Bool) : Comp Int :=
 if x11 = true then
  ( Comp.pure 4)
  else
  ( (Comp.pure ((bif (decide (x_0.Gauge < 0)) then true else (decide (x_0.Gauge ≥ 8))))).bind fun x16 => if x16 = true then
  ( Comp.pure 3)
  else
  ( Comp.pure 0))
def court_check (x_0 : api_Claim) (x_1 : Int) : Comp Int :=
   (Comp.pure ((bif (decide (x_0.Party < (-1))) then true else (decide (x_0.Party ≥ 6))))).bind fun x4 => if x4 = true then
  ( Comp.pure 55)
  else
  ( (Comp.pure ((bif (decide (x_0.Kind < 1)) then true else (decide (x_0.Kind > 3))))).bind fun x5 => if x5 = true then
  ( Comp.pure 4)
  else
  ((court_sorted x_0.Sure).bind fun x6 => (Comp.gd ((!x6) == false) (court_sorted x_0.Touched) default).bind fun x7 => if (bif (!x6) then true else (!x7)) = true then
  ( Comp.pure 7)
  else
  ((court_outside x_0.Sure x_1).bind fun x8 => (Comp.gd (x8 == false) (court_outside x_0.Touched x_1) default).bind fun x9 => if (bif x8 then true else x9) = true then
  ( Comp.pure 3)
  else
  ( (Comp.pure ((bif (decide (x_0.Kind ≠ 3)) then (decide (x_0.Gauge ≠ 0)) else false))).bind fun x10 => if x10 = true then
  (court_check_j1 x_0 x10)
  else
  ( (Comp.pure ((bif (decide (x_0.Kind ≠ 2)) then (decide ((x_0.Sure.length : Int) > 0)) else false))).bind fun x12 => if x12 = true then
  (court_check_j1 x_0 x12)
  else
  ( (Comp.pure ((bif (decide (x_0.Kind = 3)) then (decide ((x_0.Touched.length : Int) > 0)) else false))).bind fun x13 => if x13 = true then
  (court_check_j1 x_0 x13)
  else
  ((slices_ContainsFunc_int_int x_0.Sure (fun z0 => court_check_f1 z0 x_0)).bind fun x14 => court_check_j1 x_0 x14)))))))
def court_Check_j3 (x10 : Int) (x36 : List ((Vector Int 2) × Bool)) : Comp (Comp.Step ((List ((Vector Int 2) × Bool)) × Int) (Sum Int Unit)) :=
  Comp.pure (.next (x36, (IntKind.wrap .i64 (x10 + 1))))
def court_Check_l2 (x_0 : List api_Claim) (x_2 : Int) (x7 : List ((Vector Int 2) × Bool)) (x10 : Int) : Comp (Comp.Step ((List ((Vector Int 2) × Bool)) × Int) (Sum Int Unit)) :=
  if (decide (x10 < (x_0.length : Int))) = true then
  ((idx x_0 x10).bind fun x12 => (court_check x12 x_2).bind fun x25 =>  if (decide (x25 ≠ 0)) = true then
  ( Comp.pure (.done (.inl x25)))
  else
  (  if (decide (x12.Kind ≠ 2)) = true then
  ( (Comp.pure (((mget x7 (#v[x12.Kind, x12.Gauge] : Vector Int 2)).getD false))).bind fun x33 => if x33 = true then
  ( Comp.pure (.done (.inl 6)))
  else
  ( court_Check_j3 x10 (mput x7 (#v[x12.Kind, x12.Gauge] : Vector Int 2) true)))
  else
  (court_Check_j3 x10 x7)))
  else
  (Comp.pure (.done (.inr ())))
def court_Check_l5 (x_1 : List api_Sight) (x_2 : Int) (x41 : Int) : Comp (Comp.Step Int (Sum Int Unit)) :=
  if (decide (x41 < (x_1.length : Int))) = true then
  ((idx x_1 x41).bind fun x43 =>  (Comp.pure ((bif (bif (bif (decide (x43.Gauge < 0)) then true else (decide (x43.Gauge ≥ 8))) then true else (decide (x43.Cell < 0))) then true else (decide (x43.Cell ≥ x_2))))).bind fun x50 => if x50 = true then
  ( Comp.pure (.done (.inl 3)))
  else
  ( Comp.pure (.next (IntKind.wrap .i64 (x41 + 1)))))
  else
  (Comp.pure (.done (.inr ())))
def court_Check_j4  : Comp Int :=
  Comp.pure 0
def court_Check_j1 (x_1 : List api_Sight) (x_2 : Int) : Comp Int :=
  (Comp.loop (fun s => court_Check_l5 x_1 x_2 s) 0).bind (fun e => match e with | (.inl x51) => (Comp.pure x51) | (.inr ()) => (court_Check_j4))
def court_Check (x_0 : List api_Claim) (x_1 : List api_Sight) (x_2 : Int) : Comp Int :=
  (Comp.pure ((bif (decide (x_2 < 1)) then true else (decide (x_2 > 16))))).bind fun x1 => if x1 = true then
  ( Comp.pure 3)
  else
  ( (Comp.pure ((bif (decide ((x_0.length : Int) > 10)) then true else (decide ((x_1.length : Int) > 40))))).bind fun x2 => if x2 = true then
  ( Comp.pure 2)
  else
  (  (Comp.loop (fun s => court_Check_l2 x_0 x_2 s.1 s.2) ([], 0)).bind (fun e => match e with | (.inl x26) => (Comp.pure x26) | (.inr ()) => (court_Check_j1 x_1 x_2))))
def court_voices_j6 (x37 : Int) (x52 : List api_Sight) : Comp (Comp.Step ((List api_Sight) × Int) (List api_Sight)) :=
  Comp.pure (.next (x52, (IntKind.wrap .i64 (x37 + 1))))
def court_voices_l5 (x_1 : List api_Sight) (x6 : api_Claim) (x34 : List api_Sight) (x37 : Int) : Comp (Comp.Step ((List api_Sight) × Int) (List api_Sight)) :=
  if (decide (x37 < (x_1.length : Int))) = true then
  ((idx x_1 x37).bind fun x39 =>  if (decide (x39.Gauge = x6.Gauge)) = true then
  ( (app x34 [x39]).bind fun x48 => court_voices_j6 x37 x48)
  else
  (court_voices_j6 x37 x34))
  else
  (Comp.pure (.done x34))
def court_voices_j3 (x4 : Int) (x25 : List court_voice) : Comp (Comp.Step ((List court_voice) × Int) (List court_voice)) :=
  Comp.pure (.next (x25, (IntKind.wrap .i64 (x4 + 1))))
def court_voices_j4 (x1 : List court_voice) (x4 : Int) (x58 : List api_Sight) : Comp (Comp.Step ((List court_voice) × Int) (List court_voice)) :=
  (app x1 [(court_voice.c102 x58)]).bind fun x66 => court_voices_j3 x4 x66
def court_voices_l2 (x_0 : List api_Claim) (x_1 : List api_Sight) (x1 : List court_voice) (x4 : Int) : Comp (Comp.Step ((List court_voice) × Int) (List court_voice)) :=
  if (decide (x4 < (x_0.length : Int))) = true then
  ((idx x_0 x4).bind fun x6 =>   if (decide (x6.Kind = 1)) = true then
  ( (app x1 [(court_voice.c101 (court_blank.mk x6.Touched))]).bind fun x21 => court_voices_j3 x4 x21)
  else
  ( if (decide (x6.Kind = 2)) = true then
  ( (app x1 [(court_voice.c96 (court_cut.mk x6.Sure x6.Touched))]).bind fun x30 => court_voices_j3 x4 x30)
  else
  (  (Comp.loop (fun s => court_voices_l5 x_1 x6 s.1 s.2) ([], 0)).bind (fun x57 => court_voices_j4 x1 x4 x57))))
  else
  (Comp.pure (.done x1))
def court_voices_j1 (x73 : List court_voice) : Comp (List court_voice) :=
  Comp.pure x73
def court_voices (x_0 : List api_Claim) (x_1 : List api_Sight) : Comp (List court_voice) :=
   (Comp.loop (fun s => court_voices_l2 x_0 x_1 s.1 s.2) ([], 0)).bind (fun x72 => court_voices_j1 x72)
def court_cut_speak (x_0 : court_cut) (x_1 : Int) (x_2 : court_fate) : Comp court_fate :=
  (Comp.gd (x_2.taken_ == false) (slices_Contains_int_int x_0.sure_ x_1) default).bind fun x3 => (Comp.gd (x_2.loose_ == false) (slices_Contains_int_int x_0.touched_ x_1) default).bind fun x5 => Comp.pure (court_fate.mk x_2.solid_ x_2.empty_ (bif x_2.taken_ then true else x3) (bif x_2.loose_ then true else x5) x_2.there_ x_2.gone_)
def court_blank_speak (x_0 : court_blank) (x_1 : Int) (x_2 : court_fate) : Comp court_fate :=
  (slices_Contains_int_int x_0.cells_ x_1).bind fun x3 => if x3 = true then
  ( Comp.pure (court_fate.mk x_2.solid_ false x_2.taken_ x_2.loose_ x_2.there_ x_2.gone_))
  else
  ( Comp.pure (court_fate.mk false x_2.empty_ x_2.taken_ x_2.loose_ x_2.there_ x_2.gone_))
def court_gauge_speak_j2 (x1 : Int) (x13 : Bool) (x14 : Bool) (x15 : Bool) (x16 : Bool) (x17 : Bool) (x18 : Bool) : Comp (Comp.Step (Int × court_fate) court_fate) :=
  Comp.pure (.next ((IntKind.wrap .i64 (x1 + 1)), (court_fate.mk x13 x14 x15 x16 x17 x18)))
def court_gauge_speak_l1 (x_0 : List api_Sight) (x_1 : Int) (x1 : Int) (x2 : court_fate) : Comp (Comp.Step (Int × court_fate) court_fate) :=
  if (decide (x1 < (x_0.length : Int))) = true then
  ((idx x_0 x1).bind fun x4 =>  if (decide (x4.Cell = x_1)) = true then
  ( court_gauge_speak_j2 x1 x2.solid_ x2.empty_ x2.taken_ x2.loose_ (bif x2.there_ then true else x4.There) (bif x2.gone_ then true else (!x4.There)))
  else
  (court_gauge_speak_j2 x1 x2.solid_ x2.empty_ x2.taken_ x2.loose_ x2.there_ x2.gone_))
  else
  (Comp.pure (.done x2))
def court_gauge_speak (x_0 : List api_Sight) (x_1 : Int) (x_2 : court_fate) : Comp court_fate :=
  (Comp.loop (fun s => court_gauge_speak_l1 x_0 x_1 s.1 s.2) (0, x_2)).bind (fun x20 => Comp.pure x20)
def court_voice_speak : court_voice → Int → court_fate → Comp court_fate
 | .c96 x, x_1, x_2 => court_cut_speak x x_1 x_2
 | .c101 x, x_1, x_2 => court_blank_speak x x_1 x_2
 | .c102 x, x_1, x_2 => court_gauge_speak x x_1 x_2
def court_agrees_j5 (x10 : Int) (x35 : court_fate) : Comp (Comp.Step (Int × court_fate) court_fate) :=
  Comp.pure (.next ((IntKind.wrap .i64 (x10 + 1)), x35))
def court_agrees_l4 (x_0 : List court_voice) (x_2 : Int) (x2 : Int) (x10 : Int) (x11 : court_fate) : Comp (Comp.Step (Int × court_fate) court_fate) :=
  if (decide (x10 < (x_0.length : Int))) = true then
  ((idx x_0 x10).bind fun x13 =>  (nonneg x10).bind fun x28 => (Comp.pure ((decide ((andB .i64 (shrF .i64 x_2 x10) 1) = 1)))).bind fun x29 => if x29 = true then
  ( (court_voice_speak x13 x2 x11).bind fun x30 => court_agrees_j5 x10 x30)
  else
  ( if ((court_voice.as96 x13).2) = true then
  ( court_agrees_j5 x10 (court_fate.mk x11.solid_ x11.empty_ x11.taken_ true x11.there_ x11.gone_))
  else
  (court_agrees_j5 x10 x11)))
  else
  (Comp.pure (.done x11))
def court_agrees_j3 (x1 : Bool) (x2 : Int) (x39 : court_fate) : Comp (Comp.Step (Bool × Int) Bool) :=
  (Comp.pure ((bif (bif x39.there_ then (bif (bif x39.gone_ then true else (!x39.solid_)) then true else x39.taken_) else false) then true else (bif (bif x39.gone_ then (!x39.empty_) else false) then (!x39.loose_) else false)))).bind fun x41 => if x41 = true then
  ( Comp.pure (.done false))
  else
  ( Comp.pure (.next (x1, (IntKind.wrap .i64 (x2 + 1)))))
def court_agrees_l2 (x_1 : Int) (x_0 : List court_voice) (x_2 : Int) (x1 : Bool) (x2 : Int) : Comp (Comp.Step (Bool × Int) Bool) :=
  if (decide (x2 < x_1)) = true then
  (   (Comp.loop (fun s => court_agrees_l4 x_0 x_2 x2 s.1 s.2) (0, (court_fate.mk true true false false false false))).bind (fun x38 => court_agrees_j3 x1 x2 x38))
  else
  (Comp.pure (.done x1))
def court_agrees_j1 (x44 : Bool) : Comp Bool :=
  Comp.pure x44
def court_agrees (x_0 : List court_voice) (x_1 : Int) (x_2 : Int) : Comp Bool :=
   (Comp.loop (fun s => court_agrees_l2 x_1 x_0 x_2 s.1 s.2) (true, 0)).bind (fun x43 => court_agrees_j1 x43)
def court_Agrees (x_0 : List api_Claim) (x_1 : List api_Sight) (x_2 : Int) (x_3 : Int) : Comp Bool :=
  (court_Check x_0 x_1 x_2).bind fun x1 => (Comp.gd ((bif (decide (x1 = 0)) then (decide (x_3 ≥ 0)) else false) == true) (nonneg (x_0.length : Int)) default).bind fun x2 => (Comp.gd ((bif (bif (decide (x1 = 0)) then (decide (x_3 ≥ 0)) else false) then (decide (x_3 < (shlF .i64 1 (x_0.length : Int)))) else false) == true) (court_voices x_0 x_1) default).bind fun x3 => (Comp.gd ((bif (bif (decide (x1 = 0)) then (decide (x_3 ≥ 0)) else false) then (decide (x_3 < (shlF .i64 1 (x_0.length : Int)))) else false) == true) (court_agrees x3 x_2 x_3) default).bind fun x4 => (Comp.pure ((bif (bif (bif (decide (x1 = 0)) then (decide (x_3 ≥ 0)) else false) then (decide (x_3 < (shlF .i64 1 (x_0.length : Int)))) else false) then x4 else false))).bind fun x5 => Comp.pure x5
def math_bits_Len64_j3 (x7 : Int) (x8 : Int) : Comp Int :=
 (strIdx [0, 1, 2, 2, 3, 3, 3, 3, 4, 4, 4, 4, 4, 4, 4, 4, 5, 5, 5, 5, 5, 5, 5, 5, 5, 5, 5, 5, 5, 5, 5, 5, 6, 6, 6, 6, 6, 6, 6, 6, 6, 6, 6, 6, 6, 6, 6, 6, 6, 6, 6, 6, 6, 6, 6, 6, 6, 6, 6, 6, 6, 6, 6, 6, 7, 7, 7, 7, 7, 7, 7, 7, 7, 7, 7, 7, 7, 7, 7, 7, 7, 7, 7, 7, 7, 7, 7, 7, 7, 7, 7, 7, 7, 7, 7, 7, 7, 7, 7, 7, 7, 7, 7, 7, 7, 7, 7, 7, 7, 7, 7, 7, 7, 7, 7, 7, 7, 7, 7, 7, 7, 7, 7, 7, 7, 7, 7, 7, 8, 8, 8, 8, 8, 8, 8, 8, 8, 8, 8, 8, 8, 8, 8, 8, 8, 8, 8, 8, 8, 8, 8, 8, 8, 8, 8, 8, 8, 8, 8, 8, 8, 8, 8, 8, 8, 8, 8, 8, 8, 8, 8, 8, 8, 8, 8, 8, 8, 8, 8, 8, 8, 8, 8, 8, 8, 8, 8, 8, 8, 8, 8, 8, 8, 8, 8, 8, 8, 8, 8, 8, 8, 8, 8, 8, 8, 8, 8, 8, 8, 8, 8, 8, 8, 8, 8, 8, 8, 8, 8, 8, 8, 8, 8, 8, 8, 8, 8, 8, 8, 8, 8, 8, 8, 8, 8, 8, 8, 8, 8, 8, 8, 8, 8, 8, 8, 8, 8, 8, 8, 8, 8, 8, 8, 8, 8, 8] (IntKind.wrap .u8 x7)).bind fun x10 => (Comp.pure ((IntKind.wrap .i64 (x8 + (IntKind.wrap .i64 x10))))).bind fun x11 => Comp.pure x11
def math_bits_Len64_j2 (x4 : Int) (x5 : Int) : Comp Int :=
  if (decide (x4 ≥ 256)) = true then
  (  math_bits_Len64_j3 (shrF .u64 x4 8) (IntKind.wrap .i64 (x5 + 8)))
  else
  (math_bits_Len64_j3 x4 x5)
def math_bits_Len64_j1 (x1 : Int) (x2 : Int) : Comp Int :=
  if (decide (x1 ≥ 65536)) = true then
  (  math_bits_Len64_j2 (shrF .u64 x1 16) (IntKind.wrap .i64 (x2 + 16)))
  else
  (math_bits_Len64_j2 x1 x2)
def math_bits_Len64 (x_0 : Int) : Comp Int :=
  if (decide (x_0 ≥ 4294967296)) = true then
  (  math_bits_Len64_j1 (shrF .u64 x_0 32) 32)
  else
  (math_bits_Len64_j1 x_0 0)
def math_bits_Len (x_0 : Int) : Comp Int :=
  (math_bits_Len64 x_0).bind fun x1 => Comp.pure x1
def core_Conflicts_f1_l2 (x_1 : Int) (x_0 : Int) (x_2 : List Bool) (x1 : Int) : Comp (Comp.Step Int (Sum Bool Unit)) :=
  if (decide (x1 < x_1)) = true then
  ( (nonneg x1).bind fun x3 => (Comp.gd ((decide ((andB .i64 (shrF .i64 x_0 x1) 1) = 1)) == true) (nonneg x1) default).bind fun x4 => (Comp.gd ((decide ((andB .i64 (shrF .i64 x_0 x1) 1) = 1)) == true) (idx x_2 (andNotB .i64 x_0 (shlF .i64 1 x1))) default).bind fun x5 => (Comp.pure ((bif (decide ((andB .i64 (shrF .i64 x_0 x1) 1) = 1)) then (!x5) else false))).bind fun x6 => if x6 = true then
  ( Comp.pure (.done (.inl false)))
  else
  ( Comp.pure (.next (IntKind.wrap .i64 (x1 + 1)))))
  else
  (Comp.pure (.done (.inr ())))
def core_Conflicts_f1_j1  : Comp Bool :=
  Comp.pure true
def core_Conflicts_f1 (x_0 : Int) (x_1 : Int) (x_2 : List Bool) : Comp Bool :=
  (Comp.loop (fun s => core_Conflicts_f1_l2 x_1 x_0 x_2 s) 0).bind (fun e => match e with | (.inl x7) => (Comp.pure x7) | (.inr ()) => (core_Conflicts_f1_j1))
def core_Conflicts_f2 (x_0 : Int) (x_1 : List Bool) (x_2 : Int → Comp Bool) : Comp Bool :=
  (idx x_1 x_0).bind fun x1 => (Comp.gd (x1 == true) (x_2 x_0) default).bind fun x2 => Comp.pure (bif x1 then (!x2) else false)
def core_only_j3 (x4 : Int) (x13 : List Int) : Comp (Comp.Step ((List Int) × Int) (List Int)) :=
  Comp.pure (.next (x13, (IntKind.wrap .i64 (x4 + 1))))
def core_only_l2 (x_0 : Int) (x_1 : Int → Comp Bool) (x1 : List Int) (x4 : Int) : Comp (Comp.Step ((List Int) × Int) (List Int)) :=
  if (decide (x4 < x_0)) = true then
  ( (x_1 x4).bind fun x6 => if x6 = true then
  ( (app x1 [x4]).bind fun x9 => core_only_j3 x4 x9)
  else
  (core_only_j3 x4 x1))
  else
  (Comp.pure (.done x1))
def core_only_j1 (x19 : List Int) : Comp (List Int) :=
  Comp.pure x19
def core_only (x_0 : Int) (x_1 : Int → Comp Bool) : Comp (List Int) :=
   (Comp.loop (fun s => core_only_l2 x_0 x_1 s.1 s.2) ([], 0)).bind (fun x18 => core_only_j1 x18)
def core_Conflicts_f3 (x_0 : Int) (x_1 : List Bool) (x_2 : Int → Comp Bool) : Comp Bool :=
  (idx x_1 x_0).bind fun x1 => (Comp.gd ((!x1) == true) (x_2 x_0) default).bind fun x2 => Comp.pure (bif (!x1) then x2 else false)
def core_Conflicts (x_0 : List Bool) : Comp ((List Int) × Int) :=
   if (decide ((x_0.length : Int) > 1024)) = true then
  ( Comp.pure ([], 2))
  else
  ( (Comp.pure ((bif (decide ((x_0.length : Int) = 0)) then true else (decide ((andB .i64 (x_0.length : Int) (IntKind.wrap .i64 ((x_0.length : Int) - 1))) ≠ 0))))).bind fun x3 => if x3 = true then
  ( Comp.pure ([], 4))
  else
  ((math_bits_Len (IntKind.wrap .u64 (x_0.length : Int))).bind fun x4 =>  (core_only (x_0.length : Int) (fun z0 => core_Conflicts_f2 z0 x_0 (fun z0 => core_Conflicts_f1 z0 (IntKind.wrap .i64 (x4 - 1)) x_0))).bind fun x22 => if (decide ((x22.length : Int) > 0)) = true then
  ( Comp.pure ([], 7))
  else
  ( (core_only (x_0.length : Int) (fun z0 => core_Conflicts_f3 z0 x_0 (fun z0 => core_Conflicts_f1 z0 (IntKind.wrap .i64 (x4 - 1)) x_0))).bind fun x24 => Comp.pure (x24, 0))))
def court_Conflicts_l2 (x6 : List Bool) (x2 : (List court_voice)) (x_2 : Int) (x11 : List Bool) (x14 : Int) : Comp (Comp.Step ((List Bool) × Int) (List Bool)) :=
  if (decide (x14 < (x6.length : Int))) = true then
  ( (court_agrees x2 x_2 x14).bind fun x18 => (idx x11 x14).bind fun x19 => (upd x11 x14 x18).bind fun x23 =>  Comp.pure (.next (x23, (IntKind.wrap .i64 (x14 + 1)))))
  else
  (Comp.pure (.done x11))
def court_Conflicts_j1 (x26 : List Bool) : Comp ((List Int) × Int) :=
 (core_Conflicts x26).bind fun x32 => Comp.pure (x32.1, x32.2)
def court_Conflicts (x_0 : List api_Claim) (x_1 : List api_Sight) (x_2 : Int) : Comp ((List Int) × Int) :=
  (court_Check x_0 x_1 x_2).bind fun x1 =>  if (decide (x1 ≠ 0)) = true then
  ( Comp.pure ([], x1))
  else
  ((court_voices x_0 x_1).bind fun x2 => (nonneg (x_0.length : Int)).bind fun x5 => (mk (shlF .i64 1 (x_0.length : Int)) false).bind fun x6 =>  (Comp.loop (fun s => court_Conflicts_l2 x6 x2 x_2 s.1 s.2) (x6, 0)).bind (fun x25 => court_Conflicts_j1 x25))
def colletref04_SameInts_l2 (x_0 : List Int) (x_1 : List Int) (x2 : Int) : Comp (Comp.Step Int (Sum Bool Unit)) :=
  if (decide (x2 < (x_0.length : Int))) = true then
  ((idx x_0 x2).bind fun x4 => (idx x_1 x2).bind fun x5 => if (decide (x4 ≠ x5)) = true then
  ( Comp.pure (.done (.inl false)))
  else
  ( Comp.pure (.next (IntKind.wrap .i64 (x2 + 1)))))
  else
  (Comp.pure (.done (.inr ())))
def colletref04_SameInts_j1  : Comp Bool :=
  Comp.pure true
def colletref04_SameInts (x_0 : List Int) (x_1 : List Int) : Comp Bool :=
  (Comp.pure ((decide ((x_0.length : Int) ≠ (x_1.length : Int))))).bind fun x1 => if x1 = true then
  ( Comp.pure false)
  else
  ( (Comp.loop (fun s => colletref04_SameInts_l2 x_0 x_1 s) 0).bind (fun e => match e with | (.inl x6) => (Comp.pure x6) | (.inr ()) => (colletref04_SameInts_j1)))
def colletlaw43_conflicts (x_0 : List api_Claim) (x_1 : List api_Sight) (x_2 : List Int) : Comp Bool :=
  (court_Conflicts x_0 x_1 2).bind fun x1 => (Comp.gd ((decide (x1.2 = 0)) == true) (colletref04_SameInts x1.1 x_2) default).bind fun x4 => (Comp.pure ((bif (decide (x1.2 = 0)) then x4 else false))).bind fun x5 => Comp.pure x5
def core_Hitting_f1 (x_0 : Int) (x_1 : Int) : Comp Bool :=
  (Comp.gd ((decide (x_0 < 0)) == false) (nonneg x_1) default).bind fun x1 => (Comp.pure ((bif (decide (x_0 < 0)) then true else (decide (x_0 ≥ (shlF .i64 1 x_1)))))).bind fun x2 => Comp.pure x2
def core_Minimal_l5 (x11 : List Int) (x21 : Int) (x22 : Int) : Comp (Comp.Step Int (Sum Unit Unit)) :=
  if (decide (x22 < (x11.length : Int))) = true then
  ((idx x11 x22).bind fun x24 =>  (Comp.pure ((bif (decide (x24 ≠ x21)) then (decide ((andB .i64 x21 x24) = x24)) else false))).bind fun x25 => if x25 = true then
  (Comp.pure (.done (.inl ())))
  else
  ( Comp.pure (.next (IntKind.wrap .i64 (x22 + 1)))))
  else
  (Comp.pure (.done (.inr ())))
def core_Minimal_j3 (x19 : Int) (x26 : List Int) : Comp (Comp.Step ((List Int) × Int) (List Int)) :=
  Comp.pure (.next (x26, (IntKind.wrap .i64 (x19 + 1))))
def core_Minimal_j4 (x16 : List Int) (x21 : Int) (x19 : Int) : Comp (Comp.Step ((List Int) × Int) (List Int)) :=
  (app x16 [x21]).bind fun x32 => core_Minimal_j3 x19 x32
def core_Minimal_l2 (x11 : List Int) (x16 : List Int) (x19 : Int) : Comp (Comp.Step ((List Int) × Int) (List Int)) :=
  if (decide (x19 < (x11.length : Int))) = true then
  ((idx x11 x19).bind fun x21 =>  (Comp.loop (fun s => core_Minimal_l5 x11 x21 s) 0).bind (fun e => match e with | (.inl ()) => (core_Minimal_j3 x19 x16) | (.inr ()) => (core_Minimal_j4 x16 x21 x19)))
  else
  (Comp.pure (.done x16))
def core_Minimal_j1 (x39 : List Int) : Comp (List Int) :=
  Comp.pure x39
def core_Minimal (x_0 : List Int) : Comp (List Int) :=
  (slices_Clone_int_int x_0).bind fun x1 =>  (sortI x1).bind fun x6 =>  (compactI x6).bind fun x11 =>   (Comp.loop (fun s => core_Minimal_l2 x11 s.1 s.2) ([], 0)).bind (fun x38 => core_Minimal_j1 x38)
def core_Hitting_j7 (x36 : Int) (x47 : List Int) : Comp (Comp.Step ((List Int) × Int) (List Int)) :=
  Comp.pure (.next (x47, (IntKind.wrap .i64 (x36 + 1))))
def core_Hitting_l6 (x_1 : Int) (x17 : Int) (x23 : Int) (x33 : List Int) (x36 : Int) : Comp (Comp.Step ((List Int) × Int) (List Int)) :=
  if (decide (x36 < x_1)) = true then
  ( (nonneg x36).bind fun x38 => (Comp.pure ((decide ((andB .i64 (shrF .i64 x17 x36) 1) = 1)))).bind fun x39 => if x39 = true then
  ((nonneg x36).bind fun x40 => (app x33 [(orB .i64 x23 (shlF .i64 1 x36))]).bind fun x43 => core_Hitting_j7 x36 x43)
  else
  (core_Hitting_j7 x36 x33))
  else
  (Comp.pure (.done x33))
def core_Hitting_j5 (x21 : Int) (x30 : List Int) : Comp (Comp.Step ((List Int) × Int) (List Int)) :=
  Comp.pure (.next (x30, (IntKind.wrap .i64 (x21 + 1))))
def core_Hitting_l4 (x10 : List Int) (x17 : Int) (x_1 : Int) (x18 : List Int) (x21 : Int) : Comp (Comp.Step ((List Int) × Int) (List Int)) :=
  if (decide (x21 < (x10.length : Int))) = true then
  ((idx x10 x21).bind fun x23 =>  if (decide ((andB .i64 x23 x17) ≠ 0)) = true then
  ( (app x18 [x23]).bind fun x26 => core_Hitting_j5 x21 x26)
  else
  ( (Comp.loop (fun s => core_Hitting_l6 x_1 x17 x23 s.1 s.2) (x18, 0)).bind (fun x52 => core_Hitting_j5 x21 x52)))
  else
  (Comp.pure (.done x18))
def core_Hitting_j3 (x13 : Int) (x56 : List Int) : Comp (Comp.Step ((List Int) × Int) (List Int)) :=
  (core_Minimal x56).bind fun x62 =>  Comp.pure (.next (x62, (IntKind.wrap .i64 (x13 + 1))))
def core_Hitting_l2 (x_0 : List Int) (x_1 : Int) (x10 : List Int) (x13 : Int) : Comp (Comp.Step ((List Int) × Int) (List Int)) :=
  if (decide (x13 < (x_0.length : Int))) = true then
  ((idx x_0 x13).bind fun x17 =>   (Comp.loop (fun s => core_Hitting_l4 x10 x17 x_1 s.1 s.2) ([], 0)).bind (fun x55 => core_Hitting_j3 x13 x55))
  else
  (Comp.pure (.done x10))
def core_Hitting_j1 (x71 : List Int) : Comp ((List Int) × Int) :=
  Comp.pure (x71, 0)
def core_Hitting (x_0 : List Int) (x_1 : Int) : Comp ((List Int) × Int) :=
  (Comp.pure ((bif (decide (x_1 < 0)) then true else (decide (x_1 > 10))))).bind fun x3 => if x3 = true then
  ( Comp.pure ([], 2))
  else
  ( (slices_ContainsFunc_int_int x_0 (fun z0 => core_Hitting_f1 z0 x_1)).bind fun x5 => if x5 = true then
  ( Comp.pure ([], 3))
  else
  (  (Comp.loop (fun s => core_Hitting_l2 x_0 x_1 s.1 s.2) ([0], 0)).bind (fun x70 => core_Hitting_j1 x70)))
def court_Explains_f1_j3 (x4 : Int) (x21 : Int) : Comp (Comp.Step (Int × Int) Int) :=
  Comp.pure (.next (x21, (IntKind.wrap .i64 (x4 + 1))))
def court_Explains_f1_l2 (x_1 : List api_Claim) (x_0 : Int) (x3 : Int) (x4 : Int) : Comp (Comp.Step (Int × Int) Int) :=
  if (decide (x4 < (x_1.length : Int))) = true then
  ((idx x_1 x4).bind fun x6 =>  if (decide (x6.Kind = 3)) = true then
  ((nonneg x4).bind fun x19 => (Comp.pure ((IntKind.wrap .i64 (x3 + (andB .i64 (shrF .i64 x_0 x4) 1))))).bind fun x20 => court_Explains_f1_j3 x4 x20)
  else
  (court_Explains_f1_j3 x4 x3))
  else
  (Comp.pure (.done x3))
def court_Explains_f1_j1 (x_2 : Int) (x25 : Int) : Comp Bool :=
  Comp.pure (decide (x25 > x_2))
def court_Explains_f1 (x_0 : Int) (x_1 : List api_Claim) (x_2 : Int) : Comp Bool :=
   (Comp.loop (fun s => court_Explains_f1_l2 x_1 x_0 s.1 s.2) (0, 0)).bind (fun x24 => court_Explains_f1_j1 x_2 x24)
def slices_DeleteFunc_int_int_j3 (x7 : Int) (x16 : List Int) (x19 : Int) : Comp (Comp.Step ((List Int) × Int × Int) ((List Int) × Int)) :=
  Comp.pure (.next (x16, x19, (IntKind.wrap .i64 (x7 + 1))))
def slices_DeleteFunc_int_int_l2 (x_1 : Int → Comp Bool) (x3 : List Int) (x6 : Int) (x7 : Int) : Comp (Comp.Step ((List Int) × Int × Int) ((List Int) × Int)) :=
  if (decide (x7 < (x3.length : Int))) = true then
  ((idx x3 x7).bind fun x9 => (x_1 x9).bind fun x10 => if (!x10) = true then
  ((idx x3 x6).bind fun x11 => (upd x3 x6 x9).bind fun x15 =>  slices_DeleteFunc_int_int_j3 x7 x15 (IntKind.wrap .i64 (x6 + 1)))
  else
  (slices_DeleteFunc_int_int_j3 x7 x3 x6))
  else
  (Comp.pure (.done (x3, x6)))
def slices_DeleteFunc_int_int_j1 (x25 : List Int) (x28 : Int) : Comp (List Int) :=
 (sub x25 x28 x25.length).bind fun x30 => (sub (x25.take (Int.toNat x28) ++ List.replicate (x25.length - Int.toNat x28) 0) 0 x28).bind fun x32 => Comp.pure x32
def slices_DeleteFunc_int_int (x_0 : List Int) (x_1 : Int → Comp Bool) : Comp (List Int) :=
  (slices_IndexFunc_int_int x_0 x_1).bind fun x2 =>  if (decide (x2 = (-1))) = true then
  ( Comp.pure x_0)
  else
  ( (Comp.loop (fun s => slices_DeleteFunc_int_int_l2 x_1 s.1 s.2.1 s.2.2) (x_0, x2, (IntKind.wrap .i64 (x2 + 1)))).bind (fun (x23, x24) => slices_DeleteFunc_int_int_j1 x23 x24))
def court_Explains (x_0 : List api_Claim) (x_1 : List api_Sight) (x_2 : Int) (x_3 : Int) : Comp ((List Int) × Int) :=
  (court_Conflicts x_0 x_1 x_2).bind fun x5 =>  if (decide (x5.2 ≠ 0)) = true then
  ( Comp.pure ([], x5.2))
  else
  ( (Comp.pure ((bif (decide (x_3 < 0)) then true else (decide (x_3 > 3))))).bind fun x8 => if x8 = true then
  ( Comp.pure ([], 3))
  else
  ((core_Hitting x5.1 (x_0.length : Int)).bind fun x9 =>  if (decide (x9.2 ≠ 0)) = true then
  ( Comp.pure ([], x9.2))
  else
  ( (slices_DeleteFunc_int_int x9.1 (fun z0 => court_Explains_f1 z0 x_0 x_3)).bind fun x15 => Comp.pure (x15, 0))))
def colletlaw43_explains (x_0 : List api_Sight) (x_1 : Int) (x_2 : List Int) : Comp Bool :=
  (colletlaw43_example).bind fun x1 => (court_Explains x1 x_0 2 x_1).bind fun x2 => (Comp.gd ((decide (x2.2 = 0)) == true) (colletref04_SameInts x2.1 x_2) default).bind fun x5 => (Comp.pure ((bif (decide (x2.2 = 0)) then x5 else false))).bind fun x6 => Comp.pure x6
def court_Certain_f1 (x_0 : Int) (x_1 : Int) : Comp Bool :=
  Comp.pure (decide ((andB .i64 x_0 x_1) = 0))
def court_Certain_j6 (x15 : Int) (x33 : Int) : Comp (Comp.Step (Int × Int) Int) :=
  Comp.pure (.next ((IntKind.wrap .i64 (x15 + 1)), x33))
def court_Certain_l5 (x_0 : List api_Claim) (x7 : Int) (x15 : Int) (x16 : Int) : Comp (Comp.Step (Int × Int) Int) :=
  if (decide (x15 < (x_0.length : Int))) = true then
  ((idx x_0 x15).bind fun x18 =>  if (decide (x18.Party = x7)) = true then
  ((nonneg x15).bind fun x31 => court_Certain_j6 x15 (orB .i64 x16 (shlF .i64 1 x15)))
  else
  (court_Certain_j6 x15 x16))
  else
  (Comp.pure (.done x16))
def court_Certain_j3 (x7 : Int) (x47 : List Int) : Comp (Comp.Step ((List Int) × Int) (List Int)) :=
  Comp.pure (.next (x47, (IntKind.wrap .i64 (x7 + 1))))
def court_Certain_j4 (x1 : ((List Int) × Int)) (x4 : List Int) (x7 : Int) (x36 : Int) : Comp (Comp.Step ((List Int) × Int) (List Int)) :=
 (slices_ContainsFunc_int_int x1.1 (fun z0 => court_Certain_f1 z0 x36)).bind fun x40 => if (!x40) = true then
  ( (app x4 [x7]).bind fun x43 => court_Certain_j3 x7 x43)
  else
  (court_Certain_j3 x7 x4)
def court_Certain_l2 (x_0 : List api_Claim) (x1 : ((List Int) × Int)) (x4 : List Int) (x7 : Int) : Comp (Comp.Step ((List Int) × Int) (List Int)) :=
  if (decide (x7 < 6)) = true then
  (  (Comp.loop (fun s => court_Certain_l5 x_0 x7 s.1 s.2) (0, 0)).bind (fun x35 => court_Certain_j4 x1 x4 x7 x35))
  else
  (Comp.pure (.done x4))
def court_Certain_j1 (x53 : List Int) : Comp ((List Int) × Int) :=
  Comp.pure (x53, 0)
def court_Certain (x_0 : List api_Claim) (x_1 : List api_Sight) (x_2 : Int) (x_3 : Int) : Comp ((List Int) × Int) :=
  (court_Explains x_0 x_1 x_2 x_3).bind fun x1 =>  if (decide (x1.2 ≠ 0)) = true then
  ( Comp.pure ([], x1.2))
  else
  ( if (decide ((x1.1.length : Int) = 0)) = true then
  ( Comp.pure ([], 21))
  else
  (  (Comp.loop (fun s => court_Certain_l2 x_0 x1 s.1 s.2) ([], (-1))).bind (fun x52 => court_Certain_j1 x52)))
def colletlaw43_certain (x_0 : List api_Sight) (x_1 : Int) (x_2 : List Int) : Comp Bool :=
  (colletlaw43_example).bind fun x1 => (court_Certain x1 x_0 2 x_1).bind fun x2 => (Comp.gd ((decide (x2.2 = 0)) == true) (colletref04_SameInts x2.1 x_2) default).bind fun x5 => (Comp.pure ((bif (decide (x2.2 = 0)) then x5 else false))).bind fun x6 => Comp.pure x6
def colletlaw43_sanity  : Comp Bool :=
   (colletlaw43_example).bind fun x15 => (court_Agrees x15 [(api_Sight.mk 0 0 false), (api_Sight.mk 0 1 true)] 2 15).bind fun x16 => (Comp.gd (x16 == true) (colletlaw43_example) default).bind fun x17 => (Comp.gd (x16 == true) (colletlaw43_conflicts x17 [(api_Sight.mk 0 0 false), (api_Sight.mk 0 1 true)] []) default).bind fun x18 => (Comp.gd ((bif x16 then x18 else false) == true) (colletlaw43_explains [(api_Sight.mk 0 0 false), (api_Sight.mk 0 1 true)] 0 [0]) default).bind fun x19 => (Comp.gd ((bif (bif x16 then x18 else false) then x19 else false) == true) (colletlaw43_certain [(api_Sight.mk 0 0 false), (api_Sight.mk 0 1 true)] 0 []) default).bind fun x20 => (Comp.pure ((bif (bif (bif x16 then x18 else false) then x19 else false) then x20 else false))).bind fun x21 =>  (colletlaw43_example).bind fun x24 => (colletlaw43_conflicts x24 [(api_Sight.mk 0 0 true)] [10]).bind fun x25 => (Comp.gd (x25 == true) (colletlaw43_explains [(api_Sight.mk 0 0 true)] 0 [2]) default).bind fun x26 => (Comp.gd ((bif x25 then x26 else false) == true) (colletlaw43_explains [(api_Sight.mk 0 0 true)] 1 [2, 8]) default).bind fun x27 => (Comp.gd ((bif (bif x25 then x26 else false) then x27 else false) == true) (colletlaw43_certain [(api_Sight.mk 0 0 true)] 0 [0]) default).bind fun x28 => (Comp.gd ((bif (bif (bif x25 then x26 else false) then x27 else false) then x28 else false) == true) (colletlaw43_certain [(api_Sight.mk 0 0 true)] 1 []) default).bind fun x29 => (Comp.pure ((bif (bif (bif (bif x25 then x26 else false) then x27 else false) then x28 else false) then x29 else false))).bind fun x30 =>  (colletlaw43_example).bind fun x33 => (court_Certain x33 [(api_Sight.mk 0 0 true), (api_Sight.mk 0 0 false)] 2 0).bind fun x34 => (colletlaw43_example).bind fun x35 => (colletlaw43_conflicts x35 [(api_Sight.mk 0 0 true), (api_Sight.mk 0 0 false)] [8]).bind fun x36 => (Comp.gd (x36 == true) (colletlaw43_explains [(api_Sight.mk 0 0 true), (api_Sight.mk 0 0 false)] 0 []) default).bind fun x37 => (Comp.pure ((bif (bif x36 then x37 else false) then (decide (x34.2 = 21)) else false))).bind fun x38 =>  (colletlaw43_example).bind fun x41 => (sub x41 0 2).bind fun x42 => (colletlaw43_example).bind fun x43 => (idx x43 3).bind fun x44 => (app x42 [x44]).bind fun x45 => (Comp.gd ((bif (bif x21 then x30 else false) then x38 else false) == true) (colletlaw43_example) default).bind fun x49 => (Comp.gd ((bif (bif x21 then x30 else false) then x38 else false) == true) (colletlaw43_conflicts x49 [(api_Sight.mk 0 1 false)] []) default).bind fun x50 => (Comp.gd ((bif (bif (bif x21 then x30 else false) then x38 else false) then x50 else false) == true) (colletlaw43_conflicts x45 [(api_Sight.mk 0 1 false)] [7]) default).bind fun x51 => (Comp.gd ((bif (bif (bif (bif x21 then x30 else false) then x38 else false) then x50 else false) then x51 else false) == true) (colletlaw43_example) default).bind fun x52 => (Comp.gd ((bif (bif (bif (bif x21 then x30 else false) then x38 else false) then x50 else false) then x51 else false) == true) (colletlaw43_conflicts x52 [(api_Sight.mk 5 0 true)] []) default).bind fun x53 => (Comp.pure ((bif (bif (bif (bif (bif x21 then x30 else false) then x38 else false) then x50 else false) then x51 else false) then x53 else false))).bind fun x54 => Comp.pure x54
def colletref01_Mod (x_0 : Int) (x_1 : Int) : Comp Int :=
  if (decide (x_1 < 1)) = true then
  ( Comp.pure 0)
  else
  ((rem x_0 x_1).bind fun x1 => (rem (IntKind.wrap .i64 (x1 + x_1)) x_1).bind fun x2 => Comp.pure x2)
def colletref01_Draw_Next (x_0 : colletref01_Draw) (x_1 : Int) : Comp (colletref01_Draw × Int) :=
  if (decide (x_0.At ≥ (x_0.L.length : Int))) = true then
  ( Comp.pure (x_0, 0))
  else
  ( (idx x_0.L (IntKind.wrap .i64 ((IntKind.wrap .i64 (x_0.At + 1)) - 1))).bind fun x4 => (colletref01_Mod x4 x_1).bind fun x5 => Comp.pure ((colletref01_Draw.mk x_0.L (IntKind.wrap .i64 (x_0.At + 1))), x5))
def colletref43_Subset_j3 (x4 : Int) (x14 : List Int) : Comp (Comp.Step ((List Int) × Int) (List Int)) :=
  Comp.pure (.next (x14, (IntKind.wrap .i64 (x4 + 1))))
def colletref43_Subset_l2 (x_1 : Int) (x_0 : Int) (x1 : List Int) (x4 : Int) : Comp (Comp.Step ((List Int) × Int) (List Int)) :=
  if (decide (x4 < x_1)) = true then
  ((nonneg x4).bind fun x6 => (Comp.pure ((decide ((andB .i64 (shrF .i64 x_0 x4) 1) = 1)))).bind fun x7 => if x7 = true then
  ( (app x1 [x4]).bind fun x10 => colletref43_Subset_j3 x4 x10)
  else
  (colletref43_Subset_j3 x4 x1))
  else
  (Comp.pure (.done x1))
def colletref43_Subset_j1 (x20 : List Int) : Comp (List Int) :=
  Comp.pure x20
def colletref43_Subset (x_0 : Int) (x_1 : Int) : Comp (List Int) :=
   (Comp.loop (fun s => colletref43_Subset_l2 x_1 x_0 s.1 s.2) ([], 0)).bind (fun x19 => colletref43_Subset_j1 x19)
def colletref43_Claims_j3 (x6 : Int) (x43 : List api_Claim) (x46 : Bool) (x47 : Int) : Comp (Comp.Step ((List api_Claim) × Bool × Int × Int) (List api_Claim)) :=
  Comp.pure (.next (x43, x46, x47, (IntKind.wrap .i64 (x6 + 1))))
def colletref43_Claims_j4 (x1 : List api_Claim) (x6 : Int) (x52 : Bool) (x53 : Int) (x54 : Int) (x55 : Int) (x56 : Int) (x57 : List Int) (x60 : List Int) : Comp (Comp.Step ((List api_Claim) × Bool × Int × Int) (List api_Claim)) :=
  (app x1 [(api_Claim.mk x54 x55 x56 x57 x60)]).bind fun x75 => colletref43_Claims_j3 x6 x75 x52 x53
def colletref43_Claims_l2 (x_0 : List (List Int)) (x_2 : Int) (x_1 : Int) (x1 : List api_Claim) (x4 : Bool) (x5 : Int) (x6 : Int) : Comp (Comp.Step ((List api_Claim) × Bool × Int × Int) (List api_Claim)) :=
  (Comp.pure ((bif (decide (x6 < (x_0.length : Int))) then (decide ((x1.length : Int) < x_2)) else false))).bind fun x8 => if x8 = true then
  ((idx x_0 x6).bind fun x9 => (colletref01_Draw_Next (colletref01_Draw.mk x9 0) 4).bind fun x17 => (idx [2, 2, 3, 1] x17.2).bind fun x18 => (colletref01_Draw_Next x17.1 5).bind fun x19 => (nonneg x_1).bind fun x27 => (colletref01_Draw_Next x19.1 (shlF .i64 1 x_1)).bind fun x28 => (nonneg x_1).bind fun x35 => (colletref01_Draw_Next x28.1 (shlF .i64 1 x_1)).bind fun x36 =>   if (decide (x18 = 1)) = true then
  ( if x4 = true then
  (colletref43_Claims_j3 x6 x1 x4 x5)
  else
  ( (colletref43_Subset (orB .i64 x28.2 x36.2) x_1).bind fun x48 => colletref43_Claims_j4 x1 x6 true x5 (IntKind.wrap .i64 (x19.2 - 1)) x18 0 [] x48))
  else
  ( if (decide (x18 = 2)) = true then
  ((colletref43_Subset (andB .i64 x28.2 x36.2) x_1).bind fun x63 => (colletref43_Subset x28.2 x_1).bind fun x64 => colletref43_Claims_j4 x1 x6 x4 x5 (IntKind.wrap .i64 (x19.2 - 1)) x18 0 x63 x64)
  else
  ( if (decide (x18 = 3)) = true then
  (  colletref43_Claims_j4 x1 x6 x4 (IntKind.wrap .i64 (x5 + 1)) (IntKind.wrap .i64 (x19.2 - 1)) x18 x5 [] [])
  else
  (colletref43_Claims_j4 x1 x6 x4 x5 (IntKind.wrap .i64 (x19.2 - 1)) x18 0 [] []))))
  else
  (Comp.pure (.done x1))
def colletref43_Claims_j1 (x82 : List api_Claim) : Comp (List api_Claim) :=
  Comp.pure x82
def colletref43_Claims (x_0 : List (List Int)) (x_1 : Int) (x_2 : Int) : Comp (List api_Claim) :=
    (Comp.loop (fun s => colletref43_Claims_l2 x_0 x_2 x_1 s.1 s.2.1 s.2.2.1 s.2.2.2) ([], false, 0, 0)).bind (fun x81 => colletref43_Claims_j1 x81)
def colletref43_Sights_l2 (x_0 : List Int) (x_1 : Int) (x6 : List api_Sight) (x9 : Int) (x10 : List Int) (x13 : Int) : Comp (Comp.Step ((List api_Sight) × Int × (List Int) × Int) (List api_Sight)) :=
  (Comp.pure ((bif (decide ((IntKind.wrap .i64 (x9 + 2)) < (x_0.length : Int))) then (decide (x9 < 30)) else false))).bind fun x15 => if x15 = true then
  ((colletref01_Draw_Next (colletref01_Draw.mk x10 x13) 4).bind fun x16 => (idx [0, 0, 1, 2] x16.2).bind fun x17 => (colletref01_Draw_Next x16.1 x_1).bind fun x18 => (colletref01_Draw_Next x18.1 2).bind fun x19 => (app x6 [(api_Sight.mk x17 x18.2 (decide (x19.2 = 1)))]).bind fun x20 =>  Comp.pure (.next (x20, (IntKind.wrap .i64 (x9 + 3)), x19.1.L, x19.1.At)))
  else
  (Comp.pure (.done x6))
def colletref43_Sights_j1 (x30 : List api_Sight) : Comp (List api_Sight) :=
  Comp.pure x30
def colletref43_Sights (x_0 : List Int) (x_1 : Int) : Comp (List api_Sight) :=
   (Comp.loop (fun s => colletref43_Sights_l2 x_0 x_1 s.1 s.2.1 s.2.2.1 s.2.2.2) ([], 0, x_0, 0)).bind (fun x29 => colletref43_Sights_j1 x29)
def colletlaw43_Case_made_l2 (x_0 : colletlaw43_Case) (x4 : List (List Int)) (x7 : Int) : Comp (Comp.Step ((List (List Int)) × Int) (List (List Int))) :=
  (Comp.pure ((bif (decide (x7 < (x_0.Claims.length : Int))) then (decide (x7 < 6)) else false))).bind fun x9 => if x9 = true then
  ((idx x_0.Claims x7).bind fun x10 => (idx x_0.Claims x7).bind fun x11 => (sub x10 0 (min (x11.length : Int) 5)).bind fun x12 => (app x4 [x12]).bind fun x15 =>  Comp.pure (.next (x15, (IntKind.wrap .i64 (x7 + 1)))))
  else
  (Comp.pure (.done x4))
def colletlaw43_Case_made_j1 (x3 : Int) (x_1 : Int) (x_0 : colletlaw43_Case) (x21 : List (List Int)) : Comp ((List api_Claim) × (List api_Sight) × Int) :=
 (colletref43_Claims x21 x3 x_1).bind fun x27 => (sub x_0.Sights 0 (min (x_0.Sights.length : Int) 30)).bind fun x28 => (colletref43_Sights x28 x3).bind fun x29 => Comp.pure (x27, x29, x3)
def colletlaw43_Case_made (x_0 : colletlaw43_Case) (x_1 : Int) : Comp ((List api_Claim) × (List api_Sight) × Int) :=
  (Comp.pure ((IntKind.wrap .i64 (1 + (Int.tmod (IntKind.wrap .i64 x_0.Cells) 4))))).bind fun x3 =>   (Comp.loop (fun s => colletlaw43_Case_made_l2 x_0 s.1 s.2) ([], 0)).bind (fun x20 => colletlaw43_Case_made_j1 x3 x_1 x_0 x20)
def colletlaw43_bits_l2 (x_0 : List Int) (x1 : Int) (x2 : Int) : Comp (Comp.Step (Int × Int) Int) :=
  if (decide (x2 < (x_0.length : Int))) = true then
  ((idx x_0 x2).bind fun x4 => (nonneg x4).bind fun x5 =>  Comp.pure (.next ((orB .i64 x1 (shlF .i64 1 x4)), (IntKind.wrap .i64 (x2 + 1)))))
  else
  (Comp.pure (.done x1))
def colletlaw43_bits_j1 (x8 : Int) : Comp Int :=
  Comp.pure x8
def colletlaw43_bits (x_0 : List Int) : Comp Int :=
   (Comp.loop (fun s => colletlaw43_bits_l2 x_0 s.1 s.2) (0, 0)).bind (fun x7 => colletlaw43_bits_j1 x7)
def colletlaw43_world_there_j3 (x4 : Int) (x8 : Int) : Comp (Comp.Step (Int × Int) Int) :=
  Comp.pure (.next (x8, (IntKind.wrap .i64 (x4 + 1))))
def colletlaw43_world_there_l2 (x_1 : List api_Claim) (x_0 : colletlaw43_world) (x3 : Int) (x4 : Int) : Comp (Comp.Step (Int × Int) Int) :=
  if (decide (x4 < (x_1.length : Int))) = true then
  ( (idx x_1 x4).bind fun x6 => if (decide (x6.Kind = 2)) = true then
  ((idx x_0.removed_ x4).bind fun x7 => colletlaw43_world_there_j3 x4 (andNotB .i64 x3 x7))
  else
  (colletlaw43_world_there_j3 x4 x3))
  else
  (Comp.pure (.done x3))
def colletlaw43_world_there_j1 (x12 : Int) : Comp Int :=
  Comp.pure x12
def colletlaw43_world_there (x_0 : colletlaw43_world) (x_1 : List api_Claim) : Comp Int :=
   (Comp.loop (fun s => colletlaw43_world_there_l2 x_1 x_0 s.1 s.2) (x_0.material_, 0)).bind (fun x11 => colletlaw43_world_there_j1 x11)
def colletlaw43_world_holds_l2 (x_2 : List api_Sight) (x3 : api_Claim) (x22 : Int) (x23 : Int) : Comp (Comp.Step Int (Sum Bool Unit)) :=
  if (decide (x23 < (x_2.length : Int))) = true then
  ((idx x_2 x23).bind fun x25 => (Comp.gd ((decide (x25.Gauge = x3.Gauge)) == true) (nonneg x25.Cell) default).bind fun x32 => (Comp.pure ((bif (decide (x25.Gauge = x3.Gauge)) then (decide ((decide ((andB .i64 (shrF .i64 x22 x25.Cell) 1) = 1)) ≠ x25.There)) else false))).bind fun x33 => if x33 = true then
  ( Comp.pure (.done (.inl false)))
  else
  ( Comp.pure (.next (IntKind.wrap .i64 (x23 + 1)))))
  else
  (Comp.pure (.done (.inr ())))
def colletlaw43_world_holds_j1  : Comp Bool :=
  Comp.pure true
def colletlaw43_world_holds (x_0 : colletlaw43_world) (x_1 : List api_Claim) (x_2 : List api_Sight) (x_3 : Int) : Comp Bool :=
  (idx x_1 x_3).bind fun x3 =>   if (decide (x3.Kind = 1)) = true then
  ((colletlaw43_bits x3.Touched).bind fun x16 => Comp.pure (decide (x_0.material_ = x16)))
  else
  ( if (decide (x3.Kind = 2)) = true then
  ((colletlaw43_bits x3.Sure).bind fun x17 => (idx x_0.removed_ x_3).bind fun x18 => (Comp.gd ((decide ((andNotB .i64 x17 x18) = 0)) == true) (idx x_0.removed_ x_3) default).bind fun x19 => (Comp.gd ((decide ((andNotB .i64 x17 x18) = 0)) == true) (colletlaw43_bits x3.Touched) default).bind fun x20 => (Comp.pure ((bif (decide ((andNotB .i64 x17 x18) = 0)) then (decide ((andNotB .i64 x19 x20) = 0)) else false))).bind fun x21 => Comp.pure x21)
  else
  ((colletlaw43_world_there x_0 x_1).bind fun x22 =>  (Comp.loop (fun s => colletlaw43_world_holds_l2 x_2 x3 x22 s) 0).bind (fun e => match e with | (.inl x34) => (Comp.pure x34) | (.inr ()) => (colletlaw43_world_holds_j1))))
def colletlaw43_world_truth_j3 (x4 : Int) (x8 : Int) : Comp (Comp.Step (Int × Int) Int) :=
  Comp.pure (.next (x8, (IntKind.wrap .i64 (x4 + 1))))
def colletlaw43_world_truth_l2 (x_1 : List api_Claim) (x_0 : colletlaw43_world) (x_2 : List api_Sight) (x3 : Int) (x4 : Int) : Comp (Comp.Step (Int × Int) Int) :=
  if (decide (x4 < (x_1.length : Int))) = true then
  ( (colletlaw43_world_holds x_0 x_1 x_2 x4).bind fun x6 => if x6 = true then
  ((nonneg x4).bind fun x7 => colletlaw43_world_truth_j3 x4 (orB .i64 x3 (shlF .i64 1 x4)))
  else
  (colletlaw43_world_truth_j3 x4 x3))
  else
  (Comp.pure (.done x3))
def colletlaw43_world_truth_j1 (x12 : Int) : Comp Int :=
  Comp.pure x12
def colletlaw43_world_truth (x_0 : colletlaw43_world) (x_1 : List api_Claim) (x_2 : List api_Sight) : Comp Int :=
   (Comp.loop (fun s => colletlaw43_world_truth_l2 x_1 x_0 x_2 s.1 s.2) (0, 0)).bind (fun x11 => colletlaw43_world_truth_j1 x11)
def colletlaw43_world_next_j3 (x12 : Int) (x23 : Int) (x24 : List Int) (x27 : Int) (x28 : List Int) : Comp (Comp.Step (Int × Int × (List Int) × Int × (List Int)) (Sum (colletlaw43_world × Bool) (Int × (List Int) × Int × (List Int)))) :=
  Comp.pure (.next ((IntKind.wrap .i64 (x12 + 1)), x23, x24, x27, x28))
def colletlaw43_world_next_l2 (x_1 : List api_Claim) (x_2 : Int) (x12 : Int) (x13 : Int) (x14 : List Int) (x17 : Int) (x18 : List Int) : Comp (Comp.Step (Int × Int × (List Int) × Int × (List Int)) (Sum (colletlaw43_world × Bool) (Int × (List Int) × Int × (List Int)))) :=
  if (decide (x12 < (x_1.length : Int))) = true then
  ( (idx x_1 x12).bind fun x22 => if (decide (x22.Kind ≠ 2)) = true then
  (colletlaw43_world_next_j3 x12 x13 x14 x17 x18)
  else
  ((idx x18 x12).bind fun x31 => (idx x18 x12).bind fun x32 => (upd x18 x12 (IntKind.wrap .i64 (x31 + 1))).bind fun x36 => (idx x36 x12).bind fun x37 => (nonneg x_2).bind fun x38 => if (decide (x37 < (shlF .i64 1 x_2))) = true then
  ( Comp.pure (.done (.inl ((colletlaw43_world.mk x17 x36), true))))
  else
  ((idx x36 x12).bind fun x42 => (upd x36 x12 0).bind fun x46 => colletlaw43_world_next_j3 x12 x13 x14 x17 x46)))
  else
  (Comp.pure (.done (.inr (x13, x14, x17, x18))))
def colletlaw43_world_next_j1 (x_2 : Int) (x52 : Int) (x53 : List Int) (x56 : Int) (x57 : List Int) : Comp (colletlaw43_world × Bool) :=
  (nonneg x_2).bind fun x62 => (Comp.pure ((decide ((IntKind.wrap .i64 (x56 + 1)) < (shlF .i64 1 x_2))))).bind fun x65 => Comp.pure ((colletlaw43_world.mk (IntKind.wrap .i64 (x56 + 1)) x57), x65)
def colletlaw43_world_next (x_0 : colletlaw43_world) (x_1 : List api_Claim) (x_2 : Int) : Comp (colletlaw43_world × Bool) :=
  (Comp.loop (fun s => colletlaw43_world_next_l2 x_1 x_2 s.1 s.2.1 s.2.2.1 s.2.2.2.1 s.2.2.2.2) (0, 0, [], x_0.material_, x_0.removed_)).bind (fun e => match e with | (.inl (x40, x41)) => (Comp.pure (x40, x41)) | (.inr (x48, x49, x50, x51)) => (colletlaw43_world_next_j1 x_2 x48 x49 x50 x51))
def colletlaw43_CourtWorlds_l2 (x12 : ((List api_Claim) × (List api_Sight) × Int)) (x35 : List Bool) (x38 : Bool) (x39 : Int) (x40 : List Int) : Comp (Comp.Step ((List Bool) × Bool × Int × (List Int)) (List Bool)) :=
  if x38 = true then
  ((colletlaw43_world_truth (colletlaw43_world.mk x39 x40) x12.1 x12.2.1).bind fun x48 => (idx x35 x48).bind fun x49 => (upd x35 x48 true).bind fun x53 =>    (colletlaw43_world_next (colletlaw43_world.mk x39 x40) x12.1 x12.2.2).bind fun x60 => Comp.pure (.next (x53, x60.2, x60.1.material_, x60.1.removed_)))
  else
  (Comp.pure (.done x35))
def colletlaw43_CourtWorlds_l6 (x69 : List Bool) (x75 : Int) (x77 : Bool) (x78 : Int) : Comp (Comp.Step (Bool × Int) Bool) :=
  if (decide (x78 < (x69.length : Int))) = true then
  ( (Comp.gd (x77 == false) (idx x69 x78) default).bind fun x80 => (Comp.pure ((bif x77 then true else (bif x80 then (decide ((andNotB .i64 x75 x78) = 0)) else false)))).bind fun x81 =>  Comp.pure (.next (x81, (IntKind.wrap .i64 (x78 + 1)))))
  else
  (Comp.pure (.done x77))
def colletlaw43_CourtWorlds_j5 (x12 : ((List api_Claim) × (List api_Sight) × Int)) (x75 : Int) (x84 : Bool) : Comp (Comp.Step Int (Sum Bool Unit)) :=
 (court_Agrees x12.1 x12.2.1 x12.2.2 x75).bind fun x86 => if (decide (x86 ≠ x84)) = true then
  ( Comp.pure (.done (.inl false)))
  else
  ( Comp.pure (.next (IntKind.wrap .i64 (x75 + 1))))
def colletlaw43_CourtWorlds_l4 (x69 : List Bool) (x12 : ((List api_Claim) × (List api_Sight) × Int)) (x75 : Int) : Comp (Comp.Step Int (Sum Bool Unit)) :=
  if (decide (x75 < (x69.length : Int))) = true then
  (   (Comp.loop (fun s => colletlaw43_CourtWorlds_l6 x69 x75 s.1 s.2) (false, 0)).bind (fun x83 => colletlaw43_CourtWorlds_j5 x12 x75 x83))
  else
  (Comp.pure (.done (.inr ())))
def colletlaw43_CourtWorlds_j3 (x10 : Bool) : Comp Bool :=
  Comp.pure x10
def colletlaw43_CourtWorlds_j1 (x12 : ((List api_Claim) × (List api_Sight) × Int)) (x10 : Bool) (x69 : List Bool) : Comp Bool :=
  (Comp.loop (fun s => colletlaw43_CourtWorlds_l4 x69 x12 s) 0).bind (fun e => match e with | (.inl x87) => (Comp.pure x87) | (.inr ()) => (colletlaw43_CourtWorlds_j3 x10))
def colletlaw43_CourtWorlds (x_0 : colletlaw43_Case) : Comp Bool :=
  (colletlaw43_sanity).bind fun x10 =>  (colletlaw43_Case_made (colletlaw43_Case.mk x_0.Claims (Int.tmod x_0.Cells 2) x_0.Sights) 4).bind fun x12 => (nonneg (x12.1.length : Int)).bind fun x17 => (mk (shlF .i64 1 (x12.1.length : Int)) false).bind fun x18 =>   (mk (x12.1.length : Int) 0).bind fun x23 => (Comp.loop (fun s => colletlaw43_CourtWorlds_l2 x12 s.1 s.2.1 s.2.2.1 s.2.2.2) (x18, true, 0, x23)).bind (fun x68 => colletlaw43_CourtWorlds_j1 x12 x10 x68)
end Go.F
end
section
namespace Go.Proofs
open Go.Shelf
def Try.lays215_ren : Go.Shelf.Ren := ⟨fun | 215 => 85 | n => n, fun | 3 => 3 | 4 => 4 | n => n, fun | n => n⟩
theorem Try.lays215 : Go.Proofs.Lays.n215 Try.prog Try.lays215_ren := {
 mixed := by kernel_rfl
 f215 := Try.func85.trans (congrArg some (by kernel_rfl))
 t3 := Try.underlying3
 a3 := Try.isAgg3
 z3 := Try.sizeOf3
 v3 := Try.zeroValue3
 t4 := Try.underlying4
 a4 := Try.isAgg4
 z4 := Try.sizeOf4
 v4 := Try.zeroValue4 }
open Go.RowKit in
theorem Try.cmp_isNaN_int (x : Int) (w : World) :
  Calls Try.prog 85 #[.int .i64 x] w fun e w' => e = .returned (.bool false) ∧ w' = w := Any.cmp_isNaN_int Try.lays215 x w
def Try.lays189_ren : Go.Shelf.Ren := ⟨fun | 189 => 80 | 125 => 69 | 257 => 84 | 128 => 81 | 129 => 82 | 294 => 86 | 295 => 87 | 296 => 88 | 297 => 89 | 298 => 90 | 299 => 91 | 216 => 83 | 300 => 92 | 301 => 93 | 328 => 94 | 329 => 95 | 330 => 96 | 331 => 97 | 332 => 98 | 215 => 85 | 343 => 99 | n => n, fun | 28 => 23 | 3 => 3 | 46 => 85 | 0 => 0 | 51 => 113 | 53 => 115 | 4 => 4 | 183 => 120 | 182 => 119 | 131 => 124 | 5 => 5 | 9 => 9 | 218 => 126 | 222 => 130 | 228 => 132 | 229 => 133 | n => n, fun | n => n⟩
theorem Try.lays189 : Go.Proofs.Lays.n189 Try.prog Try.lays189_ren := {
 mixed := by kernel_rfl
 f125 := Try.func69.trans (congrArg some (by kernel_rfl))
 f128 := Try.func81.trans (congrArg some (by kernel_rfl))
 f129 := Try.func82.trans (congrArg some (by kernel_rfl))
 f189 := Try.func80.trans (congrArg some (by kernel_rfl))
 f215 := Try.func85.trans (congrArg some (by kernel_rfl))
 f216 := Try.func83.trans (congrArg some (by kernel_rfl))
 f257 := Try.func84.trans (congrArg some (by kernel_rfl))
 f294 := Try.func86.trans (congrArg some (by kernel_rfl))
 f295 := Try.func87.trans (congrArg some (by kernel_rfl))
 f296 := Try.func88.trans (congrArg some (by kernel_rfl))
 f297 := Try.func89.trans (congrArg some (by kernel_rfl))
 f298 := Try.func90.trans (congrArg some (by kernel_rfl))
 f299 := Try.func91.trans (congrArg some (by kernel_rfl))
 f300 := Try.func92.trans (congrArg some (by kernel_rfl))
 f301 := Try.func93.trans (congrArg some (by kernel_rfl))
 f328 := Try.func94.trans (congrArg some (by kernel_rfl))
 f329 := Try.func95.trans (congrArg some (by kernel_rfl))
 f330 := Try.func96.trans (congrArg some (by kernel_rfl))
 f331 := Try.func97.trans (congrArg some (by kernel_rfl))
 f332 := Try.func98.trans (congrArg some (by kernel_rfl))
 f343 := Try.func99.trans (congrArg some (by kernel_rfl))
 t0 := Try.underlying0
 a0 := Try.isAgg0
 z0 := Try.sizeOf0
 v0 := Try.zeroValue0
 t3 := Try.underlying3
 a3 := Try.isAgg3
 z3 := Try.sizeOf3
 v3 := Try.zeroValue3
 t4 := Try.underlying4
 a4 := Try.isAgg4
 z4 := Try.sizeOf4
 v4 := Try.zeroValue4
 t5 := Try.underlying5
 a5 := Try.isAgg5
 z5 := Try.sizeOf5
 v5 := Try.zeroValue5
 t9 := Try.underlying9
 a9 := Try.isAgg9
 z9 := Try.sizeOf9
 v9 := Try.zeroValue9
 t28 := Try.underlying23
 a28 := Try.isAgg23
 z28 := Try.sizeOf23
 v28 := Try.zeroValue23
 t46 := Try.underlying85
 a46 := Try.isAgg85
 z46 := Try.sizeOf85
 v46 := Try.zeroValue85
 t51 := Try.underlying113
 a51 := Try.isAgg113
 z51 := Try.sizeOf113
 v51 := Try.zeroValue113
 t53 := Try.underlying115
 a53 := Try.isAgg115
 z53 := Try.sizeOf115
 v53 := Try.zeroValue115
 t131 := Try.underlying124
 a131 := Try.isAgg124
 z131 := Try.sizeOf124
 v131 := Try.zeroValue124
 t182 := Try.underlying119
 a182 := Try.isAgg119
 z182 := Try.sizeOf119
 v182 := Try.zeroValue119
 t183 := Try.underlying120
 a183 := Try.isAgg120
 z183 := Try.sizeOf120
 v183 := Try.zeroValue120
 t218 := Try.underlying126
 a218 := Try.isAgg126
 z218 := Try.sizeOf126
 v218 := Try.zeroValue126
 t222 := Try.underlying130
 a222 := Try.isAgg130
 z222 := Try.sizeOf130
 v222 := Try.zeroValue130
 t228 := Try.underlying132
 a228 := Try.isAgg132
 z228 := Try.sizeOf132
 v228 := Try.zeroValue132
 t229 := Try.underlying133
 a229 := Try.isAgg133
 z229 := Try.sizeOf133
 v229 := Try.zeroValue133 }
open Go.Sort Go.RowKit in
theorem Try.slices_Sort_int (blk off cap : Nat) (zs : List Int) (w : World) (hH : Holds (Value.int .i64) w blk off zs.toArray) (hblk : blk < w.heap.size) (hsz : zs.length < 4611686018427387904) :
  Calls Try.prog 80 #[.slice (some ⟨blk, off, none⟩) zs.length cap] w fun e w' =>
   e = .returned (.tuple #[]) ∧ ∃ n os, w' = grow (putRow (Value.int .i64) (Sort.ahead w n) blk off (zs.mergeSort fun x y => decide (x ≤ y)).toArray) os := Any.slices_Sort_int Try.lays189 blk off cap zs w hH hblk hsz
def Try.laysNm220_ren : Go.Shelf.Ren := ⟨fun | 20 => 76 | n => n, fun | 22 => 23 | 3 => 3 | 4 => 4 | 0 => 0 | n => n, fun | n => n⟩
theorem Try.laysNm220 : Go.Proofs.Lays2.n20 Try.prog Try.laysNm220_ren := {
 mixed := by kernel_rfl
 f20 := Try.func76.trans (congrArg some (by kernel_rfl))
 t0 := Try.underlying0
 a0 := Try.isAgg0
 z0 := Try.sizeOf0
 v0 := Try.zeroValue0
 t3 := Try.underlying3
 a3 := Try.isAgg3
 z3 := Try.sizeOf3
 v3 := Try.zeroValue3
 t4 := Try.underlying4
 a4 := Try.isAgg4
 z4 := Try.sizeOf4
 v4 := Try.zeroValue4
 t22 := Try.underlying23
 a22 := Try.isAgg23
 z22 := Try.sizeOf23
 v22 := Try.zeroValue23
 i3 := by kernel_rfl }
open Go.RowKit Go.Lib Go.Sort in
theorem Try.slices_Compact_int (blk off cap : Nat) (zs : List Int) (w : World) (hH : Holds (Value.int .i64) w blk off zs.toArray) (hsz : zs.length ≤ 9223372036854775807) (hcap : zs.length ≤ cap) :
  Calls Try.prog 76 #[.slice (some ⟨blk, off, none⟩) zs.length cap] w fun e w' => e = .returned (.slice (some ⟨blk, off, none⟩) (Lib.compact zs).length cap) ∧ ∃ q, w' = putRow (Value.int .i64) (Sort.ahead w q) blk off (Lib.compact zs ++ List.replicate (zs.length - (Lib.compact zs).length) 0).toArray := Any.slices_Compact_int Try.laysNm220 blk off cap zs w hH hsz hcap
open Go.RowKit Go.Lib Go.Sort in
theorem Try.slices_Compact_int_empty (a : Option Addr) (cap : Nat) (w : World) :
  Calls Try.prog 76 #[.slice a 0 cap] w fun e w' => e = .returned (.slice a 0 cap) ∧ w' = w := Any.slices_Compact_int_empty Try.laysNm220 a cap w
open Go.RowKit Go.Sort in
theorem Try.slices_Sort_int_none (p : Option Addr) (cap : Nat) (w : World) :
  Calls Try.prog 80 #[.slice p 0 cap] w fun e w' => e = .returned (.tuple #[]) ∧ w' = w := Any.slices_Sort_int_none Try.lays189 p cap w
end Go.Proofs
end
section
namespace Go.Proofs.Ytebmpjdegajhgaa
open Go Go.RowKit Go.Eng Go.Lift Go.F
set_option linter.unusedVariables false
set_option linter.unusedSimpArgs false
set_option maxRecDepth 100000
theorem mixed : Try.prog.follows .mixedOrders = true := by kernel_rfl
theorem ty3 : Ty Try.prog 3 (.int .i64) (.int .i64 0) 1 8 := ⟨by kernel_rfl, by kernel_rfl⟩
theorem ty4 : Ty Try.prog 4 .bool (.bool false) 1 1 := ⟨by kernel_rfl, by kernel_rfl⟩
theorem ty5 : Ty Try.prog 5 (.int .u8) (.int .u8 0) 1 1 := ⟨by kernel_rfl, by kernel_rfl⟩
theorem ty9 : Ty Try.prog 9 .string (.string ⟨#[]⟩) 1 16 := ⟨by kernel_rfl, by kernel_rfl⟩
theorem ty22 : Ty Try.prog 22 (.slice 23) (.slice none 0 0) 1 24 := ⟨by kernel_rfl, by kernel_rfl⟩
theorem ty23 : Ty Try.prog 23 (.slice 3) (.slice none 0 0) 1 24 := ⟨by kernel_rfl, by kernel_rfl⟩
theorem ty25 : Ty Try.prog 25 (.struct (Try.prog.fieldsOf 25)) (.agg #[.slice none 0 0, .int .u8 0, .slice none 0 0]) 3 56 := ⟨by kernel_rfl, by kernel_rfl⟩
theorem ty27 : Ty Try.prog 27 (.slice 33) (.slice none 0 0) 1 24 := ⟨by kernel_rfl, by kernel_rfl⟩
theorem ty28 : Ty Try.prog 28 (.slice 64) (.slice none 0 0) 1 24 := ⟨by kernel_rfl, by kernel_rfl⟩
theorem ty33 : Ty Try.prog 33 (.struct (Try.prog.fieldsOf 33)) (.agg #[.int .i64 0, .int .i64 0, .int .i64 0, .slice none 0 0, .slice none 0 0]) 5 72 := ⟨by kernel_rfl, by kernel_rfl⟩
theorem ty47 : Ty Try.prog 47 (.slice 4) (.slice none 0 0) 1 24 := ⟨by kernel_rfl, by kernel_rfl⟩
theorem ty49 : Ty Try.prog 49 (.struct (Try.prog.fieldsOf 49)) (.agg #[.int .i64 0, .slice none 0 0]) 2 32 := ⟨by kernel_rfl, by kernel_rfl⟩
theorem ty64 : Ty Try.prog 64 (.struct (Try.prog.fieldsOf 64)) (.agg #[.int .i64 0, .int .i64 0, .bool false]) 3 24 := ⟨by kernel_rfl, by kernel_rfl⟩
theorem ty71 : Ty Try.prog 71 (.map 73 4) (.map none) 1 8 := ⟨by kernel_rfl, by kernel_rfl⟩
theorem ty73 : Ty Try.prog 73 (.array 2 3) (.agg #[.int .i64 0, .int .i64 0]) 2 16 := ⟨by kernel_rfl, by kernel_rfl⟩
theorem ty75 : Ty Try.prog 75 (.slice 94) (.slice none 0 0) 1 24 := ⟨by kernel_rfl, by kernel_rfl⟩
theorem ty79 : Ty Try.prog 79 (.func #[3] #[4] false) (.nilFunc) 1 8 := ⟨by kernel_rfl, by kernel_rfl⟩
theorem ty85 : Ty Try.prog 85 (.int .u64) (.int .u64 0) 1 8 := ⟨by kernel_rfl, by kernel_rfl⟩
theorem ty88 : Ty Try.prog 88 (.struct (Try.prog.fieldsOf 88)) (.agg #[.slice none 0 0, .int .i64 0]) 2 32 := ⟨by kernel_rfl, by kernel_rfl⟩
theorem ty92 : Ty Try.prog 92 (.struct (Try.prog.fieldsOf 92)) (.agg #[.bool false, .bool false, .bool false, .bool false, .bool false, .bool false]) 6 6 := ⟨by kernel_rfl, by kernel_rfl⟩
theorem ty94 : Ty Try.prog 94 (.interface #[("collet/court.speak", 98)]) (.nilIface) 1 16 := ⟨by kernel_rfl, by kernel_rfl⟩
theorem ty96 : Ty Try.prog 96 (.struct (Try.prog.fieldsOf 96)) (.agg #[.slice none 0 0, .slice none 0 0]) 2 48 := ⟨by kernel_rfl, by kernel_rfl⟩
theorem ty101 : Ty Try.prog 101 (.struct (Try.prog.fieldsOf 101)) (.agg #[.slice none 0 0]) 1 24 := ⟨by kernel_rfl, by kernel_rfl⟩
theorem ty102 : Ty Try.prog 102 (.slice 64) (.slice none 0 0) 1 24 := ⟨by kernel_rfl, by kernel_rfl⟩
theorem ty115 : Ty Try.prog 115 (.int .u64) (.int .u64 0) 1 8 := ⟨by kernel_rfl, by kernel_rfl⟩
theorem fl25_0 : Fld Try.prog 25 0 22 0 0 := ⟨by kernel_rfl, by kernel_rfl, by kernel_rfl⟩
theorem fl25_1 : Fld Try.prog 25 1 5 1 0 := ⟨by kernel_rfl, by kernel_rfl, by kernel_rfl⟩
theorem fl25_2 : Fld Try.prog 25 2 23 2 0 := ⟨by kernel_rfl, by kernel_rfl, by kernel_rfl⟩
theorem fl33_0 : Fld Try.prog 33 0 3 0 0 := ⟨by kernel_rfl, by kernel_rfl, by kernel_rfl⟩
theorem fl33_1 : Fld Try.prog 33 1 3 1 0 := ⟨by kernel_rfl, by kernel_rfl, by kernel_rfl⟩
theorem fl33_2 : Fld Try.prog 33 2 3 2 0 := ⟨by kernel_rfl, by kernel_rfl, by kernel_rfl⟩
theorem fl33_3 : Fld Try.prog 33 3 23 3 0 := ⟨by kernel_rfl, by kernel_rfl, by kernel_rfl⟩
theorem fl33_4 : Fld Try.prog 33 4 23 4 0 := ⟨by kernel_rfl, by kernel_rfl, by kernel_rfl⟩
theorem fl49_0 : Fld Try.prog 49 0 3 0 0 := ⟨by kernel_rfl, by kernel_rfl, by kernel_rfl⟩
theorem fl49_1 : Fld Try.prog 49 1 23 1 0 := ⟨by kernel_rfl, by kernel_rfl, by kernel_rfl⟩
theorem fl64_0 : Fld Try.prog 64 0 3 0 0 := ⟨by kernel_rfl, by kernel_rfl, by kernel_rfl⟩
theorem fl64_1 : Fld Try.prog 64 1 3 1 0 := ⟨by kernel_rfl, by kernel_rfl, by kernel_rfl⟩
theorem fl64_2 : Fld Try.prog 64 2 4 2 0 := ⟨by kernel_rfl, by kernel_rfl, by kernel_rfl⟩
theorem fl88_0 : Fld Try.prog 88 0 23 0 0 := ⟨by kernel_rfl, by kernel_rfl, by kernel_rfl⟩
theorem fl88_1 : Fld Try.prog 88 1 3 1 0 := ⟨by kernel_rfl, by kernel_rfl, by kernel_rfl⟩
theorem fl92_0 : Fld Try.prog 92 0 4 0 0 := ⟨by kernel_rfl, by kernel_rfl, by kernel_rfl⟩
theorem fl92_1 : Fld Try.prog 92 1 4 1 0 := ⟨by kernel_rfl, by kernel_rfl, by kernel_rfl⟩
theorem fl92_2 : Fld Try.prog 92 2 4 2 0 := ⟨by kernel_rfl, by kernel_rfl, by kernel_rfl⟩
theorem fl92_3 : Fld Try.prog 92 3 4 3 0 := ⟨by kernel_rfl, by kernel_rfl, by kernel_rfl⟩
theorem fl92_4 : Fld Try.prog 92 4 4 4 0 := ⟨by kernel_rfl, by kernel_rfl, by kernel_rfl⟩
theorem fl92_5 : Fld Try.prog 92 5 4 5 0 := ⟨by kernel_rfl, by kernel_rfl, by kernel_rfl⟩
theorem fl96_0 : Fld Try.prog 96 0 23 0 0 := ⟨by kernel_rfl, by kernel_rfl, by kernel_rfl⟩
theorem fl96_1 : Fld Try.prog 96 1 23 1 0 := ⟨by kernel_rfl, by kernel_rfl, by kernel_rfl⟩
theorem fl101_0 : Fld Try.prog 101 0 23 0 0 := ⟨by kernel_rfl, by kernel_rfl, by kernel_rfl⟩
theorem fn8 : FnOk Try.prog 8 := ⟨_, Try.func8, rfl, by kernel_rfl⟩
theorem fn9 : FnOk Try.prog 9 := ⟨_, Try.func9, rfl, by kernel_rfl⟩
theorem fn12 : FnOk Try.prog 12 := ⟨_, Try.func12, rfl, by kernel_rfl⟩
theorem fn13 : FnOk Try.prog 13 := ⟨_, Try.func13, rfl, by kernel_rfl⟩
theorem fn15 : FnOk Try.prog 15 := ⟨_, Try.func15, rfl, by kernel_rfl⟩
theorem fn17 : FnOk Try.prog 17 := ⟨_, Try.func17, rfl, by kernel_rfl⟩
theorem fn19 : FnOk Try.prog 19 := ⟨_, Try.func19, rfl, by kernel_rfl⟩
theorem fn21 : FnOk Try.prog 21 := ⟨_, Try.func21, rfl, by kernel_rfl⟩
theorem fn22 : FnOk Try.prog 22 := ⟨_, Try.func22, rfl, by kernel_rfl⟩
theorem fn24 : FnOk Try.prog 24 := ⟨_, Try.func24, rfl, by kernel_rfl⟩
theorem fn25 : FnOk Try.prog 25 := ⟨_, Try.func25, rfl, by kernel_rfl⟩
theorem fn26 : FnOk Try.prog 26 := ⟨_, Try.func26, rfl, by kernel_rfl⟩
theorem fn28 : FnOk Try.prog 28 := ⟨_, Try.func28, rfl, by kernel_rfl⟩
theorem fn32 : FnOk Try.prog 32 := ⟨_, Try.func32, rfl, by kernel_rfl⟩
theorem fn33 : FnOk Try.prog 33 := ⟨_, Try.func33, rfl, by kernel_rfl⟩
theorem fn34 : FnOk Try.prog 34 := ⟨_, Try.func34, rfl, by kernel_rfl⟩
theorem fn35 : FnOk Try.prog 35 := ⟨_, Try.func35, rfl, by kernel_rfl⟩
theorem fn36 : FnOk Try.prog 36 := ⟨_, Try.func36, rfl, by kernel_rfl⟩
theorem fn37 : FnOk Try.prog 37 := ⟨_, Try.func37, rfl, by kernel_rfl⟩
theorem fn38 : FnOk Try.prog 38 := ⟨_, Try.func38, rfl, by kernel_rfl⟩
theorem fn40 : FnOk Try.prog 40 := ⟨_, Try.func40, rfl, by kernel_rfl⟩
theorem fn41 : FnOk Try.prog 41 := ⟨_, Try.func41, rfl, by kernel_rfl⟩
theorem fn43 : FnOk Try.prog 43 := ⟨_, Try.func43, rfl, by kernel_rfl⟩
theorem fn44 : FnOk Try.prog 44 := ⟨_, Try.func44, rfl, by kernel_rfl⟩
theorem fn45 : FnOk Try.prog 45 := ⟨_, Try.func45, rfl, by kernel_rfl⟩
theorem fn48 : FnOk Try.prog 48 := ⟨_, Try.func48, rfl, by kernel_rfl⟩
theorem fn49 : FnOk Try.prog 49 := ⟨_, Try.func49, rfl, by kernel_rfl⟩
theorem fn51 : FnOk Try.prog 51 := ⟨_, Try.func51, rfl, by kernel_rfl⟩
theorem fn53 : FnOk Try.prog 53 := ⟨_, Try.func53, rfl, by kernel_rfl⟩
theorem fn54 : FnOk Try.prog 54 := ⟨_, Try.func54, rfl, by kernel_rfl⟩
theorem fn55 : FnOk Try.prog 55 := ⟨_, Try.func55, rfl, by kernel_rfl⟩
theorem fn56 : FnOk Try.prog 56 := ⟨_, Try.func56, rfl, by kernel_rfl⟩
theorem fn57 : FnOk Try.prog 57 := ⟨_, Try.func57, rfl, by kernel_rfl⟩
theorem fn58 : FnOk Try.prog 58 := ⟨_, Try.func58, rfl, by kernel_rfl⟩
theorem fn59 : FnOk Try.prog 59 := ⟨_, Try.func59, rfl, by kernel_rfl⟩
theorem fn65 : FnOk Try.prog 65 := ⟨_, Try.func65, rfl, by kernel_rfl⟩
theorem fn66 : FnOk Try.prog 66 := ⟨_, Try.func66, rfl, by kernel_rfl⟩
theorem fn67 : FnOk Try.prog 67 := ⟨_, Try.func67, rfl, by kernel_rfl⟩
theorem fn69 : FnOk Try.prog 69 := ⟨_, Try.func69, rfl, by kernel_rfl⟩
theorem fn70 : FnOk Try.prog 70 := ⟨_, Try.func70, rfl, by kernel_rfl⟩
theorem fn71 : FnOk Try.prog 71 := ⟨_, Try.func71, rfl, by kernel_rfl⟩
theorem fn72 : FnOk Try.prog 72 := ⟨_, Try.func72, rfl, by kernel_rfl⟩
theorem fn73 : FnOk Try.prog 73 := ⟨_, Try.func73, rfl, by kernel_rfl⟩
theorem fn74 : FnOk Try.prog 74 := ⟨_, Try.func74, rfl, by kernel_rfl⟩
theorem fn75 : FnOk Try.prog 75 := ⟨_, Try.func75, rfl, by kernel_rfl⟩
theorem fn76 : FnOk Try.prog 76 := ⟨_, Try.func76, rfl, by kernel_rfl⟩
theorem fn77 : FnOk Try.prog 77 := ⟨_, Try.func77, rfl, by kernel_rfl⟩
theorem fn78 : FnOk Try.prog 78 := ⟨_, Try.func78, rfl, by kernel_rfl⟩
theorem fn80 : FnOk Try.prog 80 := ⟨_, Try.func80, rfl, by kernel_rfl⟩
theorem fn82 : FnOk Try.prog 82 := ⟨_, Try.func82, rfl, by kernel_rfl⟩
theorem fn83 : FnOk Try.prog 83 := ⟨_, Try.func83, rfl, by kernel_rfl⟩
theorem fn85 : FnOk Try.prog 85 := ⟨_, Try.func85, rfl, by kernel_rfl⟩
theorem fn115 : FnOk Try.prog 115 := ⟨_, Try.func115, rfl, by kernel_rfl⟩
theorem fn116 : FnOk Try.prog 116 := ⟨_, Try.func116, rfl, by kernel_rfl⟩
theorem fn117 : FnOk Try.prog 117 := ⟨_, Try.func117, rfl, by kernel_rfl⟩
theorem plc33 : Plc Try.prog 33 #[(0, 1), (1, 1), (2, 1), (3, 1), (4, 1)] := ⟨by kernel_rfl, fun w => by kernel_rfl⟩
theorem plc49 : Plc Try.prog 49 #[(0, 1), (1, 1)] := ⟨by kernel_rfl, fun w => by kernel_rfl⟩
theorem plc64 : Plc Try.prog 64 #[(0, 1), (1, 1), (2, 1)] := ⟨by kernel_rfl, fun w => by kernel_rfl⟩
theorem plc88 : Plc Try.prog 88 #[(0, 1), (1, 1)] := ⟨by kernel_rfl, fun w => by kernel_rfl⟩
theorem plc92 : Plc Try.prog 92 #[(0, 1), (1, 1), (2, 1), (3, 1), (4, 1), (5, 1)] := ⟨by kernel_rfl, fun w => by kernel_rfl⟩
theorem plc96 : Plc Try.prog 96 #[(0, 1), (1, 1)] := ⟨by kernel_rfl, fun w => by kernel_rfl⟩
theorem plc101 : Plc Try.prog 101 #[(0, 1)] := ⟨by kernel_rfl, fun w => by kernel_rfl⟩
noncomputable def r_api_Claim : GR api_Claim := (rCons (rInt .i64) (·.Party) (rCons (rInt .i64) (·.Kind) (rCons (rInt .i64) (·.Gauge) (rCons (rSl (rInt .i64)) (·.Sure) (rCons (rSl (rInt .i64)) (·.Touched) rNil)))))
theorem fit_api_Claim : r_api_Claim.fits := fun h => by cases h
theorem sb_api_Claim_0 : SubR r_api_Claim 0 (rInt .i64) (·.Party) := sub_hd
theorem sb_api_Claim_1 : SubR r_api_Claim 1 (rInt .i64) (·.Kind) := (sub_tl sub_hd rfl)
theorem sb_api_Claim_2 : SubR r_api_Claim 2 (rInt .i64) (·.Gauge) := (sub_tl (sub_tl sub_hd rfl) rfl)
theorem sb_api_Claim_3 : SubR r_api_Claim 3 (rSl (rInt .i64)) (·.Sure) := (sub_tl (sub_tl (sub_tl sub_hd rfl) rfl) rfl)
theorem sb_api_Claim_4 : SubR r_api_Claim 4 (rSl (rInt .i64)) (·.Touched) := (sub_tl (sub_tl (sub_tl (sub_tl sub_hd rfl) rfl) rfl) rfl)
theorem openR_api_Claim {O : Tags} {w : World} {cs : List Value} {x : api_Claim} (h : r_api_Claim.rel O w cs x) : ∃ u1 u2 : Value, cs = [.int .i64 x.Party, .int .i64 x.Kind, .int .i64 x.Gauge, u1, u2] ∧ (rSl (rInt .i64)).v O w u1 x.Sure ∧ (rSl (rInt .i64)).v O w u2 x.Touched := by
 obtain ⟨c1, d1, rfl, h1, t1⟩ := h
 replace h1 : c1 = [.int .i64 x.Party] := h1; subst h1
 obtain ⟨c2, d2, rfl, h2, t2⟩ := t1
 replace h2 : c2 = [.int .i64 x.Kind] := h2; subst h2
 obtain ⟨c3, d3, rfl, h3, t3⟩ := t2
 replace h3 : c3 = [.int .i64 x.Gauge] := h3; subst h3
 obtain ⟨c4, d4, rfl, h4, t4⟩ := t3
 obtain ⟨u1, rfl, ku1⟩ := rel_one h4 rfl rfl
 obtain ⟨c5, d5, rfl, h5, t5⟩ := t4
 obtain ⟨u2, rfl, ku2⟩ := rel_one h5 rfl rfl
 replace t5 : _ = ([] : List Value) := t5; subst t5
 exact ⟨u1, u2, rfl, ku1, ku2⟩
theorem openV_api_Claim {O : Tags} {w : World} {u : Value} {x : api_Claim} (h : r_api_Claim.v O w u x) : ∃ u1 u2 : Value, u = .agg #[.int .i64 x.Party, .int .i64 x.Kind, .int .i64 x.Gauge, u1, u2] ∧ (rSl (rInt .i64)).v O w u1 x.Sure ∧ (rSl (rInt .i64)).v O w u2 x.Touched := by
 obtain ⟨cs, h, rfl⟩ := h
 obtain ⟨u1, u2, e_, ku1, ku2⟩ := openR_api_Claim h
 subst e_
 exact ⟨u1, u2, rfl, ku1, ku2⟩
def r_api_Sight : GR api_Sight := rC true 3 (fun x => [.int .i64 x.Gauge, .int .i64 x.Cell, .bool x.There]) (fun _ => rfl) (fun _ => by simp [Value.oneCell'])
theorem fit_api_Sight : r_api_Sight.fits := fun h => by cases h
noncomputable def r_court_cut : GR court_cut := (rCons (rSl (rInt .i64)) (·.sure_) (rCons (rSl (rInt .i64)) (·.touched_) rNil))
theorem fit_court_cut : r_court_cut.fits := fun h => by cases h
theorem sb_court_cut_0 : SubR r_court_cut 0 (rSl (rInt .i64)) (·.sure_) := sub_hd
theorem sb_court_cut_1 : SubR r_court_cut 1 (rSl (rInt .i64)) (·.touched_) := (sub_tl sub_hd rfl)
theorem openR_court_cut {O : Tags} {w : World} {cs : List Value} {x : court_cut} (h : r_court_cut.rel O w cs x) : ∃ u1 u2 : Value, cs = [u1, u2] ∧ (rSl (rInt .i64)).v O w u1 x.sure_ ∧ (rSl (rInt .i64)).v O w u2 x.touched_ := by
 obtain ⟨c1, d1, rfl, h1, t1⟩ := h
 obtain ⟨u1, rfl, ku1⟩ := rel_one h1 rfl rfl
 obtain ⟨c2, d2, rfl, h2, t2⟩ := t1
 obtain ⟨u2, rfl, ku2⟩ := rel_one h2 rfl rfl
 replace t2 : _ = ([] : List Value) := t2; subst t2
 exact ⟨u1, u2, rfl, ku1, ku2⟩
theorem openV_court_cut {O : Tags} {w : World} {u : Value} {x : court_cut} (h : r_court_cut.v O w u x) : ∃ u1 u2 : Value, u = .agg #[u1, u2] ∧ (rSl (rInt .i64)).v O w u1 x.sure_ ∧ (rSl (rInt .i64)).v O w u2 x.touched_ := by
 obtain ⟨cs, h, rfl⟩ := h
 obtain ⟨u1, u2, e_, ku1, ku2⟩ := openR_court_cut h
 subst e_
 exact ⟨u1, u2, rfl, ku1, ku2⟩
noncomputable def r_court_blank : GR court_blank := (rCons (rSl (rInt .i64)) (·.cells_) rNil)
theorem fit_court_blank : r_court_blank.fits := fun h => by cases h
theorem sb_court_blank_0 : SubR r_court_blank 0 (rSl (rInt .i64)) (·.cells_) := sub_hd
def tag_court_voice : court_voice → Nat
 | .c96 _ => 96
 | .c101 _ => 101
 | .c102 _ => 102
def sub_court_voice (x : court_voice) (O : Tags) (w : World) (v : Value) : Prop := match x with
 | .c96 x => r_court_cut.v O w v x
 | .c101 x => r_court_blank.v O w v x
 | .c102 x => (rSl r_api_Sight).v O w v x
theorem subm_court_voice : ∀ x {O w O' w' v}, Keep 0 O w O' w' → sub_court_voice x O w v → sub_court_voice x O' w' v := fun x _ _ _ _ _ hk h => by cases x <;> exact GR.v_mono _ h hk
noncomputable def r_court_voice : GR court_voice := rIf tag_court_voice sub_court_voice subm_court_voice
theorem as_court_voice_96 {a : Act} {w : World} {d : Option Tmp} {T : TypeId} {pos : String} {aft : Array Edge} {g : Option (Nat × Bool)} {O : Tags} {x : Operand} {u : Value} {y : court_voice} (hx : a.eval x = u) (h : r_court_voice.v O w u y) : Ok Try.prog ⟨d, .typeAssert x 94 96 true, T, pos, aft, g⟩ a w (SP.tup2 (SP.vl r_court_cut O (court_voice.as96 y).1) (SP.isv (.bool (court_voice.as96 y).2))).holds := by
 obtain ⟨v, rfl, hs⟩ := rIf_v.1 h
 cases y with
 | c96 b => exact ok_weak (okl_assertY ty96 rfl hx) fun w' v' hE h => ⟨_, _, h, GR.v_ext _ hs hE, rfl⟩
 | c101 b => exact ok_weak (okl_assertN ty96 rfl hx (by show (101 : Nat) ≠ 96; decide)) fun w' v' hE h => ⟨_, _, h, ⟨_, ⟨_, _, rfl, (rel_ofF (r := (rSl (rInt .i64))) (rSl_nil _ _ _ 0) rfl rfl), ⟨_, _, rfl, (rel_ofF (r := (rSl (rInt .i64))) (rSl_nil _ _ _ 0) rfl rfl), rfl⟩⟩, rfl⟩, rfl⟩
 | c102 b => exact ok_weak (okl_assertN ty96 rfl hx (by show (102 : Nat) ≠ 96; decide)) fun w' v' hE h => ⟨_, _, h, ⟨_, ⟨_, _, rfl, (rel_ofF (r := (rSl (rInt .i64))) (rSl_nil _ _ _ 0) rfl rfl), ⟨_, _, rfl, (rel_ofF (r := (rSl (rInt .i64))) (rSl_nil _ _ _ 0) rfl rfl), rfl⟩⟩, rfl⟩, rfl⟩
def r_court_fate : GR court_fate := rC true 6 (fun x => [.bool x.solid_, .bool x.empty_, .bool x.taken_, .bool x.loose_, .bool x.there_, .bool x.gone_]) (fun _ => rfl) (fun _ => by simp [Value.oneCell'])
noncomputable def r_colletref01_Draw : GR colletref01_Draw := (rCons (rSl (rInt .i64)) (·.L) (rCons (rInt .i64) (·.At) rNil))
theorem openR_colletref01_Draw {O : Tags} {w : World} {cs : List Value} {x : colletref01_Draw} (h : r_colletref01_Draw.rel O w cs x) : ∃ u1 : Value, cs = [u1, .int .i64 x.At] ∧ (rSl (rInt .i64)).v O w u1 x.L := by
 obtain ⟨c1, d1, rfl, h1, t1⟩ := h
 obtain ⟨u1, rfl, ku1⟩ := rel_one h1 rfl rfl
 obtain ⟨c2, d2, rfl, h2, t2⟩ := t1
 replace h2 : c2 = [.int .i64 x.At] := h2; subst h2
 replace t2 : _ = ([] : List Value) := t2; subst t2
 exact ⟨u1, rfl, ku1⟩
noncomputable def r_colletlaw43_Case : GR colletlaw43_Case := (rCons (rSl (rSl (rInt .i64))) (·.Claims) (rCons (rInt .u8) (·.Cells) (rCons (rSl (rInt .i64)) (·.Sights) rNil)))
theorem fit_colletlaw43_Case : r_colletlaw43_Case.fits := fun h => by cases h
theorem sb_colletlaw43_Case_0 : SubR r_colletlaw43_Case 0 (rSl (rSl (rInt .i64))) (·.Claims) := sub_hd
theorem sb_colletlaw43_Case_1 : SubR r_colletlaw43_Case 1 (rInt .u8) (·.Cells) := (sub_tl sub_hd rfl)
theorem sb_colletlaw43_Case_2 : SubR r_colletlaw43_Case 2 (rSl (rInt .i64)) (·.Sights) := (sub_tl (sub_tl sub_hd rfl) rfl)
theorem openR_colletlaw43_Case {O : Tags} {w : World} {cs : List Value} {x : colletlaw43_Case} (h : r_colletlaw43_Case.rel O w cs x) : ∃ u1 u2 : Value, cs = [u1, .int .u8 x.Cells, u2] ∧ (rSl (rSl (rInt .i64))).v O w u1 x.Claims ∧ (rSl (rInt .i64)).v O w u2 x.Sights := by
 obtain ⟨c1, d1, rfl, h1, t1⟩ := h
 obtain ⟨u1, rfl, ku1⟩ := rel_one h1 rfl rfl
 obtain ⟨c2, d2, rfl, h2, t2⟩ := t1
 replace h2 : c2 = [.int .u8 x.Cells] := h2; subst h2
 obtain ⟨c3, d3, rfl, h3, t3⟩ := t2
 obtain ⟨u2, rfl, ku2⟩ := rel_one h3 rfl rfl
 replace t3 : _ = ([] : List Value) := t3; subst t3
 exact ⟨u1, u2, rfl, ku1, ku2⟩
theorem openV_colletlaw43_Case {O : Tags} {w : World} {u : Value} {x : colletlaw43_Case} (h : r_colletlaw43_Case.v O w u x) : ∃ u1 u2 : Value, u = .agg #[u1, .int .u8 x.Cells, u2] ∧ (rSl (rSl (rInt .i64))).v O w u1 x.Claims ∧ (rSl (rInt .i64)).v O w u2 x.Sights := by
 obtain ⟨cs, h, rfl⟩ := h
 obtain ⟨u1, u2, e_, ku1, ku2⟩ := openR_colletlaw43_Case h
 subst e_
 exact ⟨u1, u2, rfl, ku1, ku2⟩
noncomputable def r_colletlaw43_world : GR colletlaw43_world := (rCons (rInt .i64) (·.material_) (rCons (rSl (rInt .i64)) (·.removed_) rNil))
theorem fit_colletlaw43_world : r_colletlaw43_world.fits := fun h => by cases h
theorem sb_colletlaw43_world_0 : SubR r_colletlaw43_world 0 (rInt .i64) (·.material_) := sub_hd
theorem sb_colletlaw43_world_1 : SubR r_colletlaw43_world 1 (rSl (rInt .i64)) (·.removed_) := (sub_tl sub_hd rfl)
theorem key73 : KeyOk Try.prog 73 (fun x : Vector Int 2 => .agg (cellsA (fun x => [.int .i64 x]) x).toArray) := KeyOk.agg (cells := fun x => (cellsA (fun x => [.int .i64 x]) x)) (eqr_vec (f := (fun x => [.int .i64 x])) (hl := (fun _ => rfl)) (ho := (fun _ => by simp [Value.oneCell'])) ty73 ty3 rfl (eqr_int ty3) (fun _ _ _ => rfl)) (by decide) rfl (fun _ _ _ => rfl) ty73 rfl (fun e x w => by obtain ⟨a0, a1, rfl⟩ := vec2 x; kernel_rfl) (fun x => by obtain ⟨a0, a1, rfl⟩ := vec2 x; simp [Instr.sameBits, cellsA])
theorem ok_colletlaw43_example {O : Tags} {w0 : World} (hO : OkO O w0)  {n : Nat} {y : (List api_Claim)} (h : (colletlaw43_example).run n = some y) : Pure Try.prog 32 #[] w0 (SP.ownr r_api_Claim 33 (w0.heap.size) O y).holds := by
 unfold colletlaw43_example at h
 refine pure_of_wp Try.func32 rfl 10 Try.ntmps32 (by simp) fun a0 hA hs0 => ?_
 clear hs0
 have hB : Base (Fr w0) O w0 O w0 := Base.start hO
 refine wp_seq ?_
 refine' region [_] mixed hA (.cons (fun _ _ hE hK hg => ok_assign rfl) .nil) ?zok1 ?zgd1 ?zk1
 case zok1 | zgd1 => kernel_rfl
 intro a1 w1 hA hE HF
 clear HF
 replace hB := Base.step hB hE hO; clear hE
 refine li_nil (nx_then (wp_seq ?_))
 refine' regionT [SP.vl (rSl (rInt .i64)) O [0, 1], SP.vl r_api_Claim O (api_Claim.mk (-1) 1 0 [] [0, 1]), SP.vl (rSl (rInt .i64)) O [0], SP.vl (rSl (rInt .i64)) O [0], SP.vl r_api_Claim O (api_Claim.mk 0 2 0 [0] [0]), SP.vl (rSl (rInt .i64)) O [1], SP.vl r_api_Claim O (api_Claim.mk 1 2 0 [] [1]), SP.isv (.agg #[.int .i64 2, .int .i64 3, .int .i64 0, .slice none 0 0, .slice none 0 0])] hA (.cons (fun _ _ hE hK hg => okl_buildSliceV (r := (rInt .i64)) (fun _ => rfl) rfl (OkO.ext hB.ok hE) ty23 ty3 (parts_cons rfl (parts_cons rfl parts_nil)) ⟨(by exact rInt_v.2 rfl), ⟨(by exact rInt_v.2 rfl), trivial⟩⟩ rfl (by decide)) (.cons ?z2_1 (.cons (fun _ _ hE hK hg => okl_buildSliceV (r := (rInt .i64)) (fun _ => rfl) rfl (OkO.ext hB.ok hE) ty23 ty3 (parts_cons rfl parts_nil) ⟨(by exact rInt_v.2 rfl), trivial⟩ rfl (by decide)) (.cons (fun _ _ hE hK hg => okl_buildSliceV (r := (rInt .i64)) (fun _ => rfl) rfl (OkO.ext hB.ok hE) ty23 ty3 (parts_cons rfl parts_nil) ⟨(by exact rInt_v.2 rfl), trivial⟩ rfl (by decide)) (.cons ?z2_4 (.cons (fun _ _ hE hK hg => okl_buildSliceV (r := (rInt .i64)) (fun _ => rfl) rfl (OkO.ext hB.ok hE) ty23 ty3 (parts_cons rfl parts_nil) ⟨(by exact rInt_v.2 rfl), trivial⟩ rfl (by decide)) (.cons ?z2_6 (.cons (fun _ _ hE hK hg => okl_build plc33 ty33 (pk_cons (v := .int .i64 2) rfl (pk_cons (v := .int .i64 3) rfl pk_nil)) rfl (.cons rfl rfl rfl (leb rfl) (.cons rfl rfl rfl (leb rfl) .nil)) rfl) .nil)))))))) ?zok2 ?zgd2 ?zk2
 case z2_1 => intro a' w' hE hK hg; refine ok_weak (okl_build (vals := [(0, .int .i64 (-1)), (1, .int .i64 1), (4, (a'.get 1))]) (out := [.int .i64 (-1), .int .i64 1, .int .i64 0, .slice none 0 0, (a'.get 1)]) plc33 ty33 ?_ rfl ?_ rfl) ?_; exact (pk_cons (v := .int .i64 (-1)) rfl (pk_cons (v := .int .i64 1) rfl (pk_cons (v := (a'.get 1)) rfl pk_nil))); exact (.cons rfl rfl rfl (leb rfl) (.cons rfl rfl rfl (leb rfl) (.cons rfl (sl_cells (kspS (φ := SP.vl (rSl (rInt .i64)) O [0, 1]) (j := 0) (hK 1 rfl) rfl rfl rfl) rfl rfl) rfl (leb rfl) .nil))); exact fun w_ v_ hE2_ h_ => by { replace h_ : v_ = _ := h_; subst h_; exact ⟨_, ⟨_, _, rfl, rfl, ⟨_, _, rfl, rfl, ⟨_, _, rfl, rfl, ⟨_, _, rfl, (rel_ofF (r := (rSl (rInt .i64))) (rSl_nil _ _ _ 0) rfl rfl), ⟨_, _, rfl, (rel_ofF (r := (rSl (rInt .i64))) (GR.v_ext _ (kspS (φ := SP.vl (rSl (rInt .i64)) O [0, 1]) (j := 0) (hK 1 rfl) rfl rfl rfl) hE2_) rfl rfl), rfl⟩⟩⟩⟩⟩, rfl⟩ }
 case z2_4 => intro a' w' hE hK hg; refine ok_weak (okl_build (vals := [(1, .int .i64 2), (3, (a'.get 3)), (4, (a'.get 4))]) (out := [.int .i64 0, .int .i64 2, .int .i64 0, (a'.get 3), (a'.get 4)]) plc33 ty33 ?_ rfl ?_ rfl) ?_; exact (pk_cons (v := .int .i64 2) rfl (pk_cons (v := (a'.get 3)) rfl (pk_cons (v := (a'.get 4)) rfl pk_nil))); exact (.cons rfl rfl rfl (leb rfl) (.cons rfl (sl_cells (kspS (φ := SP.vl (rSl (rInt .i64)) O [0]) (j := 2) (hK 3 rfl) rfl rfl rfl) rfl rfl) rfl (leb rfl) (.cons rfl (sl_cells (kspS (φ := SP.vl (rSl (rInt .i64)) O [0]) (j := 3) (hK 4 rfl) rfl rfl rfl) rfl rfl) rfl (leb rfl) .nil))); exact fun w_ v_ hE2_ h_ => by { replace h_ : v_ = _ := h_; subst h_; exact ⟨_, ⟨_, _, rfl, rfl, ⟨_, _, rfl, rfl, ⟨_, _, rfl, rfl, ⟨_, _, rfl, (rel_ofF (r := (rSl (rInt .i64))) (GR.v_ext _ (kspS (φ := SP.vl (rSl (rInt .i64)) O [0]) (j := 2) (hK 3 rfl) rfl rfl rfl) hE2_) rfl rfl), ⟨_, _, rfl, (rel_ofF (r := (rSl (rInt .i64))) (GR.v_ext _ (kspS (φ := SP.vl (rSl (rInt .i64)) O [0]) (j := 3) (hK 4 rfl) rfl rfl rfl) hE2_) rfl rfl), rfl⟩⟩⟩⟩⟩, rfl⟩ }
 case z2_6 => intro a' w' hE hK hg; refine ok_weak (okl_build (vals := [(0, .int .i64 1), (1, .int .i64 2), (4, (a'.get 6))]) (out := [.int .i64 1, .int .i64 2, .int .i64 0, .slice none 0 0, (a'.get 6)]) plc33 ty33 ?_ rfl ?_ rfl) ?_; exact (pk_cons (v := .int .i64 1) rfl (pk_cons (v := .int .i64 2) rfl (pk_cons (v := (a'.get 6)) rfl pk_nil))); exact (.cons rfl rfl rfl (leb rfl) (.cons rfl rfl rfl (leb rfl) (.cons rfl (sl_cells (kspS (φ := SP.vl (rSl (rInt .i64)) O [1]) (j := 5) (hK 6 rfl) rfl rfl rfl) rfl rfl) rfl (leb rfl) .nil))); exact fun w_ v_ hE2_ h_ => by { replace h_ : v_ = _ := h_; subst h_; exact ⟨_, ⟨_, _, rfl, rfl, ⟨_, _, rfl, rfl, ⟨_, _, rfl, rfl, ⟨_, _, rfl, (rel_ofF (r := (rSl (rInt .i64))) (rSl_nil _ _ _ 0) rfl rfl), ⟨_, _, rfl, (rel_ofF (r := (rSl (rInt .i64))) (GR.v_ext _ (kspS (φ := SP.vl (rSl (rInt .i64)) O [1]) (j := 5) (hK 6 rfl) rfl rfl rfl) hE2_) rfl rfl), rfl⟩⟩⟩⟩⟩, rfl⟩ }
 case zok2 | zgd2 => kernel_rfl
 intro a2 w2 hA hE HF
 have f2 := ksp (HF 2) rfl rfl rfl
 obtain ⟨u1, q2'⟩ : ∃ u, a2.get 2 = u := ⟨_, rfl⟩
 rw [q2'] at f2
 have q2 := q2'; clear q2'
 have f4 := ksp (HF 5) rfl rfl rfl
 obtain ⟨u3, q5'⟩ : ∃ u, a2.get 5 = u := ⟨_, rfl⟩
 rw [q5'] at f4
 have q5 := q5'; clear q5'
 have f6 := ksp (HF 7) rfl rfl rfl
 obtain ⟨u5, q7'⟩ : ∃ u, a2.get 7 = u := ⟨_, rfl⟩
 rw [q7'] at f6
 have q7 := q7'; clear q7'
 have q8 := ksv (HF 8) rfl rfl rfl
 clear HF
 replace hB := Base.step hB hE hO; clear hE
 refine l_ok (φ := SP.ownr r_api_Claim 33 w2.heap.size O [(api_Claim.mk (-1) 1 0 [] [0, 1]), (api_Claim.mk 0 2 0 [0] [0]), (api_Claim.mk 1 2 0 [] [1]), (api_Claim.mk 2 3 0 [] [])]) hO hB (by exact okl_buildSlice (r := r_api_Claim) fit_api_Claim rfl hB.ok ty27 ty33 (Nat.le_refl _) (parts_cons q2 (parts_cons q5 (parts_cons q7 (parts_cons q8 parts_nil)))) ⟨f2, ⟨f4, ⟨f6, ⟨⟨_, ⟨_, _, rfl, rfl, ⟨_, _, rfl, rfl, ⟨_, _, rfl, rfl, ⟨_, _, rfl, (rel_ofF (r := (rSl (rInt .i64))) (rSl_nil _ _ _ 0) rfl rfl), ⟨_, _, rfl, (rel_ofF (r := (rSl (rInt .i64))) (rSl_nil _ _ _ 0) rfl rfl), rfl⟩⟩⟩⟩⟩, rfl⟩, trivial⟩⟩⟩⟩ rfl (by decide)) rfl fun u7 w3 hE hB' f8 => ?_
 clear hB'; obtain ⟨O9, hB', hX, f10⟩ := ownNew hO hB hE f8 rfl 1 (by decide)
 clear hB f8; have hB := hB'; clear hB'
 replace f2 := GR.kx _ f2 hX (by decide)
 replace f4 := GR.kx _ f4 hX (by decide)
 replace f6 := GR.kx _ f6 hX (by decide)
 clear hX hE
 refine put_cont hA (by decide) fun a4 hA q_ hfr => ?_
 replace q2 := (hfr 2 rfl).trans q2
 replace q5 := (hfr 5 rfl).trans q5
 replace q7 := (hfr 7 rfl).trans q7
 replace q8 := (hfr 8 rfl).trans q8
 have q9 := q_; clear q_ hfr
 refine l_ok (φ := SP.isv (u7)) hO hB (by exact ok_assign q9) rfl fun u_ w5 hE hB' hv_ => ?_
 replace hv_ := Eq.symm hv_; subst hv_; clear hB; have hB := hB'; clear hB'
 replace f10 := f10.ext hE
 clear hE
 refine put_cont hA (by decide) fun a6 hA q_ hfr => ?_
 replace q9 := (hfr 9 rfl).trans q9
 have q0 := q_; clear q_ hfr
 refine li_nil (nx_then (wp_ret ?_))
 have h := Comp.run_pure h; subst h
 exact retPure Try.results32 hA q0 hB.ext (OwnL.res f10 (by decide) hB.zero)
theorem ok_slices_Index_int_int {O : Tags} {w0 : World} (hO : OkO O w0) {v_0 : Value} {x_0 : List Int} (h_0 : (rSl (rInt .i64)).v O w0 v_0 x_0) {x_1 : Int} {n : Nat} {y : Int} (h : (slices_Index_int_int x_0 x_1).run n = some y) : Pure Try.prog 74 #[v_0, .int .i64 x_1] w0 (SP.isv (.int .i64 y)).holds := by
 unfold slices_Index_int_int at h
 refine pure_of_wp Try.func74 rfl 19 Try.ntmps74 (by simp) fun a0 hA hs0 => ?_
 have q0 : a0.get 0 = v_0 := hs0 0 _ rfl
 have q1 : a0.get 1 = .int .i64 x_1 := hs0 1 _ rfl
 clear hs0
 have hB : Base (Fr w0) O w0 O w0 := Base.start hO
 refine wp_seq ?_
 refine' region [_] mixed hA (.cons (fun _ _ hE hK hg => ok_assign rfl) .nil) ?zok1 ?zgd1 ?zk1
 case zok1 | zgd1 => kernel_rfl
 intro a1 w1 hA hE HF
 replace q0 := kn (HF 0) rfl q0
 replace q1 := kn (HF 1) rfl q1
 clear HF
 replace h_0 := GR.v_ext _ h_0 hE
 replace hB := Base.step hB hE hO; clear hE
 refine li_nil (nx_then ?_)
 refine seq_join (fun a w => ∃ (O5 : Tags), a.fit 19 ∧ Base (Fr w0) O w0 O5 w ∧ (slices_Index_int_int_j1 ).run n = some y) ?_ ?_
 ·
  refine wp_seq ?_
  refine' region [_, _, _] mixed hA (.cons (fun _ _ hE hK hg => ok_move (kn (hK 0 rfl) rfl q0)) (.cons (fun _ _ hE hK hg => okl_len (r := (rInt .i64)) ty23 (ksv (j := 0) (hK 6 rfl) rfl rfl rfl) (rd_of (GR.v_ext _ h_0 hE))) (.cons (fun _ _ hE hK hg => ok_move rfl) .nil))) ?zok2 ?zgd2 ?zk2
  case zok2 | zgd2 => kernel_rfl
  intro a2 w2 hA hE HF
  replace q0 := kn (HF 0) rfl q0
  replace q1 := kn (HF 1) rfl q1
  have q7 := ksv (HF 7) rfl rfl rfl
  have q8 := ksv (HF 8) rfl rfl rfl
  clear HF
  replace h_0 := GR.v_ext _ h_0 hE
  replace hB := Base.step hB hE hO; clear hE
  refine li_nil (nx_then (wp_block ?_))
  obtain ⟨e2, he2, hk2⟩ := Comp.run_bind h; clear h
  refine loop_m (fun m a w => ∃ (O2 : Tags) (x1 : Int), a.fit 19 ∧ Base (Fr w0) O w0 O2 w ∧ a.get 0 = v_0 ∧ (rSl (rInt .i64)).v O2 w v_0 x_0 ∧ a.get 1 = .int .i64 x_1 ∧ a.get 7 = .int .i64 (x_0.length : Int) ∧ a.get 8 = .int .i64 x1 ∧ Comp.loopN (fun s => slices_Index_int_int_l2 x_0 x_1 s) n m x1 = some e2) (m := n) ?st2 ?_
  case st2 =>
   exact ⟨_, _, hA, hB, q0, h_0, q1, q7, q8, Comp.run_loop he2⟩
  intro m_ a3 w3 hI
  clear hA hB he2 q0 q1 q7 q8 h_0
  obtain ⟨O2, x1, hA, hB, q0, h_0, q1, q7, q8, hl⟩ := hI
  obtain ⟨m2, hlt2, st2, h, hnext2, hdone2⟩ := Comp.loopN_succ hl; clear hl
  replace h : (slices_Index_int_int_l2 x_0 x_1 x1).run n = some st2 := h
  unfold slices_Index_int_int_l2 at h
  refine wp_seq ?_
  refine' region [_] mixed hA (.cons (fun _ _ hE hK hg => ok_lss (kn (hK 8 rfl) rfl q8) (kn (hK 7 rfl) rfl q7)) .nil) ?zok3 ?zgd3 ?zk3
  case zok3 | zgd3 => kernel_rfl
  intro a4 w4 hA hE HF
  replace q0 := kn (HF 0) rfl q0
  replace q1 := kn (HF 1) rfl q1
  replace q7 := kn (HF 7) rfl q7
  replace q8 := kn (HF 8) rfl q8
  have q9 := ksv (HF 9) rfl rfl rfl
  clear HF
  replace h_0 := GR.v_ext _ h_0 hE
  replace hB := Base.step hB hE hO; clear hE
  refine li_nil (nx_then (wp_seq ?_))
  refine wp_cond_b q9 (fun hc => ?_) (fun hc => ?_)
  ·
   replace h := Comp.run_b_t hc h; clear hc
   refine wp_skip (nx_then (wp_seq (wp_block (wp_seq ?_))))
   refine' region [_, _] mixed hA (.cons (fun _ _ hE hK hg => ok_move (kn (hK 8 rfl) rfl q8)) (.cons (fun _ _ hE hK hg => ok_assign (ksv (j := 0) (hK 10 rfl) rfl rfl rfl)) .nil)) ?zok4 ?zgd4 ?zk4
   case zok4 | zgd4 => kernel_rfl
   intro a5 w5 hA hE HF
   replace q0 := kn (HF 0) rfl q0
   replace q1 := kn (HF 1) rfl q1
   have q5 := ksv (HF 5) rfl rfl rfl
   replace q7 := kn (HF 7) rfl q7
   replace q8 := kn (HF 8) rfl q8
   clear q9
   clear HF
   replace h_0 := GR.v_ext _ h_0 hE
   replace hB := Base.step hB hE hO; clear hE
   refine li_nil (nx_then (wp_seq ?_))
   obtain ⟨x3, hx3, h⟩ := Comp.run_bind h
   refine' region [_, _, _, SP.ptr (rInt .i64) O2 x3, SP.isv (.int .i64 x3), _] mixed hA (.cons (fun _ _ hE hK hg => ok_move (kn (hK 1 rfl) rfl q1)) (.cons (fun _ _ hE hK hg => ok_move (kn (hK 0 rfl) rfl q0)) (.cons (fun _ _ hE hK hg => ok_move (kn (hK 5 rfl) rfl q5)) (.cons (fun _ _ hE hK hg => okl_idx (r := (rInt .i64)) (O := O2) ty23 ty3 rfl (ksv (j := 1) (hK 12 rfl) rfl rfl rfl) (rd_of (GR.v_ext _ h_0 hE)) (ksv (j := 2) (hK 13 rfl) rfl rfl rfl) hx3) (.cons (fun _ _ hE hK hg => okl_ldr (rInt .i64) (fun _ => rfl) ty3 rfl rfl rfl (kspS (φ := SP.ptr (rInt .i64) O2 x3) (j := 3) (hK 14 rfl) rfl rfl rfl) (fun _ _ _ h => rInt_v.1 h)) (.cons (fun _ _ hE hK hg => ok_eqlI (ksv (j := 0) (hK 11 rfl) rfl rfl rfl) (ksv (j := 4) (hK 15 rfl) rfl rfl rfl)) .nil)))))) ?zok5 ?zgd5 ?zk5
   case zok5 | zgd5 => kernel_rfl
   intro a6 w6 hA hE HF
   replace q0 := kn (HF 0) rfl q0
   replace q1 := kn (HF 1) rfl q1
   replace q5 := kn (HF 5) rfl q5
   replace q7 := kn (HF 7) rfl q7
   replace q8 := kn (HF 8) rfl q8
   have q16 := ksv (HF 16) rfl rfl rfl
   clear HF
   replace h_0 := GR.v_ext _ h_0 hE
   replace hB := Base.step hB hE hO; clear hE
   refine li_nil (nx_then ?_)
   refine wp_cond_b q16 (fun hc => ?_) (fun hc => ?_)
   ·
    replace h := Comp.run_b_t hc h; clear hc
    refine wp_seq ?_
    refine' region [_, _] mixed hA (.cons (fun _ _ hE hK hg => ok_move (kn (hK 5 rfl) rfl q5)) (.cons (fun _ _ hE hK hg => ok_assign (ksv (j := 0) (hK 17 rfl) rfl rfl rfl)) .nil)) ?zok6 ?zgd6 ?zk6
    case zok6 | zgd6 => kernel_rfl
    intro a7 w7 hA hE HF
    have q4 := ksv (HF 4) rfl rfl rfl
    clear q0
    clear q1
    clear q5
    clear q7
    clear q8
    clear q16
    clear HF
    replace h_0 := GR.v_ext _ h_0 hE
    replace hB := Base.step hB hE hO; clear hE
    refine li_nil (nx_then (wp_ret (rt_blk (rt_then (rt_then (rt_blk (rt_then ?_)))))))
    have hd_ := hdone2 _ (Comp.run_pure h).symm; clear h
    subst hd_; have h := hk2; clear hk2; try dsimp only at h
    have h := Comp.run_pure h; subst h
    exact retPure Try.results74 hA q4 hB.ext rfl
   ·
    replace h := Comp.run_b_f hc h; clear hc
    refine wp_skip (nx_blk (nx_then ?_))
    refine' region [_, _] mixed hA (.cons (fun _ _ hE hK hg => ok_add (kn (hK 8 rfl) rfl q8) rfl) (.cons (fun _ _ hE hK hg => ok_move (ksv (j := 0) (hK 18 rfl) rfl rfl rfl)) .nil)) ?zok7 ?zgd7 ?zk7
    case zok7 | zgd7 => kernel_rfl
    intro a8 w8 hA hE HF
    replace q0 := kn (HF 0) rfl q0
    replace q1 := kn (HF 1) rfl q1
    replace q7 := kn (HF 7) rfl q7
    have q8' := ksv (HF 8) rfl rfl rfl
    replace q8 := q8'; clear q8'
    clear q5
    clear q16
    clear HF
    replace h_0 := GR.v_ext _ h_0 hE
    replace hB := Base.step hB hE hO; clear hE
    refine li_nil (nx_then ?_)
    have h := hnext2 _ (Comp.run_pure h).symm
    refine ⟨m2, hlt2, ?_⟩
    exact ⟨_, _, hA, hB, q0, h_0, q1, q7, q8, h⟩
  ·
   replace h := Comp.run_b_f hc h; clear hc
   refine wp_exit (ex_then (ex_then (ex_same ?_)))
   have hd_ := hdone2 _ (Comp.run_pure h).symm; clear h
   subst hd_; have h := hk2; clear hk2; try dsimp only at h
   refine nx_then ?_
   exact ⟨_, hA, hB, h⟩
 intro a9 w9 hI
 clear hA hB h q0 q1 h_0
 obtain ⟨O5, hA, hB, h⟩ := hI
 unfold slices_Index_int_int_j1 at h
 refine wp_seq ?_
 refine' region [_] mixed hA (.cons (fun _ _ hE hK hg => ok_assign rfl) .nil) ?zok8 ?zgd8 ?zk8
 case zok8 | zgd8 => kernel_rfl
 intro a10 w10 hA hE HF
 have q4 := ksv (HF 4) rfl rfl rfl
 clear HF
 replace hB := Base.step hB hE hO; clear hE
 refine li_nil (nx_then (wp_ret ?_))
 have h := Comp.run_pure h; subst h
 exact retPure Try.results74 hA q4 hB.ext rfl
theorem ok_slices_Contains_int_int {O : Tags} {w0 : World} (hO : OkO O w0) {v_0 : Value} {x_0 : List Int} (h_0 : (rSl (rInt .i64)).v O w0 v_0 x_0) {x_1 : Int} {n : Nat} {y : Bool} (h : (slices_Contains_int_int x_0 x_1).run n = some y) : Pure Try.prog 57 #[v_0, .int .i64 x_1] w0 (SP.isv (.bool y)).holds := by
 unfold slices_Contains_int_int at h
 refine pure_of_wp Try.func57 rfl 9 Try.ntmps57 (by simp) fun a0 hA hs0 => ?_
 have q0 : a0.get 0 = v_0 := hs0 0 _ rfl
 have q1 : a0.get 1 = .int .i64 x_1 := hs0 1 _ rfl
 clear hs0
 have hB : Base (Fr w0) O w0 O w0 := Base.start hO
 refine wp_seq ?_
 refine' region [_] mixed hA (.cons (fun _ _ hE hK hg => ok_assign rfl) .nil) ?zok1 ?zgd1 ?zk1
 case zok1 | zgd1 => kernel_rfl
 intro a1 w1 hA hE HF
 replace q0 := kn (HF 0) rfl q0
 replace q1 := kn (HF 1) rfl q1
 clear HF
 replace h_0 := GR.v_ext _ h_0 hE
 replace hB := Base.step hB hE hO; clear hE
 refine li_nil (nx_then (wp_seq ?_))
 obtain ⟨x1, hx1, h⟩ := Comp.run_bind h
 refine' region [_, _, SP.isv (.int .i64 x1), _, _] mixed hA (.cons (fun _ _ hE hK hg => ok_move (kn (hK 0 rfl) rfl q0)) (.cons (fun _ _ hE hK hg => ok_move (kn (hK 1 rfl) rfl q1)) (.cons ?z2_2 (.cons (fun _ _ hE hK hg => ok_geq (ksv (j := 2) (hK 7 rfl) rfl rfl rfl) rfl) (.cons (fun _ _ hE hK hg => ok_assign (ksv (j := 3) (hK 8 rfl) rfl rfl rfl)) .nil))))) ?zok2 ?zgd2 ?zk2
 case z2_2 => intro a' w' hE hK hg; have c_ := ok_slices_Index_int_int (OkO.ext hB.ok hE) (GR.v_ext _ h_0 hE) hx1; exact ok_call2 fn74 (ksv (j := 0) (hK 5 rfl) rfl rfl rfl) (ksv (j := 1) (hK 6 rfl) rfl rfl rfl) c_
 case zok2 | zgd2 => kernel_rfl
 intro a2 w2 hA hE HF
 have q4 := ksv (HF 4) rfl rfl rfl
 clear q0
 clear q1
 clear HF
 replace h_0 := GR.v_ext _ h_0 hE
 replace hB := Base.step hB hE hO; clear hE
 refine li_nil (nx_then (wp_ret ?_))
 have h := Comp.run_pure h; subst h
 exact retPure Try.results57 hA q4 hB.ext rfl
theorem ok_court_check_f1 {O : Tags} {w0 : World} (hO : OkO O w0) {x_0 : Int} {v_1 : Value} {x_1 : api_Claim} (h_1 : (rBox r_api_Claim).v O w0 v_1 x_1) {n : Nat} {y : Bool} (h : (court_check_f1 x_0 x_1).run n = some y) : Pure Try.prog 56 #[.int .i64 x_0, v_1] w0 (SP.isv (.bool y)).holds := by
 unfold court_check_f1 at h
 refine pure_of_wp Try.func56 rfl 9 Try.ntmps56 (by simp) fun a0 hA hs0 => ?_
 have q0 : a0.get 0 = .int .i64 x_0 := hs0 0 _ rfl
 have q1 : a0.get 1 = v_1 := hs0 1 _ rfl
 clear hs0
 have hB : Base (Fr w0) O w0 O w0 := Base.start hO
 refine wp_seq ?_
 refine' region [_] mixed hA (.cons (fun _ _ hE hK hg => ok_assign rfl) .nil) ?zok1 ?zgd1 ?zk1
 case zok1 | zgd1 => kernel_rfl
 intro a1 w1 hA hE HF
 replace q0 := kn (HF 0) rfl q0
 replace q1 := kn (HF 1) rfl q1
 clear HF
 replace h_1 := GR.v_ext _ h_1 hE
 replace hB := Base.step hB hE hO; clear hE
 refine li_nil (nx_then (wp_seq ?_))
 obtain ⟨x1, hx1, h⟩ := Comp.run_bind h
 refine' region [SP.ptr (rSl (rInt .i64)) O x_1.Touched, SP.vl (rSl (rInt .i64)) O x_1.Touched, _, SP.isv (.bool x1), _, _] mixed hA (.cons (fun _ _ hE hK hg => okl_fldB (S := r_api_Claim) fit_api_Claim rfl (fun _ => rfl) sb_api_Claim_4 fl33_4 (kn (hK 1 rfl) rfl q1) (GR.v_ext _ h_1 hE)) (.cons (fun _ _ hE hK hg => okl_ld (r := (rSl (rInt .i64))) (fun _ => rfl) ty23 rfl rfl rfl (kspS (φ := SP.ptr (rSl (rInt .i64)) O x_1.Touched) (j := 0) (hK 4 rfl) rfl rfl rfl)) (.cons (fun _ _ hE hK hg => ok_move (kn (hK 0 rfl) rfl q0)) (.cons ?z2_3 (.cons (fun _ _ hE hK hg => ok_not (ksv (j := 3) (hK 7 rfl) rfl rfl rfl)) (.cons (fun _ _ hE hK hg => ok_assign (ksv (j := 4) (hK 8 rfl) rfl rfl rfl)) .nil)))))) ?zok2 ?zgd2 ?zk2
 case z2_3 => intro a' w' hE hK hg; have c_ := ok_slices_Contains_int_int (OkO.ext hB.ok hE) (kspS (φ := SP.vl (rSl (rInt .i64)) O x_1.Touched) (j := 1) (hK 5 rfl) rfl rfl rfl) hx1; exact ok_call2 fn57 rfl (ksv (j := 2) (hK 6 rfl) rfl rfl rfl) c_
 case zok2 | zgd2 => kernel_rfl
 intro a2 w2 hA hE HF
 have q3 := ksv (HF 3) rfl rfl rfl
 clear q0
 clear q1
 clear HF
 replace h_1 := GR.v_ext _ h_1 hE
 replace hB := Base.step hB hE hO; clear hE
 refine li_nil (nx_then (wp_ret ?_))
 have h := Comp.run_pure h; subst h
 exact retPure Try.results56 hA q3 hB.ext rfl
theorem ok_cmp_isNaN_int {O : Tags} {w0 : World} (hO : OkO O w0) {x_0 : Int} {n : Nat} {y : Bool} (h : (cmp_isNaN_int x_0).run n = some y) : Pure Try.prog 85 #[.int .i64 x_0] w0 (SP.isv (.bool y)).holds := by
 unfold cmp_isNaN_int at h
 refine pure_of_wp Try.func85 rfl 6 Try.ntmps85 (by simp) fun a0 hA hs0 => ?_
 have q0 : a0.get 0 = .int .i64 x_0 := hs0 0 _ rfl
 clear hs0
 have hB : Base (Fr w0) O w0 O w0 := Base.start hO
 refine wp_seq ?_
 refine' region [_] mixed hA (.cons (fun _ _ hE hK hg => ok_assign rfl) .nil) ?zok1 ?zgd1 ?zk1
 case zok1 | zgd1 => kernel_rfl
 intro a1 w1 hA hE HF
 replace q0 := kn (HF 0) rfl q0
 clear HF
 replace hB := Base.step hB hE hO; clear hE
 refine li_nil (nx_then (wp_seq ?_))
 refine' region [_, _, _, _] mixed hA (.cons (fun _ _ hE hK hg => ok_move (kn (hK 0 rfl) rfl q0)) (.cons (fun _ _ hE hK hg => ok_move (kn (hK 0 rfl) rfl q0)) (.cons (fun _ _ hE hK hg => ok_neqI (ksv (j := 0) (hK 3 rfl) rfl rfl rfl) (ksv (j := 1) (hK 4 rfl) rfl rfl rfl)) (.cons (fun _ _ hE hK hg => ok_assign (ksv (j := 2) (hK 5 rfl) rfl rfl rfl)) .nil)))) ?zok2 ?zgd2 ?zk2
 case zok2 | zgd2 => kernel_rfl
 intro a2 w2 hA hE HF
 have q2 := ksv (HF 2) rfl rfl rfl
 clear q0
 clear HF
 replace hB := Base.step hB hE hO; clear hE
 refine li_nil (nx_then (wp_ret ?_))
 have h := Comp.run_pure h; subst h
 exact retPure Try.results85 hA q2 hB.ext rfl
theorem ok_cmp_Less_int {O : Tags} {w0 : World} (hO : OkO O w0) {x_0 : Int} {x_1 : Int} {n : Nat} {y : Bool} (h : (cmp_Less_int x_0 x_1).run n = some y) : Pure Try.prog 83 #[.int .i64 x_0, .int .i64 x_1] w0 (SP.isv (.bool y)).holds := by
 unfold cmp_Less_int at h
 refine pure_of_wp Try.func83 rfl 17 Try.ntmps83 (by simp) fun a0 hA hs0 => ?_
 have q0 : a0.get 0 = .int .i64 x_0 := hs0 0 _ rfl
 have q1 : a0.get 1 = .int .i64 x_1 := hs0 1 _ rfl
 clear hs0
 have hB : Base (Fr w0) O w0 O w0 := Base.start hO
 refine wp_seq ?_
 refine' region [_] mixed hA (.cons (fun _ _ hE hK hg => ok_assign rfl) .nil) ?zok1 ?zgd1 ?zk1
 case zok1 | zgd1 => kernel_rfl
 intro a1 w1 hA hE HF
 replace q0 := kn (HF 0) rfl q0
 replace q1 := kn (HF 1) rfl q1
 clear HF
 replace hB := Base.step hB hE hO; clear hE
 refine li_nil (nx_then (wp_seq ?_))
 obtain ⟨x1, hx1, h⟩ := Comp.run_bind h
 obtain ⟨x2, hx2, h⟩ := Comp.run_bind h
 refine' region [_, SP.isv (.bool x1), _, _, SP.isv (.bool x2), _, _, _, _, _, _, _, _] mixed hA (.cons (fun _ _ hE hK hg => ok_move (kn (hK 0 rfl) rfl q0)) (.cons ?z2_1 (.cons (fun _ _ hE hK hg => ok_move (ksv (j := 1) (hK 6 rfl) rfl rfl rfl)) (.cons (fun _ _ hE hK hg => ok_move (kn (hK 1 rfl) rfl q1)) (.cons ?z2_4 (.cons ?z2_5 (.cons ?z2_6 (.cons (fun _ _ hE hK hg => ok_move (ksv (j := 6) (hK 11 rfl) rfl rfl rfl)) (.cons (fun _ _ hE hK hg => ok_move (kn (hK 0 rfl) rfl q0)) (.cons (fun _ _ hE hK hg => ok_move (kn (hK 1 rfl) rfl q1)) (.cons ?z2_10 (.cons ?z2_11 (.cons (fun _ _ hE hK hg => ok_assign (ksv (j := 11) (hK 16 rfl) rfl rfl rfl)) .nil))))))))))))) ?zok2 ?zgd2 ?zk2
 case z2_1 => intro a' w' hE hK hg; have c_ := ok_cmp_isNaN_int (OkO.ext hB.ok hE)  hx1; exact ok_call1 fn85 (ksv (j := 0) (hK 5 rfl) rfl rfl rfl) c_
 case z2_4 => intro a' w' hE hK hg; have c_ := ok_cmp_isNaN_int (OkO.ext hB.ok hE)  (run_gdb hx2 hg); exact ok_call1 fn85 (ksv (j := 3) (hK 8 rfl) rfl rfl hg) c_
 case z2_5 => intro a' w' hE hK hg; exact ok_not (ksv (j := 4) (hK 9 rfl) rfl rfl hg)
 case z2_6 => intro a' w' hE hK hg; exact ok_pick (ksv (j := 2) (hK 7 rfl) rfl rfl rfl) (fun hb => ksv (j := 5) (hK 10 rfl) rfl rfl (act_g1 rfl rfl hb)) (fun _ => rfl)
 case z2_10 => intro a' w' hE hK hg; exact ok_lss (ksv (j := 8) (hK 13 rfl) rfl rfl hg) (ksv (j := 9) (hK 14 rfl) rfl rfl hg)
 case z2_11 => intro a' w' hE hK hg; exact ok_pick (ksv (j := 7) (hK 12 rfl) rfl rfl rfl) (fun _ => rfl) (fun hb => ksv (j := 10) (hK 15 rfl) rfl rfl (act_g1 rfl rfl hb))
 case zok2 | zgd2 => kernel_rfl
 intro a2 w2 hA hE HF
 have q4 := ksv (HF 4) rfl rfl rfl
 clear q0
 clear q1
 clear HF
 replace hB := Base.step hB hE hO; clear hE
 obtain ⟨x3, hx_, h⟩ := Comp.run_bind h; replace hx_ := Comp.run_pure hx_; rw [hx_] at q4; clear hx_
 refine li_nil (nx_then (wp_ret ?_))
 have h := Comp.run_pure h; subst h
 exact retPure Try.results83 hA q4 hB.ext rfl
theorem ok_slices_IsSorted_int_int {O : Tags} {w0 : World} (hO : OkO O w0) {v_0 : Value} {x_0 : List Int} (h_0 : (rSl (rInt .i64)).v O w0 v_0 x_0) {n : Nat} {y : Bool} (h : (slices_IsSorted_int_int x_0).run n = some y) : Pure Try.prog 75 #[v_0] w0 (SP.isv (.bool y)).holds := by
 unfold slices_IsSorted_int_int at h
 refine pure_of_wp Try.func75 rfl 21 Try.ntmps75 (by simp) fun a0 hA hs0 => ?_
 have q0 : a0.get 0 = v_0 := hs0 0 _ rfl
 clear hs0
 have hB : Base (Fr w0) O w0 O w0 := Base.start hO
 refine wp_seq ?_
 refine' region [_] mixed hA (.cons (fun _ _ hE hK hg => ok_assign rfl) .nil) ?zok1 ?zgd1 ?zk1
 case zok1 | zgd1 => kernel_rfl
 intro a1 w1 hA hE HF
 replace q0 := kn (HF 0) rfl q0
 clear HF
 replace h_0 := GR.v_ext _ h_0 hE
 replace hB := Base.step hB hE hO; clear hE
 refine li_nil (nx_then ?_)
 refine seq_join (fun a w => ∃ (O8 : Tags), a.fit 21 ∧ Base (Fr w0) O w0 O8 w ∧ (slices_IsSorted_int_int_j1 ).run n = some y) ?_ ?_
 ·
  refine wp_seq ?_
  refine' region [_, _, _, _] mixed hA (.cons (fun _ _ hE hK hg => ok_move (kn (hK 0 rfl) rfl q0)) (.cons (fun _ _ hE hK hg => okl_len (r := (rInt .i64)) ty23 (ksv (j := 0) (hK 4 rfl) rfl rfl rfl) (rd_of (GR.v_ext _ h_0 hE))) (.cons (fun _ _ hE hK hg => ok_sub (ksv (j := 1) (hK 5 rfl) rfl rfl rfl) rfl) (.cons (fun _ _ hE hK hg => ok_assign (ksv (j := 2) (hK 6 rfl) rfl rfl rfl)) .nil)))) ?zok2 ?zgd2 ?zk2
  case zok2 | zgd2 => kernel_rfl
  intro a2 w2 hA hE HF
  replace q0 := kn (HF 0) rfl q0
  have q3 := ksv (HF 3) rfl rfl rfl
  clear HF
  replace h_0 := GR.v_ext _ h_0 hE
  replace hB := Base.step hB hE hO; clear hE
  obtain ⟨x1, hx_, h⟩ := Comp.run_bind h; replace hx_ := Comp.run_pure hx_; rw [hx_] at q3; clear hx_
  refine li_nil (nx_then (wp_block ?_))
  obtain ⟨e2, he2, hk2⟩ := Comp.run_bind h; clear h
  refine loop_m (fun m a w => ∃ (O3 : Tags) (x2 : Int), a.fit 21 ∧ Base (Fr w0) O w0 O3 w ∧ a.get 0 = v_0 ∧ (rSl (rInt .i64)).v O3 w v_0 x_0 ∧ a.get 3 = .int .i64 x2 ∧ Comp.loopN (fun s => slices_IsSorted_int_int_l2 x_0 s) n m x2 = some e2) (m := n) ?st2 ?_
  case st2 =>
   exact ⟨_, _, hA, hB, q0, h_0, q3, Comp.run_loop he2⟩
  intro m_ a3 w3 hI
  clear hA hB he2 q0 q3 h_0
  obtain ⟨O3, x2, hA, hB, q0, h_0, q3, hl⟩ := hI
  obtain ⟨m2, hlt2, st2, h, hnext2, hdone2⟩ := Comp.loopN_succ hl; clear hl
  replace h : (slices_IsSorted_int_int_l2 x_0 x2).run n = some st2 := h
  unfold slices_IsSorted_int_int_l2 at h
  refine wp_seq (wp_seq ?_)
  refine' region [_, _] mixed hA (.cons (fun _ _ hE hK hg => ok_move (kn (hK 3 rfl) rfl q3)) (.cons (fun _ _ hE hK hg => ok_gtr (ksv (j := 0) (hK 7 rfl) rfl rfl rfl) rfl) .nil)) ?zok3 ?zgd3 ?zk3
  case zok3 | zgd3 => kernel_rfl
  intro a4 w4 hA hE HF
  replace q0 := kn (HF 0) rfl q0
  replace q3 := kn (HF 3) rfl q3
  have q8 := ksv (HF 8) rfl rfl rfl
  clear HF
  replace h_0 := GR.v_ext _ h_0 hE
  replace hB := Base.step hB hE hO; clear hE
  refine li_nil (nx_then ?_)
  refine wp_cond_b q8 (fun hc => ?_) (fun hc => ?_)
  ·
   replace h := Comp.run_b_t hc h; clear hc
   refine wp_skip (nx_then (wp_seq (wp_block (wp_seq ?_))))
   obtain ⟨x4, hx4, h⟩ := Comp.run_bind h
   obtain ⟨x5, hx5, h⟩ := Comp.run_bind h
   obtain ⟨x6, hx6, h⟩ := Comp.run_bind h
   refine' region [_, _, SP.ptr (rInt .i64) O3 x4, SP.isv (.int .i64 x4), _, _, _, SP.ptr (rInt .i64) O3 x5, SP.isv (.int .i64 x5), SP.isv (.bool x6)] mixed hA (.cons (fun _ _ hE hK hg => ok_move (kn (hK 0 rfl) rfl q0)) (.cons (fun _ _ hE hK hg => ok_move (kn (hK 3 rfl) rfl q3)) (.cons (fun _ _ hE hK hg => okl_idx (r := (rInt .i64)) (O := O3) ty23 ty3 rfl (ksv (j := 0) (hK 11 rfl) rfl rfl rfl) (rd_of (GR.v_ext _ h_0 hE)) (ksv (j := 1) (hK 12 rfl) rfl rfl rfl) hx4) (.cons (fun _ _ hE hK hg => okl_ldr (rInt .i64) (fun _ => rfl) ty3 rfl rfl rfl (kspS (φ := SP.ptr (rInt .i64) O3 x4) (j := 2) (hK 13 rfl) rfl rfl rfl) (fun _ _ _ h => rInt_v.1 h)) (.cons (fun _ _ hE hK hg => ok_move (kn (hK 0 rfl) rfl q0)) (.cons (fun _ _ hE hK hg => ok_move (kn (hK 3 rfl) rfl q3)) (.cons (fun _ _ hE hK hg => ok_sub (ksv (j := 5) (hK 16 rfl) rfl rfl rfl) rfl) (.cons (fun _ _ hE hK hg => okl_idx (r := (rInt .i64)) (O := O3) ty23 ty3 rfl (ksv (j := 4) (hK 15 rfl) rfl rfl rfl) (rd_of (GR.v_ext _ h_0 hE)) (ksv (j := 6) (hK 17 rfl) rfl rfl rfl) hx5) (.cons (fun _ _ hE hK hg => okl_ldr (rInt .i64) (fun _ => rfl) ty3 rfl rfl rfl (kspS (φ := SP.ptr (rInt .i64) O3 x5) (j := 7) (hK 18 rfl) rfl rfl rfl) (fun _ _ _ h => rInt_v.1 h)) (.cons ?z4_9 .nil)))))))))) ?zok4 ?zgd4 ?zk4
   case z4_9 => intro a' w' hE hK hg; have c_ := ok_cmp_Less_int (OkO.ext hB.ok hE)  hx6; exact ok_call2 fn83 (ksv (j := 3) (hK 14 rfl) rfl rfl rfl) (ksv (j := 8) (hK 19 rfl) rfl rfl rfl) c_
   case zok4 | zgd4 => kernel_rfl
   intro a5 w5 hA hE HF
   replace q0 := kn (HF 0) rfl q0
   replace q3 := kn (HF 3) rfl q3
   have q20 := ksv (HF 20) rfl rfl rfl
   clear q8
   clear HF
   replace h_0 := GR.v_ext _ h_0 hE
   replace hB := Base.step hB hE hO; clear hE
   refine li_nil (nx_then ?_)
   refine wp_cond_b q20 (fun hc => ?_) (fun hc => ?_)
   ·
    replace h := Comp.run_b_t hc h; clear hc
    refine wp_seq ?_
    refine' region [_] mixed hA (.cons (fun _ _ hE hK hg => ok_assign rfl) .nil) ?zok5 ?zgd5 ?zk5
    case zok5 | zgd5 => kernel_rfl
    intro a6 w6 hA hE HF
    have q2 := ksv (HF 2) rfl rfl rfl
    clear q0
    clear q3
    clear q20
    clear HF
    replace h_0 := GR.v_ext _ h_0 hE
    replace hB := Base.step hB hE hO; clear hE
    refine li_nil (nx_then (wp_ret (rt_blk (rt_then (rt_then (rt_blk (rt_then ?_)))))))
    have hd_ := hdone2 _ (Comp.run_pure h).symm; clear h
    subst hd_; have h := hk2; clear hk2; try dsimp only at h
    have h := Comp.run_pure h; subst h
    exact retPure Try.results75 hA q2 hB.ext rfl
   ·
    replace h := Comp.run_b_f hc h; clear hc
    refine wp_skip (nx_blk (nx_then ?_))
    refine' region [_, _, _] mixed hA (.cons (fun _ _ hE hK hg => ok_move (kn (hK 3 rfl) rfl q3)) (.cons (fun _ _ hE hK hg => ok_sub (ksv (j := 0) (hK 9 rfl) rfl rfl rfl) rfl) (.cons (fun _ _ hE hK hg => ok_assign (ksv (j := 1) (hK 10 rfl) rfl rfl rfl)) .nil))) ?zok6 ?zgd6 ?zk6
    case zok6 | zgd6 => kernel_rfl
    intro a7 w7 hA hE HF
    replace q0 := kn (HF 0) rfl q0
    have q3' := ksv (HF 3) rfl rfl rfl
    replace q3 := q3'; clear q3'
    clear q20
    clear HF
    replace h_0 := GR.v_ext _ h_0 hE
    replace hB := Base.step hB hE hO; clear hE
    refine li_nil (nx_then ?_)
    have h := hnext2 _ (Comp.run_pure h).symm
    refine ⟨m2, hlt2, ?_⟩
    exact ⟨_, _, hA, hB, q0, h_0, q3, h⟩
  ·
   replace h := Comp.run_b_f hc h; clear hc
   refine wp_exit (ex_then (ex_then (ex_same ?_)))
   have hd_ := hdone2 _ (Comp.run_pure h).symm; clear h
   subst hd_; have h := hk2; clear hk2; try dsimp only at h
   refine nx_then ?_
   exact ⟨_, hA, hB, h⟩
 intro a8 w8 hI
 clear hA hB h q0 h_0
 obtain ⟨O8, hA, hB, h⟩ := hI
 unfold slices_IsSorted_int_int_j1 at h
 refine wp_seq ?_
 refine' region [_] mixed hA (.cons (fun _ _ hE hK hg => ok_assign rfl) .nil) ?zok7 ?zgd7 ?zk7
 case zok7 | zgd7 => kernel_rfl
 intro a9 w9 hA hE HF
 have q2 := ksv (HF 2) rfl rfl rfl
 clear HF
 replace hB := Base.step hB hE hO; clear hE
 refine li_nil (nx_then (wp_ret ?_))
 have h := Comp.run_pure h; subst h
 exact retPure Try.results75 hA q2 hB.ext rfl
theorem ok_slices_Clone_int_int {O : Tags} {w0 : World} (hO : OkO O w0) {v_0 : Value} {x_0 : List Int} (h_0 : (rSl (rInt .i64)).v O w0 v_0 x_0) {n : Nat} {y : (List Int)} (h : (slices_Clone_int_int x_0).run n = some y) : Pure Try.prog 77 #[v_0] w0 (SP.ownr (rInt .i64) 3 (w0.heap.size) O y).holds := by
 unfold slices_Clone_int_int at h
 refine pure_of_wp Try.func77 rfl 8 Try.ntmps77 (by simp) fun a0 hA hs0 => ?_
 have q0 : a0.get 0 = v_0 := hs0 0 _ rfl
 clear hs0
 have hB : Base (Fr w0) O w0 O w0 := Base.start hO
 refine wp_seq ?_
 refine' region [_] mixed hA (.cons (fun _ _ hE hK hg => ok_assign rfl) .nil) ?zok1 ?zgd1 ?zk1
 case zok1 | zgd1 => kernel_rfl
 intro a1 w1 hA hE HF
 replace q0 := kn (HF 0) rfl q0
 clear HF
 replace h_0 := GR.v_ext _ h_0 hE
 replace hB := Base.step hB hE hO; clear hE
 refine li_nil (nx_then (wp_seq (wp_seq ?_)))
 refine' region [_, _] mixed hA (.cons (fun _ _ hE hK hg => ok_move (kn (hK 0 rfl) rfl q0)) (.cons (fun _ _ hE hK hg => okl_eqlNil ty23 (ksv (j := 0) (hK 3 rfl) rfl rfl rfl) (rd_of (GR.v_ext _ h_0 hE))) .nil)) ?zok2 ?zgd2 ?zk2
 case zok2 | zgd2 => kernel_rfl
 intro a2 w2 hA hE HF
 replace q0 := kn (HF 0) rfl q0
 have q4 := ksv (HF 4) rfl rfl rfl
 clear HF
 replace h_0 := GR.v_ext _ h_0 hE
 replace hB := Base.step hB hE hO; clear hE
 refine li_nil (nx_then ?_)
 refine wp_cond_b q4 (fun hc => ?_) (fun hc => ?_)
 ·
  have hnil := isNil_nil hc (rd_of h_0); subst hnil; replace h := clone_nil h
  refine wp_seq ?_
  refine' region [_] mixed hA (.cons (fun _ _ hE hK hg => ok_assign rfl) .nil) ?zok3 ?zgd3 ?zk3
  case zok3 | zgd3 => kernel_rfl
  intro a3 w3 hA hE HF
  have q2 := ksv (HF 2) rfl rfl rfl
  clear q0
  clear q4
  clear HF
  replace h_0 := GR.v_ext _ h_0 hE
  replace hB := Base.step hB hE hO; clear hE
  refine li_nil (nx_then (wp_ret (rt_then ?_)))
  have h := Comp.run_pure h; subst h
  exact retPure Try.results77 hA q2 hB.ext (OwnR.nil _ _ _ _ _)
 ·
  clear hc
  refine wp_skip (nx_then (wp_seq ?_))
  refine' regionT [] hA .nil ?zok4 ?zgd4 ?zk4
  case zok4 | zgd4 => kernel_rfl
  intro a4 w4 hA hE HF
  replace q0 := kn (HF 0) rfl q0
  clear q4
  clear HF
  replace h_0 := GR.v_ext _ h_0 hE
  replace hB := Base.step hB hE hO; clear hE
  refine l_ok (φ := SP.ownr (rInt .i64) 3 w4.heap.size O []) hO hB (by exact okl_buildSlice (r := (rInt .i64)) (fun _ => rfl) rfl hB.ok ty23 ty3 (Nat.le_refl _) parts_nil trivial rfl (by decide)) rfl fun u1 w5 hE hB' f2 => ?_
  clear hB'; obtain ⟨O3, hB', hX, f4⟩ := ownNew hO hB hE f2 rfl 1 (by decide)
  clear hB f2; have hB := hB'; clear hB'
  replace h_0 := GR.kx _ h_0 hX (by decide)
  clear hX hE
  refine put_cont hA (by decide) fun a6 hA q_ hfr => ?_
  replace q0 := (hfr 0 rfl).trans q0
  have q5 := q_; clear q_ hfr
  refine l_ok (φ := SP.isv (v_0)) hO hB (by exact ok_move q0) rfl fun u_ w7 hE hB' hv_ => ?_
  replace hv_ := Eq.symm hv_; subst hv_; clear hB; have hB := hB'; clear hB'
  replace h_0 := GR.v_ext _ h_0 hE
  replace f4 := f4.ext hE
  clear hE
  refine put_cont hA (by decide) fun a8 hA q_ hfr => ?_
  replace q0 := (hfr 0 rfl).trans q0
  replace q5 := (hfr 5 rfl).trans q5
  have q6 := q_; clear q_ hfr
  obtain ⟨x5, hx5, h⟩ := Comp.run_bind h
  refine l_append (r := (rInt .i64)) (fun _ => rfl) rfl ty23 ty3 rfl (by decide) hO hB (okB_fr hB) q5 f4 q6 (rd_of h_0) hx5 (by decide) fun u6 w9 O7 f8 hB' hX => ?_
  clear hB; have hB := hB'; clear hB'
  clear f4
  replace h_0 := GR.kx _ h_0 hX (by decide)
  clear hX
  refine put_cont hA (by decide) fun a10 hA q_ hfr => ?_
  replace q5 := (hfr 5 rfl).trans q5
  replace q6 := (hfr 6 rfl).trans q6
  have q7 := q_; clear q_ hfr
  refine l_ok (φ := SP.isv (u6)) hO hB (by exact ok_assign q7) rfl fun u_ w11 hE hB' hv_ => ?_
  replace hv_ := Eq.symm hv_; subst hv_; clear hB; have hB := hB'; clear hB'
  replace f8 := f8.ext hE
  clear hE
  refine put_cont hA (by decide) fun a12 hA q_ hfr => ?_
  replace q7 := (hfr 7 rfl).trans q7
  have q2 := q_; clear q_ hfr
  refine li_nil (nx_then (wp_ret ?_))
  have h := Comp.run_pure h; subst h
  exact retPure Try.results77 hA q2 hB.ext (OwnL.res f8 (by decide) hB.zero)
theorem ok_court_sorted {O : Tags} {w0 : World} (hO : OkO O w0) {v_0 : Value} {x_0 : List Int} (h_0 : (rSl (rInt .i64)).v O w0 v_0 x_0) {n : Nat} {y : Bool} (h : (court_sorted x_0).run n = some y) : Pure Try.prog 58 #[v_0] w0 (SP.isv (.bool y)).holds := by
 unfold court_sorted at h
 refine pure_of_wp Try.func58 rfl 14 Try.ntmps58 (by simp) fun a0 hA hs0 => ?_
 have q0 : a0.get 0 = v_0 := hs0 0 _ rfl
 clear hs0
 have hB : Base (Fr w0) O w0 O w0 := Base.start hO
 refine wp_seq ?_
 refine' region [_] mixed hA (.cons (fun _ _ hE hK hg => ok_assign rfl) .nil) ?zok1 ?zgd1 ?zk1
 case zok1 | zgd1 => kernel_rfl
 intro a1 w1 hA hE HF
 replace q0 := kn (HF 0) rfl q0
 clear HF
 replace h_0 := GR.v_ext _ h_0 hE
 replace hB := Base.step hB hE hO; clear hE
 refine li_nil (nx_then (wp_seq ?_))
 obtain ⟨x1, hx1, h⟩ := Comp.run_bind h
 obtain ⟨x2, hx2, h⟩ := Comp.run_bind h
 obtain ⟨x3, hx3, h⟩ := Comp.run_bind h
 obtain ⟨J_, eJ_⟩ : ∃ J_ : (Nat → Bool) → Act → World → Prop, J_ = (fun S_ a_ w_ => ∃ O_ : Tags, Base (Fr w0) O w0 O_ w_ ∧ Keep 0 O w1 O_ w_ ∧ (S_ 5 = true → (x1 == true) = true → (rSl (rInt .i64)).v O_ w_ (a_.get 8) x3) ∧ (S_ 4 = true → (x1 == true) = true → S_ 5 = false → OwnL 1 (rInt .i64) 3 (Fr w0) O_ w_ (a_.get 7) x2) ∧ (S_ 5 = true → (x1 == true) = true → OwnL 1 (rInt .i64) 3 (Fr w0) O_ w_ (.slice none 0 0) [])) := ⟨_, rfl⟩
 have T_ : ∀ {i_ : Nat} {d_ : Option Tmp} {v_ : Value} {S_ a' w' w2}, Nat.beq 4 i_ = false → Nat.beq 5 i_ = false → d_ ≠ some 7 → d_ ≠ some 8 → Ext w' w2 → J_ S_ a' w' → J_ (addS S_ i_) (a'.put d_ v_) w2 := by
  subst eJ_; intro i_ d_ v_ S_ a' w' w2 n4_ n5_ s7_ s8_ hE hJ_
  obtain ⟨O_, hB_, k0_, m5_, v0_0_, v0_1_⟩ := hJ_
  exact ⟨O_, (Base.step hB_ hE hO), (k0_.trans (KX.keep (KX.ext hE) (by decide))), fun h_ hG_ => put_other (d := d_) (t := 8) (φ := fun u_ => (rSl (rInt .i64)).v O_ w2 u_ x3) ((GR.v_mono _ (m5_ (addS_off n5_ h_) hG_) (KX.keep (KX.ext hE) (by decide)))) s8_, fun hp_ hG_ hq_ => put_other (d := d_) (t := 7) (φ := fun u_ => OwnL 1 (rInt .i64) 3 (Fr w0) O_ w2 (u_) x2) (OwnL.kx (v0_0_ (addS_off n4_ hp_) hG_ (addS_no hq_)) (KX.ext hE) (by decide) (by decide)) s7_, fun hp_ hG_ => OwnL.kx (v0_1_ (addS_off n5_ hp_) hG_) (KX.ext hE) (by decide) (by decide)⟩
 refine' regionX (draw := false) J_ [SP.isv (v_0), SP.isv (.bool x1), SP.isv (.bool x1), SP.isv (v_0), SP.tt, SP.tt, SP.isv (.int .i64 (x3.length : Int)), SP.isv (v_0), SP.isv (.int .i64 (x_0.length : Int)), SP.isv (.bool (decide ((x3.length : Int) = (x_0.length : Int)))), SP.isv (.bool (bif x1 then (decide ((x3.length : Int) = (x_0.length : Int))) else false)), SP.isv (.bool (bif x1 then (decide ((x3.length : Int) = (x_0.length : Int))) else false))] mixed hA (.cons (stE_isv _) (.cons (stE_isv _) (.cons (stE_isv _) (.cons (stE_isv _) (.cons (stE_tt _) (.cons (stE_tt _) (.cons (stE_isv _) (.cons (stE_isv _) (.cons (stE_isv _) (.cons (stE_isv _) (.cons (stE_isv _) (.cons (stE_isv _) .nil)))))))))))) (.cons ?z2_0 (.cons ?z2_1 (.cons ?z2_2 (.cons ?z2_3 (.cons ?z2_4 (.cons ?z2_5 (.cons ?z2_6 (.cons ?z2_7 (.cons ?z2_8 (.cons ?z2_9 (.cons ?z2_10 (.cons ?z2_11 .nil)))))))))))) ?zsk2 ?zst2 ?zok2 ?zgd2 ?zk2
 case z2_0 =>
  intro S_ a' w' hA_ hJ_ hS_ hafter_ hbef_ hK hg K_ Q_ hK_
  refine x_ok (φ := SP.isv (v_0)) (by exact ok_move (kn (hK 0 rfl) rfl q0)) fun v_ w2 hE hv_ => hK_ v_ w2 (T_ rfl rfl (by decide) (by decide) hE hJ_) hv_
 case z2_1 =>
  intro S_ a' w' hA_ hJ_ hS_ hafter_ hbef_ hK hg K_ Q_ hK_
  have hJ2_ := hJ_; rw [eJ_] at hJ2_; obtain ⟨O_, hB_, k0_, m5_, v0_0_, v0_1_⟩ := hJ2_
  refine x_ok (φ := SP.isv (.bool x1)) (by have c_ := ok_slices_IsSorted_int_int hB_.ok (GR.v_mono _ h_0 k0_) hx1; exact ok_call1 fn75 (ksv (j := 0) (hK 3 rfl) rfl rfl rfl) c_) fun v_ w2 hE hv_ => hK_ v_ w2 (T_ rfl rfl (by decide) (by decide) hE hJ_) hv_
 case z2_2 =>
  intro S_ a' w' hA_ hJ_ hS_ hafter_ hbef_ hK hg K_ Q_ hK_
  refine x_ok (φ := SP.isv (.bool x1)) (by exact ok_move (ksv (j := 1) (hK 4 rfl) rfl rfl rfl)) fun v_ w2 hE hv_ => hK_ v_ w2 (T_ rfl rfl (by decide) (by decide) hE hJ_) hv_
 case z2_3 =>
  intro S_ a' w' hA_ hJ_ hS_ hafter_ hbef_ hK hg K_ Q_ hK_
  refine x_ok (φ := SP.isv (v_0)) (by exact ok_move (kn (hK 0 rfl) rfl q0)) fun v_ w2 hE hv_ => hK_ v_ w2 (T_ rfl rfl (by decide) (by decide) hE hJ_) hv_
 case z2_4 =>
  intro S_ a' w' hA_ hJ_ hS_ hafter_ hbef_ hK hg K_ Q_ hK_
  subst eJ_
  obtain ⟨O_, hB_, k0_, m5_, v0_0_, v0_1_⟩ := hJ_
  refine x_ok (φ := SP.ownr (rInt .i64) 3 w'.heap.size O_ x2) (by have c_ := ok_slices_Clone_int_int hB_.ok (GR.v_mono _ h_0 k0_) (run_gdb hx2 hg); exact ok_weak (ok_call1 fn77 (ksv (j := 3) (hK 6 rfl) rfl rfl hg) c_) (fun _ _ _ h => h)) fun v_ w2 hE hv_ => ?_
  obtain ⟨O2_, hB2_, hX_, f_⟩ := ownNew hO hB_ hE hv_ rfl 1 (by decide)
  exact hK_ v_ w2 ⟨O2_, hB2_, (k0_.trans (KX.keep hX_ (by decide))), fun h_ hG_ => put_other (d := some 7) (t := 8) (φ := fun u_ => (rSl (rInt .i64)).v O2_ w2 u_ x3) ((GR.v_mono _ (m5_ (addS_off rfl h_) hG_) (KX.keep hX_ (by decide)))) (by decide), fun hp_ hG_ hq_ => put_me (φ := fun u_ => OwnL 1 (rInt .i64) 3 (Fr w0) O2_ w2 (u_) x2) hA_ (by decide) f_, fun hp_ hG_ => no_tf (addS_off rfl hp_) (hafter_ 5 (by kernel_rfl))⟩ trivial
 case z2_5 =>
  intro S_ a' w' hA_ hJ_ hS_ hafter_ hbef_ hK hg K_ Q_ hK_
  subst eJ_
  obtain ⟨O_, hB_, k0_, m5_, v0_0_, v0_1_⟩ := hJ_
  refine x_io (r := (rInt .i64)) (E := 3) (k := 1) hO hB_ (okB_fr hB_) fn76 (map1 rfl) (m_compact Try.slices_Compact_int Try.slices_Compact_int_empty hB_.ok (OwnL.arg (v0_0_ (addS_off rfl (hbef_ 4 (by kernel_rfl))) hg hS_) (by decide)) (run_gdb hx3 hg)) (v0_0_ (addS_off rfl (hbef_ 4 (by kernel_rfl))) hg hS_) (by decide) fun v_ u_ w2 O2_ f_ hB2_ hX_ hps_ => ?_
  replace hps_ : v_ = u_ := hps_; subst hps_
  obtain ⟨O3_, hB3_, hX3_, f3_⟩ := freezeL hO hB2_ f_ (by decide)
  have hX4_ := KX.trans_same hX_ hX3_
  exact hK_ v_ w2 ⟨O3_, hB3_, (k0_.trans (KX.keep hX4_ (by decide))), fun _ hG_ => put_me (φ := fun u_ => (rSl (rInt .i64)).v O3_ w2 u_ x3) hA_ (by decide) f3_, fun hp_ hG_ hq_ => addS_me hq_, fun hp_ hG_ => (OwnL.nil _ _ _ _ _ _)⟩ trivial
 case z2_6 =>
  intro S_ a' w' hA_ hJ_ hS_ hafter_ hbef_ hK hg K_ Q_ hK_
  have hJ2_ := hJ_; rw [eJ_] at hJ2_; obtain ⟨O_, hB_, k0_, m5_, v0_0_, v0_1_⟩ := hJ2_
  refine x_ok (φ := SP.isv (.int .i64 (x3.length : Int))) (by exact okl_len (r := (rInt .i64)) ty23 rfl (rd_of (m5_ (addS_off rfl (hbef_ 5 (by kernel_rfl))) hg))) fun v_ w2 hE hv_ => hK_ v_ w2 (T_ rfl rfl (by decide) (by decide) hE hJ_) hv_
 case z2_7 =>
  intro S_ a' w' hA_ hJ_ hS_ hafter_ hbef_ hK hg K_ Q_ hK_
  refine x_ok (φ := SP.isv (v_0)) (by exact ok_move (kn (hK 0 rfl) rfl q0)) fun v_ w2 hE hv_ => hK_ v_ w2 (T_ rfl rfl (by decide) (by decide) hE hJ_) hv_
 case z2_8 =>
  intro S_ a' w' hA_ hJ_ hS_ hafter_ hbef_ hK hg K_ Q_ hK_
  have hJ2_ := hJ_; rw [eJ_] at hJ2_; obtain ⟨O_, hB_, k0_, m5_, v0_0_, v0_1_⟩ := hJ2_
  refine x_ok (φ := SP.isv (.int .i64 (x_0.length : Int))) (by exact okl_len (r := (rInt .i64)) ty23 (ksv (j := 7) (hK 10 rfl) rfl rfl hg) (rd_of (GR.v_mono _ h_0 k0_))) fun v_ w2 hE hv_ => hK_ v_ w2 (T_ rfl rfl (by decide) (by decide) hE hJ_) hv_
 case z2_9 =>
  intro S_ a' w' hA_ hJ_ hS_ hafter_ hbef_ hK hg K_ Q_ hK_
  refine x_ok (φ := SP.isv (.bool (decide ((x3.length : Int) = (x_0.length : Int))))) (by exact ok_eqlI (ksv (j := 6) (hK 9 rfl) rfl rfl hg) (ksv (j := 8) (hK 11 rfl) rfl rfl hg)) fun v_ w2 hE hv_ => hK_ v_ w2 (T_ rfl rfl (by decide) (by decide) hE hJ_) hv_
 case z2_10 =>
  intro S_ a' w' hA_ hJ_ hS_ hafter_ hbef_ hK hg K_ Q_ hK_
  refine x_ok (φ := SP.isv (.bool (bif x1 then (decide ((x3.length : Int) = (x_0.length : Int))) else false))) (by exact ok_pick (ksv (j := 2) (hK 5 rfl) rfl rfl rfl) (fun hb => ksv (j := 9) (hK 12 rfl) rfl rfl (act_g1 rfl rfl hb)) (fun _ => rfl)) fun v_ w2 hE hv_ => hK_ v_ w2 (T_ rfl rfl (by decide) (by decide) hE hJ_) hv_
 case z2_11 =>
  intro S_ a' w' hA_ hJ_ hS_ hafter_ hbef_ hK hg K_ Q_ hK_
  refine x_ok (φ := SP.isv (.bool (bif x1 then (decide ((x3.length : Int) = (x_0.length : Int))) else false))) (by exact ok_assign (ksv (j := 10) (hK 13 rfl) rfl rfl rfl)) fun v_ w2 hE hv_ => hK_ v_ w2 (T_ rfl rfl (by decide) (by decide) hE hJ_) hv_
 case zsk2 =>
  subst eJ_
  intro i_ o_ S_ a_ w_ ho_ hact_ hA_ hS_ hbef_ hJ_
  obtain ⟨O_, hB_, k0_, m5_, v0_0_, v0_1_⟩ := hJ_
  exact ⟨O_, hB_, k0_, fun h_ hG_ => by obtain ⟨h1_, h2_⟩ := skip_off (j := 5) hact_ hG_ h_; exact put_other (t := 8) (φ := fun u_ => (rSl (rInt .i64)).v O_ w_ u_ x3) (m5_ h1_ hG_) (uniqDst_ne (j := 5) (by kernel_rfl) ho_ h2_), fun hp_ hG_ hq_ => by obtain ⟨h1_, h2_⟩ := skip_off (j := 4) hact_ hG_ hp_; exact put_other (t := 7) (φ := fun u_ => OwnL 1 (rInt .i64) 3 (Fr w0) O_ w_ (u_) x2) (v0_0_ h1_ hG_ (addS_no hq_)) (uniqDst_ne (j := 4) (by kernel_rfl) ho_ h2_), fun hp_ hG_ => by obtain ⟨h1_, h2_⟩ := skip_off (j := 5) hact_ hG_ hp_; exact (v0_1_ h1_ hG_)⟩
 case zst2 => subst eJ_; exact fun w1_ hE_ => ⟨O, (Base.step hB hE_ hO), (Keep.ext hE_), fun h_ => no_ft h_, fun hp_ => no_ft hp_, fun hp_ => no_ft hp_⟩
 case zok2 | zgd2 => kernel_rfl
 subst eJ_; clear T_
 intro a2 w2 hA HF hJ_
 obtain ⟨O4, hB_, k0_, m5_, v0_0_, v0_1_⟩ := hJ_
 have q2' := ksv (j := 11) (HF 2) rfl rfl rfl
 have q2 := q2'; clear q2'
 clear q0
 clear HF
 replace h_0 := GR.v_mono _ h_0 k0_
 clear hB; have hB := hB_; clear hB_
 clear k0_ m5_ v0_0_ v0_1_
 obtain ⟨x5, hx_, h⟩ := Comp.run_bind h; replace hx_ := Comp.run_pure hx_; rw [hx_] at q2; clear hx_
 refine nx_then (wp_ret ?_)
 have h := Comp.run_pure h; subst h
 exact retPure Try.results58 hA q2 hB.ext rfl
theorem ok_court_outside_f1 {O : Tags} {w0 : World} (hO : OkO O w0) {x_0 : Int} {v_1 : Value} {x_1 : Int} (h_1 : (rBox (rInt .i64)).v O w0 v_1 x_1) {n : Nat} {y : Bool} (h : (court_outside_f1 x_0 x_1).run n = some y) : Pure Try.prog 78 #[.int .i64 x_0, v_1] w0 (SP.isv (.bool y)).holds := by
 unfold court_outside_f1 at h
 refine pure_of_wp Try.func78 rfl 11 Try.ntmps78 (by simp) fun a0 hA hs0 => ?_
 have q0 : a0.get 0 = .int .i64 x_0 := hs0 0 _ rfl
 have q1 : a0.get 1 = v_1 := hs0 1 _ rfl
 clear hs0
 have hB : Base (Fr w0) O w0 O w0 := Base.start hO
 refine wp_seq ?_
 refine' region [_] mixed hA (.cons (fun _ _ hE hK hg => ok_assign rfl) .nil) ?zok1 ?zgd1 ?zk1
 case zok1 | zgd1 => kernel_rfl
 intro a1 w1 hA hE HF
 replace q0 := kn (HF 0) rfl q0
 replace q1 := kn (HF 1) rfl q1
 clear HF
 replace h_1 := GR.v_ext _ h_1 hE
 replace hB := Base.step hB hE hO; clear hE
 refine li_nil (nx_then (wp_seq ?_))
 refine' region [_, _, _, _, SP.isv (.int .i64 x_1), _, _, _] mixed hA (.cons (fun _ _ hE hK hg => ok_move (kn (hK 0 rfl) rfl q0)) (.cons (fun _ _ hE hK hg => ok_lss (ksv (j := 0) (hK 4 rfl) rfl rfl rfl) rfl) (.cons (fun _ _ hE hK hg => ok_move (ksv (j := 1) (hK 5 rfl) rfl rfl rfl)) (.cons (fun _ _ hE hK hg => ok_move (kn (hK 0 rfl) rfl q0)) (.cons (fun _ _ hE hK hg => okl_ldr (rInt .i64) (fun _ => rfl) ty3 rfl rfl (kn (hK 1 rfl) rfl q1) (ptr_of_box (fun _ => rfl) (GR.v_ext _ h_1 hE)) (fun _ _ _ h => rInt_v.1 h)) (.cons ?z2_5 (.cons ?z2_6 (.cons (fun _ _ hE hK hg => ok_assign (ksv (j := 6) (hK 10 rfl) rfl rfl rfl)) .nil)))))))) ?zok2 ?zgd2 ?zk2
 case z2_5 => intro a' w' hE hK hg; exact ok_geq (ksv (j := 3) (hK 7 rfl) rfl rfl hg) (ksv (j := 4) (hK 8 rfl) rfl rfl hg)
 case z2_6 => intro a' w' hE hK hg; exact ok_pick (ksv (j := 2) (hK 6 rfl) rfl rfl rfl) (fun _ => rfl) (fun hb => ksv (j := 5) (hK 9 rfl) rfl rfl (act_g1 rfl rfl hb))
 case zok2 | zgd2 => kernel_rfl
 intro a2 w2 hA hE HF
 have q3 := ksv (HF 3) rfl rfl rfl
 clear q0
 clear q1
 clear HF
 replace h_1 := GR.v_ext _ h_1 hE
 replace hB := Base.step hB hE hO; clear hE
 obtain ⟨x1, hx_, h⟩ := Comp.run_bind h; replace hx_ := Comp.run_pure hx_; rw [hx_] at q3; clear hx_
 refine li_nil (nx_then (wp_ret ?_))
 have h := Comp.run_pure h; subst h
 exact retPure Try.results78 hA q3 hB.ext rfl
theorem ok_slices_IndexFunc_int_int {O : Tags} {w0 : World} (hO : OkO O w0) {v_0 : Value} {x_0 : List Int} (h_0 : (rSl (rInt .i64)).v O w0 v_0 x_0) {v_1 : Value} {x_1 : Int → Comp Bool} (h_1 : (rF1 Try.prog (rInt .i64) (RS.c (fun x => .bool x))).v O w0 v_1 x_1) {n : Nat} {y : Int} (h : (slices_IndexFunc_int_int x_0 x_1).run n = some y) : Pure Try.prog 67 #[v_0, v_1] w0 (SP.isv (.int .i64 y)).holds := by
 unfold slices_IndexFunc_int_int at h
 refine pure_of_wp Try.func67 rfl 19 Try.ntmps67 (by simp) fun a0 hA hs0 => ?_
 have q0 : a0.get 0 = v_0 := hs0 0 _ rfl
 have q1 : a0.get 1 = v_1 := hs0 1 _ rfl
 clear hs0
 have hB : Base (Fr w0) O w0 O w0 := Base.start hO
 refine wp_seq ?_
 refine' region [_] mixed hA (.cons (fun _ _ hE hK hg => ok_assign rfl) .nil) ?zok1 ?zgd1 ?zk1
 case zok1 | zgd1 => kernel_rfl
 intro a1 w1 hA hE HF
 replace q0 := kn (HF 0) rfl q0
 replace q1 := kn (HF 1) rfl q1
 clear HF
 replace h_0 := GR.v_ext _ h_0 hE
 replace h_1 := GR.v_ext _ h_1 hE
 replace hB := Base.step hB hE hO; clear hE
 refine li_nil (nx_then ?_)
 refine seq_join (fun a w => ∃ (O6 : Tags), a.fit 19 ∧ Base (Fr w0) O w0 O6 w ∧ (slices_IndexFunc_int_int_j1 ).run n = some y) ?_ ?_
 ·
  refine wp_seq ?_
  refine' region [_, _, _] mixed hA (.cons (fun _ _ hE hK hg => ok_move (kn (hK 0 rfl) rfl q0)) (.cons (fun _ _ hE hK hg => okl_len (r := (rInt .i64)) ty23 (ksv (j := 0) (hK 6 rfl) rfl rfl rfl) (rd_of (GR.v_ext _ h_0 hE))) (.cons (fun _ _ hE hK hg => ok_move rfl) .nil))) ?zok2 ?zgd2 ?zk2
  case zok2 | zgd2 => kernel_rfl
  intro a2 w2 hA hE HF
  replace q0 := kn (HF 0) rfl q0
  replace q1 := kn (HF 1) rfl q1
  have q7 := ksv (HF 7) rfl rfl rfl
  have q8 := ksv (HF 8) rfl rfl rfl
  clear HF
  replace h_0 := GR.v_ext _ h_0 hE
  replace h_1 := GR.v_ext _ h_1 hE
  replace hB := Base.step hB hE hO; clear hE
  refine li_nil (nx_then (wp_block ?_))
  obtain ⟨e2, he2, hk2⟩ := Comp.run_bind h; clear h
  refine loop_m (fun m a w => ∃ (O2 : Tags) (x1 : Int), a.fit 19 ∧ Base (Fr w0) O w0 O2 w ∧ a.get 0 = v_0 ∧ (rSl (rInt .i64)).v O2 w v_0 x_0 ∧ a.get 1 = v_1 ∧ (rF1 Try.prog (rInt .i64) (RS.c (fun x => .bool x))).v O2 w v_1 x_1 ∧ a.get 7 = .int .i64 (x_0.length : Int) ∧ a.get 8 = .int .i64 x1 ∧ Comp.loopN (fun s => slices_IndexFunc_int_int_l2 x_0 x_1 s) n m x1 = some e2) (m := n) ?st2 ?_
  case st2 =>
   exact ⟨_, _, hA, hB, q0, h_0, q1, h_1, q7, q8, Comp.run_loop he2⟩
  intro m_ a3 w3 hI
  clear hA hB he2 q0 q1 q7 q8 h_0 h_1
  obtain ⟨O2, x1, hA, hB, q0, h_0, q1, h_1, q7, q8, hl⟩ := hI
  obtain ⟨m2, hlt2, st2, h, hnext2, hdone2⟩ := Comp.loopN_succ hl; clear hl
  replace h : (slices_IndexFunc_int_int_l2 x_0 x_1 x1).run n = some st2 := h
  unfold slices_IndexFunc_int_int_l2 at h
  refine wp_seq ?_
  refine' region [_] mixed hA (.cons (fun _ _ hE hK hg => ok_lss (kn (hK 8 rfl) rfl q8) (kn (hK 7 rfl) rfl q7)) .nil) ?zok3 ?zgd3 ?zk3
  case zok3 | zgd3 => kernel_rfl
  intro a4 w4 hA hE HF
  replace q0 := kn (HF 0) rfl q0
  replace q1 := kn (HF 1) rfl q1
  replace q7 := kn (HF 7) rfl q7
  replace q8 := kn (HF 8) rfl q8
  have q9 := ksv (HF 9) rfl rfl rfl
  clear HF
  replace h_0 := GR.v_ext _ h_0 hE
  replace h_1 := GR.v_ext _ h_1 hE
  replace hB := Base.step hB hE hO; clear hE
  refine li_nil (nx_then (wp_seq ?_))
  refine wp_cond_b q9 (fun hc => ?_) (fun hc => ?_)
  ·
   replace h := Comp.run_b_t hc h; clear hc
   refine wp_skip (nx_then (wp_seq (wp_block (wp_seq ?_))))
   refine' region [_, _] mixed hA (.cons (fun _ _ hE hK hg => ok_move (kn (hK 8 rfl) rfl q8)) (.cons (fun _ _ hE hK hg => ok_assign (ksv (j := 0) (hK 10 rfl) rfl rfl rfl)) .nil)) ?zok4 ?zgd4 ?zk4
   case zok4 | zgd4 => kernel_rfl
   intro a5 w5 hA hE HF
   replace q0 := kn (HF 0) rfl q0
   replace q1 := kn (HF 1) rfl q1
   have q5 := ksv (HF 5) rfl rfl rfl
   replace q7 := kn (HF 7) rfl q7
   replace q8 := kn (HF 8) rfl q8
   clear q9
   clear HF
   replace h_0 := GR.v_ext _ h_0 hE
   replace h_1 := GR.v_ext _ h_1 hE
   replace hB := Base.step hB hE hO; clear hE
   refine li_nil (nx_then (wp_seq ?_))
   obtain ⟨x3, hx3, h⟩ := Comp.run_bind h
   obtain ⟨x4, hx4, h⟩ := Comp.run_bind h
   refine' region [_, _, _, SP.ptr (rInt .i64) O2 x3, SP.isv (.int .i64 x3), SP.isv (.bool x4)] mixed hA (.cons (fun _ _ hE hK hg => ok_move (kn (hK 1 rfl) rfl q1)) (.cons (fun _ _ hE hK hg => ok_move (kn (hK 0 rfl) rfl q0)) (.cons (fun _ _ hE hK hg => ok_move (kn (hK 5 rfl) rfl q5)) (.cons (fun _ _ hE hK hg => okl_idx (r := (rInt .i64)) (O := O2) ty23 ty3 rfl (ksv (j := 1) (hK 12 rfl) rfl rfl rfl) (rd_of (GR.v_ext _ h_0 hE)) (ksv (j := 2) (hK 13 rfl) rfl rfl rfl) hx3) (.cons (fun _ _ hE hK hg => okl_ldr (rInt .i64) (fun _ => rfl) ty3 rfl rfl rfl (kspS (φ := SP.ptr (rInt .i64) O2 x3) (j := 3) (hK 14 rfl) rfl rfl rfl) (fun _ _ _ h => rInt_v.1 h)) (.cons (fun _ _ hE hK hg => okl_callv1 (R := (RS.c (fun x => .bool x))) (ksv (j := 0) (hK 11 rfl) rfl rfl rfl) (show ((rF1 Try.prog (rInt .i64) (RS.c (fun x => .bool x)))).v O2 _ _ _ from (GR.v_ext _ h_1 hE)) (OkO.ext hB.ok hE) (ksv (j := 4) (hK 15 rfl) rfl rfl rfl) (by exact rInt_v.2 rfl) hx4) .nil)))))) ?zok5 ?zgd5 ?zk5
   case zok5 | zgd5 => kernel_rfl
   intro a6 w6 hA hE HF
   replace q0 := kn (HF 0) rfl q0
   replace q1 := kn (HF 1) rfl q1
   replace q5 := kn (HF 5) rfl q5
   replace q7 := kn (HF 7) rfl q7
   replace q8 := kn (HF 8) rfl q8
   have q16 := ksv (HF 16) rfl rfl rfl
   clear HF
   replace h_0 := GR.v_ext _ h_0 hE
   replace h_1 := GR.v_ext _ h_1 hE
   replace hB := Base.step hB hE hO; clear hE
   refine li_nil (nx_then ?_)
   refine wp_cond_b q16 (fun hc => ?_) (fun hc => ?_)
   ·
    replace h := Comp.run_b_t hc h; clear hc
    refine wp_seq ?_
    refine' region [_, _] mixed hA (.cons (fun _ _ hE hK hg => ok_move (kn (hK 5 rfl) rfl q5)) (.cons (fun _ _ hE hK hg => ok_assign (ksv (j := 0) (hK 17 rfl) rfl rfl rfl)) .nil)) ?zok6 ?zgd6 ?zk6
    case zok6 | zgd6 => kernel_rfl
    intro a7 w7 hA hE HF
    have q4 := ksv (HF 4) rfl rfl rfl
    clear q0
    clear q1
    clear q5
    clear q7
    clear q8
    clear q16
    clear HF
    replace h_0 := GR.v_ext _ h_0 hE
    replace h_1 := GR.v_ext _ h_1 hE
    replace hB := Base.step hB hE hO; clear hE
    refine li_nil (nx_then (wp_ret (rt_blk (rt_then (rt_then (rt_blk (rt_then ?_)))))))
    have hd_ := hdone2 _ (Comp.run_pure h).symm; clear h
    subst hd_; have h := hk2; clear hk2; try dsimp only at h
    have h := Comp.run_pure h; subst h
    exact retPure Try.results67 hA q4 hB.ext rfl
   ·
    replace h := Comp.run_b_f hc h; clear hc
    refine wp_skip (nx_blk (nx_then ?_))
    refine' region [_, _] mixed hA (.cons (fun _ _ hE hK hg => ok_add (kn (hK 8 rfl) rfl q8) rfl) (.cons (fun _ _ hE hK hg => ok_move (ksv (j := 0) (hK 18 rfl) rfl rfl rfl)) .nil)) ?zok7 ?zgd7 ?zk7
    case zok7 | zgd7 => kernel_rfl
    intro a8 w8 hA hE HF
    replace q0 := kn (HF 0) rfl q0
    replace q1 := kn (HF 1) rfl q1
    replace q7 := kn (HF 7) rfl q7
    have q8' := ksv (HF 8) rfl rfl rfl
    replace q8 := q8'; clear q8'
    clear q5
    clear q16
    clear HF
    replace h_0 := GR.v_ext _ h_0 hE
    replace h_1 := GR.v_ext _ h_1 hE
    replace hB := Base.step hB hE hO; clear hE
    refine li_nil (nx_then ?_)
    have h := hnext2 _ (Comp.run_pure h).symm
    refine ⟨m2, hlt2, ?_⟩
    exact ⟨_, _, hA, hB, q0, h_0, q1, h_1, q7, q8, h⟩
  ·
   replace h := Comp.run_b_f hc h; clear hc
   refine wp_exit (ex_then (ex_then (ex_same ?_)))
   have hd_ := hdone2 _ (Comp.run_pure h).symm; clear h
   subst hd_; have h := hk2; clear hk2; try dsimp only at h
   refine nx_then ?_
   exact ⟨_, hA, hB, h⟩
 intro a9 w9 hI
 clear hA hB h q0 q1 h_0 h_1
 obtain ⟨O6, hA, hB, h⟩ := hI
 unfold slices_IndexFunc_int_int_j1 at h
 refine wp_seq ?_
 refine' region [_] mixed hA (.cons (fun _ _ hE hK hg => ok_assign rfl) .nil) ?zok8 ?zgd8 ?zk8
 case zok8 | zgd8 => kernel_rfl
 intro a10 w10 hA hE HF
 have q4 := ksv (HF 4) rfl rfl rfl
 clear HF
 replace hB := Base.step hB hE hO; clear hE
 refine li_nil (nx_then (wp_ret ?_))
 have h := Comp.run_pure h; subst h
 exact retPure Try.results67 hA q4 hB.ext rfl
theorem ok_slices_ContainsFunc_int_int {O : Tags} {w0 : World} (hO : OkO O w0) {v_0 : Value} {x_0 : List Int} (h_0 : (rSl (rInt .i64)).v O w0 v_0 x_0) {v_1 : Value} {x_1 : Int → Comp Bool} (h_1 : (rF1 Try.prog (rInt .i64) (RS.c (fun x => .bool x))).v O w0 v_1 x_1) {n : Nat} {y : Bool} (h : (slices_ContainsFunc_int_int x_0 x_1).run n = some y) : Pure Try.prog 48 #[v_0, v_1] w0 (SP.isv (.bool y)).holds := by
 unfold slices_ContainsFunc_int_int at h
 refine pure_of_wp Try.func48 rfl 9 Try.ntmps48 (by simp) fun a0 hA hs0 => ?_
 have q0 : a0.get 0 = v_0 := hs0 0 _ rfl
 have q1 : a0.get 1 = v_1 := hs0 1 _ rfl
 clear hs0
 have hB : Base (Fr w0) O w0 O w0 := Base.start hO
 refine wp_seq ?_
 refine' region [_] mixed hA (.cons (fun _ _ hE hK hg => ok_assign rfl) .nil) ?zok1 ?zgd1 ?zk1
 case zok1 | zgd1 => kernel_rfl
 intro a1 w1 hA hE HF
 replace q0 := kn (HF 0) rfl q0
 replace q1 := kn (HF 1) rfl q1
 clear HF
 replace h_0 := GR.v_ext _ h_0 hE
 replace h_1 := GR.v_ext _ h_1 hE
 replace hB := Base.step hB hE hO; clear hE
 refine li_nil (nx_then (wp_seq ?_))
 obtain ⟨x1, hx1, h⟩ := Comp.run_bind h
 refine' region [_, _, SP.isv (.int .i64 x1), _, _] mixed hA (.cons (fun _ _ hE hK hg => ok_move (kn (hK 0 rfl) rfl q0)) (.cons (fun _ _ hE hK hg => ok_move (kn (hK 1 rfl) rfl q1)) (.cons ?z2_2 (.cons (fun _ _ hE hK hg => ok_geq (ksv (j := 2) (hK 7 rfl) rfl rfl rfl) rfl) (.cons (fun _ _ hE hK hg => ok_assign (ksv (j := 3) (hK 8 rfl) rfl rfl rfl)) .nil))))) ?zok2 ?zgd2 ?zk2
 case z2_2 => intro a' w' hE hK hg; have c_ := ok_slices_IndexFunc_int_int (OkO.ext hB.ok hE) (GR.v_ext _ h_0 hE) (GR.v_ext _ h_1 hE) hx1; exact ok_call2 fn67 (ksv (j := 0) (hK 5 rfl) rfl rfl rfl) (ksv (j := 1) (hK 6 rfl) rfl rfl rfl) c_
 case zok2 | zgd2 => kernel_rfl
 intro a2 w2 hA hE HF
 have q4 := ksv (HF 4) rfl rfl rfl
 clear q0
 clear q1
 clear HF
 replace h_0 := GR.v_ext _ h_0 hE
 replace h_1 := GR.v_ext _ h_1 hE
 replace hB := Base.step hB hE hO; clear hE
 refine li_nil (nx_then (wp_ret ?_))
 have h := Comp.run_pure h; subst h
 exact retPure Try.results48 hA q4 hB.ext rfl
theorem ok_court_outside {O : Tags} {w0 : World} (hO : OkO O w0) {v_0 : Value} {x_0 : List Int} (h_0 : (rSl (rInt .i64)).v O w0 v_0 x_0) {x_1 : Int} {n : Nat} {y : Bool} (h : (court_outside x_0 x_1).run n = some y) : Pure Try.prog 59 #[v_0, .int .i64 x_1] w0 (SP.isv (.bool y)).holds := by
 unfold court_outside at h
 refine pure_of_wp Try.func59 rfl 8 Try.ntmps59 (by simp) fun a0 hA hs0 => ?_
 have q0 : a0.get 0 = v_0 := hs0 0 _ rfl
 have q1 : a0.get 1 = .int .i64 x_1 := hs0 1 _ rfl
 clear hs0
 have hB : Base (Fr w0) O w0 O w0 := Base.start hO
 refine wp_seq ?_
 refine' region [SP.vl (rBox (rInt .i64)) O x_1, _] mixed hA (.cons (fun _ _ hE hK hg => okl_boxV (r := (rInt .i64)) (fun _ => rfl) (OkO.ext hB.ok hE) (kn (hK 1 rfl) rfl q1) (by exact rInt_v.2 rfl)) (.cons (fun _ _ hE hK hg => ok_assign rfl) .nil)) ?zok1 ?zgd1 ?zk1
 case zok1 | zgd1 => kernel_rfl
 intro a1 w1 hA hE HF
 replace q0 := kn (HF 0) rfl q0
 have f2 := ksp (HF 3) rfl rfl rfl
 obtain ⟨u1, q3'⟩ : ∃ u, a1.get 3 = u := ⟨_, rfl⟩
 rw [q3'] at f2
 have q3 := q3'; clear q3'
 clear q1
 clear HF
 replace h_0 := GR.v_ext _ h_0 hE
 replace hB := Base.step hB hE hO; clear hE
 refine li_nil (nx_then (wp_seq ?_))
 obtain ⟨x3, hx3, h⟩ := Comp.run_bind h
 refine' region [_, SP.isv (.func (.func 78) #[] #[u1]), SP.isv (.bool x3), _] mixed hA (.cons (fun _ _ hE hK hg => ok_move (kn (hK 0 rfl) rfl q0)) (.cons (fun _ _ hE hK hg => ok_makeFunc map0 (map1 (kn (hK 3 rfl) rfl q3))) (.cons ?z2_2 (.cons (fun _ _ hE hK hg => ok_assign (ksv (j := 2) (hK 7 rfl) rfl rfl rfl)) .nil)))) ?zok2 ?zgd2 ?zk2
 case z2_2 => intro a' w' hE hK hg; have c_ := ok_slices_ContainsFunc_int_int (OkO.ext hB.ok hE) (GR.v_ext _ h_0 hE) (show (rF1 Try.prog (rInt .i64) (RS.c (fun x => .bool x))).v O _ (.func (.func 78) #[] #[u1]) (fun z0 => court_outside_f1 z0 x_1) from rF1_v.2 ⟨rfl, fun O' w' hO' hk v_0 x_0 hv_0 n_ y_ hy_ => by obtain rfl := rInt_v.1 hv_0; exact callV_func fn78 (ok_court_outside_f1 hO'  (GR.v_mono _ (GR.v_ext _ f2 hE) hk) hy_)⟩) hx3; exact ok_call2 fn48 (ksv (j := 0) (hK 5 rfl) rfl rfl rfl) (ksv (j := 1) (hK 6 rfl) rfl rfl rfl) c_
 case zok2 | zgd2 => kernel_rfl
 intro a2 w2 hA hE HF
 have q4 := ksv (HF 4) rfl rfl rfl
 clear q0
 clear q3
 clear HF
 replace h_0 := GR.v_ext _ h_0 hE
 replace f2 := GR.v_ext _ f2 hE
 replace hB := Base.step hB hE hO; clear hE
 refine li_nil (nx_then (wp_ret ?_))
 have h := Comp.run_pure h; subst h
 exact retPure Try.results59 hA q4 hB.ext rfl
theorem ok_court_check {O : Tags} {w0 : World} (hO : OkO O w0) {v_0 : Value} {x_0 : api_Claim} (h_0 : r_api_Claim.v O w0 v_0 x_0) {x_1 : Int} {n : Nat} {y : Int} (h : (court_check x_0 x_1).run n = some y) : Pure Try.prog 38 #[v_0, .int .i64 x_1] w0 (SP.isv (.int .i64 y)).holds := by
 unfold court_check at h
 refine pure_of_wp Try.func38 rfl 87 Try.ntmps38 (by simp) fun a0 hA hs0 => ?_
 have q0 : a0.get 0 = v_0 := hs0 0 _ rfl
 have q1 : a0.get 1 = .int .i64 x_1 := hs0 1 _ rfl
 clear hs0
 have hB : Base (Fr w0) O w0 O w0 := Base.start hO
 refine wp_seq ?_
 refine' region [SP.vl (rBox r_api_Claim) O x_0, _] mixed hA (.cons (fun _ _ hE hK hg => okl_boxV (r := r_api_Claim) fit_api_Claim (OkO.ext hB.ok hE) (kn (hK 0 rfl) rfl q0) (GR.v_ext _ h_0 hE)) (.cons (fun _ _ hE hK hg => ok_assign rfl) .nil)) ?zok1 ?zgd1 ?zk1
 case zok1 | zgd1 => kernel_rfl
 intro a1 w1 hA hE HF
 replace q1 := kn (HF 1) rfl q1
 have f2 := ksp (HF 2) rfl rfl rfl
 obtain ⟨u1, q2'⟩ : ∃ u, a1.get 2 = u := ⟨_, rfl⟩
 rw [q2'] at f2
 have q2 := q2'; clear q2'
 clear q0
 clear HF
 replace h_0 := GR.v_ext _ h_0 hE
 replace hB := Base.step hB hE hO; clear hE
 refine li_nil (nx_then (wp_seq ?_))
 refine' region [SP.isv (.func (.func 56) #[] #[u1]), _] mixed hA (.cons (fun _ _ hE hK hg => ok_makeFunc map0 (map1 (kn (hK 2 rfl) rfl q2))) (.cons (fun _ _ hE hK hg => ok_assign (ksv (j := 0) (hK 6 rfl) rfl rfl rfl)) .nil)) ?zok2 ?zgd2 ?zk2
 case zok2 | zgd2 => kernel_rfl
 intro a2 w2 hA hE HF
 replace q1 := kn (HF 1) rfl q1
 replace q2 := kn (HF 2) rfl q2
 have q5 := ksv (HF 5) rfl rfl rfl
 clear HF
 replace f2 := GR.v_ext _ f2 hE
 replace hB := Base.step hB hE hO; clear hE
 have f3 : (rF1 Try.prog (rInt .i64) (RS.c (fun x => .bool x))).v O w2 (.func (.func 56) #[] #[u1]) (fun z0 => court_check_f1 z0 x_0) := rF1_v.2 ⟨rfl, fun O' w' hO' hk v_0 x_0 hv_0 n_ y_ hy_ => by obtain rfl := rInt_v.1 hv_0; exact callV_func fn56 (ok_court_check_f1 hO'  (GR.v_mono _ f2 hk) hy_)⟩
 refine li_nil (nx_then (wp_seq (wp_block (wp_seq ?_))))
 refine' region [SP.ptr (rInt .i64) O x_0.Party, SP.isv (.int .i64 x_0.Party), _, _, SP.ptr (rInt .i64) O x_0.Party, SP.isv (.int .i64 x_0.Party), _, _, _] mixed hA (.cons (fun _ _ hE hK hg => okl_fldB (S := r_api_Claim) fit_api_Claim rfl (fun _ => rfl) sb_api_Claim_0 fl33_0 (kn (hK 2 rfl) rfl q2) (GR.v_ext _ f2 hE)) (.cons (fun _ _ hE hK hg => okl_ldr (rInt .i64) (fun _ => rfl) ty3 rfl rfl rfl (kspS (φ := SP.ptr (rInt .i64) O x_0.Party) (j := 0) (hK 8 rfl) rfl rfl rfl) (fun _ _ _ h => rInt_v.1 h)) (.cons (fun _ _ hE hK hg => ok_lss (ksv (j := 1) (hK 9 rfl) rfl rfl rfl) rfl) (.cons (fun _ _ hE hK hg => ok_move (ksv (j := 2) (hK 10 rfl) rfl rfl rfl)) (.cons (fun _ _ hE hK hg => okl_fldB (S := r_api_Claim) fit_api_Claim rfl (fun _ => rfl) sb_api_Claim_0 fl33_0 (kn (hK 2 rfl) rfl q2) (GR.v_ext _ f2 hE)) (.cons ?z3_5 (.cons ?z3_6 (.cons ?z3_7 (.cons (fun _ _ hE hK hg => ok_assign (ksv (j := 7) (hK 15 rfl) rfl rfl rfl)) .nil))))))))) ?zok3 ?zgd3 ?zk3
 case z3_5 => intro a' w' hE hK hg; exact okl_ldr (rInt .i64) (fun _ => rfl) ty3 rfl rfl rfl (kspS (φ := SP.ptr (rInt .i64) O x_0.Party) (j := 4) (hK 12 rfl) rfl rfl hg) (fun _ _ _ h => rInt_v.1 h)
 case z3_6 => intro a' w' hE hK hg; exact ok_geq (ksv (j := 5) (hK 13 rfl) rfl rfl hg) rfl
 case z3_7 => intro a' w' hE hK hg; exact ok_pick (ksv (j := 3) (hK 11 rfl) rfl rfl rfl) (fun _ => rfl) (fun hb => ksv (j := 6) (hK 14 rfl) rfl rfl (act_g1 rfl rfl hb))
 case zok3 | zgd3 => kernel_rfl
 intro a3 w3 hA hE HF
 replace q1 := kn (HF 1) rfl q1
 replace q2 := kn (HF 2) rfl q2
 replace q5 := kn (HF 5) rfl q5
 have q7 := ksv (HF 7) rfl rfl rfl
 clear HF
 replace f2 := GR.v_ext _ f2 hE
 replace f3 := GR.v_ext _ f3 hE
 replace hB := Base.step hB hE hO; clear hE
 obtain ⟨x4, hx_, h⟩ := Comp.run_bind h; replace hx_ := Comp.run_pure hx_; rw [hx_] at q7; clear hx_
 refine li_nil (nx_then ?_)
 refine wp_cond_b q7 (fun hc => ?_) (fun hc => ?_)
 ·
  replace h := Comp.run_b_t hc h; clear hc
  refine wp_seq ?_
  refine' region [_] mixed hA (.cons (fun _ _ hE hK hg => ok_assign rfl) .nil) ?zok4 ?zgd4 ?zk4
  case zok4 | zgd4 => kernel_rfl
  intro a4 w4 hA hE HF
  have q4 := ksv (HF 4) rfl rfl rfl
  clear q1
  clear q2
  clear q5
  clear q7
  clear HF
  replace f2 := GR.v_ext _ f2 hE
  replace f3 := GR.v_ext _ f3 hE
  replace hB := Base.step hB hE hO; clear hE
  refine li_nil (nx_then (wp_ret (rt_blk (rt_then ?_))))
  have h := Comp.run_pure h; subst h
  exact retPure Try.results38 hA q4 hB.ext rfl
 ·
  replace h := Comp.run_b_f hc h; clear hc
  refine wp_seq ?_
  refine' region [SP.ptr (rInt .i64) O x_0.Kind, SP.isv (.int .i64 x_0.Kind), _, _, SP.ptr (rInt .i64) O x_0.Kind, SP.isv (.int .i64 x_0.Kind), _, _, _] mixed hA (.cons (fun _ _ hE hK hg => okl_fldB (S := r_api_Claim) fit_api_Claim rfl (fun _ => rfl) sb_api_Claim_1 fl33_1 (kn (hK 2 rfl) rfl q2) (GR.v_ext _ f2 hE)) (.cons (fun _ _ hE hK hg => okl_ldr (rInt .i64) (fun _ => rfl) ty3 rfl rfl rfl (kspS (φ := SP.ptr (rInt .i64) O x_0.Kind) (j := 0) (hK 17 rfl) rfl rfl rfl) (fun _ _ _ h => rInt_v.1 h)) (.cons (fun _ _ hE hK hg => ok_lss (ksv (j := 1) (hK 18 rfl) rfl rfl rfl) rfl) (.cons (fun _ _ hE hK hg => ok_move (ksv (j := 2) (hK 19 rfl) rfl rfl rfl)) (.cons (fun _ _ hE hK hg => okl_fldB (S := r_api_Claim) fit_api_Claim rfl (fun _ => rfl) sb_api_Claim_1 fl33_1 (kn (hK 2 rfl) rfl q2) (GR.v_ext _ f2 hE)) (.cons ?z5_5 (.cons ?z5_6 (.cons ?z5_7 (.cons (fun _ _ hE hK hg => ok_assign (ksv (j := 7) (hK 24 rfl) rfl rfl rfl)) .nil))))))))) ?zok5 ?zgd5 ?zk5
  case z5_5 => intro a' w' hE hK hg; exact okl_ldr (rInt .i64) (fun _ => rfl) ty3 rfl rfl rfl (kspS (φ := SP.ptr (rInt .i64) O x_0.Kind) (j := 4) (hK 21 rfl) rfl rfl hg) (fun _ _ _ h => rInt_v.1 h)
  case z5_6 => intro a' w' hE hK hg; exact ok_gtr (ksv (j := 5) (hK 22 rfl) rfl rfl hg) rfl
  case z5_7 => intro a' w' hE hK hg; exact ok_pick (ksv (j := 3) (hK 20 rfl) rfl rfl rfl) (fun _ => rfl) (fun hb => ksv (j := 6) (hK 23 rfl) rfl rfl (act_g1 rfl rfl hb))
  case zok5 | zgd5 => kernel_rfl
  intro a5 w5 hA hE HF
  replace q1 := kn (HF 1) rfl q1
  replace q2 := kn (HF 2) rfl q2
  replace q5 := kn (HF 5) rfl q5
  have q16 := ksv (HF 16) rfl rfl rfl
  clear q7
  clear HF
  replace f2 := GR.v_ext _ f2 hE
  replace f3 := GR.v_ext _ f3 hE
  replace hB := Base.step hB hE hO; clear hE
  obtain ⟨x5, hx_, h⟩ := Comp.run_bind h; replace hx_ := Comp.run_pure hx_; rw [hx_] at q16; clear hx_
  refine li_nil (nx_then ?_)
  refine wp_cond_b q16 (fun hc => ?_) (fun hc => ?_)
  ·
   replace h := Comp.run_b_t hc h; clear hc
   refine wp_seq ?_
   refine' region [_] mixed hA (.cons (fun _ _ hE hK hg => ok_assign rfl) .nil) ?zok6 ?zgd6 ?zk6
   case zok6 | zgd6 => kernel_rfl
   intro a6 w6 hA hE HF
   have q4 := ksv (HF 4) rfl rfl rfl
   clear q1
   clear q2
   clear q5
   clear q16
   clear HF
   replace f2 := GR.v_ext _ f2 hE
   replace f3 := GR.v_ext _ f3 hE
   replace hB := Base.step hB hE hO; clear hE
   refine li_nil (nx_then (wp_ret (rt_blk (rt_then ?_))))
   have h := Comp.run_pure h; subst h
   exact retPure Try.results38 hA q4 hB.ext rfl
  ·
   replace h := Comp.run_b_f hc h; clear hc
   refine wp_seq ?_
   obtain ⟨x6, hx6, h⟩ := Comp.run_bind h
   obtain ⟨x7, hx7, h⟩ := Comp.run_bind h
   refine' region [SP.ptr (rSl (rInt .i64)) O x_0.Sure, SP.vl (rSl (rInt .i64)) O x_0.Sure, SP.isv (.bool x6), _, _, SP.ptr (rSl (rInt .i64)) O x_0.Touched, SP.vl (rSl (rInt .i64)) O x_0.Touched, SP.isv (.bool x7), _, _, _] mixed hA (.cons (fun _ _ hE hK hg => okl_fldB (S := r_api_Claim) fit_api_Claim rfl (fun _ => rfl) sb_api_Claim_3 fl33_3 (kn (hK 2 rfl) rfl q2) (GR.v_ext _ f2 hE)) (.cons (fun _ _ hE hK hg => okl_ld (r := (rSl (rInt .i64))) (fun _ => rfl) ty23 rfl rfl rfl (kspS (φ := SP.ptr (rSl (rInt .i64)) O x_0.Sure) (j := 0) (hK 26 rfl) rfl rfl rfl)) (.cons ?z7_2 (.cons (fun _ _ hE hK hg => ok_not (ksv (j := 2) (hK 28 rfl) rfl rfl rfl)) (.cons (fun _ _ hE hK hg => ok_move (ksv (j := 3) (hK 29 rfl) rfl rfl rfl)) (.cons (fun _ _ hE hK hg => okl_fldB (S := r_api_Claim) fit_api_Claim rfl (fun _ => rfl) sb_api_Claim_4 fl33_4 (kn (hK 2 rfl) rfl q2) (GR.v_ext _ f2 hE)) (.cons ?z7_6 (.cons ?z7_7 (.cons ?z7_8 (.cons ?z7_9 (.cons (fun _ _ hE hK hg => ok_assign (ksv (j := 9) (hK 35 rfl) rfl rfl rfl)) .nil))))))))))) ?zok7 ?zgd7 ?zk7
   case z7_2 => intro a' w' hE hK hg; have c_ := ok_court_sorted (OkO.ext hB.ok hE) (kspS (φ := SP.vl (rSl (rInt .i64)) O x_0.Sure) (j := 1) (hK 27 rfl) rfl rfl rfl) hx6; exact ok_call1 fn58 rfl c_
   case z7_6 => intro a' w' hE hK hg; exact okl_ld (r := (rSl (rInt .i64))) (fun _ => rfl) ty23 rfl rfl rfl (kspS (φ := SP.ptr (rSl (rInt .i64)) O x_0.Touched) (j := 5) (hK 31 rfl) rfl rfl hg)
   case z7_7 => intro a' w' hE hK hg; have c_ := ok_court_sorted (OkO.ext hB.ok hE) (kspS (φ := SP.vl (rSl (rInt .i64)) O x_0.Touched) (j := 6) (hK 32 rfl) rfl rfl hg) (run_gdb hx7 hg); exact ok_call1 fn58 rfl c_
   case z7_8 => intro a' w' hE hK hg; exact ok_not (ksv (j := 7) (hK 33 rfl) rfl rfl hg)
   case z7_9 => intro a' w' hE hK hg; exact ok_pick (ksv (j := 4) (hK 30 rfl) rfl rfl rfl) (fun _ => rfl) (fun hb => ksv (j := 8) (hK 34 rfl) rfl rfl (act_g1 rfl rfl hb))
   case zok7 | zgd7 => kernel_rfl
   intro a7 w7 hA hE HF
   replace q1 := kn (HF 1) rfl q1
   replace q2 := kn (HF 2) rfl q2
   replace q5 := kn (HF 5) rfl q5
   have q25 := ksv (HF 25) rfl rfl rfl
   clear q16
   clear HF
   replace f2 := GR.v_ext _ f2 hE
   replace f3 := GR.v_ext _ f3 hE
   replace hB := Base.step hB hE hO; clear hE
   refine li_nil (nx_then ?_)
   refine wp_cond_b q25 (fun hc => ?_) (fun hc => ?_)
   ·
    replace h := Comp.run_b_t hc h; clear hc
    refine wp_seq ?_
    refine' region [_] mixed hA (.cons (fun _ _ hE hK hg => ok_assign rfl) .nil) ?zok8 ?zgd8 ?zk8
    case zok8 | zgd8 => kernel_rfl
    intro a8 w8 hA hE HF
    have q4 := ksv (HF 4) rfl rfl rfl
    clear q1
    clear q2
    clear q5
    clear q25
    clear HF
    replace f2 := GR.v_ext _ f2 hE
    replace f3 := GR.v_ext _ f3 hE
    replace hB := Base.step hB hE hO; clear hE
    refine li_nil (nx_then (wp_ret (rt_blk (rt_then ?_))))
    have h := Comp.run_pure h; subst h
    exact retPure Try.results38 hA q4 hB.ext rfl
   ·
    replace h := Comp.run_b_f hc h; clear hc
    refine wp_seq ?_
    obtain ⟨x8, hx8, h⟩ := Comp.run_bind h
    obtain ⟨x9, hx9, h⟩ := Comp.run_bind h
    refine' region [SP.ptr (rSl (rInt .i64)) O x_0.Sure, SP.vl (rSl (rInt .i64)) O x_0.Sure, _, SP.isv (.bool x8), _, SP.ptr (rSl (rInt .i64)) O x_0.Touched, SP.vl (rSl (rInt .i64)) O x_0.Touched, _, SP.isv (.bool x9), _, _] mixed hA (.cons (fun _ _ hE hK hg => okl_fldB (S := r_api_Claim) fit_api_Claim rfl (fun _ => rfl) sb_api_Claim_3 fl33_3 (kn (hK 2 rfl) rfl q2) (GR.v_ext _ f2 hE)) (.cons (fun _ _ hE hK hg => okl_ld (r := (rSl (rInt .i64))) (fun _ => rfl) ty23 rfl rfl rfl (kspS (φ := SP.ptr (rSl (rInt .i64)) O x_0.Sure) (j := 0) (hK 37 rfl) rfl rfl rfl)) (.cons (fun _ _ hE hK hg => ok_move (kn (hK 1 rfl) rfl q1)) (.cons ?z9_3 (.cons (fun _ _ hE hK hg => ok_move (ksv (j := 3) (hK 40 rfl) rfl rfl rfl)) (.cons (fun _ _ hE hK hg => okl_fldB (S := r_api_Claim) fit_api_Claim rfl (fun _ => rfl) sb_api_Claim_4 fl33_4 (kn (hK 2 rfl) rfl q2) (GR.v_ext _ f2 hE)) (.cons ?z9_6 (.cons (fun _ _ hE hK hg => ok_move (kn (hK 1 rfl) rfl q1)) (.cons ?z9_8 (.cons ?z9_9 (.cons (fun _ _ hE hK hg => ok_assign (ksv (j := 9) (hK 46 rfl) rfl rfl rfl)) .nil))))))))))) ?zok9 ?zgd9 ?zk9
    case z9_3 => intro a' w' hE hK hg; have c_ := ok_court_outside (OkO.ext hB.ok hE) (kspS (φ := SP.vl (rSl (rInt .i64)) O x_0.Sure) (j := 1) (hK 38 rfl) rfl rfl rfl) hx8; exact ok_call2 fn59 rfl (ksv (j := 2) (hK 39 rfl) rfl rfl rfl) c_
    case z9_6 => intro a' w' hE hK hg; exact okl_ld (r := (rSl (rInt .i64))) (fun _ => rfl) ty23 rfl rfl rfl (kspS (φ := SP.ptr (rSl (rInt .i64)) O x_0.Touched) (j := 5) (hK 42 rfl) rfl rfl hg)
    case z9_8 => intro a' w' hE hK hg; have c_ := ok_court_outside (OkO.ext hB.ok hE) (kspS (φ := SP.vl (rSl (rInt .i64)) O x_0.Touched) (j := 6) (hK 43 rfl) rfl rfl hg) (run_gdb hx9 hg); exact ok_call2 fn59 rfl (ksv (j := 7) (hK 44 rfl) rfl rfl hg) c_
    case z9_9 => intro a' w' hE hK hg; exact ok_pick (ksv (j := 4) (hK 41 rfl) rfl rfl rfl) (fun _ => rfl) (fun hb => ksv (j := 8) (hK 45 rfl) rfl rfl (act_g1 rfl rfl hb))
    case zok9 | zgd9 => kernel_rfl
    intro a9 w9 hA hE HF
    replace q2 := kn (HF 2) rfl q2
    replace q5 := kn (HF 5) rfl q5
    have q36 := ksv (HF 36) rfl rfl rfl
    clear q1
    clear q25
    clear HF
    replace f2 := GR.v_ext _ f2 hE
    replace f3 := GR.v_ext _ f3 hE
    replace hB := Base.step hB hE hO; clear hE
    refine li_nil (nx_then ?_)
    refine wp_cond_b q36 (fun hc => ?_) (fun hc => ?_)
    ·
     replace h := Comp.run_b_t hc h; clear hc
     refine wp_seq ?_
     refine' region [_] mixed hA (.cons (fun _ _ hE hK hg => ok_assign rfl) .nil) ?zok10 ?zgd10 ?zk10
     case zok10 | zgd10 => kernel_rfl
     intro a10 w10 hA hE HF
     have q4 := ksv (HF 4) rfl rfl rfl
     clear q2
     clear q5
     clear q36
     clear HF
     replace f2 := GR.v_ext _ f2 hE
     replace f3 := GR.v_ext _ f3 hE
     replace hB := Base.step hB hE hO; clear hE
     refine li_nil (nx_then (wp_ret (rt_blk (rt_then ?_))))
     have h := Comp.run_pure h; subst h
     exact retPure Try.results38 hA q4 hB.ext rfl
    ·
     replace h := Comp.run_b_f hc h; clear hc
     refine seq_join (fun a w => ∃ (O15 : Tags) (x11 : Bool), a.fit 87 ∧ Base (Fr w0) O w0 O15 w ∧ a.get 2 = u1 ∧ (rBox r_api_Claim).v O15 w u1 x_0 ∧ a.get 47 = .bool x11 ∧ (court_check_j1 x_0 x11).run n = some y) ?_ ?_
     ·
      refine wp_seq ?_
      refine' region [SP.ptr (rInt .i64) O x_0.Kind, SP.isv (.int .i64 x_0.Kind), _, _, SP.ptr (rInt .i64) O x_0.Gauge, SP.isv (.int .i64 x_0.Gauge), _, _, _] mixed hA (.cons (fun _ _ hE hK hg => okl_fldB (S := r_api_Claim) fit_api_Claim rfl (fun _ => rfl) sb_api_Claim_1 fl33_1 (kn (hK 2 rfl) rfl q2) (GR.v_ext _ f2 hE)) (.cons (fun _ _ hE hK hg => okl_ldr (rInt .i64) (fun _ => rfl) ty3 rfl rfl rfl (kspS (φ := SP.ptr (rInt .i64) O x_0.Kind) (j := 0) (hK 48 rfl) rfl rfl rfl) (fun _ _ _ h => rInt_v.1 h)) (.cons (fun _ _ hE hK hg => ok_neqI (ksv (j := 1) (hK 49 rfl) rfl rfl rfl) rfl) (.cons (fun _ _ hE hK hg => ok_move (ksv (j := 2) (hK 50 rfl) rfl rfl rfl)) (.cons (fun _ _ hE hK hg => okl_fldB (S := r_api_Claim) fit_api_Claim rfl (fun _ => rfl) sb_api_Claim_2 fl33_2 (kn (hK 2 rfl) rfl q2) (GR.v_ext _ f2 hE)) (.cons ?z11_5 (.cons ?z11_6 (.cons ?z11_7 (.cons (fun _ _ hE hK hg => ok_assign (ksv (j := 7) (hK 55 rfl) rfl rfl rfl)) .nil))))))))) ?zok11 ?zgd11 ?zk11
      case z11_5 => intro a' w' hE hK hg; exact okl_ldr (rInt .i64) (fun _ => rfl) ty3 rfl rfl rfl (kspS (φ := SP.ptr (rInt .i64) O x_0.Gauge) (j := 4) (hK 52 rfl) rfl rfl hg) (fun _ _ _ h => rInt_v.1 h)
      case z11_6 => intro a' w' hE hK hg; exact ok_neqI (ksv (j := 5) (hK 53 rfl) rfl rfl hg) rfl
      case z11_7 => intro a' w' hE hK hg; exact ok_pick (ksv (j := 3) (hK 51 rfl) rfl rfl rfl) (fun hb => ksv (j := 6) (hK 54 rfl) rfl rfl (act_g1 rfl rfl hb)) (fun _ => rfl)
      case zok11 | zgd11 => kernel_rfl
      intro a11 w11 hA hE HF
      replace q2 := kn (HF 2) rfl q2
      replace q5 := kn (HF 5) rfl q5
      have q47 := ksv (HF 47) rfl rfl rfl
      clear q36
      clear HF
      replace f2 := GR.v_ext _ f2 hE
      replace f3 := GR.v_ext _ f3 hE
      replace hB := Base.step hB hE hO; clear hE
      obtain ⟨x10, hx_, h⟩ := Comp.run_bind h; replace hx_ := Comp.run_pure hx_; rw [hx_] at q47; clear hx_
      refine li_nil (nx_then ?_)
      refine wp_cond_b q47 (fun hc => ?_) (fun hc => ?_)
      ·
       replace h := Comp.run_b_t hc h; clear hc
       refine wp_skip (nx_then ?_)
       exact ⟨_, _, hA, hB, q2, f2, q47, h⟩
      ·
       replace h := Comp.run_b_f hc h; clear hc
       refine wp_seq ?_
       refine' region [SP.ptr (rInt .i64) O x_0.Kind, SP.isv (.int .i64 x_0.Kind), _, _, SP.ptr (rSl (rInt .i64)) O x_0.Sure, SP.vl (rSl (rInt .i64)) O x_0.Sure, _, _, _, _] mixed hA (.cons (fun _ _ hE hK hg => okl_fldB (S := r_api_Claim) fit_api_Claim rfl (fun _ => rfl) sb_api_Claim_1 fl33_1 (kn (hK 2 rfl) rfl q2) (GR.v_ext _ f2 hE)) (.cons (fun _ _ hE hK hg => okl_ldr (rInt .i64) (fun _ => rfl) ty3 rfl rfl rfl (kspS (φ := SP.ptr (rInt .i64) O x_0.Kind) (j := 0) (hK 56 rfl) rfl rfl rfl) (fun _ _ _ h => rInt_v.1 h)) (.cons (fun _ _ hE hK hg => ok_neqI (ksv (j := 1) (hK 57 rfl) rfl rfl rfl) rfl) (.cons (fun _ _ hE hK hg => ok_move (ksv (j := 2) (hK 58 rfl) rfl rfl rfl)) (.cons (fun _ _ hE hK hg => okl_fldB (S := r_api_Claim) fit_api_Claim rfl (fun _ => rfl) sb_api_Claim_3 fl33_3 (kn (hK 2 rfl) rfl q2) (GR.v_ext _ f2 hE)) (.cons ?z12_5 (.cons ?z12_6 (.cons ?z12_7 (.cons ?z12_8 (.cons (fun _ _ hE hK hg => ok_assign (ksv (j := 8) (hK 64 rfl) rfl rfl rfl)) .nil)))))))))) ?zok12 ?zgd12 ?zk12
       case z12_5 => intro a' w' hE hK hg; exact okl_ld (r := (rSl (rInt .i64))) (fun _ => rfl) ty23 rfl rfl rfl (kspS (φ := SP.ptr (rSl (rInt .i64)) O x_0.Sure) (j := 4) (hK 60 rfl) rfl rfl hg)
       case z12_6 => intro a' w' hE hK hg; exact okl_len (r := (rInt .i64)) ty23 rfl (rd_of (kspS (φ := SP.vl (rSl (rInt .i64)) O x_0.Sure) (j := 5) (hK 61 rfl) rfl rfl hg))
       case z12_7 => intro a' w' hE hK hg; exact ok_gtr (ksv (j := 6) (hK 62 rfl) rfl rfl hg) rfl
       case z12_8 => intro a' w' hE hK hg; exact ok_pick (ksv (j := 3) (hK 59 rfl) rfl rfl rfl) (fun hb => ksv (j := 7) (hK 63 rfl) rfl rfl (act_g1 rfl rfl hb)) (fun _ => rfl)
       case zok12 | zgd12 => kernel_rfl
       intro a12 w12 hA hE HF
       replace q2 := kn (HF 2) rfl q2
       replace q5 := kn (HF 5) rfl q5
       have q47' := ksv (HF 47) rfl rfl rfl
       replace q47 := q47'; clear q47'
       clear HF
       replace f2 := GR.v_ext _ f2 hE
       replace f3 := GR.v_ext _ f3 hE
       replace hB := Base.step hB hE hO; clear hE
       obtain ⟨x12, hx_, h⟩ := Comp.run_bind h; replace hx_ := Comp.run_pure hx_; rw [hx_] at q47; clear hx_
       refine li_nil (nx_then ?_)
       refine wp_cond_b q47 (fun hc => ?_) (fun hc => ?_)
       ·
        replace h := Comp.run_b_t hc h; clear hc
        refine wp_skip (nx_then ?_)
        exact ⟨_, _, hA, hB, q2, f2, q47, h⟩
       ·
        replace h := Comp.run_b_f hc h; clear hc
        refine wp_seq ?_
        refine' region [SP.ptr (rInt .i64) O x_0.Kind, SP.isv (.int .i64 x_0.Kind), _, _, SP.ptr (rSl (rInt .i64)) O x_0.Touched, SP.vl (rSl (rInt .i64)) O x_0.Touched, _, _, _, _] mixed hA (.cons (fun _ _ hE hK hg => okl_fldB (S := r_api_Claim) fit_api_Claim rfl (fun _ => rfl) sb_api_Claim_1 fl33_1 (kn (hK 2 rfl) rfl q2) (GR.v_ext _ f2 hE)) (.cons (fun _ _ hE hK hg => okl_ldr (rInt .i64) (fun _ => rfl) ty3 rfl rfl rfl (kspS (φ := SP.ptr (rInt .i64) O x_0.Kind) (j := 0) (hK 65 rfl) rfl rfl rfl) (fun _ _ _ h => rInt_v.1 h)) (.cons (fun _ _ hE hK hg => ok_eqlI (ksv (j := 1) (hK 66 rfl) rfl rfl rfl) rfl) (.cons (fun _ _ hE hK hg => ok_move (ksv (j := 2) (hK 67 rfl) rfl rfl rfl)) (.cons (fun _ _ hE hK hg => okl_fldB (S := r_api_Claim) fit_api_Claim rfl (fun _ => rfl) sb_api_Claim_4 fl33_4 (kn (hK 2 rfl) rfl q2) (GR.v_ext _ f2 hE)) (.cons ?z13_5 (.cons ?z13_6 (.cons ?z13_7 (.cons ?z13_8 (.cons (fun _ _ hE hK hg => ok_assign (ksv (j := 8) (hK 73 rfl) rfl rfl rfl)) .nil)))))))))) ?zok13 ?zgd13 ?zk13
        case z13_5 => intro a' w' hE hK hg; exact okl_ld (r := (rSl (rInt .i64))) (fun _ => rfl) ty23 rfl rfl rfl (kspS (φ := SP.ptr (rSl (rInt .i64)) O x_0.Touched) (j := 4) (hK 69 rfl) rfl rfl hg)
        case z13_6 => intro a' w' hE hK hg; exact okl_len (r := (rInt .i64)) ty23 rfl (rd_of (kspS (φ := SP.vl (rSl (rInt .i64)) O x_0.Touched) (j := 5) (hK 70 rfl) rfl rfl hg))
        case z13_7 => intro a' w' hE hK hg; exact ok_gtr (ksv (j := 6) (hK 71 rfl) rfl rfl hg) rfl
        case z13_8 => intro a' w' hE hK hg; exact ok_pick (ksv (j := 3) (hK 68 rfl) rfl rfl rfl) (fun hb => ksv (j := 7) (hK 72 rfl) rfl rfl (act_g1 rfl rfl hb)) (fun _ => rfl)
        case zok13 | zgd13 => kernel_rfl
        intro a13 w13 hA hE HF
        replace q2 := kn (HF 2) rfl q2
        replace q5 := kn (HF 5) rfl q5
        have q47' := ksv (HF 47) rfl rfl rfl
        replace q47 := q47'; clear q47'
        clear HF
        replace f2 := GR.v_ext _ f2 hE
        replace f3 := GR.v_ext _ f3 hE
        replace hB := Base.step hB hE hO; clear hE
        obtain ⟨x13, hx_, h⟩ := Comp.run_bind h; replace hx_ := Comp.run_pure hx_; rw [hx_] at q47; clear hx_
        refine li_nil (nx_then ?_)
        refine wp_cond_b q47 (fun hc => ?_) (fun hc => ?_)
        ·
         replace h := Comp.run_b_t hc h; clear hc
         refine wp_skip (nx_then ?_)
         exact ⟨_, _, hA, hB, q2, f2, q47, h⟩
        ·
         replace h := Comp.run_b_f hc h; clear hc
         obtain ⟨x14, hx14, h⟩ := Comp.run_bind h
         refine' region [SP.ptr (rSl (rInt .i64)) O x_0.Sure, SP.vl (rSl (rInt .i64)) O x_0.Sure, _, SP.isv (.bool x14), _] mixed hA (.cons (fun _ _ hE hK hg => okl_fldB (S := r_api_Claim) fit_api_Claim rfl (fun _ => rfl) sb_api_Claim_3 fl33_3 (kn (hK 2 rfl) rfl q2) (GR.v_ext _ f2 hE)) (.cons (fun _ _ hE hK hg => okl_ld (r := (rSl (rInt .i64))) (fun _ => rfl) ty23 rfl rfl rfl (kspS (φ := SP.ptr (rSl (rInt .i64)) O x_0.Sure) (j := 0) (hK 74 rfl) rfl rfl rfl)) (.cons (fun _ _ hE hK hg => ok_move (kn (hK 5 rfl) rfl q5)) (.cons ?z14_3 (.cons (fun _ _ hE hK hg => ok_assign (ksv (j := 3) (hK 77 rfl) rfl rfl rfl)) .nil))))) ?zok14 ?zgd14 ?zk14
         case z14_3 => intro a' w' hE hK hg; have c_ := ok_slices_ContainsFunc_int_int (OkO.ext hB.ok hE) (kspS (φ := SP.vl (rSl (rInt .i64)) O x_0.Sure) (j := 1) (hK 75 rfl) rfl rfl rfl) (GR.v_ext _ f3 hE) hx14; exact ok_call2 fn48 rfl (ksv (j := 2) (hK 76 rfl) rfl rfl rfl) c_
         case zok14 | zgd14 => kernel_rfl
         intro a14 w14 hA hE HF
         replace q2 := kn (HF 2) rfl q2
         have q47' := ksv (HF 47) rfl rfl rfl
         replace q47 := q47'; clear q47'
         clear q5
         clear HF
         replace f2 := GR.v_ext _ f2 hE
         replace f3 := GR.v_ext _ f3 hE
         replace hB := Base.step hB hE hO; clear hE
         refine li_nil (nx_then ?_)
         exact ⟨_, _, hA, hB, q2, f2, q47, h⟩
     intro a15 w15 hI
     clear hA hB h q2 q5 q36 f2 f3
     obtain ⟨O15, x11, hA, hB, q2, f2, q47, h⟩ := hI
     unfold court_check_j1 at h
     refine wp_cond_b q47 (fun hc => ?_) (fun hc => ?_)
     ·
      replace h := Comp.run_b_t hc h; clear hc
      refine wp_seq ?_
      refine' region [_] mixed hA (.cons (fun _ _ hE hK hg => ok_assign rfl) .nil) ?zok15 ?zgd15 ?zk15
      case zok15 | zgd15 => kernel_rfl
      intro a16 w16 hA hE HF
      have q4 := ksv (HF 4) rfl rfl rfl
      clear q2
      clear q47
      clear HF
      replace f2 := GR.v_ext _ f2 hE
      replace hB := Base.step hB hE hO; clear hE
      refine li_nil (nx_then (wp_ret (rt_blk (rt_then ?_))))
      have h := Comp.run_pure h; subst h
      exact retPure Try.results38 hA q4 hB.ext rfl
     ·
      replace h := Comp.run_b_f hc h; clear hc
      refine wp_seq ?_
      refine' region [SP.ptr (rInt .i64) O15 x_0.Gauge, SP.isv (.int .i64 x_0.Gauge), _, _, SP.ptr (rInt .i64) O15 x_0.Gauge, SP.isv (.int .i64 x_0.Gauge), _, _, _] mixed hA (.cons (fun _ _ hE hK hg => okl_fldB (S := r_api_Claim) fit_api_Claim rfl (fun _ => rfl) sb_api_Claim_2 fl33_2 (kn (hK 2 rfl) rfl q2) (GR.v_ext _ f2 hE)) (.cons (fun _ _ hE hK hg => okl_ldr (rInt .i64) (fun _ => rfl) ty3 rfl rfl rfl (kspS (φ := SP.ptr (rInt .i64) O15 x_0.Gauge) (j := 0) (hK 79 rfl) rfl rfl rfl) (fun _ _ _ h => rInt_v.1 h)) (.cons (fun _ _ hE hK hg => ok_lss (ksv (j := 1) (hK 80 rfl) rfl rfl rfl) rfl) (.cons (fun _ _ hE hK hg => ok_move (ksv (j := 2) (hK 81 rfl) rfl rfl rfl)) (.cons (fun _ _ hE hK hg => okl_fldB (S := r_api_Claim) fit_api_Claim rfl (fun _ => rfl) sb_api_Claim_2 fl33_2 (kn (hK 2 rfl) rfl q2) (GR.v_ext _ f2 hE)) (.cons ?z16_5 (.cons ?z16_6 (.cons ?z16_7 (.cons (fun _ _ hE hK hg => ok_assign (ksv (j := 7) (hK 86 rfl) rfl rfl rfl)) .nil))))))))) ?zok16 ?zgd16 ?zk16
      case z16_5 => intro a' w' hE hK hg; exact okl_ldr (rInt .i64) (fun _ => rfl) ty3 rfl rfl rfl (kspS (φ := SP.ptr (rInt .i64) O15 x_0.Gauge) (j := 4) (hK 83 rfl) rfl rfl hg) (fun _ _ _ h => rInt_v.1 h)
      case z16_6 => intro a' w' hE hK hg; exact ok_geq (ksv (j := 5) (hK 84 rfl) rfl rfl hg) rfl
      case z16_7 => intro a' w' hE hK hg; exact ok_pick (ksv (j := 3) (hK 82 rfl) rfl rfl rfl) (fun _ => rfl) (fun hb => ksv (j := 6) (hK 85 rfl) rfl rfl (act_g1 rfl rfl hb))
      case zok16 | zgd16 => kernel_rfl
      intro a17 w17 hA hE HF
      have q78 := ksv (HF 78) rfl rfl rfl
      clear q2
      clear q47
      clear HF
      replace f2 := GR.v_ext _ f2 hE
      replace hB := Base.step hB hE hO; clear hE
      obtain ⟨x16, hx_, h⟩ := Comp.run_bind h; replace hx_ := Comp.run_pure hx_; rw [hx_] at q78; clear hx_
      refine li_nil (nx_then ?_)
      refine wp_cond_b q78 (fun hc => ?_) (fun hc => ?_)
      ·
       replace h := Comp.run_b_t hc h; clear hc
       refine wp_seq ?_
       refine' region [_] mixed hA (.cons (fun _ _ hE hK hg => ok_assign rfl) .nil) ?zok17 ?zgd17 ?zk17
       case zok17 | zgd17 => kernel_rfl
       intro a18 w18 hA hE HF
       have q4 := ksv (HF 4) rfl rfl rfl
       clear q78
       clear HF
       replace hB := Base.step hB hE hO; clear hE
       refine li_nil (nx_then (wp_ret (rt_blk (rt_then ?_))))
       have h := Comp.run_pure h; subst h
       exact retPure Try.results38 hA q4 hB.ext rfl
      ·
       replace h := Comp.run_b_f hc h; clear hc
       refine wp_skip (nx_blk (nx_then (wp_seq ?_)))
       refine' region [_] mixed hA (.cons (fun _ _ hE hK hg => ok_assign rfl) .nil) ?zok18 ?zgd18 ?zk18
       case zok18 | zgd18 => kernel_rfl
       intro a19 w19 hA hE HF
       have q4 := ksv (HF 4) rfl rfl rfl
       clear q78
       clear HF
       replace hB := Base.step hB hE hO; clear hE
       refine li_nil (nx_then (wp_ret ?_))
       have h := Comp.run_pure h; subst h
       exact retPure Try.results38 hA q4 hB.ext rfl
set_option maxHeartbeats 4000000 in
theorem ok_court_Check {O : Tags} {w0 : World} (hO : OkO O w0) {v_0 : Value} {x_0 : List api_Claim} (h_0 : (rSl r_api_Claim).v O w0 v_0 x_0) {v_1 : Value} {x_1 : List api_Sight} (h_1 : (rSl r_api_Sight).v O w0 v_1 x_1) {x_2 : Int} {n : Nat} {y : Int} (h : (court_Check x_0 x_1 x_2).run n = some y) : Pure Try.prog 13 #[v_0, v_1, .int .i64 x_2] w0 (SP.isv (.int .i64 y)).holds := by
 unfold court_Check at h
 refine pure_of_wp Try.func13 rfl 83 Try.ntmps13 (by simp) fun a0 hA hs0 => ?_
 have q0 : a0.get 0 = v_0 := hs0 0 _ rfl
 have q1 : a0.get 1 = v_1 := hs0 1 _ rfl
 have q2 : a0.get 2 = .int .i64 x_2 := hs0 2 _ rfl
 clear hs0
 have hB : Base (Fr w0) O w0 O w0 := Base.start hO
 refine wp_seq ?_
 refine' region [_] mixed hA (.cons (fun _ _ hE hK hg => ok_assign rfl) .nil) ?zok1 ?zgd1 ?zk1
 case zok1 | zgd1 => kernel_rfl
 intro a1 w1 hA hE HF
 replace q0 := kn (HF 0) rfl q0
 replace q1 := kn (HF 1) rfl q1
 replace q2 := kn (HF 2) rfl q2
 clear HF
 replace h_0 := GR.v_ext _ h_0 hE
 replace h_1 := GR.v_ext _ h_1 hE
 replace hB := Base.step hB hE hO; clear hE
 refine li_nil (nx_then (wp_seq (wp_block (wp_seq ?_))))
 refine' region [_, _, _, _, _, _, _] mixed hA (.cons (fun _ _ hE hK hg => ok_move (kn (hK 2 rfl) rfl q2)) (.cons (fun _ _ hE hK hg => ok_lss (ksv (j := 0) (hK 15 rfl) rfl rfl rfl) rfl) (.cons (fun _ _ hE hK hg => ok_move (ksv (j := 1) (hK 16 rfl) rfl rfl rfl)) (.cons (fun _ _ hE hK hg => ok_move (kn (hK 2 rfl) rfl q2)) (.cons ?z2_4 (.cons ?z2_5 (.cons (fun _ _ hE hK hg => ok_assign (ksv (j := 5) (hK 20 rfl) rfl rfl rfl)) .nil))))))) ?zok2 ?zgd2 ?zk2
 case z2_4 => intro a' w' hE hK hg; exact ok_gtr (ksv (j := 3) (hK 18 rfl) rfl rfl hg) rfl
 case z2_5 => intro a' w' hE hK hg; exact ok_pick (ksv (j := 2) (hK 17 rfl) rfl rfl rfl) (fun _ => rfl) (fun hb => ksv (j := 4) (hK 19 rfl) rfl rfl (act_g1 rfl rfl hb))
 case zok2 | zgd2 => kernel_rfl
 intro a2 w2 hA hE HF
 replace q0 := kn (HF 0) rfl q0
 replace q1 := kn (HF 1) rfl q1
 replace q2 := kn (HF 2) rfl q2
 have q14 := ksv (HF 14) rfl rfl rfl
 clear HF
 replace h_0 := GR.v_ext _ h_0 hE
 replace h_1 := GR.v_ext _ h_1 hE
 replace hB := Base.step hB hE hO; clear hE
 obtain ⟨x1, hx_, h⟩ := Comp.run_bind h; replace hx_ := Comp.run_pure hx_; rw [hx_] at q14; clear hx_
 refine li_nil (nx_then ?_)
 refine wp_cond_b q14 (fun hc => ?_) (fun hc => ?_)
 ·
  replace h := Comp.run_b_t hc h; clear hc
  refine wp_seq ?_
  refine' region [_] mixed hA (.cons (fun _ _ hE hK hg => ok_assign rfl) .nil) ?zok3 ?zgd3 ?zk3
  case zok3 | zgd3 => kernel_rfl
  intro a3 w3 hA hE HF
  have q6 := ksv (HF 6) rfl rfl rfl
  clear q0
  clear q1
  clear q2
  clear q14
  clear HF
  replace h_0 := GR.v_ext _ h_0 hE
  replace h_1 := GR.v_ext _ h_1 hE
  replace hB := Base.step hB hE hO; clear hE
  refine li_nil (nx_then (wp_ret (rt_blk (rt_then ?_))))
  have h := Comp.run_pure h; subst h
  exact retPure Try.results13 hA q6 hB.ext rfl
 ·
  replace h := Comp.run_b_f hc h; clear hc
  refine wp_seq ?_
  refine' region [_, _, _, _, _, _, _, _, _] mixed hA (.cons (fun _ _ hE hK hg => ok_move (kn (hK 0 rfl) rfl q0)) (.cons (fun _ _ hE hK hg => okl_len (r := r_api_Claim) ty27 (ksv (j := 0) (hK 22 rfl) rfl rfl rfl) (rd_of (GR.v_ext _ h_0 hE))) (.cons (fun _ _ hE hK hg => ok_gtr (ksv (j := 1) (hK 23 rfl) rfl rfl rfl) rfl) (.cons (fun _ _ hE hK hg => ok_move (ksv (j := 2) (hK 24 rfl) rfl rfl rfl)) (.cons (fun _ _ hE hK hg => ok_move (kn (hK 1 rfl) rfl q1)) (.cons ?z4_5 (.cons ?z4_6 (.cons ?z4_7 (.cons (fun _ _ hE hK hg => ok_assign (ksv (j := 7) (hK 29 rfl) rfl rfl rfl)) .nil))))))))) ?zok4 ?zgd4 ?zk4
  case z4_5 => intro a' w' hE hK hg; exact okl_len (r := r_api_Sight) ty28 (ksv (j := 4) (hK 26 rfl) rfl rfl hg) (rd_of (GR.v_ext _ h_1 hE))
  case z4_6 => intro a' w' hE hK hg; exact ok_gtr (ksv (j := 5) (hK 27 rfl) rfl rfl hg) rfl
  case z4_7 => intro a' w' hE hK hg; exact ok_pick (ksv (j := 3) (hK 25 rfl) rfl rfl rfl) (fun _ => rfl) (fun hb => ksv (j := 6) (hK 28 rfl) rfl rfl (act_g1 rfl rfl hb))
  case zok4 | zgd4 => kernel_rfl
  intro a4 w4 hA hE HF
  replace q0 := kn (HF 0) rfl q0
  replace q1 := kn (HF 1) rfl q1
  replace q2 := kn (HF 2) rfl q2
  have q21 := ksv (HF 21) rfl rfl rfl
  clear q14
  clear HF
  replace h_0 := GR.v_ext _ h_0 hE
  replace h_1 := GR.v_ext _ h_1 hE
  replace hB := Base.step hB hE hO; clear hE
  obtain ⟨x2, hx_, h⟩ := Comp.run_bind h; replace hx_ := Comp.run_pure hx_; rw [hx_] at q21; clear hx_
  refine li_nil (nx_then ?_)
  refine wp_cond_b q21 (fun hc => ?_) (fun hc => ?_)
  ·
   replace h := Comp.run_b_t hc h; clear hc
   refine wp_seq ?_
   refine' region [_] mixed hA (.cons (fun _ _ hE hK hg => ok_assign rfl) .nil) ?zok5 ?zgd5 ?zk5
   case zok5 | zgd5 => kernel_rfl
   intro a5 w5 hA hE HF
   have q6 := ksv (HF 6) rfl rfl rfl
   clear q0
   clear q1
   clear q2
   clear q21
   clear HF
   replace h_0 := GR.v_ext _ h_0 hE
   replace h_1 := GR.v_ext _ h_1 hE
   replace hB := Base.step hB hE hO; clear hE
   refine li_nil (nx_then (wp_ret (rt_blk (rt_then ?_))))
   have h := Comp.run_pure h; subst h
   exact retPure Try.results13 hA q6 hB.ext rfl
  ·
   replace h := Comp.run_b_f hc h; clear hc
   refine wp_skip (nx_blk (nx_then (wp_seq ?_)))
   refine' regionT [] hA .nil ?zok6 ?zgd6 ?zk6
   case zok6 | zgd6 => kernel_rfl
   intro a6 w6 hA hE HF
   replace q0 := kn (HF 0) rfl q0
   replace q1 := kn (HF 1) rfl q1
   replace q2 := kn (HF 2) rfl q2
   clear q21
   clear HF
   replace h_0 := GR.v_ext _ h_0 hE
   replace h_1 := GR.v_ext _ h_1 hE
   replace hB := Base.step hB hE hO; clear hE
   refine l_ok (φ := SP.map0 w6.heap.size) hO hB (by exact ok_makeMap (Nat.le_refl _)) rfl fun u3 w7 hE hB' f4 => ?_
   clear hB'; obtain ⟨O5, hB', hX, f6⟩ := mapNew hO hB hE f4 1 (by decide) (fun x : Vector Int 2 => .agg (cellsA (fun x => [.int .i64 x]) x).toArray) (fun x : Bool => .bool x)
   clear hB f4; have hB := hB'; clear hB'
   replace h_0 := GR.kx _ h_0 hX (by decide)
   replace h_1 := GR.kx _ h_1 hX (by decide)
   clear hX hE
   refine put_cont hA (by decide) fun a8 hA q_ hfr => ?_
   replace q0 := (hfr 0 rfl).trans q0
   replace q1 := (hfr 1 rfl).trans q1
   replace q2 := (hfr 2 rfl).trans q2
   have q30 := q_; clear q_ hfr
   refine l_ok (φ := SP.isv (u3)) hO hB (by exact ok_assign q30) rfl fun u_ w9 hE hB' hv_ => ?_
   replace hv_ := Eq.symm hv_; subst hv_; clear hB; have hB := hB'; clear hB'
   replace h_0 := GR.v_ext _ h_0 hE
   replace h_1 := GR.v_ext _ h_1 hE
   replace f6 := f6.ext hE
   clear hE
   refine put_cont hA (by decide) fun a10 hA q_ hfr => ?_
   replace q0 := (hfr 0 rfl).trans q0
   replace q1 := (hfr 1 rfl).trans q1
   replace q2 := (hfr 2 rfl).trans q2
   replace q30 := (hfr 30 rfl).trans q30
   have q7 := q_; clear q_ hfr
   refine li_nil (nx_then ?_)
   refine seq_join (fun a w => ∃ (O40 : Tags), a.fit 83 ∧ Base (Fr w0) O w0 O40 w ∧ a.get 1 = v_1 ∧ (rSl r_api_Sight).v O40 w v_1 x_1 ∧ a.get 2 = .int .i64 x_2 ∧ (court_Check_j1 x_1 x_2 ).run n = some y) ?_ ?_
   ·
    refine wp_seq ?_
    refine' region [_, _, _] mixed hA (.cons (fun _ _ hE hK hg => ok_move (kn (hK 0 rfl) rfl q0)) (.cons (fun _ _ hE hK hg => okl_len (r := r_api_Claim) ty27 (ksv (j := 0) (hK 31 rfl) rfl rfl rfl) (rd_of (GR.v_ext _ h_0 hE))) (.cons (fun _ _ hE hK hg => ok_move rfl) .nil))) ?zok7 ?zgd7 ?zk7
    case zok7 | zgd7 => kernel_rfl
    intro a11 w11 hA hE HF
    replace q1 := kn (HF 1) rfl q1
    replace q2 := kn (HF 2) rfl q2
    replace q7 := kn (HF 7) rfl q7
    have q31 := ksv (HF 31) rfl rfl rfl
    have q32 := ksv (HF 32) rfl rfl rfl
    have q33 := ksv (HF 33) rfl rfl rfl
    clear q0
    clear HF
    replace h_0 := GR.v_ext _ h_0 hE
    replace h_1 := GR.v_ext _ h_1 hE
    replace f6 := f6.ext hE
    replace hB := Base.step hB hE hO; clear hE
    refine li_nil (nx_then (wp_block ?_))
    obtain ⟨e2, he2, hk2⟩ := Comp.run_bind h; clear h
    refine loop_m (fun m a w => ∃ (O11 : Tags) (x7 : List ((Vector Int 2) × Bool)) (x10 : Int) (u8 : Value), a.fit 83 ∧ Base (Fr w0) O w0 O11 w ∧ a.get 1 = v_1 ∧ (rSl r_api_Sight).v O11 w v_1 x_1 ∧ a.get 2 = .int .i64 x_2 ∧ a.get 7 = u8 ∧ OwnM 1 (fun x : Vector Int 2 => .agg (cellsA (fun x => [.int .i64 x]) x).toArray) (fun x : Bool => .bool x) (Fr w0) O11 w u8 x7 ∧ a.get 31 = v_0 ∧ (rSl r_api_Claim).v O11 w v_0 x_0 ∧ a.get 32 = .int .i64 (x_0.length : Int) ∧ a.get 33 = .int .i64 x10 ∧ Comp.loopN (fun s => court_Check_l2 x_0 x_2 s.1 s.2) n m (x7, x10) = some e2) (m := n) ?st2 ?_
    case st2 =>
     exact ⟨_, _, _, _, hA, hB, q1, h_1, q2, q7, f6, q31, h_0, q32, q33, Comp.run_loop he2⟩
    intro m_ a12 w12 hI
    clear hA hB he2 q1 q2 q7 q31 q32 q33 f6 h_0 h_1
    obtain ⟨O11, x7, x10, u8, hA, hB, q1, h_1, q2, q7, f9, q31, h_0, q32, q33, hl⟩ := hI
    obtain ⟨m2, hlt2, st2, h, hnext2, hdone2⟩ := Comp.loopN_succ hl; clear hl
    replace h : (court_Check_l2 x_0 x_2 x7 x10).run n = some st2 := h
    unfold court_Check_l2 at h
    refine wp_seq ?_
    refine' region [_] mixed hA (.cons (fun _ _ hE hK hg => ok_lss (kn (hK 33 rfl) rfl q33) (kn (hK 32 rfl) rfl q32)) .nil) ?zok8 ?zgd8 ?zk8
    case zok8 | zgd8 => kernel_rfl
    intro a13 w13 hA hE HF
    replace q1 := kn (HF 1) rfl q1
    replace q2 := kn (HF 2) rfl q2
    replace q7 := kn (HF 7) rfl q7
    replace q31 := kn (HF 31) rfl q31
    replace q32 := kn (HF 32) rfl q32
    replace q33 := kn (HF 33) rfl q33
    have q34 := ksv (HF 34) rfl rfl rfl
    clear HF
    replace h_1 := GR.v_ext _ h_1 hE
    replace f9 := f9.ext hE
    replace h_0 := GR.v_ext _ h_0 hE
    replace hB := Base.step hB hE hO; clear hE
    refine li_nil (nx_then (wp_seq ?_))
    refine wp_cond_b q34 (fun hc => ?_) (fun hc => ?_)
    ·
     replace h := Comp.run_b_t hc h; clear hc
     refine wp_skip (nx_then ?_)
     refine seq_join (fun a w => ∃ (O39 : Tags) (x36 : List ((Vector Int 2) × Bool)) (u37 : Value), a.fit 83 ∧ Base (Fr w0) O w0 O39 w ∧ a.get 1 = v_1 ∧ (rSl r_api_Sight).v O39 w v_1 x_1 ∧ a.get 2 = .int .i64 x_2 ∧ a.get 7 = u37 ∧ OwnM 1 (fun x : Vector Int 2 => .agg (cellsA (fun x => [.int .i64 x]) x).toArray) (fun x : Bool => .bool x) (Fr w0) O39 w u37 x36 ∧ a.get 31 = v_0 ∧ (rSl r_api_Claim).v O39 w v_0 x_0 ∧ a.get 32 = .int .i64 (x_0.length : Int) ∧ a.get 33 = .int .i64 x10 ∧ (court_Check_j3 x10 x36).run n = some st2) ?_ ?_
     ·
      refine wp_block (wp_seq ?_)
      obtain ⟨x12, hx12, h⟩ := Comp.run_bind h
      refine' regionT [SP.ptr r_api_Claim O11 x12, SP.vl r_api_Claim O11 x12] hA (.cons (fun _ _ hE hK hg => okl_idx (r := r_api_Claim) (O := O11) ty27 ty33 rfl (kn (hK 31 rfl) rfl q31) (rd_of (GR.v_ext _ h_0 hE)) (kn (hK 33 rfl) rfl q33) hx12) (.cons (fun _ _ hE hK hg => okl_ld (r := r_api_Claim) fit_api_Claim ty33 rfl rfl rfl (kspS (φ := SP.ptr r_api_Claim O11 x12) (j := 0) (hK 35 rfl) rfl rfl rfl)) .nil)) ?zok9 ?zgd9 ?zk9
      case zok9 | zgd9 => kernel_rfl
      intro a14 w14 hA hE HF
      replace q1 := kn (HF 1) rfl q1
      replace q2 := kn (HF 2) rfl q2
      replace q7 := kn (HF 7) rfl q7
      replace q31 := kn (HF 31) rfl q31
      replace q32 := kn (HF 32) rfl q32
      replace q33 := kn (HF 33) rfl q33
      have f14 := ksp (HF 36) rfl rfl rfl
      obtain ⟨u13, q36'⟩ : ∃ u, a14.get 36 = u := ⟨_, rfl⟩
      rw [q36'] at f14
      have q36 := q36'; clear q36'
      clear q34
      clear HF
      replace h_1 := GR.v_ext _ h_1 hE
      replace f9 := f9.ext hE
      replace h_0 := GR.v_ext _ h_0 hE
      replace hB := Base.step hB hE hO; clear hE
      refine l_ok (φ := SP.box w14.heap.size #[.int .i64 0, .int .i64 0, .int .i64 0, .slice none 0 0, .slice none 0 0] 33) hO hB (by exact ok_alloc (Nat.le_refl _) ty33) rfl fun u15 w15 hE hB' f16 => ?_
      clear hB'; obtain ⟨O17, b19, hB', hX, e_, f18⟩ := boxNew hO hB hE f16 2 (by decide)
      subst e_; clear hB f16; have hB := hB'; clear hB'
      replace h_1 := GR.kx _ h_1 hX (by decide)
      replace f9 := f9.kx hX (by decide)
      replace h_0 := GR.kx _ h_0 hX (by decide)
      replace f14 := GR.kx _ f14 hX (by decide)
      clear hX hE
      refine put_cont hA (by decide) fun a16 hA q_ hfr => ?_
      replace q1 := (hfr 1 rfl).trans q1
      replace q2 := (hfr 2 rfl).trans q2
      replace q7 := (hfr 7 rfl).trans q7
      replace q31 := (hfr 31 rfl).trans q31
      replace q32 := (hfr 32 rfl).trans q32
      replace q33 := (hfr 33 rfl).trans q33
      replace q36 := (hfr 36 rfl).trans q36
      have q9 := q_; clear q_ hfr
      obtain ⟨u20, u22, e_, f21, f23⟩ := openV_api_Claim f14; subst e_
      refine l_storeSub (vs := [.int .i64 x12.Party, .int .i64 x12.Kind, .int .i64 x12.Gauge, u20, u22]) (cs' := #[.int .i64 x12.Party, .int .i64 x12.Kind, .int .i64 x12.Gauge, u20, u22]) hO hB (okB_fr hB) ty33 q9 q36 rfl (by intro c_ hc_; simp only [List.mem_cons, List.not_mem_nil, or_false] at hc_; rcases hc_ with rfl | rfl | rfl | rfl | rfl <;> first | rfl | assumption | exact sl_one f21 rfl rfl | exact sl_one f23 rfl rfl) f18 (by simp) rfl fun w17 f24 hB' hX => ?_
      clear hB f18; have hB := hB'; clear hB'
      replace h_1 := GR.kx _ h_1 hX (by decide)
      replace f9 := f9.kx hX (by decide)
      replace h_0 := GR.kx _ h_0 hX (by decide)
      replace f21 := GR.kx _ f21 hX (by decide)
      replace f23 := GR.kx _ f23 hX (by decide)
      clear hX
      refine li_nil (nx_then (wp_seq (wp_seq ?_)))
      obtain ⟨x25, hx25, h⟩ := Comp.run_bind h
      refine' region [SP.isv (.agg #[.int .i64 x12.Party, .int .i64 x12.Kind, .int .i64 x12.Gauge, u20, u22]), _, SP.isv (.int .i64 x25), _] mixed hA (.cons (fun _ _ hE hK hg => ok_loadOwnAgg ty33 rfl (kn (hK 9 rfl) rfl q9) (OwnB.ext f24 hE).own rfl) (.cons (fun _ _ hE hK hg => ok_move (kn (hK 2 rfl) rfl q2)) (.cons ?z10_2 (.cons (fun _ _ hE hK hg => ok_assign (ksv (j := 2) (hK 39 rfl) rfl rfl rfl)) .nil)))) ?zok10 ?zgd10 ?zk10
      case z10_2 => intro a' w' hE hK hg; have c_ := ok_court_check (x_0 := x12) (OkO.ext hB.ok hE) ⟨_, ⟨_, _, rfl, rfl, ⟨_, _, rfl, rfl, ⟨_, _, rfl, rfl, ⟨_, _, rfl, (rel_ofF (r := (rSl (rInt .i64))) (GR.v_ext _ f21 hE) rfl rfl), ⟨_, _, rfl, (rel_ofF (r := (rSl (rInt .i64))) (GR.v_ext _ f23 hE) rfl rfl), rfl⟩⟩⟩⟩⟩, rfl⟩ hx25; exact ok_call2 fn38 (ksv (j := 0) (hK 37 rfl) rfl rfl rfl) (ksv (j := 1) (hK 38 rfl) rfl rfl rfl) c_
      case zok10 | zgd10 => kernel_rfl
      intro a18 w18 hA hE HF
      replace q1 := kn (HF 1) rfl q1
      replace q2 := kn (HF 2) rfl q2
      replace q7 := kn (HF 7) rfl q7
      replace q9 := kn (HF 9) rfl q9
      have q10 := ksv (HF 10) rfl rfl rfl
      replace q31 := kn (HF 31) rfl q31
      replace q32 := kn (HF 32) rfl q32
      replace q33 := kn (HF 33) rfl q33
      clear HF
      replace h_1 := GR.v_ext _ h_1 hE
      replace f9 := f9.ext hE
      replace h_0 := GR.v_ext _ h_0 hE
      replace f24 := f24.ext hE
      replace f21 := GR.v_ext _ f21 hE
      replace f23 := GR.v_ext _ f23 hE
      replace hB := Base.step hB hE hO; clear hE
      refine li_nil (nx_then (wp_seq ?_))
      refine' region [_, _] mixed hA (.cons (fun _ _ hE hK hg => ok_move (kn (hK 10 rfl) rfl q10)) (.cons (fun _ _ hE hK hg => ok_neqI (ksv (j := 0) (hK 40 rfl) rfl rfl rfl) rfl) .nil)) ?zok11 ?zgd11 ?zk11
      case zok11 | zgd11 => kernel_rfl
      intro a19 w19 hA hE HF
      replace q1 := kn (HF 1) rfl q1
      replace q2 := kn (HF 2) rfl q2
      replace q7 := kn (HF 7) rfl q7
      replace q9 := kn (HF 9) rfl q9
      replace q10 := kn (HF 10) rfl q10
      replace q31 := kn (HF 31) rfl q31
      replace q32 := kn (HF 32) rfl q32
      replace q33 := kn (HF 33) rfl q33
      have q41 := ksv (HF 41) rfl rfl rfl
      clear HF
      replace h_1 := GR.v_ext _ h_1 hE
      replace f9 := f9.ext hE
      replace h_0 := GR.v_ext _ h_0 hE
      replace f24 := f24.ext hE
      replace f21 := GR.v_ext _ f21 hE
      replace f23 := GR.v_ext _ f23 hE
      replace hB := Base.step hB hE hO; clear hE
      refine li_nil (nx_then ?_)
      refine wp_cond_b q41 (fun hc => ?_) (fun hc => ?_)
      ·
       replace h := Comp.run_b_t hc h; clear hc
       refine wp_seq ?_
       refine' region [_, _] mixed hA (.cons (fun _ _ hE hK hg => ok_move (kn (hK 10 rfl) rfl q10)) (.cons (fun _ _ hE hK hg => ok_assign (ksv (j := 0) (hK 42 rfl) rfl rfl rfl)) .nil)) ?zok12 ?zgd12 ?zk12
       case zok12 | zgd12 => kernel_rfl
       intro a20 w20 hA hE HF
       have q6 := ksv (HF 6) rfl rfl rfl
       clear q1
       clear q2
       clear q7
       clear q9
       clear q10
       clear q31
       clear q32
       clear q33
       clear q41
       clear HF
       replace h_1 := GR.v_ext _ h_1 hE
       replace f9 := f9.ext hE
       replace h_0 := GR.v_ext _ h_0 hE
       replace f24 := f24.ext hE
       replace f21 := GR.v_ext _ f21 hE
       replace f23 := GR.v_ext _ f23 hE
       replace hB := Base.step hB hE hO; clear hE
       refine li_nil (nx_then (wp_ret (rt_then (rt_blk (rt_then (rt_then (rt_blk (rt_then ?_))))))))
       have hd_ := hdone2 _ (Comp.run_pure h).symm; clear h
       subst hd_; have h := hk2; clear hk2; try dsimp only at h
       have h := Comp.run_pure h; subst h
       exact retPure Try.results13 hA q6 hB.ext rfl
      ·
       replace h := Comp.run_b_f hc h; clear hc
       refine wp_skip (nx_then (wp_seq ?_))
       refine' regionT [SP.isv (.pointer (some ⟨b19, 1, none⟩)), SP.isv (.int .i64 x12.Kind), SP.isv (.pointer (some ⟨b19, 2, none⟩)), SP.isv (.int .i64 x12.Gauge), SP.isv (.agg (cellsA (fun x => [.int .i64 x]) (#v[x12.Kind, x12.Gauge] : Vector Int 2)).toArray), SP.box w19.heap.size (cellsA (fun x => [.int .i64 x]) (Vector.replicate 2 0)).toArray 73] hA (.cons (fun _ _ hE hK hg => ok_fieldAddr fl33_1 (kn (hK 9 rfl) rfl q9)) (.cons (fun _ _ hE hK hg => ok_loadOwn ty3 rfl (ksv (j := 0) (hK 43 rfl) rfl rfl rfl) (OwnB.ext f24 hE).own rfl) (.cons (fun _ _ hE hK hg => ok_fieldAddr fl33_2 (kn (hK 9 rfl) rfl q9)) (.cons (fun _ _ hE hK hg => ok_loadOwn ty3 rfl (ksv (j := 2) (hK 45 rfl) rfl rfl rfl) (OwnB.ext f24 hE).own rfl) (.cons ?z13_4 (.cons (fun _ _ hE hK hg => ok_alloc hE.size ty73) .nil)))))) ?zok13 ?zgd13 ?zk13
       case z13_4 => intro a' w' hE hK hg; refine okl_buildArr (vals := [(0, .int .i64 x12.Kind), (1, .int .i64 x12.Gauge)]) (out := [.int .i64 x12.Kind, .int .i64 x12.Gauge]) ty73 ty3 ?_ rfl ?_ rfl; exact (pk_cons (v := .int .i64 x12.Kind) (ksv (j := 1) (hK 44 rfl) rfl rfl rfl) (pk_cons (v := .int .i64 x12.Gauge) (ksv (j := 3) (hK 46 rfl) rfl rfl rfl) pk_nil)); exact (.cons rfl rfl rfl (leb rfl) (.cons rfl rfl rfl (leb rfl) .nil))
       case zok13 | zgd13 => kernel_rfl
       intro a21 w21 hA hE HF
       replace q1 := kn (HF 1) rfl q1
       replace q2 := kn (HF 2) rfl q2
       replace q7 := kn (HF 7) rfl q7
       replace q9 := kn (HF 9) rfl q9
       have f28 := ksp (HF 11) rfl rfl rfl
       obtain ⟨u27, q11'⟩ : ∃ u, a21.get 11 = u := ⟨_, rfl⟩
       rw [q11'] at f28
       have q11 := q11'; clear q11'
       replace q31 := kn (HF 31) rfl q31
       replace q32 := kn (HF 32) rfl q32
       replace q33 := kn (HF 33) rfl q33
       have q47 := ksv (HF 47) rfl rfl rfl
       clear q10
       clear q41
       clear HF
       obtain ⟨O29, b30, hB', hX, e_, f31⟩ := boxNew hO hB hE f28 3 (by decide)
       subst e_
       clear hB f28; have hB := hB'; clear hB'
       replace h_1 := GR.kx _ h_1 hX (by decide)
       replace f9 := f9.kx hX (by decide)
       replace h_0 := GR.kx _ h_0 hX (by decide)
       replace f24 := f24.kx hX (by decide)
       replace f21 := GR.kx _ f21 hX (by decide)
       replace f23 := GR.kx _ f23 hX (by decide)
       clear hX hE
       refine l_storeSub (vs := (cellsA (fun x => [.int .i64 x]) (#v[x12.Kind, x12.Gauge] : Vector Int 2))) (cs' := (cellsA (fun x => [.int .i64 x]) (#v[x12.Kind, x12.Gauge] : Vector Int 2)).toArray) hO hB (okB_fr hB) (ty73.szr (by simp [cellsA_len (f := (fun x => [.int .i64 x])) (k := 1) (fun _ => rfl)])) q11 q47 rfl ((show ∀ x_ : Vector Int 2, ∀ c_ ∈ (cellsA (fun x => [.int .i64 x]) x_), c_.oneCell' = true from (fun _ => (cellsA_one (fun _ => by simp [Value.oneCell']) _))) (#v[x12.Kind, x12.Gauge] : Vector Int 2)) f31 (by simp [cellsA_len (f := (fun x => [.int .i64 x])) (k := 1) (fun _ => rfl)]) (splice_all (by simp [cellsA_len (f := (fun x => [.int .i64 x])) (k := 1) (fun _ => rfl)])) fun w22 f32 hB' hX => ?_
       clear hB f31; have hB := hB'; clear hB'
       replace h_1 := GR.kx _ h_1 hX (by decide)
       replace f9 := f9.kx hX (by decide)
       replace h_0 := GR.kx _ h_0 hX (by decide)
       replace f24 := f24.kx hX (by decide)
       replace f21 := GR.kx _ f21 hX (by decide)
       replace f23 := GR.kx _ f23 hX (by decide)
       clear hX
       refine li_nil (nx_then (wp_seq ?_))
       refine' region [SP.isv (.pointer (some ⟨b19, 1, none⟩)), SP.isv (.int .i64 x12.Kind), _] mixed hA (.cons (fun _ _ hE hK hg => ok_fieldAddr fl33_1 (kn (hK 9 rfl) rfl q9)) (.cons (fun _ _ hE hK hg => ok_loadOwn ty3 rfl (ksv (j := 0) (hK 48 rfl) rfl rfl rfl) (OwnB.ext f24 hE).own rfl) (.cons (fun _ _ hE hK hg => ok_neqI (ksv (j := 1) (hK 49 rfl) rfl rfl rfl) rfl) .nil))) ?zok14 ?zgd14 ?zk14
       case zok14 | zgd14 => kernel_rfl
       intro a23 w23 hA hE HF
       replace q1 := kn (HF 1) rfl q1
       replace q2 := kn (HF 2) rfl q2
       replace q7 := kn (HF 7) rfl q7
       replace q11 := kn (HF 11) rfl q11
       replace q31 := kn (HF 31) rfl q31
       replace q32 := kn (HF 32) rfl q32
       replace q33 := kn (HF 33) rfl q33
       have q50 := ksv (HF 50) rfl rfl rfl
       clear q9
       clear HF
       replace h_1 := GR.v_ext _ h_1 hE
       replace f9 := f9.ext hE
       replace h_0 := GR.v_ext _ h_0 hE
       replace f24 := f24.ext hE
       replace f21 := GR.v_ext _ f21 hE
       replace f23 := GR.v_ext _ f23 hE
       replace f32 := f32.ext hE
       replace hB := Base.step hB hE hO; clear hE
       refine li_nil (nx_then ?_)
       refine wp_cond_b q50 (fun hc => ?_) (fun hc => ?_)
       ·
        replace h := Comp.run_b_t hc h; clear hc
        refine wp_seq (wp_seq ?_)
        refine' region [_, SP.isv (.agg (cellsA (fun x => [.int .i64 x]) (#v[x12.Kind, x12.Gauge] : Vector Int 2)).toArray), SP.isv (.bool ((mget x7 (#v[x12.Kind, x12.Gauge] : Vector Int 2)).getD false))] mixed hA (.cons (fun _ _ hE hK hg => ok_move (kn (hK 7 rfl) rfl q7)) (.cons (fun _ _ hE hK hg => ok_loadOwnAgg ty73 rfl (kn (hK 11 rfl) rfl q11) (OwnB.ext f32 hE).own (by simp [cellsA_len (f := (fun x => [.int .i64 x])) (k := 1) (fun _ => rfl)])) (.cons (fun _ _ hE hK hg => okl_lookup (y := (#v[x12.Kind, x12.Gauge] : Vector Int 2)) (z0 := false) ty71 ty4 rfl key73 (ksv (j := 0) (hK 51 rfl) rfl rfl rfl) (OwnM.ext f9 hE) (ksv (j := 1) (hK 52 rfl) rfl rfl rfl)) .nil))) ?zok15 ?zgd15 ?zk15
        case zok15 | zgd15 => kernel_rfl
        intro a24 w24 hA hE HF
        replace q1 := kn (HF 1) rfl q1
        replace q2 := kn (HF 2) rfl q2
        replace q7 := kn (HF 7) rfl q7
        replace q11 := kn (HF 11) rfl q11
        replace q31 := kn (HF 31) rfl q31
        replace q32 := kn (HF 32) rfl q32
        replace q33 := kn (HF 33) rfl q33
        have q53 := ksv (HF 53) rfl rfl rfl
        clear q50
        clear HF
        replace h_1 := GR.v_ext _ h_1 hE
        replace f9 := f9.ext hE
        replace h_0 := GR.v_ext _ h_0 hE
        replace f32 := f32.ext hE
        replace hB := Base.step hB hE hO; clear hE
        obtain ⟨x33, hx_, h⟩ := Comp.run_bind h; replace hx_ := Comp.run_pure hx_; rw [hx_] at q53; clear hx_
        refine li_nil (nx_then ?_)
        refine wp_cond_b q53 (fun hc => ?_) (fun hc => ?_)
        ·
         replace h := Comp.run_b_t hc h; clear hc
         refine wp_seq ?_
         refine' region [_] mixed hA (.cons (fun _ _ hE hK hg => ok_assign rfl) .nil) ?zok16 ?zgd16 ?zk16
         case zok16 | zgd16 => kernel_rfl
         intro a25 w25 hA hE HF
         have q6 := ksv (HF 6) rfl rfl rfl
         clear q1
         clear q2
         clear q7
         clear q11
         clear q31
         clear q32
         clear q33
         clear q53
         clear HF
         replace h_1 := GR.v_ext _ h_1 hE
         replace f9 := f9.ext hE
         replace h_0 := GR.v_ext _ h_0 hE
         replace f32 := f32.ext hE
         replace hB := Base.step hB hE hO; clear hE
         refine li_nil (nx_then (wp_ret (rt_then (rt_blk (rt_then (rt_then (rt_blk (rt_then ?_))))))))
         have hd_ := hdone2 _ (Comp.run_pure h).symm; clear h
         subst hd_; have h := hk2; clear hk2; try dsimp only at h
         have h := Comp.run_pure h; subst h
         exact retPure Try.results13 hA q6 hB.ext rfl
        ·
         replace h := Comp.run_b_f hc h; clear hc
         refine wp_skip (nx_then ?_)
         refine' regionT [_, SP.isv (.agg (cellsA (fun x => [.int .i64 x]) (#v[x12.Kind, x12.Gauge] : Vector Int 2)).toArray)] hA (.cons (fun _ _ hE hK hg => ok_move (kn (hK 7 rfl) rfl q7)) (.cons (fun _ _ hE hK hg => ok_loadOwnAgg ty73 rfl (kn (hK 11 rfl) rfl q11) (OwnB.ext f32 hE).own (by simp [cellsA_len (f := (fun x => [.int .i64 x])) (k := 1) (fun _ => rfl)])) .nil)) ?zok17 ?zgd17 ?zk17
         case zok17 | zgd17 => kernel_rfl
         intro a26 w26 hA hE HF
         replace q1 := kn (HF 1) rfl q1
         replace q2 := kn (HF 2) rfl q2
         replace q7 := kn (HF 7) rfl q7
         replace q31 := kn (HF 31) rfl q31
         replace q32 := kn (HF 32) rfl q32
         replace q33 := kn (HF 33) rfl q33
         have q54 := ksv (HF 54) rfl rfl rfl
         have q55 := ksv (HF 55) rfl rfl rfl
         clear q11
         clear q53
         clear HF
         replace h_1 := GR.v_ext _ h_1 hE
         replace f9 := f9.ext hE
         replace h_0 := GR.v_ext _ h_0 hE
         replace f32 := f32.ext hE
         replace hB := Base.step hB hE hO; clear hE
         refine l_mapUpdate (y := (#v[x12.Kind, x12.Gauge] : Vector Int 2)) (z := true) hO hB (okB_fr hB) ty71 key73 q54 f9 q55 rfl fun w27 f35 hB' hX => ?_
         clear hB f9; have hB := hB'; clear hB'
         replace h_1 := GR.kx _ h_1 hX (by decide)
         replace h_0 := GR.kx _ h_0 hX (by decide)
         clear hX
         refine li_nil (nx_blk (nx_then ?_))
         exact ⟨_, _, _, hA, hB, q1, h_1, q2, q7, f35, q31, h_0, q32, q33, h⟩
       ·
        replace h := Comp.run_b_f hc h; clear hc
        refine wp_skip (nx_blk (nx_then ?_))
        exact ⟨_, _, _, hA, hB, q1, h_1, q2, q7, f9, q31, h_0, q32, q33, h⟩
     intro a28 w28 hI
     clear hA hB h q1 q2 q7 q31 q32 q33 q34 f9 h_0 h_1
     obtain ⟨O39, x36, u37, hA, hB, q1, h_1, q2, q7, f38, q31, h_0, q32, q33, h⟩ := hI
     unfold court_Check_j3 at h
     refine' region [_, _] mixed hA (.cons (fun _ _ hE hK hg => ok_add (kn (hK 33 rfl) rfl q33) rfl) (.cons (fun _ _ hE hK hg => ok_move (ksv (j := 0) (hK 56 rfl) rfl rfl rfl)) .nil)) ?zok18 ?zgd18 ?zk18
     case zok18 | zgd18 => kernel_rfl
     intro a29 w29 hA hE HF
     replace q1 := kn (HF 1) rfl q1
     replace q2 := kn (HF 2) rfl q2
     replace q7 := kn (HF 7) rfl q7
     replace q31 := kn (HF 31) rfl q31
     replace q32 := kn (HF 32) rfl q32
     have q33' := ksv (HF 33) rfl rfl rfl
     replace q33 := q33'; clear q33'
     clear HF
     replace h_1 := GR.v_ext _ h_1 hE
     replace f38 := f38.ext hE
     replace h_0 := GR.v_ext _ h_0 hE
     replace hB := Base.step hB hE hO; clear hE
     refine li_nil (nx_then ?_)
     have h := hnext2 _ (Comp.run_pure h).symm
     refine ⟨m2, hlt2, ?_⟩
     exact ⟨_, _, _, _, hA, hB, q1, h_1, q2, q7, f38, q31, h_0, q32, q33, h⟩
    ·
     replace h := Comp.run_b_f hc h; clear hc
     refine wp_exit (ex_then (ex_then (ex_same ?_)))
     have hd_ := hdone2 _ (Comp.run_pure h).symm; clear h
     subst hd_; have h := hk2; clear hk2; try dsimp only at h
     refine nx_then ?_
     exact ⟨_, hA, hB, q1, h_1, q2, h⟩
   intro a30 w30 hI
   clear hA hB h q0 q1 q2 q7 f6 h_0 h_1
   obtain ⟨O40, hA, hB, q1, h_1, q2, h⟩ := hI
   unfold court_Check_j1 at h
   refine seq_join (fun a w => ∃ (O52 : Tags), a.fit 83 ∧ Base (Fr w0) O w0 O52 w ∧ (court_Check_j4 ).run n = some y) ?_ ?_
   ·
    refine wp_seq ?_
    refine' region [_, _, _] mixed hA (.cons (fun _ _ hE hK hg => ok_move (kn (hK 1 rfl) rfl q1)) (.cons (fun _ _ hE hK hg => okl_len (r := r_api_Sight) ty28 (ksv (j := 0) (hK 57 rfl) rfl rfl rfl) (rd_of (GR.v_ext _ h_1 hE))) (.cons (fun _ _ hE hK hg => ok_move rfl) .nil))) ?zok19 ?zgd19 ?zk19
    case zok19 | zgd19 => kernel_rfl
    intro a31 w31 hA hE HF
    replace q2 := kn (HF 2) rfl q2
    have q57 := ksv (HF 57) rfl rfl rfl
    have q58 := ksv (HF 58) rfl rfl rfl
    have q59 := ksv (HF 59) rfl rfl rfl
    clear q1
    clear HF
    replace h_1 := GR.v_ext _ h_1 hE
    replace hB := Base.step hB hE hO; clear hE
    refine li_nil (nx_then (wp_block ?_))
    obtain ⟨e5, he5, hk5⟩ := Comp.run_bind h; clear h
    refine loop_m (fun m a w => ∃ (O42 : Tags) (x41 : Int), a.fit 83 ∧ Base (Fr w0) O w0 O42 w ∧ a.get 2 = .int .i64 x_2 ∧ a.get 57 = v_1 ∧ (rSl r_api_Sight).v O42 w v_1 x_1 ∧ a.get 58 = .int .i64 (x_1.length : Int) ∧ a.get 59 = .int .i64 x41 ∧ Comp.loopN (fun s => court_Check_l5 x_1 x_2 s) n m x41 = some e5) (m := n) ?st5 ?_
    case st5 =>
     exact ⟨_, _, hA, hB, q2, q57, h_1, q58, q59, Comp.run_loop he5⟩
    intro m_ a32 w32 hI
    clear hA hB he5 q2 q57 q58 q59 h_1
    obtain ⟨O42, x41, hA, hB, q2, q57, h_1, q58, q59, hl⟩ := hI
    obtain ⟨m5, hlt5, st5, h, hnext5, hdone5⟩ := Comp.loopN_succ hl; clear hl
    replace h : (court_Check_l5 x_1 x_2 x41).run n = some st5 := h
    unfold court_Check_l5 at h
    refine wp_seq ?_
    refine' region [_] mixed hA (.cons (fun _ _ hE hK hg => ok_lss (kn (hK 59 rfl) rfl q59) (kn (hK 58 rfl) rfl q58)) .nil) ?zok20 ?zgd20 ?zk20
    case zok20 | zgd20 => kernel_rfl
    intro a33 w33 hA hE HF
    replace q2 := kn (HF 2) rfl q2
    replace q57 := kn (HF 57) rfl q57
    replace q58 := kn (HF 58) rfl q58
    replace q59 := kn (HF 59) rfl q59
    have q60 := ksv (HF 60) rfl rfl rfl
    clear HF
    replace h_1 := GR.v_ext _ h_1 hE
    replace hB := Base.step hB hE hO; clear hE
    refine li_nil (nx_then (wp_seq ?_))
    refine wp_cond_b q60 (fun hc => ?_) (fun hc => ?_)
    ·
     replace h := Comp.run_b_t hc h; clear hc
     refine wp_skip (nx_then (wp_seq (wp_block (wp_seq ?_))))
     obtain ⟨x43, hx43, h⟩ := Comp.run_bind h
     refine' regionT [SP.ptr r_api_Sight O42 x43, SP.isv (.agg #[.int .i64 x43.Gauge, .int .i64 x43.Cell, .bool x43.There]), SP.box w33.heap.size #[.int .i64 0, .int .i64 0, .bool false] 64] hA (.cons (fun _ _ hE hK hg => okl_idx (r := r_api_Sight) (O := O42) ty28 ty64 rfl (kn (hK 57 rfl) rfl q57) (rd_of (GR.v_ext _ h_1 hE)) (kn (hK 59 rfl) rfl q59) hx43) (.cons (fun _ _ hE hK hg => okl_ldr r_api_Sight fit_api_Sight ty64 rfl rfl rfl (kspS (φ := SP.ptr r_api_Sight O42 x43) (j := 0) (hK 61 rfl) rfl rfl rfl) (fun _ _ _ h => rC_v.1 h)) (.cons (fun _ _ hE hK hg => ok_alloc hE.size ty64) .nil))) ?zok21 ?zgd21 ?zk21
     case zok21 | zgd21 => kernel_rfl
     intro a34 w34 hA hE HF
     replace q2 := kn (HF 2) rfl q2
     have f45 := ksp (HF 13) rfl rfl rfl
     obtain ⟨u44, q13'⟩ : ∃ u, a34.get 13 = u := ⟨_, rfl⟩
     rw [q13'] at f45
     have q13 := q13'; clear q13'
     replace q57 := kn (HF 57) rfl q57
     replace q58 := kn (HF 58) rfl q58
     replace q59 := kn (HF 59) rfl q59
     have q62 := ksv (HF 62) rfl rfl rfl
     clear q60
     clear HF
     obtain ⟨O46, b47, hB', hX, e_, f48⟩ := boxNew hO hB hE f45 4 (by decide)
     subst e_
     clear hB f45; have hB := hB'; clear hB'
     replace h_1 := GR.kx _ h_1 hX (by decide)
     clear hX hE
     refine l_storeSub (vs := [.int .i64 x43.Gauge, .int .i64 x43.Cell, .bool x43.There]) (cs' := #[.int .i64 x43.Gauge, .int .i64 x43.Cell, .bool x43.There]) hO hB (okB_fr hB) ty64 q13 q62 rfl (by simp [Value.oneCell']) f48 (by simp) rfl fun w35 f49 hB' hX => ?_
     clear hB f48; have hB := hB'; clear hB'
     replace h_1 := GR.kx _ h_1 hX (by decide)
     clear hX
     refine li_nil (nx_then (wp_seq ?_))
     refine' region [SP.isv (.pointer (some ⟨b47, 0, none⟩)), SP.isv (.int .i64 x43.Gauge), _, _, SP.isv (.pointer (some ⟨b47, 0, none⟩)), SP.isv (.int .i64 x43.Gauge), _, _, _, SP.isv (.pointer (some ⟨b47, 1, none⟩)), SP.isv (.int .i64 x43.Cell), _, _, _, SP.isv (.pointer (some ⟨b47, 1, none⟩)), SP.isv (.int .i64 x43.Cell), _, _, _] mixed hA (.cons (fun _ _ hE hK hg => ok_fieldAddr fl64_0 (kn (hK 13 rfl) rfl q13)) (.cons (fun _ _ hE hK hg => ok_loadOwn ty3 rfl (ksv (j := 0) (hK 63 rfl) rfl rfl rfl) (OwnB.ext f49 hE).own rfl) (.cons (fun _ _ hE hK hg => ok_lss (ksv (j := 1) (hK 64 rfl) rfl rfl rfl) rfl) (.cons (fun _ _ hE hK hg => ok_move (ksv (j := 2) (hK 65 rfl) rfl rfl rfl)) (.cons (fun _ _ hE hK hg => ok_fieldAddr fl64_0 (kn (hK 13 rfl) rfl q13)) (.cons ?z22_5 (.cons ?z22_6 (.cons ?z22_7 (.cons (fun _ _ hE hK hg => ok_move (ksv (j := 7) (hK 70 rfl) rfl rfl rfl)) (.cons (fun _ _ hE hK hg => ok_fieldAddr fl64_1 (kn (hK 13 rfl) rfl q13)) (.cons ?z22_10 (.cons ?z22_11 (.cons ?z22_12 (.cons (fun _ _ hE hK hg => ok_move (ksv (j := 12) (hK 75 rfl) rfl rfl rfl)) (.cons (fun _ _ hE hK hg => ok_fieldAddr fl64_1 (kn (hK 13 rfl) rfl q13)) (.cons ?z22_15 (.cons (fun _ _ hE hK hg => ok_move (kn (hK 2 rfl) rfl q2)) (.cons ?z22_17 (.cons ?z22_18 .nil))))))))))))))))))) ?zok22 ?zgd22 ?zk22
     case z22_5 => intro a' w' hE hK hg; exact ok_loadOwn ty3 rfl (ksv (j := 4) (hK 67 rfl) rfl rfl hg) (OwnB.ext f49 hE).own rfl
     case z22_6 => intro a' w' hE hK hg; exact ok_geq (ksv (j := 5) (hK 68 rfl) rfl rfl hg) rfl
     case z22_7 => intro a' w' hE hK hg; exact ok_pick (ksv (j := 3) (hK 66 rfl) rfl rfl rfl) (fun _ => rfl) (fun hb => ksv (j := 6) (hK 69 rfl) rfl rfl (act_g1 rfl rfl hb))
     case z22_10 => intro a' w' hE hK hg; exact ok_loadOwn ty3 rfl (ksv (j := 9) (hK 72 rfl) rfl rfl hg) (OwnB.ext f49 hE).own rfl
     case z22_11 => intro a' w' hE hK hg; exact ok_lss (ksv (j := 10) (hK 73 rfl) rfl rfl hg) rfl
     case z22_12 => intro a' w' hE hK hg; exact ok_pick (ksv (j := 8) (hK 71 rfl) rfl rfl rfl) (fun _ => rfl) (fun hb => ksv (j := 11) (hK 74 rfl) rfl rfl (act_g1 rfl rfl hb))
     case z22_15 => intro a' w' hE hK hg; exact ok_loadOwn ty3 rfl (ksv (j := 14) (hK 77 rfl) rfl rfl hg) (OwnB.ext f49 hE).own rfl
     case z22_17 => intro a' w' hE hK hg; exact ok_geq (ksv (j := 15) (hK 78 rfl) rfl rfl hg) (ksv (j := 16) (hK 79 rfl) rfl rfl hg)
     case z22_18 => intro a' w' hE hK hg; exact ok_pick (ksv (j := 13) (hK 76 rfl) rfl rfl rfl) (fun _ => rfl) (fun hb => ksv (j := 17) (hK 80 rfl) rfl rfl (act_g1 rfl rfl hb))
     case zok22 | zgd22 => kernel_rfl
     intro a36 w36 hA hE HF
     replace q2 := kn (HF 2) rfl q2
     replace q57 := kn (HF 57) rfl q57
     replace q58 := kn (HF 58) rfl q58
     replace q59 := kn (HF 59) rfl q59
     have q81 := ksv (HF 81) rfl rfl rfl
     clear q13
     clear HF
     replace h_1 := GR.v_ext _ h_1 hE
     replace f49 := f49.ext hE
     replace hB := Base.step hB hE hO; clear hE
     obtain ⟨x50, hx_, h⟩ := Comp.run_bind h; replace hx_ := Comp.run_pure hx_; rw [hx_] at q81; clear hx_
     refine li_nil (nx_then ?_)
     refine wp_cond_b q81 (fun hc => ?_) (fun hc => ?_)
     ·
      replace h := Comp.run_b_t hc h; clear hc
      refine wp_seq ?_
      refine' region [_] mixed hA (.cons (fun _ _ hE hK hg => ok_assign rfl) .nil) ?zok23 ?zgd23 ?zk23
      case zok23 | zgd23 => kernel_rfl
      intro a37 w37 hA hE HF
      have q6 := ksv (HF 6) rfl rfl rfl
      clear q2
      clear q57
      clear q58
      clear q59
      clear q81
      clear HF
      replace h_1 := GR.v_ext _ h_1 hE
      replace hB := Base.step hB hE hO; clear hE
      refine li_nil (nx_then (wp_ret (rt_blk (rt_then (rt_then (rt_blk (rt_then ?_)))))))
      have hd_ := hdone5 _ (Comp.run_pure h).symm; clear h
      subst hd_; have h := hk5; clear hk5; try dsimp only at h
      have h := Comp.run_pure h; subst h
      exact retPure Try.results13 hA q6 hB.ext rfl
     ·
      replace h := Comp.run_b_f hc h; clear hc
      refine wp_skip (nx_blk (nx_then ?_))
      refine' region [_, _] mixed hA (.cons (fun _ _ hE hK hg => ok_add (kn (hK 59 rfl) rfl q59) rfl) (.cons (fun _ _ hE hK hg => ok_move (ksv (j := 0) (hK 82 rfl) rfl rfl rfl)) .nil)) ?zok24 ?zgd24 ?zk24
      case zok24 | zgd24 => kernel_rfl
      intro a38 w38 hA hE HF
      replace q2 := kn (HF 2) rfl q2
      replace q57 := kn (HF 57) rfl q57
      replace q58 := kn (HF 58) rfl q58
      have q59' := ksv (HF 59) rfl rfl rfl
      replace q59 := q59'; clear q59'
      clear q81
      clear HF
      replace h_1 := GR.v_ext _ h_1 hE
      replace hB := Base.step hB hE hO; clear hE
      refine li_nil (nx_then ?_)
      have h := hnext5 _ (Comp.run_pure h).symm
      refine ⟨m5, hlt5, ?_⟩
      exact ⟨_, _, hA, hB, q2, q57, h_1, q58, q59, h⟩
    ·
     replace h := Comp.run_b_f hc h; clear hc
     refine wp_exit (ex_then (ex_then (ex_same ?_)))
     have hd_ := hdone5 _ (Comp.run_pure h).symm; clear h
     subst hd_; have h := hk5; clear hk5; try dsimp only at h
     refine nx_then ?_
     exact ⟨_, hA, hB, h⟩
   intro a39 w39 hI
   clear hA hB h q1 q2 h_1
   obtain ⟨O52, hA, hB, h⟩ := hI
   unfold court_Check_j4 at h
   refine wp_seq ?_
   refine' region [_] mixed hA (.cons (fun _ _ hE hK hg => ok_assign rfl) .nil) ?zok25 ?zgd25 ?zk25
   case zok25 | zgd25 => kernel_rfl
   intro a40 w40 hA hE HF
   have q6 := ksv (HF 6) rfl rfl rfl
   clear HF
   replace hB := Base.step hB hE hO; clear hE
   refine li_nil (nx_then (wp_ret ?_))
   have h := Comp.run_pure h; subst h
   exact retPure Try.results13 hA q6 hB.ext rfl
set_option maxHeartbeats 4000000 in
theorem ok_court_voices {O : Tags} {w0 : World} (hO : OkO O w0) {v_0 : Value} {x_0 : List api_Claim} (h_0 : (rSl r_api_Claim).v O w0 v_0 x_0) {v_1 : Value} {x_1 : List api_Sight} (h_1 : (rSl r_api_Sight).v O w0 v_1 x_1) {n : Nat} {y : (List court_voice)} (h : (court_voices x_0 x_1).run n = some y) : Pure Try.prog 41 #[v_0, v_1] w0 (SP.ownr r_court_voice 94 (w0.heap.size) O y).holds := by
 unfold court_voices at h
 refine pure_of_wp Try.func41 rfl 62 Try.ntmps41 (by simp) fun a0 hA hs0 => ?_
 have q0 : a0.get 0 = v_0 := hs0 0 _ rfl
 have q1 : a0.get 1 = v_1 := hs0 1 _ rfl
 clear hs0
 have hB : Base (Fr w0) O w0 O w0 := Base.start hO
 refine wp_seq ?_
 refine' region [_] mixed hA (.cons (fun _ _ hE hK hg => ok_assign rfl) .nil) ?zok1 ?zgd1 ?zk1
 case zok1 | zgd1 => kernel_rfl
 intro a1 w1 hA hE HF
 replace q0 := kn (HF 0) rfl q0
 replace q1 := kn (HF 1) rfl q1
 clear HF
 replace h_0 := GR.v_ext _ h_0 hE
 replace h_1 := GR.v_ext _ h_1 hE
 replace hB := Base.step hB hE hO; clear hE
 refine li_nil (nx_then (wp_seq ?_))
 refine' region [_] mixed hA (.cons (fun _ _ hE hK hg => ok_assign rfl) .nil) ?zok2 ?zgd2 ?zk2
 case zok2 | zgd2 => kernel_rfl
 intro a2 w2 hA hE HF
 replace q0 := kn (HF 0) rfl q0
 replace q1 := kn (HF 1) rfl q1
 have q5 := ksv (HF 5) rfl rfl rfl
 clear HF
 replace h_0 := GR.v_ext _ h_0 hE
 replace h_1 := GR.v_ext _ h_1 hE
 replace hB := Base.step hB hE hO; clear hE
 refine li_nil (nx_then ?_)
 refine seq_join (fun a w => ∃ (O76 : Tags) (x73 : List court_voice) (u74 : Value), a.fit 62 ∧ Base (Fr w0) O w0 O76 w ∧ a.get 5 = u74 ∧ OwnL 1 r_court_voice 94 (Fr w0) O76 w u74 x73 ∧ (court_voices_j1 x73).run n = some y) ?_ ?_
 ·
  refine wp_seq ?_
  refine' region [_, _, _] mixed hA (.cons (fun _ _ hE hK hg => ok_move (kn (hK 0 rfl) rfl q0)) (.cons (fun _ _ hE hK hg => okl_len (r := r_api_Claim) ty27 (ksv (j := 0) (hK 11 rfl) rfl rfl rfl) (rd_of (GR.v_ext _ h_0 hE))) (.cons (fun _ _ hE hK hg => ok_move rfl) .nil))) ?zok3 ?zgd3 ?zk3
  case zok3 | zgd3 => kernel_rfl
  intro a3 w3 hA hE HF
  replace q1 := kn (HF 1) rfl q1
  replace q5 := kn (HF 5) rfl q5
  have q11 := ksv (HF 11) rfl rfl rfl
  have q12 := ksv (HF 12) rfl rfl rfl
  have q13 := ksv (HF 13) rfl rfl rfl
  clear q0
  clear HF
  replace h_0 := GR.v_ext _ h_0 hE
  replace h_1 := GR.v_ext _ h_1 hE
  replace hB := Base.step hB hE hO; clear hE
  refine li_nil (nx_then (wp_block ?_))
  obtain ⟨e2, he2, hk2⟩ := Comp.run_bind h; clear h
  refine loop_m (fun m a w => ∃ (O5 : Tags) (x1 : List court_voice) (x4 : Int) (u2 : Value), a.fit 62 ∧ Base (Fr w0) O w0 O5 w ∧ a.get 1 = v_1 ∧ (rSl r_api_Sight).v O5 w v_1 x_1 ∧ a.get 5 = u2 ∧ OwnL 1 r_court_voice 94 (Fr w0) O5 w u2 x1 ∧ a.get 11 = v_0 ∧ (rSl r_api_Claim).v O5 w v_0 x_0 ∧ a.get 12 = .int .i64 (x_0.length : Int) ∧ a.get 13 = .int .i64 x4 ∧ Comp.loopN (fun s => court_voices_l2 x_0 x_1 s.1 s.2) n m (x1, x4) = some e2) (m := n) ?st2 ?_
  case st2 =>
   exact ⟨_, _, _, _, hA, hB, q1, h_1, q5, (OwnL.nil _ _ _ _ _ _), q11, h_0, q12, q13, Comp.run_loop he2⟩
  intro m_ a4 w4 hI
  clear hA hB he2 q1 q5 q11 q12 q13 h_0 h_1
  obtain ⟨O5, x1, x4, u2, hA, hB, q1, h_1, q5, f3, q11, h_0, q12, q13, hl⟩ := hI
  obtain ⟨m2, hlt2, st2, h, hnext2, hdone2⟩ := Comp.loopN_succ hl; clear hl
  replace h : (court_voices_l2 x_0 x_1 x1 x4).run n = some st2 := h
  unfold court_voices_l2 at h
  refine wp_seq ?_
  refine' region [_] mixed hA (.cons (fun _ _ hE hK hg => ok_lss (kn (hK 13 rfl) rfl q13) (kn (hK 12 rfl) rfl q12)) .nil) ?zok4 ?zgd4 ?zk4
  case zok4 | zgd4 => kernel_rfl
  intro a5 w5 hA hE HF
  replace q1 := kn (HF 1) rfl q1
  replace q5 := kn (HF 5) rfl q5
  replace q11 := kn (HF 11) rfl q11
  replace q12 := kn (HF 12) rfl q12
  replace q13 := kn (HF 13) rfl q13
  have q14 := ksv (HF 14) rfl rfl rfl
  clear HF
  replace h_1 := GR.v_ext _ h_1 hE
  replace f3 := f3.ext hE
  replace h_0 := GR.v_ext _ h_0 hE
  replace hB := Base.step hB hE hO; clear hE
  refine li_nil (nx_then (wp_seq ?_))
  refine wp_cond_b q14 (fun hc => ?_) (fun hc => ?_)
  ·
   replace h := Comp.run_b_t hc h; clear hc
   refine wp_skip (nx_then ?_)
   refine seq_join (fun a w => ∃ (O70 : Tags) (x25 : List court_voice) (u26 : Value), a.fit 62 ∧ Base (Fr w0) O w0 O70 w ∧ a.get 1 = v_1 ∧ (rSl r_api_Sight).v O70 w v_1 x_1 ∧ a.get 5 = u26 ∧ OwnL 1 r_court_voice 94 (Fr w0) O70 w u26 x25 ∧ a.get 11 = v_0 ∧ (rSl r_api_Claim).v O70 w v_0 x_0 ∧ a.get 12 = .int .i64 (x_0.length : Int) ∧ a.get 13 = .int .i64 x4 ∧ (court_voices_j3 x4 x25).run n = some st2) ?_ ?_
   ·
    refine wp_block (wp_seq ?_)
    obtain ⟨x6, hx6, h⟩ := Comp.run_bind h
    refine' regionT [SP.ptr r_api_Claim O5 x6, SP.vl r_api_Claim O5 x6] hA (.cons (fun _ _ hE hK hg => okl_idx (r := r_api_Claim) (O := O5) ty27 ty33 rfl (kn (hK 11 rfl) rfl q11) (rd_of (GR.v_ext _ h_0 hE)) (kn (hK 13 rfl) rfl q13) hx6) (.cons (fun _ _ hE hK hg => okl_ld (r := r_api_Claim) fit_api_Claim ty33 rfl rfl rfl (kspS (φ := SP.ptr r_api_Claim O5 x6) (j := 0) (hK 15 rfl) rfl rfl rfl)) .nil)) ?zok5 ?zgd5 ?zk5
    case zok5 | zgd5 => kernel_rfl
    intro a6 w6 hA hE HF
    replace q1 := kn (HF 1) rfl q1
    replace q5 := kn (HF 5) rfl q5
    replace q11 := kn (HF 11) rfl q11
    replace q12 := kn (HF 12) rfl q12
    replace q13 := kn (HF 13) rfl q13
    have f8 := ksp (HF 16) rfl rfl rfl
    obtain ⟨u7, q16'⟩ : ∃ u, a6.get 16 = u := ⟨_, rfl⟩
    rw [q16'] at f8
    have q16 := q16'; clear q16'
    clear q14
    clear HF
    replace h_1 := GR.v_ext _ h_1 hE
    replace f3 := f3.ext hE
    replace h_0 := GR.v_ext _ h_0 hE
    replace hB := Base.step hB hE hO; clear hE
    refine l_ok (φ := SP.box w6.heap.size #[.int .i64 0, .int .i64 0, .int .i64 0, .slice none 0 0, .slice none 0 0] 33) hO hB (by exact ok_alloc (Nat.le_refl _) ty33) rfl fun u9 w7 hE hB' f10 => ?_
    clear hB'; obtain ⟨O11, b13, hB', hX, e_, f12⟩ := boxNew hO hB hE f10 2 (by decide)
    subst e_; clear hB f10; have hB := hB'; clear hB'
    replace h_1 := GR.kx _ h_1 hX (by decide)
    replace f3 := f3.kx hX (by decide) (by decide)
    replace h_0 := GR.kx _ h_0 hX (by decide)
    replace f8 := GR.kx _ f8 hX (by decide)
    clear hX hE
    refine put_cont hA (by decide) fun a8 hA q_ hfr => ?_
    replace q1 := (hfr 1 rfl).trans q1
    replace q5 := (hfr 5 rfl).trans q5
    replace q11 := (hfr 11 rfl).trans q11
    replace q12 := (hfr 12 rfl).trans q12
    replace q13 := (hfr 13 rfl).trans q13
    replace q16 := (hfr 16 rfl).trans q16
    have q7 := q_; clear q_ hfr
    obtain ⟨u14, u16, e_, f15, f17⟩ := openV_api_Claim f8; subst e_
    refine l_storeSub (vs := [.int .i64 x6.Party, .int .i64 x6.Kind, .int .i64 x6.Gauge, u14, u16]) (cs' := #[.int .i64 x6.Party, .int .i64 x6.Kind, .int .i64 x6.Gauge, u14, u16]) hO hB (okB_fr hB) ty33 q7 q16 rfl (by intro c_ hc_; simp only [List.mem_cons, List.not_mem_nil, or_false] at hc_; rcases hc_ with rfl | rfl | rfl | rfl | rfl <;> first | rfl | assumption | exact sl_one f15 rfl rfl | exact sl_one f17 rfl rfl) f12 (by simp) rfl fun w9 f18 hB' hX => ?_
    clear hB f12; have hB := hB'; clear hB'
    replace h_1 := GR.kx _ h_1 hX (by decide)
    replace f3 := f3.kx hX (by decide) (by decide)
    replace h_0 := GR.kx _ h_0 hX (by decide)
    replace f15 := GR.kx _ f15 hX (by decide)
    replace f17 := GR.kx _ f17 hX (by decide)
    clear hX
    refine li_nil (nx_then (wp_seq ?_))
    refine' region [SP.isv (.pointer (some ⟨b13, 1, none⟩)), SP.isv (.int .i64 x6.Kind)] mixed hA (.cons (fun _ _ hE hK hg => ok_fieldAddr fl33_1 (kn (hK 7 rfl) rfl q7)) (.cons (fun _ _ hE hK hg => ok_loadOwn ty3 rfl (ksv (j := 0) (hK 17 rfl) rfl rfl rfl) (OwnB.ext f18 hE).own rfl) .nil)) ?zok6 ?zgd6 ?zk6
    case zok6 | zgd6 => kernel_rfl
    intro a10 w10 hA hE HF
    replace q1 := kn (HF 1) rfl q1
    replace q5 := kn (HF 5) rfl q5
    replace q7 := kn (HF 7) rfl q7
    replace q11 := kn (HF 11) rfl q11
    replace q12 := kn (HF 12) rfl q12
    replace q13 := kn (HF 13) rfl q13
    have q18 := ksv (HF 18) rfl rfl rfl
    clear HF
    replace h_1 := GR.v_ext _ h_1 hE
    replace f3 := f3.ext hE
    replace h_0 := GR.v_ext _ h_0 hE
    replace f18 := f18.ext hE
    replace f15 := GR.v_ext _ f15 hE
    replace f17 := GR.v_ext _ f17 hE
    replace hB := Base.step hB hE hO; clear hE
    refine li_nil (nx_then (wp_block (wp_seq ?_)))
    refine' region [_, _] mixed hA (.cons (fun _ _ hE hK hg => ok_eqlI (kn (hK 18 rfl) rfl q18) rfl) (.cons (fun _ _ hE hK hg => ok_assign (ksv (j := 0) (hK 41 rfl) rfl rfl rfl)) .nil)) ?zok7 ?zgd7 ?zk7
    case zok7 | zgd7 => kernel_rfl
    intro a11 w11 hA hE HF
    replace q1 := kn (HF 1) rfl q1
    replace q5 := kn (HF 5) rfl q5
    replace q7 := kn (HF 7) rfl q7
    replace q11 := kn (HF 11) rfl q11
    replace q12 := kn (HF 12) rfl q12
    replace q13 := kn (HF 13) rfl q13
    replace q18 := kn (HF 18) rfl q18
    have q40 := ksv (HF 40) rfl rfl rfl
    clear HF
    replace h_1 := GR.v_ext _ h_1 hE
    replace f3 := f3.ext hE
    replace h_0 := GR.v_ext _ h_0 hE
    replace f18 := f18.ext hE
    replace f15 := GR.v_ext _ f15 hE
    replace f17 := GR.v_ext _ f17 hE
    replace hB := Base.step hB hE hO; clear hE
    refine li_nil (nx_then ?_)
    refine wp_cond_b q40 (fun hc => ?_) (fun hc => ?_)
    ·
     replace h := Comp.run_b_t hc h; clear hc
     refine' regionT [_, SP.isv (.pointer (some ⟨b13, 4, none⟩)), SP.isv (u16), SP.isv (.agg #[u16]), SP.vl r_court_voice O11 (court_voice.c101 (court_blank.mk x6.Touched)), SP.vl (rSl r_court_voice) O11 [(court_voice.c101 (court_blank.mk x6.Touched))]] hA (.cons (fun _ _ hE hK hg => ok_move (kn (hK 5 rfl) rfl q5)) (.cons (fun _ _ hE hK hg => ok_fieldAddr fl33_4 (kn (hK 7 rfl) rfl q7)) (.cons (fun _ _ hE hK hg => ok_loadOwn ty23 rfl (ksv (j := 1) (hK 43 rfl) rfl rfl rfl) (OwnB.ext f18 hE).own rfl) (.cons (fun _ _ hE hK hg => okl_build plc101 ty101 (pk_cons (v := u16) (ksv (j := 2) (hK 44 rfl) rfl rfl rfl) pk_nil) rfl (.cons rfl (sl_cells (GR.v_ext _ f17 hE) rfl rfl) rfl (leb rfl) .nil) rfl) (.cons ?z8_4 (.cons (fun _ _ hE hK hg => okl_buildSliceV (r := r_court_voice) (fun _ => rfl) rfl (OkO.ext hB.ok hE) ty75 ty94 (parts_cons rfl parts_nil) ⟨(kspS (φ := SP.vl r_court_voice O11 (court_voice.c101 (court_blank.mk x6.Touched))) (j := 4) (hK 46 rfl) rfl rfl rfl), trivial⟩ rfl (by decide)) .nil)))))) ?zok8 ?zgd8 ?zk8
     case z8_4 => intro a' w' hE hK hg; refine ok_weak (okl_mkIface ty101 rfl (ksv (j := 3) (hK 45 rfl) rfl rfl rfl)) ?_; exact fun w_ v_ hE2_ h_ => by { replace h_ : v_ = _ := h_; subst h_; exact rIf_v.2 ⟨_, rfl, ⟨_, ⟨_, _, rfl, (rel_ofF (r := (rSl (rInt .i64))) (GR.v_ext _ (GR.v_ext _ f17 hE) hE2_) rfl rfl), rfl⟩, rfl⟩⟩ }
     case zok8 | zgd8 => kernel_rfl
     intro a12 w12 hA hE HF
     replace q1 := kn (HF 1) rfl q1
     replace q5 := kn (HF 5) rfl q5
     replace q11 := kn (HF 11) rfl q11
     replace q12 := kn (HF 12) rfl q12
     replace q13 := kn (HF 13) rfl q13
     have q42 := ksv (HF 42) rfl rfl rfl
     have f20 := ksp (HF 47) rfl rfl rfl
     obtain ⟨u19, q47'⟩ : ∃ u, a12.get 47 = u := ⟨_, rfl⟩
     rw [q47'] at f20
     have q47 := q47'; clear q47'
     clear q7
     clear q18
     clear q40
     clear HF
     replace h_1 := GR.v_ext _ h_1 hE
     replace f3 := f3.ext hE
     replace h_0 := GR.v_ext _ h_0 hE
     replace f18 := f18.ext hE
     replace f15 := GR.v_ext _ f15 hE
     replace f17 := GR.v_ext _ f17 hE
     replace hB := Base.step hB hE hO; clear hE
     obtain ⟨x21, hx21, h⟩ := Comp.run_bind h
     refine l_append (r := r_court_voice) (fun _ => rfl) rfl ty75 ty94 rfl (by decide) hO hB (okB_fr hB) q42 f3 q47 (rd_of f20) hx21 (by decide) fun u22 w13 O23 f24 hB' hX => ?_
     clear hB; have hB := hB'; clear hB'
     clear f3
     replace h_1 := GR.kx _ h_1 hX (by decide)
     replace h_0 := GR.kx _ h_0 hX (by decide)
     replace f20 := GR.kx _ f20 hX (by decide)
     clear hX
     refine put_cont hA (by decide) fun a14 hA q_ hfr => ?_
     replace q1 := (hfr 1 rfl).trans q1
     replace q5 := (hfr 5 rfl).trans q5
     replace q11 := (hfr 11 rfl).trans q11
     replace q12 := (hfr 12 rfl).trans q12
     replace q13 := (hfr 13 rfl).trans q13
     replace q42 := (hfr 42 rfl).trans q42
     replace q47 := (hfr 47 rfl).trans q47
     have q48 := q_; clear q_ hfr
     refine l_ok (φ := SP.isv (u22)) hO hB (by exact ok_assign q48) rfl fun u_ w15 hE hB' hv_ => ?_
     replace hv_ := Eq.symm hv_; subst hv_; clear hB; have hB := hB'; clear hB'
     replace h_1 := GR.v_ext _ h_1 hE
     replace h_0 := GR.v_ext _ h_0 hE
     replace f24 := f24.ext hE
     clear hE
     refine put_cont hA (by decide) fun a16 hA q_ hfr => ?_
     replace q1 := (hfr 1 rfl).trans q1
     replace q11 := (hfr 11 rfl).trans q11
     replace q12 := (hfr 12 rfl).trans q12
     replace q13 := (hfr 13 rfl).trans q13
     replace q48 := (hfr 48 rfl).trans q48
     clear q5
     have q5 := q_; clear q_ hfr
     refine li_nil (nx_blk (nx_blk (nx_then ?_)))
     exact ⟨_, _, _, hA, hB, q1, h_1, q5, f24, q11, h_0, q12, q13, h⟩
    ·
     replace h := Comp.run_b_f hc h; clear hc
     refine wp_seq ?_
     refine' region [_, _] mixed hA (.cons (fun _ _ hE hK hg => ok_eqlI (kn (hK 18 rfl) rfl q18) rfl) (.cons (fun _ _ hE hK hg => ok_assign (ksv (j := 0) (hK 50 rfl) rfl rfl rfl)) .nil)) ?zok9 ?zgd9 ?zk9
     case zok9 | zgd9 => kernel_rfl
     intro a17 w17 hA hE HF
     replace q1 := kn (HF 1) rfl q1
     replace q5 := kn (HF 5) rfl q5
     replace q7 := kn (HF 7) rfl q7
     replace q11 := kn (HF 11) rfl q11
     replace q12 := kn (HF 12) rfl q12
     replace q13 := kn (HF 13) rfl q13
     have q49 := ksv (HF 49) rfl rfl rfl
     clear q18
     clear q40
     clear HF
     replace h_1 := GR.v_ext _ h_1 hE
     replace f3 := f3.ext hE
     replace h_0 := GR.v_ext _ h_0 hE
     replace f18 := f18.ext hE
     replace f15 := GR.v_ext _ f15 hE
     replace f17 := GR.v_ext _ f17 hE
     replace hB := Base.step hB hE hO; clear hE
     refine li_nil (nx_then ?_)
     refine wp_cond_b q49 (fun hc => ?_) (fun hc => ?_)
     ·
      replace h := Comp.run_b_t hc h; clear hc
      refine' regionT [_, SP.isv (.pointer (some ⟨b13, 3, none⟩)), SP.isv (u14), SP.isv (.pointer (some ⟨b13, 4, none⟩)), SP.isv (u16), SP.isv (.agg #[u14, u16]), SP.vl r_court_voice O11 (court_voice.c96 (court_cut.mk x6.Sure x6.Touched)), SP.vl (rSl r_court_voice) O11 [(court_voice.c96 (court_cut.mk x6.Sure x6.Touched))]] hA (.cons (fun _ _ hE hK hg => ok_move (kn (hK 5 rfl) rfl q5)) (.cons (fun _ _ hE hK hg => ok_fieldAddr fl33_3 (kn (hK 7 rfl) rfl q7)) (.cons (fun _ _ hE hK hg => ok_loadOwn ty23 rfl (ksv (j := 1) (hK 52 rfl) rfl rfl rfl) (OwnB.ext f18 hE).own rfl) (.cons (fun _ _ hE hK hg => ok_fieldAddr fl33_4 (kn (hK 7 rfl) rfl q7)) (.cons (fun _ _ hE hK hg => ok_loadOwn ty23 rfl (ksv (j := 3) (hK 54 rfl) rfl rfl rfl) (OwnB.ext f18 hE).own rfl) (.cons (fun _ _ hE hK hg => okl_build plc96 ty96 (pk_cons (v := u14) (ksv (j := 2) (hK 53 rfl) rfl rfl rfl) (pk_cons (v := u16) (ksv (j := 4) (hK 55 rfl) rfl rfl rfl) pk_nil)) rfl (.cons rfl (sl_cells (GR.v_ext _ f15 hE) rfl rfl) rfl (leb rfl) (.cons rfl (sl_cells (GR.v_ext _ f17 hE) rfl rfl) rfl (leb rfl) .nil)) rfl) (.cons ?z10_6 (.cons (fun _ _ hE hK hg => okl_buildSliceV (r := r_court_voice) (fun _ => rfl) rfl (OkO.ext hB.ok hE) ty75 ty94 (parts_cons rfl parts_nil) ⟨(kspS (φ := SP.vl r_court_voice O11 (court_voice.c96 (court_cut.mk x6.Sure x6.Touched))) (j := 6) (hK 57 rfl) rfl rfl rfl), trivial⟩ rfl (by decide)) .nil)))))))) ?zok10 ?zgd10 ?zk10
      case z10_6 => intro a' w' hE hK hg; refine ok_weak (okl_mkIface ty96 rfl (ksv (j := 5) (hK 56 rfl) rfl rfl rfl)) ?_; exact fun w_ v_ hE2_ h_ => by { replace h_ : v_ = _ := h_; subst h_; exact rIf_v.2 ⟨_, rfl, ⟨_, ⟨_, _, rfl, (rel_ofF (r := (rSl (rInt .i64))) (GR.v_ext _ (GR.v_ext _ f15 hE) hE2_) rfl rfl), ⟨_, _, rfl, (rel_ofF (r := (rSl (rInt .i64))) (GR.v_ext _ (GR.v_ext _ f17 hE) hE2_) rfl rfl), rfl⟩⟩, rfl⟩⟩ }
      case zok10 | zgd10 => kernel_rfl
      intro a18 w18 hA hE HF
      replace q1 := kn (HF 1) rfl q1
      replace q5 := kn (HF 5) rfl q5
      replace q11 := kn (HF 11) rfl q11
      replace q12 := kn (HF 12) rfl q12
      replace q13 := kn (HF 13) rfl q13
      have q51 := ksv (HF 51) rfl rfl rfl
      have f29 := ksp (HF 58) rfl rfl rfl
      obtain ⟨u28, q58'⟩ : ∃ u, a18.get 58 = u := ⟨_, rfl⟩
      rw [q58'] at f29
      have q58 := q58'; clear q58'
      clear q7
      clear q49
      clear HF
      replace h_1 := GR.v_ext _ h_1 hE
      replace f3 := f3.ext hE
      replace h_0 := GR.v_ext _ h_0 hE
      replace f18 := f18.ext hE
      replace f15 := GR.v_ext _ f15 hE
      replace f17 := GR.v_ext _ f17 hE
      replace hB := Base.step hB hE hO; clear hE
      obtain ⟨x30, hx30, h⟩ := Comp.run_bind h
      refine l_append (r := r_court_voice) (fun _ => rfl) rfl ty75 ty94 rfl (by decide) hO hB (okB_fr hB) q51 f3 q58 (rd_of f29) hx30 (by decide) fun u31 w19 O32 f33 hB' hX => ?_
      clear hB; have hB := hB'; clear hB'
      clear f3
      replace h_1 := GR.kx _ h_1 hX (by decide)
      replace h_0 := GR.kx _ h_0 hX (by decide)
      replace f29 := GR.kx _ f29 hX (by decide)
      clear hX
      refine put_cont hA (by decide) fun a20 hA q_ hfr => ?_
      replace q1 := (hfr 1 rfl).trans q1
      replace q5 := (hfr 5 rfl).trans q5
      replace q11 := (hfr 11 rfl).trans q11
      replace q12 := (hfr 12 rfl).trans q12
      replace q13 := (hfr 13 rfl).trans q13
      replace q51 := (hfr 51 rfl).trans q51
      replace q58 := (hfr 58 rfl).trans q58
      have q59 := q_; clear q_ hfr
      refine l_ok (φ := SP.isv (u31)) hO hB (by exact ok_assign q59) rfl fun u_ w21 hE hB' hv_ => ?_
      replace hv_ := Eq.symm hv_; subst hv_; clear hB; have hB := hB'; clear hB'
      replace h_1 := GR.v_ext _ h_1 hE
      replace h_0 := GR.v_ext _ h_0 hE
      replace f33 := f33.ext hE
      clear hE
      refine put_cont hA (by decide) fun a22 hA q_ hfr => ?_
      replace q1 := (hfr 1 rfl).trans q1
      replace q11 := (hfr 11 rfl).trans q11
      replace q12 := (hfr 12 rfl).trans q12
      replace q13 := (hfr 13 rfl).trans q13
      replace q59 := (hfr 59 rfl).trans q59
      clear q5
      have q5 := q_; clear q_ hfr
      refine li_nil (nx_blk (nx_blk (nx_then ?_)))
      exact ⟨_, _, _, hA, hB, q1, h_1, q5, f33, q11, h_0, q12, q13, h⟩
     ·
      replace h := Comp.run_b_f hc h; clear hc
      refine wp_seq ?_
      refine' region [_] mixed hA (.cons (fun _ _ hE hK hg => ok_assign rfl) .nil) ?zok11 ?zgd11 ?zk11
      case zok11 | zgd11 => kernel_rfl
      intro a23 w23 hA hE HF
      replace q1 := kn (HF 1) rfl q1
      replace q5 := kn (HF 5) rfl q5
      replace q7 := kn (HF 7) rfl q7
      have q8 := ksv (HF 8) rfl rfl rfl
      replace q11 := kn (HF 11) rfl q11
      replace q12 := kn (HF 12) rfl q12
      replace q13 := kn (HF 13) rfl q13
      clear q49
      clear HF
      replace h_1 := GR.v_ext _ h_1 hE
      replace f3 := f3.ext hE
      replace h_0 := GR.v_ext _ h_0 hE
      replace f18 := f18.ext hE
      replace f15 := GR.v_ext _ f15 hE
      replace f17 := GR.v_ext _ f17 hE
      replace hB := Base.step hB hE hO; clear hE
      refine li_nil (nx_then ?_)
      refine seq_join (fun a w => ∃ (O63 : Tags) (x58 : List api_Sight) (u59 : Value), a.fit 62 ∧ Base (Fr w0) O w0 O63 w ∧ a.get 1 = v_1 ∧ (rSl r_api_Sight).v O63 w v_1 x_1 ∧ a.get 5 = u2 ∧ OwnL 1 r_court_voice 94 (Fr w0) O63 w u2 x1 ∧ a.get 8 = u59 ∧ (rSl r_api_Sight).v O63 w u59 x58 ∧ a.get 11 = v_0 ∧ (rSl r_api_Claim).v O63 w v_0 x_0 ∧ a.get 12 = .int .i64 (x_0.length : Int) ∧ a.get 13 = .int .i64 x4 ∧ (court_voices_j4 x1 x4 x58).run n = some st2) ?_ ?_
      ·
       refine wp_seq ?_
       refine' region [_, _, _] mixed hA (.cons (fun _ _ hE hK hg => ok_move (kn (hK 1 rfl) rfl q1)) (.cons (fun _ _ hE hK hg => okl_len (r := r_api_Sight) ty28 (ksv (j := 0) (hK 19 rfl) rfl rfl rfl) (rd_of (GR.v_ext _ h_1 hE))) (.cons (fun _ _ hE hK hg => ok_move rfl) .nil))) ?zok12 ?zgd12 ?zk12
       case zok12 | zgd12 => kernel_rfl
       intro a24 w24 hA hE HF
       replace q1 := kn (HF 1) rfl q1
       replace q5 := kn (HF 5) rfl q5
       replace q7 := kn (HF 7) rfl q7
       replace q8 := kn (HF 8) rfl q8
       replace q11 := kn (HF 11) rfl q11
       replace q12 := kn (HF 12) rfl q12
       replace q13 := kn (HF 13) rfl q13
       have q19 := ksv (HF 19) rfl rfl rfl
       have q20 := ksv (HF 20) rfl rfl rfl
       have q21 := ksv (HF 21) rfl rfl rfl
       clear HF
       replace h_1 := GR.v_ext _ h_1 hE
       replace f3 := f3.ext hE
       replace h_0 := GR.v_ext _ h_0 hE
       replace f18 := f18.ext hE
       replace f15 := GR.v_ext _ f15 hE
       replace f17 := GR.v_ext _ f17 hE
       replace hB := Base.step hB hE hO; clear hE
       refine li_nil (nx_then (wp_block ?_))
       obtain ⟨e5, he5, hk5⟩ := Comp.run_bind h; clear h
       refine loop_m (fun m a w => ∃ (O38 : Tags) (x34 : List api_Sight) (x37 : Int) (u35 : Value), a.fit 62 ∧ Base (Fr w0) O w0 O38 w ∧ a.get 1 = v_1 ∧ (rSl r_api_Sight).v O38 w v_1 x_1 ∧ a.get 5 = u2 ∧ OwnL 1 r_court_voice 94 (Fr w0) O38 w u2 x1 ∧ a.get 7 = .pointer (some ⟨b13, 0, none⟩) ∧ a.get 8 = u35 ∧ OwnL 3 r_api_Sight 64 (Fr w0) O38 w u35 x34 ∧ a.get 11 = v_0 ∧ (rSl r_api_Claim).v O38 w v_0 x_0 ∧ a.get 12 = .int .i64 (x_0.length : Int) ∧ a.get 13 = .int .i64 x4 ∧ a.get 19 = v_1 ∧ a.get 20 = .int .i64 (x_1.length : Int) ∧ a.get 21 = .int .i64 x37 ∧ OwnB 2 (Fr w0) O38 w b13 #[.int .i64 x6.Party, .int .i64 x6.Kind, .int .i64 x6.Gauge, u14, u16] 33 ∧ (rSl (rInt .i64)).v O38 w u14 x6.Sure ∧ (rSl (rInt .i64)).v O38 w u16 x6.Touched ∧ Comp.loopN (fun s => court_voices_l5 x_1 x6 s.1 s.2) n m (x34, x37) = some e5) (m := n) ?st5 ?_
       case st5 =>
        exact ⟨_, _, _, _, hA, hB, q1, h_1, q5, f3, q7, q8, (OwnL.nil _ _ _ _ _ _), q11, h_0, q12, q13, q19, q20, q21, f18, f15, f17, Comp.run_loop he5⟩
       intro m_ a25 w25 hI
       clear hA hB he5 q1 q5 q7 q8 q11 q12 q13 q19 q20 q21 f15 f17 f18 f3 h_0 h_1
       obtain ⟨O38, x34, x37, u35, hA, hB, q1, h_1, q5, f3, q7, q8, f36, q11, h_0, q12, q13, q19, q20, q21, f18, f15, f17, hl⟩ := hI
       obtain ⟨m5, hlt5, st5, h, hnext5, hdone5⟩ := Comp.loopN_succ hl; clear hl
       replace h : (court_voices_l5 x_1 x6 x34 x37).run n = some st5 := h
       unfold court_voices_l5 at h
       refine wp_seq ?_
       refine' region [_] mixed hA (.cons (fun _ _ hE hK hg => ok_lss (kn (hK 21 rfl) rfl q21) (kn (hK 20 rfl) rfl q20)) .nil) ?zok13 ?zgd13 ?zk13
       case zok13 | zgd13 => kernel_rfl
       intro a26 w26 hA hE HF
       replace q1 := kn (HF 1) rfl q1
       replace q5 := kn (HF 5) rfl q5
       replace q7 := kn (HF 7) rfl q7
       replace q8 := kn (HF 8) rfl q8
       replace q11 := kn (HF 11) rfl q11
       replace q12 := kn (HF 12) rfl q12
       replace q13 := kn (HF 13) rfl q13
       replace q19 := kn (HF 19) rfl q19
       replace q20 := kn (HF 20) rfl q20
       replace q21 := kn (HF 21) rfl q21
       have q22 := ksv (HF 22) rfl rfl rfl
       clear HF
       replace h_1 := GR.v_ext _ h_1 hE
       replace f3 := f3.ext hE
       replace f36 := f36.ext hE
       replace h_0 := GR.v_ext _ h_0 hE
       replace f18 := f18.ext hE
       replace f15 := GR.v_ext _ f15 hE
       replace f17 := GR.v_ext _ f17 hE
       replace hB := Base.step hB hE hO; clear hE
       refine li_nil (nx_then (wp_seq ?_))
       refine wp_cond_b q22 (fun hc => ?_) (fun hc => ?_)
       ·
        replace h := Comp.run_b_t hc h; clear hc
        refine wp_skip (nx_then ?_)
        refine seq_join (fun a w => ∃ (O55 : Tags) (x52 : List api_Sight) (u53 : Value), a.fit 62 ∧ Base (Fr w0) O w0 O55 w ∧ a.get 1 = v_1 ∧ (rSl r_api_Sight).v O55 w v_1 x_1 ∧ a.get 5 = u2 ∧ OwnL 1 r_court_voice 94 (Fr w0) O55 w u2 x1 ∧ a.get 7 = .pointer (some ⟨b13, 0, none⟩) ∧ a.get 8 = u53 ∧ OwnL 3 r_api_Sight 64 (Fr w0) O55 w u53 x52 ∧ a.get 11 = v_0 ∧ (rSl r_api_Claim).v O55 w v_0 x_0 ∧ a.get 12 = .int .i64 (x_0.length : Int) ∧ a.get 13 = .int .i64 x4 ∧ a.get 19 = v_1 ∧ a.get 20 = .int .i64 (x_1.length : Int) ∧ a.get 21 = .int .i64 x37 ∧ OwnB 2 (Fr w0) O55 w b13 #[.int .i64 x6.Party, .int .i64 x6.Kind, .int .i64 x6.Gauge, u14, u16] 33 ∧ (rSl (rInt .i64)).v O55 w u14 x6.Sure ∧ (rSl (rInt .i64)).v O55 w u16 x6.Touched ∧ (court_voices_j6 x37 x52).run n = some st5) ?_ ?_
        ·
         refine wp_block (wp_seq ?_)
         obtain ⟨x39, hx39, h⟩ := Comp.run_bind h
         refine' regionT [SP.ptr r_api_Sight O38 x39, SP.isv (.agg #[.int .i64 x39.Gauge, .int .i64 x39.Cell, .bool x39.There]), SP.box w26.heap.size #[.int .i64 0, .int .i64 0, .bool false] 64] hA (.cons (fun _ _ hE hK hg => okl_idx (r := r_api_Sight) (O := O38) ty28 ty64 rfl (kn (hK 19 rfl) rfl q19) (rd_of (GR.v_ext _ h_1 hE)) (kn (hK 21 rfl) rfl q21) hx39) (.cons (fun _ _ hE hK hg => okl_ldr r_api_Sight fit_api_Sight ty64 rfl rfl rfl (kspS (φ := SP.ptr r_api_Sight O38 x39) (j := 0) (hK 23 rfl) rfl rfl rfl) (fun _ _ _ h => rC_v.1 h)) (.cons (fun _ _ hE hK hg => ok_alloc hE.size ty64) .nil))) ?zok14 ?zgd14 ?zk14
         case zok14 | zgd14 => kernel_rfl
         intro a27 w27 hA hE HF
         replace q1 := kn (HF 1) rfl q1
         replace q5 := kn (HF 5) rfl q5
         replace q7 := kn (HF 7) rfl q7
         replace q8 := kn (HF 8) rfl q8
         have f41 := ksp (HF 10) rfl rfl rfl
         obtain ⟨u40, q10'⟩ : ∃ u, a27.get 10 = u := ⟨_, rfl⟩
         rw [q10'] at f41
         have q10 := q10'; clear q10'
         replace q11 := kn (HF 11) rfl q11
         replace q12 := kn (HF 12) rfl q12
         replace q13 := kn (HF 13) rfl q13
         replace q19 := kn (HF 19) rfl q19
         replace q20 := kn (HF 20) rfl q20
         replace q21 := kn (HF 21) rfl q21
         have q24 := ksv (HF 24) rfl rfl rfl
         clear q22
         clear HF
         obtain ⟨O42, b43, hB', hX, e_, f44⟩ := boxNew hO hB hE f41 4 (by decide)
         subst e_
         clear hB f41; have hB := hB'; clear hB'
         replace h_1 := GR.kx _ h_1 hX (by decide)
         replace f3 := f3.kx hX (by decide) (by decide)
         replace f36 := f36.kx hX (by decide) (by decide)
         replace h_0 := GR.kx _ h_0 hX (by decide)
         replace f18 := f18.kx hX (by decide)
         replace f15 := GR.kx _ f15 hX (by decide)
         replace f17 := GR.kx _ f17 hX (by decide)
         clear hX hE
         refine l_storeSub (vs := [.int .i64 x39.Gauge, .int .i64 x39.Cell, .bool x39.There]) (cs' := #[.int .i64 x39.Gauge, .int .i64 x39.Cell, .bool x39.There]) hO hB (okB_fr hB) ty64 q10 q24 rfl (by simp [Value.oneCell']) f44 (by simp) rfl fun w28 f45 hB' hX => ?_
         clear hB f44; have hB := hB'; clear hB'
         replace h_1 := GR.kx _ h_1 hX (by decide)
         replace f3 := f3.kx hX (by decide) (by decide)
         replace f36 := f36.kx hX (by decide) (by decide)
         replace h_0 := GR.kx _ h_0 hX (by decide)
         replace f18 := f18.kx hX (by decide)
         replace f15 := GR.kx _ f15 hX (by decide)
         replace f17 := GR.kx _ f17 hX (by decide)
         clear hX
         refine li_nil (nx_then (wp_seq ?_))
         refine' region [SP.isv (.pointer (some ⟨b43, 0, none⟩)), SP.isv (.int .i64 x39.Gauge), SP.isv (.pointer (some ⟨b13, 2, none⟩)), SP.isv (.int .i64 x6.Gauge), _] mixed hA (.cons (fun _ _ hE hK hg => ok_fieldAddr fl64_0 (kn (hK 10 rfl) rfl q10)) (.cons (fun _ _ hE hK hg => ok_loadOwn ty3 rfl (ksv (j := 0) (hK 25 rfl) rfl rfl rfl) (OwnB.ext f45 hE).own rfl) (.cons (fun _ _ hE hK hg => ok_fieldAddr fl33_2 (kn (hK 7 rfl) rfl q7)) (.cons (fun _ _ hE hK hg => ok_loadOwn ty3 rfl (ksv (j := 2) (hK 27 rfl) rfl rfl rfl) (OwnB.ext f18 hE).own rfl) (.cons (fun _ _ hE hK hg => ok_eqlI (ksv (j := 1) (hK 26 rfl) rfl rfl rfl) (ksv (j := 3) (hK 28 rfl) rfl rfl rfl)) .nil))))) ?zok15 ?zgd15 ?zk15
         case zok15 | zgd15 => kernel_rfl
         intro a29 w29 hA hE HF
         replace q1 := kn (HF 1) rfl q1
         replace q5 := kn (HF 5) rfl q5
         replace q7 := kn (HF 7) rfl q7
         replace q8 := kn (HF 8) rfl q8
         replace q10 := kn (HF 10) rfl q10
         replace q11 := kn (HF 11) rfl q11
         replace q12 := kn (HF 12) rfl q12
         replace q13 := kn (HF 13) rfl q13
         replace q19 := kn (HF 19) rfl q19
         replace q20 := kn (HF 20) rfl q20
         replace q21 := kn (HF 21) rfl q21
         have q29 := ksv (HF 29) rfl rfl rfl
         clear HF
         replace h_1 := GR.v_ext _ h_1 hE
         replace f3 := f3.ext hE
         replace f36 := f36.ext hE
         replace h_0 := GR.v_ext _ h_0 hE
         replace f18 := f18.ext hE
         replace f15 := GR.v_ext _ f15 hE
         replace f17 := GR.v_ext _ f17 hE
         replace f45 := f45.ext hE
         replace hB := Base.step hB hE hO; clear hE
         refine li_nil (nx_then ?_)
         refine wp_cond_b q29 (fun hc => ?_) (fun hc => ?_)
         ·
          replace h := Comp.run_b_t hc h; clear hc
          refine' regionT [_, SP.isv (.agg #[.int .i64 x39.Gauge, .int .i64 x39.Cell, .bool x39.There]), SP.vl (rSl r_api_Sight) O42 [x39]] hA (.cons (fun _ _ hE hK hg => ok_move (kn (hK 8 rfl) rfl q8)) (.cons (fun _ _ hE hK hg => ok_loadOwnAgg ty64 rfl (kn (hK 10 rfl) rfl q10) (OwnB.ext f45 hE).own rfl) (.cons ?z16_2 .nil))) ?zok16 ?zgd16 ?zk16
          case z16_2 => intro a' w' hE hK hg; exact okl_buildSliceV (r := r_api_Sight) fit_api_Sight rfl (OkO.ext hB.ok hE) ty102 ty64 (parts_cons (ksv (j := 1) (hK 31 rfl) rfl rfl rfl) parts_nil) ⟨(by first | exact (rC_v (x := x39)).2 rfl | exact ⟨_, rfl, rfl⟩), trivial⟩ rfl (by decide)
          case zok16 | zgd16 => kernel_rfl
          intro a30 w30 hA hE HF
          replace q1 := kn (HF 1) rfl q1
          replace q5 := kn (HF 5) rfl q5
          replace q7 := kn (HF 7) rfl q7
          replace q8 := kn (HF 8) rfl q8
          replace q11 := kn (HF 11) rfl q11
          replace q12 := kn (HF 12) rfl q12
          replace q13 := kn (HF 13) rfl q13
          replace q19 := kn (HF 19) rfl q19
          replace q20 := kn (HF 20) rfl q20
          replace q21 := kn (HF 21) rfl q21
          have q30 := ksv (HF 30) rfl rfl rfl
          have f47 := ksp (HF 32) rfl rfl rfl
          obtain ⟨u46, q32'⟩ : ∃ u, a30.get 32 = u := ⟨_, rfl⟩
          rw [q32'] at f47
          have q32 := q32'; clear q32'
          clear q10
          clear q29
          clear HF
          replace h_1 := GR.v_ext _ h_1 hE
          replace f3 := f3.ext hE
          replace f36 := f36.ext hE
          replace h_0 := GR.v_ext _ h_0 hE
          replace f18 := f18.ext hE
          replace f15 := GR.v_ext _ f15 hE
          replace f17 := GR.v_ext _ f17 hE
          replace f45 := f45.ext hE
          replace hB := Base.step hB hE hO; clear hE
          obtain ⟨x48, hx48, h⟩ := Comp.run_bind h
          refine l_append (r := r_api_Sight) fit_api_Sight rfl ty102 ty64 rfl (by decide) hO hB (okB_fr hB) q30 f36 q32 (rd_of f47) hx48 (by decide) fun u49 w31 O50 f51 hB' hX => ?_
          clear hB; have hB := hB'; clear hB'
          clear f36
          replace h_1 := GR.kx _ h_1 hX (by decide)
          replace f3 := f3.kx hX (by decide) (by decide)
          replace h_0 := GR.kx _ h_0 hX (by decide)
          replace f47 := GR.kx _ f47 hX (by decide)
          replace f18 := f18.kx hX (by decide)
          replace f15 := GR.kx _ f15 hX (by decide)
          replace f17 := GR.kx _ f17 hX (by decide)
          clear hX
          refine put_cont hA (by decide) fun a32 hA q_ hfr => ?_
          replace q1 := (hfr 1 rfl).trans q1
          replace q5 := (hfr 5 rfl).trans q5
          replace q7 := (hfr 7 rfl).trans q7
          replace q8 := (hfr 8 rfl).trans q8
          replace q11 := (hfr 11 rfl).trans q11
          replace q12 := (hfr 12 rfl).trans q12
          replace q13 := (hfr 13 rfl).trans q13
          replace q19 := (hfr 19 rfl).trans q19
          replace q20 := (hfr 20 rfl).trans q20
          replace q21 := (hfr 21 rfl).trans q21
          replace q30 := (hfr 30 rfl).trans q30
          replace q32 := (hfr 32 rfl).trans q32
          have q33 := q_; clear q_ hfr
          refine l_ok (φ := SP.isv (u49)) hO hB (by exact ok_assign q33) rfl fun u_ w33 hE hB' hv_ => ?_
          replace hv_ := Eq.symm hv_; subst hv_; clear hB; have hB := hB'; clear hB'
          replace h_1 := GR.v_ext _ h_1 hE
          replace f3 := f3.ext hE
          replace h_0 := GR.v_ext _ h_0 hE
          replace f51 := f51.ext hE
          replace f18 := f18.ext hE
          replace f15 := GR.v_ext _ f15 hE
          replace f17 := GR.v_ext _ f17 hE
          clear hE
          refine put_cont hA (by decide) fun a34 hA q_ hfr => ?_
          replace q1 := (hfr 1 rfl).trans q1
          replace q5 := (hfr 5 rfl).trans q5
          replace q7 := (hfr 7 rfl).trans q7
          replace q11 := (hfr 11 rfl).trans q11
          replace q12 := (hfr 12 rfl).trans q12
          replace q13 := (hfr 13 rfl).trans q13
          replace q19 := (hfr 19 rfl).trans q19
          replace q20 := (hfr 20 rfl).trans q20
          replace q21 := (hfr 21 rfl).trans q21
          replace q33 := (hfr 33 rfl).trans q33
          clear q8
          have q8 := q_; clear q_ hfr
          refine li_nil (nx_blk (nx_then ?_))
          exact ⟨_, _, _, hA, hB, q1, h_1, q5, f3, q7, q8, f51, q11, h_0, q12, q13, q19, q20, q21, f18, f15, f17, h⟩
         ·
          replace h := Comp.run_b_f hc h; clear hc
          refine wp_skip (nx_blk (nx_then ?_))
          exact ⟨_, _, _, hA, hB, q1, h_1, q5, f3, q7, q8, f36, q11, h_0, q12, q13, q19, q20, q21, f18, f15, f17, h⟩
        intro a35 w35 hI
        clear hA hB h q1 q5 q7 q8 q11 q12 q13 q19 q20 q21 q22 f15 f17 f18 f3 f36 h_0 h_1
        obtain ⟨O55, x52, u53, hA, hB, q1, h_1, q5, f3, q7, q8, f54, q11, h_0, q12, q13, q19, q20, q21, f18, f15, f17, h⟩ := hI
        unfold court_voices_j6 at h
        refine' region [_, _] mixed hA (.cons (fun _ _ hE hK hg => ok_add (kn (hK 21 rfl) rfl q21) rfl) (.cons (fun _ _ hE hK hg => ok_move (ksv (j := 0) (hK 34 rfl) rfl rfl rfl)) .nil)) ?zok17 ?zgd17 ?zk17
        case zok17 | zgd17 => kernel_rfl
        intro a36 w36 hA hE HF
        replace q1 := kn (HF 1) rfl q1
        replace q5 := kn (HF 5) rfl q5
        replace q7 := kn (HF 7) rfl q7
        replace q8 := kn (HF 8) rfl q8
        replace q11 := kn (HF 11) rfl q11
        replace q12 := kn (HF 12) rfl q12
        replace q13 := kn (HF 13) rfl q13
        replace q19 := kn (HF 19) rfl q19
        replace q20 := kn (HF 20) rfl q20
        have q21' := ksv (HF 21) rfl rfl rfl
        replace q21 := q21'; clear q21'
        clear HF
        replace h_1 := GR.v_ext _ h_1 hE
        replace f3 := f3.ext hE
        replace f54 := f54.ext hE
        replace h_0 := GR.v_ext _ h_0 hE
        replace f18 := f18.ext hE
        replace f15 := GR.v_ext _ f15 hE
        replace f17 := GR.v_ext _ f17 hE
        replace hB := Base.step hB hE hO; clear hE
        refine li_nil (nx_then ?_)
        have h := hnext5 _ (Comp.run_pure h).symm
        refine ⟨m5, hlt5, ?_⟩
        exact ⟨_, _, _, _, hA, hB, q1, h_1, q5, f3, q7, q8, f54, q11, h_0, q12, q13, q19, q20, q21, f18, f15, f17, h⟩
       ·
        replace h := Comp.run_b_f hc h; clear hc
        refine wp_exit (ex_then (ex_then (ex_same ?_)))
        have hd_ := hdone5 _ (Comp.run_pure h).symm; clear h
        subst hd_; have h := hk5; clear hk5; try dsimp only at h
        refine nx_then ?_
        obtain ⟨O61, hB', hX, f62⟩ := freezeL hO hB f36 (by decide)
        clear f36 hB; have hB := hB'; clear hB'
        replace h_1 := GR.kx _ h_1 hX (by decide)
        replace f3 := f3.kx hX (by decide) (by decide)
        replace h_0 := GR.kx _ h_0 hX (by decide)
        replace f18 := f18.kx hX (by decide)
        replace f15 := GR.kx _ f15 hX (by decide)
        replace f17 := GR.kx _ f17 hX (by decide)
        clear hX
        exact ⟨_, _, _, hA, hB, q1, h_1, q5, f3, q8, f62, q11, h_0, q12, q13, h⟩
      intro a37 w37 hI
      clear hA hB h q1 q5 q7 q8 q11 q12 q13 f15 f17 f18 f3 h_0 h_1
      obtain ⟨O63, x58, u59, hA, hB, q1, h_1, q5, f3, q8, f60, q11, h_0, q12, q13, h⟩ := hI
      unfold court_voices_j4 at h
      refine' regionT [_, _, SP.vl r_court_voice O63 (court_voice.c102 x58), SP.vl (rSl r_court_voice) O63 [(court_voice.c102 x58)]] hA (.cons (fun _ _ hE hK hg => ok_move (kn (hK 5 rfl) rfl q5)) (.cons (fun _ _ hE hK hg => ok_move (kn (hK 8 rfl) rfl q8)) (.cons ?z18_2 (.cons (fun _ _ hE hK hg => okl_buildSliceV (r := r_court_voice) (fun _ => rfl) rfl (OkO.ext hB.ok hE) ty75 ty94 (parts_cons rfl parts_nil) ⟨(kspS (φ := SP.vl r_court_voice O63 (court_voice.c102 x58)) (j := 2) (hK 37 rfl) rfl rfl rfl), trivial⟩ rfl (by decide)) .nil)))) ?zok18 ?zgd18 ?zk18
      case z18_2 => intro a' w' hE hK hg; refine ok_weak (okl_mkIface ty102 rfl (ksv (j := 1) (hK 36 rfl) rfl rfl rfl)) ?_; exact fun w_ v_ hE2_ h_ => by { replace h_ : v_ = _ := h_; subst h_; exact rIf_v.2 ⟨_, rfl, (GR.v_ext _ (GR.v_ext _ f60 hE) hE2_)⟩ }
      case zok18 | zgd18 => kernel_rfl
      intro a38 w38 hA hE HF
      replace q1 := kn (HF 1) rfl q1
      replace q5 := kn (HF 5) rfl q5
      replace q11 := kn (HF 11) rfl q11
      replace q12 := kn (HF 12) rfl q12
      replace q13 := kn (HF 13) rfl q13
      have q35 := ksv (HF 35) rfl rfl rfl
      have f65 := ksp (HF 38) rfl rfl rfl
      obtain ⟨u64, q38'⟩ : ∃ u, a38.get 38 = u := ⟨_, rfl⟩
      rw [q38'] at f65
      have q38 := q38'; clear q38'
      clear q8
      clear HF
      replace h_1 := GR.v_ext _ h_1 hE
      replace f3 := f3.ext hE
      replace f60 := GR.v_ext _ f60 hE
      replace h_0 := GR.v_ext _ h_0 hE
      replace hB := Base.step hB hE hO; clear hE
      obtain ⟨x66, hx66, h⟩ := Comp.run_bind h
      refine l_append (r := r_court_voice) (fun _ => rfl) rfl ty75 ty94 rfl (by decide) hO hB (okB_fr hB) q35 f3 q38 (rd_of f65) hx66 (by decide) fun u67 w39 O68 f69 hB' hX => ?_
      clear hB; have hB := hB'; clear hB'
      clear f3
      replace h_1 := GR.kx _ h_1 hX (by decide)
      replace h_0 := GR.kx _ h_0 hX (by decide)
      replace f65 := GR.kx _ f65 hX (by decide)
      clear hX
      refine put_cont hA (by decide) fun a40 hA q_ hfr => ?_
      replace q1 := (hfr 1 rfl).trans q1
      replace q5 := (hfr 5 rfl).trans q5
      replace q11 := (hfr 11 rfl).trans q11
      replace q12 := (hfr 12 rfl).trans q12
      replace q13 := (hfr 13 rfl).trans q13
      replace q35 := (hfr 35 rfl).trans q35
      replace q38 := (hfr 38 rfl).trans q38
      have q39 := q_; clear q_ hfr
      refine l_ok (φ := SP.isv (u67)) hO hB (by exact ok_assign q39) rfl fun u_ w41 hE hB' hv_ => ?_
      replace hv_ := Eq.symm hv_; subst hv_; clear hB; have hB := hB'; clear hB'
      replace h_1 := GR.v_ext _ h_1 hE
      replace h_0 := GR.v_ext _ h_0 hE
      replace f69 := f69.ext hE
      clear hE
      refine put_cont hA (by decide) fun a42 hA q_ hfr => ?_
      replace q1 := (hfr 1 rfl).trans q1
      replace q11 := (hfr 11 rfl).trans q11
      replace q12 := (hfr 12 rfl).trans q12
      replace q13 := (hfr 13 rfl).trans q13
      replace q39 := (hfr 39 rfl).trans q39
      clear q5
      have q5 := q_; clear q_ hfr
      refine li_nil (nx_blk (nx_blk (nx_then ?_)))
      exact ⟨_, _, _, hA, hB, q1, h_1, q5, f69, q11, h_0, q12, q13, h⟩
   intro a43 w43 hI
   clear hA hB h q1 q5 q11 q12 q13 q14 f3 h_0 h_1
   obtain ⟨O70, x25, u26, hA, hB, q1, h_1, q5, f27, q11, h_0, q12, q13, h⟩ := hI
   unfold court_voices_j3 at h
   refine' region [_, _] mixed hA (.cons (fun _ _ hE hK hg => ok_add (kn (hK 13 rfl) rfl q13) rfl) (.cons (fun _ _ hE hK hg => ok_move (ksv (j := 0) (hK 60 rfl) rfl rfl rfl)) .nil)) ?zok19 ?zgd19 ?zk19
   case zok19 | zgd19 => kernel_rfl
   intro a44 w44 hA hE HF
   replace q1 := kn (HF 1) rfl q1
   replace q5 := kn (HF 5) rfl q5
   replace q11 := kn (HF 11) rfl q11
   replace q12 := kn (HF 12) rfl q12
   have q13' := ksv (HF 13) rfl rfl rfl
   replace q13 := q13'; clear q13'
   clear HF
   replace h_1 := GR.v_ext _ h_1 hE
   replace f27 := f27.ext hE
   replace h_0 := GR.v_ext _ h_0 hE
   replace hB := Base.step hB hE hO; clear hE
   refine li_nil (nx_then ?_)
   have h := hnext2 _ (Comp.run_pure h).symm
   refine ⟨m2, hlt2, ?_⟩
   exact ⟨_, _, _, _, hA, hB, q1, h_1, q5, f27, q11, h_0, q12, q13, h⟩
  ·
   replace h := Comp.run_b_f hc h; clear hc
   refine wp_exit (ex_then (ex_then (ex_same ?_)))
   have hd_ := hdone2 _ (Comp.run_pure h).symm; clear h
   subst hd_; have h := hk2; clear hk2; try dsimp only at h
   refine nx_then ?_
   exact ⟨_, _, _, hA, hB, q5, f3, h⟩
 intro a45 w45 hI
 clear hA hB h q0 q1 q5 h_0 h_1
 obtain ⟨O76, x73, u74, hA, hB, q5, f75, h⟩ := hI
 unfold court_voices_j1 at h
 refine wp_seq ?_
 refine' region [_, _] mixed hA (.cons (fun _ _ hE hK hg => ok_move (kn (hK 5 rfl) rfl q5)) (.cons (fun _ _ hE hK hg => ok_assign (ksv (j := 0) (hK 61 rfl) rfl rfl rfl)) .nil)) ?zok20 ?zgd20 ?zk20
 case zok20 | zgd20 => kernel_rfl
 intro a46 w46 hA hE HF
 have q4 := ksv (HF 4) rfl rfl rfl
 clear q5
 clear HF
 replace f75 := f75.ext hE
 replace hB := Base.step hB hE hO; clear hE
 refine li_nil (nx_then (wp_ret ?_))
 have h := Comp.run_pure h; subst h
 exact retPure Try.results41 hA q4 hB.ext (OwnL.res f75 (by decide) hB.zero)
theorem ok_court_cut_speak {O : Tags} {w0 : World} (hO : OkO O w0) {v_0 : Value} {x_0 : court_cut} (h_0 : r_court_cut.v O w0 v_0 x_0) {x_1 : Int} {b_2 : Nat} {x_2 : court_fate} (h_2 : BoxA r_court_fate 92 O w0 b_2 x_2) {n : Nat} {y : court_fate} (h : (court_cut_speak x_0 x_1 x_2).run n = some y) : Calls Try.prog 115 #[v_0, .int .i64 x_1, .pointer (some ⟨b_2, 0, none⟩)] w0 (BioPost r_court_fate 92 O w0 b_2 y (SP.unit)) := by
 unfold court_cut_speak at h
 refine bio_of_wp Try.func115 rfl 32 Try.ntmps115 (by simp) fun a0 hA hs0 => ?_
 have q0 : a0.get 0 = v_0 := hs0 0 _ rfl
 have q1 : a0.get 1 = .int .i64 x_1 := hs0 1 _ rfl
 have q2 : a0.get 2 = .pointer (some ⟨b_2, 0, none⟩) := hs0 2 _ rfl
 clear hs0
 obtain ⟨Oi_, cs_, hB, hb_, hr_, hk_⟩ := bioStart hO h_2
 replace h_0 := GR.v_mono _ h_0 hk_
 clear hk_ h_2
 replace hr_ : cs_ = [.bool x_2.solid_, .bool x_2.empty_, .bool x_2.taken_, .bool x_2.loose_, .bool x_2.there_, .bool x_2.gone_] := hr_; subst hr_
 refine wp_seq ?_
 refine' region [SP.vl (rBox r_court_cut) Oi_ x_0] mixed hA (.cons (fun _ _ hE hK hg => okl_boxV (r := r_court_cut) fit_court_cut (OkO.ext hB.ok hE) (kn (hK 0 rfl) rfl q0) (GR.v_ext _ h_0 hE)) .nil) ?zok1 ?zgd1 ?zk1
 case zok1 | zgd1 => kernel_rfl
 intro a1 w1 hA hE HF
 replace q1 := kn (HF 1) rfl q1
 replace q2 := kn (HF 2) rfl q2
 have f2 := ksp (HF 3) rfl rfl rfl
 obtain ⟨u1, q3'⟩ : ∃ u, a1.get 3 = u := ⟨_, rfl⟩
 rw [q3'] at f2
 have q3 := q3'; clear q3'
 clear q0
 clear HF
 replace h_0 := GR.v_ext _ h_0 hE
 replace hb_ := hb_.ext hE
 replace hB := Base.step hB hE hO; clear hE
 refine li_nil (nx_then (wp_seq ?_))
 obtain ⟨x3, hx3, h⟩ := Comp.run_bind h
 refine' regionT [_, _, SP.isv (.pointer (some ⟨b_2, 0, none⟩)), SP.isv (.pointer (some ⟨b_2, 2, none⟩)), SP.isv (.bool x_2.taken_), _, SP.ptr (rSl (rInt .i64)) Oi_ x_0.sure_, SP.vl (rSl (rInt .i64)) Oi_ x_0.sure_, _, SP.isv (.bool x3), _, SP.isv (.pointer (some ⟨b_2, 0, none⟩)), SP.isv (.pointer (some ⟨b_2, 2, none⟩))] hA (.cons (fun _ _ hE hK hg => ok_move (kn (hK 2 rfl) rfl q2)) (.cons (fun _ _ hE hK hg => ok_move (kn (hK 2 rfl) rfl q2)) (.cons (fun _ _ hE hK hg => ok_nilChk (ksv (j := 1) (hK 7 rfl) rfl rfl rfl)) (.cons (fun _ _ hE hK hg => ok_fieldAddr fl92_2 (ksv (j := 2) (hK 8 rfl) rfl rfl rfl)) (.cons (fun _ _ hE hK hg => ok_loadOwn ty4 rfl (ksv (j := 3) (hK 9 rfl) rfl rfl rfl) (OwnB.ext hb_ hE).own rfl) (.cons (fun _ _ hE hK hg => ok_move (ksv (j := 4) (hK 10 rfl) rfl rfl rfl)) (.cons (fun _ _ hE hK hg => okl_fldB (S := r_court_cut) fit_court_cut rfl (fun _ => rfl) sb_court_cut_0 fl96_0 (kn (hK 3 rfl) rfl q3) (GR.v_ext _ f2 hE)) (.cons ?z2_7 (.cons (fun _ _ hE hK hg => ok_move (kn (hK 1 rfl) rfl q1)) (.cons ?z2_9 (.cons ?z2_10 (.cons (fun _ _ hE hK hg => ok_nilChk (ksv (j := 0) (hK 6 rfl) rfl rfl rfl)) (.cons (fun _ _ hE hK hg => ok_fieldAddr fl92_2 (ksv (j := 11) (hK 17 rfl) rfl rfl rfl)) .nil))))))))))))) ?zok2 ?zgd2 ?zk2
 case z2_7 => intro a' w' hE hK hg; exact okl_ld (r := (rSl (rInt .i64))) (fun _ => rfl) ty23 rfl rfl rfl (kspS (φ := SP.ptr (rSl (rInt .i64)) Oi_ x_0.sure_) (j := 6) (hK 12 rfl) rfl rfl hg)
 case z2_9 => intro a' w' hE hK hg; have c_ := ok_slices_Contains_int_int (OkO.ext hB.ok hE) (kspS (φ := SP.vl (rSl (rInt .i64)) Oi_ x_0.sure_) (j := 7) (hK 13 rfl) rfl rfl hg) (run_gdb hx3 hg); exact ok_call2 fn57 rfl (ksv (j := 8) (hK 14 rfl) rfl rfl hg) c_
 case z2_10 => intro a' w' hE hK hg; exact ok_pick (ksv (j := 5) (hK 11 rfl) rfl rfl rfl) (fun _ => rfl) (fun hb => ksv (j := 9) (hK 15 rfl) rfl rfl (act_g1 rfl rfl hb))
 case zok2 | zgd2 => kernel_rfl
 intro a2 w2 hA hE HF
 replace q1 := kn (HF 1) rfl q1
 replace q2 := kn (HF 2) rfl q2
 replace q3 := kn (HF 3) rfl q3
 have q16 := ksv (HF 16) rfl rfl rfl
 have q18 := ksv (HF 18) rfl rfl rfl
 clear HF
 replace f2 := GR.v_ext _ f2 hE
 replace hb_ := hb_.ext hE
 replace hB := Base.step hB hE hO; clear hE
 refine l_store1 (cs' := #[.bool x_2.solid_, .bool x_2.empty_, .bool (bif x_2.taken_ then true else x3), .bool x_2.loose_, .bool x_2.there_, .bool x_2.gone_]) hO hB (okB_self hB) ty4 q18 q16 rfl rfl hb_ (by simp) rfl fun w3 f4 hB' hX => ?_
 clear hB hb_; have hB := hB'; clear hB'
 replace f2 := GR.kx _ f2 hX (by decide)
 clear hX
 refine li_nil (nx_then ?_)
 obtain ⟨x5, hx5, h⟩ := Comp.run_bind h
 refine' regionT [_, _, SP.isv (.pointer (some ⟨b_2, 0, none⟩)), SP.isv (.pointer (some ⟨b_2, 3, none⟩)), SP.isv (.bool x_2.loose_), _, SP.ptr (rSl (rInt .i64)) Oi_ x_0.touched_, SP.vl (rSl (rInt .i64)) Oi_ x_0.touched_, _, SP.isv (.bool x5), _, SP.isv (.pointer (some ⟨b_2, 0, none⟩)), SP.isv (.pointer (some ⟨b_2, 3, none⟩))] hA (.cons (fun _ _ hE hK hg => ok_move (kn (hK 2 rfl) rfl q2)) (.cons (fun _ _ hE hK hg => ok_move (kn (hK 2 rfl) rfl q2)) (.cons (fun _ _ hE hK hg => ok_nilChk (ksv (j := 1) (hK 20 rfl) rfl rfl rfl)) (.cons (fun _ _ hE hK hg => ok_fieldAddr fl92_3 (ksv (j := 2) (hK 21 rfl) rfl rfl rfl)) (.cons (fun _ _ hE hK hg => ok_loadOwn ty4 rfl (ksv (j := 3) (hK 22 rfl) rfl rfl rfl) (OwnB.ext f4 hE).own rfl) (.cons (fun _ _ hE hK hg => ok_move (ksv (j := 4) (hK 23 rfl) rfl rfl rfl)) (.cons (fun _ _ hE hK hg => okl_fldB (S := r_court_cut) fit_court_cut rfl (fun _ => rfl) sb_court_cut_1 fl96_1 (kn (hK 3 rfl) rfl q3) (GR.v_ext _ f2 hE)) (.cons ?z3_7 (.cons (fun _ _ hE hK hg => ok_move (kn (hK 1 rfl) rfl q1)) (.cons ?z3_9 (.cons ?z3_10 (.cons (fun _ _ hE hK hg => ok_nilChk (ksv (j := 0) (hK 19 rfl) rfl rfl rfl)) (.cons (fun _ _ hE hK hg => ok_fieldAddr fl92_3 (ksv (j := 11) (hK 30 rfl) rfl rfl rfl)) .nil))))))))))))) ?zok3 ?zgd3 ?zk3
 case z3_7 => intro a' w' hE hK hg; exact okl_ld (r := (rSl (rInt .i64))) (fun _ => rfl) ty23 rfl rfl rfl (kspS (φ := SP.ptr (rSl (rInt .i64)) Oi_ x_0.touched_) (j := 6) (hK 25 rfl) rfl rfl hg)
 case z3_9 => intro a' w' hE hK hg; have c_ := ok_slices_Contains_int_int (OkO.ext hB.ok hE) (kspS (φ := SP.vl (rSl (rInt .i64)) Oi_ x_0.touched_) (j := 7) (hK 26 rfl) rfl rfl hg) (run_gdb hx5 hg); exact ok_call2 fn57 rfl (ksv (j := 8) (hK 27 rfl) rfl rfl hg) c_
 case z3_10 => intro a' w' hE hK hg; exact ok_pick (ksv (j := 5) (hK 24 rfl) rfl rfl rfl) (fun _ => rfl) (fun hb => ksv (j := 9) (hK 28 rfl) rfl rfl (act_g1 rfl rfl hb))
 case zok3 | zgd3 => kernel_rfl
 intro a4 w4 hA hE HF
 have q29 := ksv (HF 29) rfl rfl rfl
 have q31 := ksv (HF 31) rfl rfl rfl
 clear q1
 clear q2
 clear q3
 clear HF
 replace f2 := GR.v_ext _ f2 hE
 replace f4 := f4.ext hE
 replace hB := Base.step hB hE hO; clear hE
 refine l_store1 (cs' := #[.bool x_2.solid_, .bool x_2.empty_, .bool (bif x_2.taken_ then true else x3), .bool (bif x_2.loose_ then true else x5), .bool x_2.there_, .bool x_2.gone_]) hO hB (okB_self hB) ty4 q31 q29 rfl rfl f4 (by simp) rfl fun w5 f6 hB' hX => ?_
 clear hB f4; have hB := hB'; clear hB'
 clear hX
 refine li_nil ?_
 have h := Comp.run_pure h; subst h
 exact retG0n Try.results115 hA  (bioEnd hB f6 rfl trivial)
theorem ok_court_blank_speak {O : Tags} {w0 : World} (hO : OkO O w0) {v_0 : Value} {x_0 : court_blank} (h_0 : r_court_blank.v O w0 v_0 x_0) {x_1 : Int} {b_2 : Nat} {x_2 : court_fate} (h_2 : BoxA r_court_fate 92 O w0 b_2 x_2) {n : Nat} {y : court_fate} (h : (court_blank_speak x_0 x_1 x_2).run n = some y) : Calls Try.prog 116 #[v_0, .int .i64 x_1, .pointer (some ⟨b_2, 0, none⟩)] w0 (BioPost r_court_fate 92 O w0 b_2 y (SP.unit)) := by
 unfold court_blank_speak at h
 refine bio_of_wp Try.func116 rfl 16 Try.ntmps116 (by simp) fun a0 hA hs0 => ?_
 have q0 : a0.get 0 = v_0 := hs0 0 _ rfl
 have q1 : a0.get 1 = .int .i64 x_1 := hs0 1 _ rfl
 have q2 : a0.get 2 = .pointer (some ⟨b_2, 0, none⟩) := hs0 2 _ rfl
 clear hs0
 obtain ⟨Oi_, cs_, hB, hb_, hr_, hk_⟩ := bioStart hO h_2
 replace h_0 := GR.v_mono _ h_0 hk_
 clear hk_ h_2
 replace hr_ : cs_ = [.bool x_2.solid_, .bool x_2.empty_, .bool x_2.taken_, .bool x_2.loose_, .bool x_2.there_, .bool x_2.gone_] := hr_; subst hr_
 refine wp_seq ?_
 refine' region [SP.vl (rBox r_court_blank) Oi_ x_0] mixed hA (.cons (fun _ _ hE hK hg => okl_boxV (r := r_court_blank) fit_court_blank (OkO.ext hB.ok hE) (kn (hK 0 rfl) rfl q0) (GR.v_ext _ h_0 hE)) .nil) ?zok1 ?zgd1 ?zk1
 case zok1 | zgd1 => kernel_rfl
 intro a1 w1 hA hE HF
 replace q1 := kn (HF 1) rfl q1
 replace q2 := kn (HF 2) rfl q2
 have f2 := ksp (HF 3) rfl rfl rfl
 obtain ⟨u1, q3'⟩ : ∃ u, a1.get 3 = u := ⟨_, rfl⟩
 rw [q3'] at f2
 have q3 := q3'; clear q3'
 clear q0
 clear HF
 replace h_0 := GR.v_ext _ h_0 hE
 replace hb_ := hb_.ext hE
 replace hB := Base.step hB hE hO; clear hE
 refine li_nil (nx_then (wp_seq ?_))
 obtain ⟨x3, hx3, h⟩ := Comp.run_bind h
 refine' region [SP.ptr (rSl (rInt .i64)) Oi_ x_0.cells_, SP.vl (rSl (rInt .i64)) Oi_ x_0.cells_, _, SP.isv (.bool x3)] mixed hA (.cons (fun _ _ hE hK hg => okl_fldB (S := r_court_blank) fit_court_blank rfl (fun _ => rfl) sb_court_blank_0 fl101_0 (kn (hK 3 rfl) rfl q3) (GR.v_ext _ f2 hE)) (.cons (fun _ _ hE hK hg => okl_ld (r := (rSl (rInt .i64))) (fun _ => rfl) ty23 rfl rfl rfl (kspS (φ := SP.ptr (rSl (rInt .i64)) Oi_ x_0.cells_) (j := 0) (hK 6 rfl) rfl rfl rfl)) (.cons (fun _ _ hE hK hg => ok_move (kn (hK 1 rfl) rfl q1)) (.cons ?z2_3 .nil)))) ?zok2 ?zgd2 ?zk2
 case z2_3 => intro a' w' hE hK hg; have c_ := ok_slices_Contains_int_int (OkO.ext hB.ok hE) (kspS (φ := SP.vl (rSl (rInt .i64)) Oi_ x_0.cells_) (j := 1) (hK 7 rfl) rfl rfl rfl) hx3; exact ok_call2 fn57 rfl (ksv (j := 2) (hK 8 rfl) rfl rfl rfl) c_
 case zok2 | zgd2 => kernel_rfl
 intro a2 w2 hA hE HF
 replace q2 := kn (HF 2) rfl q2
 have q9 := ksv (HF 9) rfl rfl rfl
 clear q1
 clear q3
 clear HF
 replace f2 := GR.v_ext _ f2 hE
 replace hb_ := hb_.ext hE
 replace hB := Base.step hB hE hO; clear hE
 refine li_nil (nx_then ?_)
 refine wp_cond_b q9 (fun hc => ?_) (fun hc => ?_)
 ·
  replace h := Comp.run_b_t hc h; clear hc
  refine' regionT [_, SP.isv (.pointer (some ⟨b_2, 0, none⟩)), SP.isv (.pointer (some ⟨b_2, 1, none⟩))] hA (.cons (fun _ _ hE hK hg => ok_move (kn (hK 2 rfl) rfl q2)) (.cons (fun _ _ hE hK hg => ok_nilChk (ksv (j := 0) (hK 10 rfl) rfl rfl rfl)) (.cons (fun _ _ hE hK hg => ok_fieldAddr fl92_1 (ksv (j := 1) (hK 11 rfl) rfl rfl rfl)) .nil))) ?zok3 ?zgd3 ?zk3
  case zok3 | zgd3 => kernel_rfl
  intro a3 w3 hA hE HF
  have q12 := ksv (HF 12) rfl rfl rfl
  clear q2
  clear q9
  clear HF
  replace hb_ := hb_.ext hE
  replace hB := Base.step hB hE hO; clear hE
  refine l_store1 (cs' := #[.bool x_2.solid_, .bool false, .bool x_2.taken_, .bool x_2.loose_, .bool x_2.there_, .bool x_2.gone_]) hO hB (okB_self hB) ty4 q12 rfl rfl rfl hb_ (by simp) rfl fun w4 f4 hB' hX => ?_
  clear hB hb_; have hB := hB'; clear hB'
  clear hX
  refine li_nil ?_
  have h := Comp.run_pure h; subst h
  exact retG0n Try.results116 hA  (bioEnd hB f4 rfl trivial)
 ·
  replace h := Comp.run_b_f hc h; clear hc
  refine' regionT [_, SP.isv (.pointer (some ⟨b_2, 0, none⟩)), SP.isv (.pointer (some ⟨b_2, 0, none⟩))] hA (.cons (fun _ _ hE hK hg => ok_move (kn (hK 2 rfl) rfl q2)) (.cons (fun _ _ hE hK hg => ok_nilChk (ksv (j := 0) (hK 13 rfl) rfl rfl rfl)) (.cons (fun _ _ hE hK hg => ok_fieldAddr fl92_0 (ksv (j := 1) (hK 14 rfl) rfl rfl rfl)) .nil))) ?zok4 ?zgd4 ?zk4
  case zok4 | zgd4 => kernel_rfl
  intro a5 w5 hA hE HF
  have q15 := ksv (HF 15) rfl rfl rfl
  clear q2
  clear q9
  clear HF
  replace hb_ := hb_.ext hE
  replace hB := Base.step hB hE hO; clear hE
  refine l_store1 (cs' := #[.bool false, .bool x_2.empty_, .bool x_2.taken_, .bool x_2.loose_, .bool x_2.there_, .bool x_2.gone_]) hO hB (okB_self hB) ty4 q15 rfl rfl rfl hb_ (by simp) rfl fun w6 f5 hB' hX => ?_
  clear hB hb_; have hB := hB'; clear hB'
  clear hX
  refine li_nil ?_
  have h := Comp.run_pure h; subst h
  exact retG0n Try.results116 hA  (bioEnd hB f5 rfl trivial)
end Go.Proofs.Ytebmpjdegajhgaa
end
