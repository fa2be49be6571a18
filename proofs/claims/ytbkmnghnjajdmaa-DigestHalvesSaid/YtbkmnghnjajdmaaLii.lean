/- Lifting: functions that write into a slice that they are handed. No statement of the program stands here. -/
import Derived.Test.YtbkmnghnjajdmaaLih
import Derived.Sort.OwnSortedInts
import Derived.Lib.SlicesCompact
set_option linter.unusedVariables false
set_option linter.unusedSimpArgs false
namespace Go.Lift
open Go Go.RowKit Go.Eng
variable {α β γ δ ε : Type}
/-- u was handed to a call to be written into; u' is what has become of it, with the elements ys -/
def IoPost (r : GR α) (T : Nat) (O : Tags) (w : World) (u : Value) (ys : List α) (ψ : Value → Value → Prop) : Ending → World → Prop :=
  fun e w' => ∃ v u', e = .returned v ∧ Appd w w' u u' ∧ OwnR r T 0 O w' u' ys ∧ ψ v u'
theorem OwnL.arg {k : Nat} {r : GR α} {T B O w u xs} (h : OwnL k r T B O w u xs) (hk : k ≠ 0) : OwnR r T 0 O w u xs := by
  obtain ⟨vs, h1, h2, h3⟩ := h
  exact ⟨vs, h1, h2.mono ⟨Nat.le_refl _, fun b _ hb => ⟨by rw [tag_ne (fun e => by rw [(h3 b e).1] at hb; exact hk hb)]; exact hb, rfl⟩⟩⟩
theorem map1 {a : Act} {x : Operand} {v : Value} (h : a.eval x = v) : #[x].map a.eval = #[v] := by simp [h]
theorem map2 {a : Act} {x y : Operand} {v u : Value} (h : a.eval x = v) (h2 : a.eval y = u) : #[x, y].map a.eval = #[v, u] := by simp [h, h2]
theorem map3 {a : Act} {x y z : Operand} {v u t : Value} (h : a.eval x = v) (h2 : a.eval y = u) (h3 : a.eval z = t) : #[x, y, z].map a.eval = #[v, u, t] := by simp [h, h2, h3]
section tails
variable {P : Program} {a : Act} {w : World} {T : TypeId} {pos : String} {aft : Array Edge} {ops : Array Oper} {Q : Exit → Act → World → Prop} {rest : List Oper} {A : Nat → Prop}
theorem t_calls {f : FuncId} {xs : Array Operand} {ts : Array TypeId} {args : Array Value} {R : Ending → World → Prop} {d : Option Tmp} (hf : FnOk P f) (ha : xs.map a.eval = args) (h : Calls P f args w R)
    (hK : ∀ e w', R e w' → ∃ v, e = .returned v ∧ wpList P ops Q rest (a.put d v) w') : wpList P ops Q (⟨d, .call ⟨.value (.func f), xs, ts⟩, T, pos, aft, none⟩ :: rest) a w := by
  have hw : Region.wanted (⟨d, .call ⟨.value (.func f), xs, ts⟩, T, pos, aft, none⟩ : Oper) (yielded ops a.tmps) = true := by simp [Region.wanted]
  simp only [wpList, hw, if_true]
  left
  obtain ⟨fn, h1, h2, h3⟩ := hf.h
  have hr : (execOp a.eval ⟨d, .call ⟨.value (.func f), xs, ts⟩, T, pos, aft, none⟩).run P w = .ok (.enter f args) w := by
    simp only [execOp, resolve, Act.eval, Deferred.ofValue, ha, Sem.run_bind, Sem.run_pure, Result.andThen, invoke, callFunc, run_program, h1]
    simp [h2, h3]
  unfold Oper.wp
  rw [hr]
  refine Calls.mono h fun e w' he => ?_
  obtain ⟨v, rfl, hv⟩ := hK e w' he
  exact hv
theorem l_io {f : FuncId} {xs : Array Operand} {ts : Array TypeId} {args : Array Value} {d : Option Tmp} {r : GR α} {E k : Nat} {B : Nat → Prop} {O O0 : Tags} {w0 : World} {u : Value} {xs0 ys : List α} {ψ : Value → Value → Prop} (hO0 : OkO O0 w0) (hB : Base A O0 w0 O w) (hAB : OkB A w0 B) (hf : FnOk P f) (ha : xs.map a.eval = args)
    (h : Calls P f args w (IoPost r E O w u ys ψ)) (hO : OwnL k r E B O w u xs0) (hk : k ≠ 0)
    (hK : ∀ v u2 w2 O2, OwnL k r E B O2 w2 u2 ys → Base A O0 w0 O2 w2 → KX (some k) O w O2 w2 → ψ v u2 → wpList P ops Q rest (a.put d v) w2) : wpList P ops Q (⟨d, .call ⟨.value (.func f), xs, ts⟩, T, pos, aft, none⟩ :: rest) a w := by
  refine t_calls hf ha h fun e w2 he => ?_
  obtain ⟨v, u2, he, h1, ⟨vs, h2, h3⟩, h4⟩ := he
  refine ⟨v, he, ?_⟩
  have hge := hO.ge
  obtain ⟨hB2, hkx⟩ := base_appd hB hO0 h1 (fun g hg => hAB.sub g (hge g hg).1) hk (fun g hg => h2.block_lt g hg) hO.tagged
  refine hK v u2 w2 (tag O u2.ownBlock k) ⟨vs, h2, h3.mono ⟨Nat.le_refl _, fun b _ hb => ⟨?_, rfl⟩⟩, fun g hg => ⟨by rw [hg]; exact tag_same _ _ _, ?_⟩⟩ hB2 hkx h4
  · by_cases hg : u2.ownBlock = some b
    · rw [hg, tag_same] at hb; cases hb
    · rw [tag_ne hg] at hb ⊢; exact hb
  · rcases h1.at_ with h8 | h8
    · exact (hge g (h8 ▸ hg)).1
    · exact hAB.new g (by have := h8 g hg; have := hB.size; omega)
end tails

/-! ### slices.Sort, slices.Compact at []int -/
theorem relL_int {k : IntKind} {O w vs xs} (h : RelL (rInt k) O w vs xs) : vs = xs.map (Value.int k) := RelL.closed.1 h
theorem relL_int' {k : IntKind} {O w} (xs : List Int) : RelL (rInt k) O w (xs.map (Value.int k)) xs := RelL.closed.2 rfl
theorem flat_int (k : IntKind) (xs : List Int) : flat (xs.map (Value.int k)) = xs.map (Value.int k) := by
  unfold flat; rw [List.flatMap_map]
  induction xs with
  | nil => rfl
  | cons x xs ih => simp [Value.cells] at ih ⊢; exact ih
theorem ownS_int {w : World} {T : Nat} {v : Value} {xs : List Int} (h : w.ownsRow 0 T 1 v xs.length (xs.map (Value.int .i64))) : OwnS w 0 T 1 v (xs.map (Value.int .i64)) :=
  ⟨fun x hx => by obtain ⟨y, _, rfl⟩ := List.mem_map.1 hx; rfl, by rw [flat_int, List.length_map]; exact h⟩
theorem appd_self {w w' : World} {u : Value} (h : w.grownBy w' u.ownBlock) : Appd w w' u u := ⟨h, .inl rfl⟩
theorem io_sort {P : Program} {f : FuncId} {T : Nat} {O : Tags} {w : World} {u : Value} {xs : List Int}
    (hs : ∀ (blk off cap : Nat) (zs : List Int) (w : World), Sort.Holds (Value.int .i64) w blk off zs.toArray → blk < w.heap.size → zs.length < 4611686018427387904 →
      Calls P f #[.slice (some ⟨blk, off, none⟩) zs.length cap] w fun e w' => e = .returned (.tuple #[]) ∧ ∃ n os, w' = Sort.grow (Sort.putRow (Value.int .i64) (Sort.ahead w n) blk off (zs.mergeSort fun x y => decide (x ≤ y)).toArray) os)
    (hn : ∀ (p : Option Addr) (cap : Nat) (w : World), Calls P f #[.slice p 0 cap] w fun e w' => e = .returned (.tuple #[]) ∧ w' = w)
    (h : OwnR (rInt .i64) T 0 O w u xs) (hl : xs.length ≤ LIM) : Calls P f #[u] w (IoPost (rInt .i64) T O w u (xs.mergeSort fun x y => decide (x ≤ y)) fun _ u' => u' = u) := by
  obtain ⟨vs, h1, h2⟩ := h
  have hv := relL_int h2
  subst hv
  have hlen : (xs.map (Value.int .i64)).length = xs.length := List.length_map _
  rcases h1.row.2 with ⟨e1, e2⟩ | ⟨b, cap, cur, e1, e2, e3, e4, e5, e6, e7⟩
  · have hx : xs = [] := List.eq_nil_of_length_eq_zero (by omega)
    subst hx
    subst e1
    refine Calls.mono (hn none 0 w) ?_
    rintro e w' ⟨he, rfl⟩
    exact ⟨_, _, he, appd_self ⟨rfl, rfl, rfl, Nat.le_refl _, fun _ _ _ => rfl⟩, ⟨[], OwnS.nil _ _ _ _, by simp [RelL]⟩, rfl⟩
  · unfold LIM at hl
    subst e1
    rw [hlen] at e4 e7 ⊢
    rw [flat_int] at e7
    have hsz : (rInt .i64).sz = 1 := rfl
    rw [hsz, Nat.mul_one] at e6
    rw [hsz, Nat.mul_one] at e7
    have hb : b < w.heap.size := (Array.getElem?_eq_some_iff.1 e3).1
    refine Calls.mono (hs b 0 cap xs w (holds_of_blockI e3 e7) hb (by omega)) ?_
    rintro e w' ⟨he, n, os, rfl⟩
    refine ⟨_, _, he, appd_self (grownBy_sortedI _), ⟨_, ownS_int (xs := xs.mergeSort fun x y => decide (x ≤ y)) ?_, relL_int' _⟩, rfl⟩
    have := ownsRow_sortedI (base := 0) (n := n) (os := os) (ts := xs.mergeSort fun x y => decide (x ≤ y)) (ss := xs) (by simp [List.length_mergeSort]) (Nat.zero_le _) e3 e4 e5 (by omega)
    rw [List.length_mergeSort]
    exact this
theorem compactUpTo_len (d : Array Int) : ∀ m, (Lib.compactUpTo d m).length ≤ m
  | 0 => by simp [Lib.compactUpTo]
  | m + 1 => by
      rw [Lib.compactUpTo_succ, List.length_append]
      have := compactUpTo_len d m
      split <;> simp <;> omega
theorem compact_len (zs : List Int) : (Lib.compact zs).length ≤ zs.length := by
  unfold Lib.compact; exact compactUpTo_len _ _
theorem io_compact {P : Program} {f : FuncId} {T : Nat} {O : Tags} {w : World} {u : Value} {xs : List Int}
    (hs : ∀ (blk off cap : Nat) (zs : List Int) (w : World), Sort.Holds (Value.int .i64) w blk off zs.toArray → zs.length ≤ 9223372036854775807 → zs.length ≤ cap →
      Calls P f #[.slice (some ⟨blk, off, none⟩) zs.length cap] w fun e w' => e = .returned (.slice (some ⟨blk, off, none⟩) (Lib.compact zs).length cap) ∧ ∃ q, w' = Sort.putRow (Value.int .i64) (Sort.ahead w q) blk off (Lib.compact zs ++ List.replicate (zs.length - (Lib.compact zs).length) 0).toArray)
    (hn : ∀ (p : Option Addr) (cap : Nat) (w : World), Calls P f #[.slice p 0 cap] w fun e w' => e = .returned (.slice p 0 cap) ∧ w' = w)
    (h : OwnR (rInt .i64) T 0 O w u xs) (hl : xs.length ≤ LIM) : Calls P f #[u] w (IoPost (rInt .i64) T O w u (Lib.compact xs) fun v u' => v = u') := by
  obtain ⟨vs, h1, h2⟩ := h
  have hv := relL_int h2
  subst hv
  have hlen : (xs.map (Value.int .i64)).length = xs.length := List.length_map _
  have hc := compact_len xs
  rcases h1.row.2 with ⟨e1, e2⟩ | ⟨b, cap, cur, e1, e2, e3, e4, e5, e6, e7⟩
  · have hx : xs = [] := List.eq_nil_of_length_eq_zero (by omega)
    subst hx
    subst e1
    refine Calls.mono (hn none 0 w) ?_
    rintro e w' ⟨he, rfl⟩
    have hnil : Lib.compact ([] : List Int) = [] := List.eq_nil_of_length_eq_zero (by simpa using hc)
    exact ⟨_, _, he, appd_self ⟨rfl, rfl, rfl, Nat.le_refl _, fun _ _ _ => rfl⟩, ⟨[], OwnS.nil _ _ _ _, by rw [hnil]; simp [RelL]⟩, rfl⟩
  · unfold LIM at hl
    subst e1
    rw [hlen] at e4 e7 ⊢
    rw [flat_int] at e7
    have hsz : (rInt .i64).sz = 1 := rfl
    rw [hsz, Nat.mul_one] at e6
    rw [hsz, Nat.mul_one] at e7
    refine Calls.mono (hs b 0 cap xs w (holds_of_blockI e3 e7) (by omega) e4) ?_
    rintro e w' ⟨he, q, rfl⟩
    have hg : Sort.putRow (Value.int .i64) (Sort.ahead w q) b 0 (Lib.compact xs ++ List.replicate (xs.length - (Lib.compact xs).length) 0).toArray = Sort.grow (Sort.putRow (Value.int .i64) (Sort.ahead w q) b 0 (Lib.compact xs ++ List.replicate (xs.length - (Lib.compact xs).length) 0).toArray) #[] := by simp
    have hts : (Lib.compact xs ++ List.replicate (xs.length - (Lib.compact xs).length) 0).length = xs.length := by simp; omega
    rw [hg]
    refine ⟨_, .slice (some ⟨b, 0, none⟩) (Lib.compact xs).length cap, he, ⟨grownBy_sortedI _, .inl rfl⟩, ⟨_, ownS_int (xs := Lib.compact xs) ?_, relL_int' _⟩, rfl⟩
    have := ownsRow_sortedI (base := 0) (n := q) (os := #[]) (ts := Lib.compact xs ++ List.replicate (xs.length - (Lib.compact xs).length) 0) (ss := xs) hts (Nat.zero_le _) e3 e4 e5 (by omega)
    rcases this.2 with ⟨g1, _⟩ | ⟨g', cap', cur', g1, g2, g3, g4, g5, g6, g7⟩
    · cases g1
    · cases g1
      refine ⟨by simp, .inr ⟨b, cap, cur', rfl, Nat.zero_le _, g3, by omega, g5, g6, ?_⟩⟩
      rw [Nat.mul_one] at g7 ⊢
      have := congrArg (List.take (Lib.compact xs).length) g7
      rw [List.take_take, Nat.min_eq_left hc] at this
      rw [this]; simp
end Go.Lift
