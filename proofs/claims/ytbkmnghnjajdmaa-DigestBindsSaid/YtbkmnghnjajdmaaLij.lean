/- Lifting: contracts of in-place library functions; a slice beside nil. No statement of the program stands here. -/
import Derived.Test.YtbkmnghnjajdmaaLii
import Derived.Lib.LazyBuf
import Derived.Scope
set_option linter.unusedVariables false
set_option linter.unusedSimpArgs false
namespace Go.Lift
open Go Go.RowKit Go.Eng
variable {α β γ δ ε : Type}
def isNilV : Value → Bool
  | .slice p _ _ => p.isNone
  | _ => false
theorem isNil_nil {r : GR α} {O w u xs} (hc : isNilV u = true) (h : Rd r O w u xs) : xs = [] := by
  obtain ⟨vs, ⟨p, c, h1, h2, h3, h4⟩, h5⟩ := h
  rw [h1] at hc
  cases p with
  | none =>
    have hv : vs = [] := by
      rcases h4 with h4 | ⟨b, off, h4, _⟩
      · exact h4
      · cases h4
    subst hv
    cases xs with
    | nil => rfl
    | cons x xs => simp [RelL] at h5
  | some p => simp [isNilV] at hc
theorem clone_nil {n : Nat} {y : List α} (h : ((app [] ([] : List α)).bind fun x => Comp.pure x).run n = some y) : (Comp.pure ([] : List α)).run n = some y := by
  have e : (app [] ([] : List α)) = Comp.pure [] := by simp [app, LIM]
  rw [e] at h
  exact h
variable {P : Program} {a : Act} {w : World} {T : TypeId} {pos : String} {aft : Array Edge} {g : Option (Nat × Bool)} {d : Option Tmp}
theorem okl_eqlNil {x : Operand} {X E Y : TypeId} {r : GR α} {O : Tags} {xs : List α} {z sz by_} {u : Value} (hT : Ty P X (.slice E) z sz by_) (hx : a.eval x = u) (h : Rd r O w u xs) :
    Ok P ⟨d, .binOp .eql X x (.const (.slice none 0 0)) Y, T, pos, aft, g⟩ a w (SP.isv (.bool (isNilV u))).holds := by
  obtain ⟨vs, ⟨p, c, h1, _⟩, _⟩ := h
  subst h1
  refine ok_pure ?_
  have := _root_.Go.run_eql_slice_nil (P := P) w X E p vs.length c hT.u
  have h2 : a.eval (.const (.slice none 0 0)) = .slice none 0 0 := rfl
  simp [execOp, eqGuard, hx, h2, isNilV, this]
theorem nx_sc {Q : Exit → Act → World → Prop} {a : Act} {w : World} (h : Q .normal a w) : Exit.noGoto Q .normal a w := h
theorem rt_sc {Q : Exit → Act → World → Prop} {a : Act} {w : World} (h : Q .ret a w) : Exit.noGoto Q .ret a w := h
theorem ex_sc {e : Nat} {Q : Exit → Act → World → Prop} {a : Act} {w : World} (h : Q (.exit e) a w) : Exit.noGoto Q (.exit e) a w := h
theorem map0 {f : Operand → Value} : #[].map f = #[] := by simp
theorem map4 {a : Act} {x y z t : Operand} {v u s r : Value} (h : a.eval x = v) (h2 : a.eval y = u) (h3 : a.eval z = s) (h4 : a.eval t = r) : #[x, y, z, t].map a.eval = #[v, u, s, r] := by simp [h, h2, h3, h4]
theorem map5 {a : Act} {x y z t q : Operand} {v u s r p : Value} (h : a.eval x = v) (h2 : a.eval y = u) (h3 : a.eval z = s) (h4 : a.eval t = r) (h5 : a.eval q = p) : #[x, y, z, t, q].map a.eval = #[v, u, s, r, p] := by simp [h, h2, h3, h4, h5]
theorem map6 {a : Act} {x y z t q l : Operand} {v u s r p m : Value} (h : a.eval x = v) (h2 : a.eval y = u) (h3 : a.eval z = s) (h4 : a.eval t = r) (h5 : a.eval q = p) (h6 : a.eval l = m) : #[x, y, z, t, q, l].map a.eval = #[v, u, s, r, p, m] := by simp [h, h2, h3, h4, h5, h6]
/-! contracts -/
def ins (x : Int) : List Int → List Int
  | [] => [x]
  | y :: ys => if x ≤ y then x :: y :: ys else y :: ins x ys
def isort : List Int → List Int
  | [] => []
  | x :: xs => ins x (isort xs)
theorem ins_perm (x : Int) : ∀ ys, (ins x ys).Perm (x :: ys)
  | [] => .refl _
  | y :: ys => by
      unfold ins; split
      · exact .refl _
      · exact ((ins_perm x ys).cons y).trans (.swap x y ys)
theorem isort_perm : ∀ xs, (isort xs).Perm xs
  | [] => .refl _
  | x :: xs => (ins_perm x _).trans ((isort_perm xs).cons x)
theorem ins_sorted (x : Int) : ∀ ys, ys.Pairwise (· ≤ ·) → (ins x ys).Pairwise (· ≤ ·)
  | [], _ => by simp [ins]
  | y :: ys, h => by
      have h1 := List.pairwise_cons.1 h
      unfold ins; split
      · refine List.pairwise_cons.2 ⟨fun z hz => ?_, h⟩
        rcases List.mem_cons.1 hz with rfl | hz
        · assumption
        · have := h1.1 z hz; omega
      · refine List.pairwise_cons.2 ⟨fun z hz => ?_, ins_sorted x ys h1.2⟩
        rcases List.mem_cons.1 ((ins_perm x ys).mem_iff.1 hz) with rfl | hz
        · omega
        · exact h1.1 z hz
theorem isort_sorted : ∀ xs, (isort xs).Pairwise (· ≤ ·)
  | [] => .nil
  | x :: xs => ins_sorted x _ (isort_sorted xs)
theorem isort_eq (xs : List Int) : (xs.mergeSort fun x y => decide (x ≤ y)) = isort xs := by
  refine List.Perm.eq_of_pairwise (le := fun x y : Int => x ≤ y) (fun a b _ _ h1 h2 => by omega) ?_ (isort_sorted xs) ((List.mergeSort_perm xs _).trans (isort_perm xs).symm)
  have := List.pairwise_mergeSort (le := fun x y : Int => decide (x ≤ y)) (by intro a b c; simp; omega) (by intro a b; simp; omega) xs
  exact this.imp (by intro a b; simp)
def sortI (xs : List Int) : Comp (List Int) := if xs.length ≤ LIM then Comp.pure (isort xs) else Comp.fail
def compactI (xs : List Int) : Comp (List Int) := if xs.length ≤ LIM then Comp.pure (Lib.compact xs) else Comp.fail
theorem m_sort {f : FuncId} {T : Nat} {O : Tags} {w : World} {u : Value} {xs ys : List Int} {n : Nat}
    (hs : ∀ (blk off cap : Nat) (zs : List Int) (w : World), Sort.Holds (Value.int .i64) w blk off zs.toArray → blk < w.heap.size → zs.length < 4611686018427387904 →
      Calls P f #[.slice (some ⟨blk, off, none⟩) zs.length cap] w fun e w' => e = .returned (.tuple #[]) ∧ ∃ n os, w' = Sort.grow (Sort.putRow (Value.int .i64) (Sort.ahead w n) blk off (zs.mergeSort fun x y => decide (x ≤ y)).toArray) os)
    (hn : ∀ (p : Option Addr) (cap : Nat) (w : World), Calls P f #[.slice p 0 cap] w fun e w' => e = .returned (.tuple #[]) ∧ w' = w)
    (_ : OkO O w) (h : OwnR (rInt .i64) T 0 O w u xs) (hy : (sortI xs).run n = some ys) : Calls P f #[u] w (IoPost (rInt .i64) T O w u ys fun _ u' => u' = u) := by
  unfold sortI at hy; split at hy
  · have := Comp.run_pure hy; subst this; rw [← isort_eq]; exact io_sort hs hn h ‹_›
  · cases hy
theorem m_compact {f : FuncId} {T : Nat} {O : Tags} {w : World} {u : Value} {xs ys : List Int} {n : Nat}
    (hs : ∀ (blk off cap : Nat) (zs : List Int) (w : World), Sort.Holds (Value.int .i64) w blk off zs.toArray → zs.length ≤ 9223372036854775807 → zs.length ≤ cap →
      Calls P f #[.slice (some ⟨blk, off, none⟩) zs.length cap] w fun e w' => e = .returned (.slice (some ⟨blk, off, none⟩) (Lib.compact zs).length cap) ∧ ∃ q, w' = Sort.putRow (Value.int .i64) (Sort.ahead w q) blk off (Lib.compact zs ++ List.replicate (zs.length - (Lib.compact zs).length) 0).toArray)
    (hn : ∀ (p : Option Addr) (cap : Nat) (w : World), Calls P f #[.slice p 0 cap] w fun e w' => e = .returned (.slice p 0 cap) ∧ w' = w)
    (_ : OkO O w) (h : OwnR (rInt .i64) T 0 O w u xs) (hy : (compactI xs).run n = some ys) : Calls P f #[u] w (IoPost (rInt .i64) T O w u ys fun v u' => v = u') := by
  unfold compactI at hy; split at hy
  · have := Comp.run_pure hy; subst this; exact io_compact hs hn h ‹_›
  · cases hy
end Go.Lift
