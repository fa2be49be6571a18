/- The engine, second part: the region rule as it is used, and what single operations do. No statement of the program stands here. -/
import Derived.Test.YtbkmnghnjajdmaaEng
namespace Go.Eng
open Go Go.RowKit

/-! ### What an operation leaves: a value, or a property that keeps when memory grows -/
inductive SP where
  | isv (v : Value)
  | pr (p : World → Value → Prop) (st : ∀ w w' v, Ext w w' → p w v → p w' v)
def SP.holds : SP → World → Value → Prop
  | .isv v, _, u => u = v
  | .pr p _, w, u => p w u
def SP.boolOf : SP → Bool
  | .isv (.bool b) => b
  | _ => false
def SP.isBool : SP → Bool
  | .isv (.bool _) => true
  | _ => false
theorem SP.stable (s : SP) {w w' : World} {v : Value} (h : Ext w w') (hs : s.holds w v) : s.holds w' v := by
  cases s with
  | isv v => exact hs
  | pr p st => exact st _ _ _ h hs
theorem SP.bool_of {s : SP} (h : s.isBool = true) : ∀ w v, s.holds w v → v = .bool s.boolOf := by
  intro w v hv
  cases s with
  | isv u => cases u <;> first | (cases h; done) | exact hv
  | pr p st => cases h

def guardsOk (os : List Oper) (Φ : List SP) : Bool := os.all fun o => match o.guard with | none => true | some (g, _) => (Φ.getD g (.isv undef)).isBool

def KnowS (os : List Oper) (Φ : List SP) (a : Act) (n t : Nat) (w : World) (v : Value) : Prop :=
  match lw os (fun j => Nat.blt j n) t with
  | none => v = a.get t
  | some i => (act os (Φ.map SP.boolOf) i = true → (Φ.getD i (.isv undef)).holds w v) ∧ (act os (Φ.map SP.boolOf) i = false → v = undef)

def OblS (P : Program) (os : List Oper) (Φ : List SP) (a : Act) (w : World) (i : Nat) (o : Oper) (φ : SP) : Prop :=
  ∀ a' w', Ext w w' → (∀ t, readsT o t = true → KnowS os Φ a i t w' (a'.get t)) → act os (Φ.map SP.boolOf) i = true → Ok P o a' w' φ.holds

inductive OblsS (P : Program) (all : List Oper) (Φ : List SP) (a : Act) (w : World) : Nat → List Oper → List SP → List Oper → Prop
  | nil {i os} : OblsS P all Φ a w i os [] os
  | cons {i o os φ φs tl} (h : OblS P all Φ a w i o φ) (hs : OblsS P all Φ a w (i + 1) os φs tl) : OblsS P all Φ a w i (o :: os) (φ :: φs) tl

theorem pred_map (Φ : List SP) (i : Nat) (hi : i < Φ.length) : pred (Φ.map SP.holds) i = (Φ.getD i (.isv undef)).holds := by
  simp [pred, hi]
theorem OblsS.drop {P all Φ a w i os φs tl} (h : OblsS P all Φ a w i os φs tl) : φs.length ≤ os.length ∧ os.drop φs.length = tl := by
  induction h with
  | nil => simp
  | cons _ _ ih => simp [ih]

theorem know_iff {os : List Oper} {Φ : List SP} {a : Act} {n t : Nat} (hn : n ≤ Φ.length) {w : World} {v : Value} :
    Know os (Φ.map SP.holds) (Φ.map SP.boolOf) a (fun j => Nat.blt j n) t w v ↔ KnowS os Φ a n t w v := by
  unfold Know KnowS
  cases h : lw os (fun j => Nat.blt j n) t with
  | none => rfl
  | some i =>
    have hi := (lw_some h).1
    rw [blt_dec, decide_eq_true_eq] at hi
    have hi : i < Φ.length := by omega
    simp only []
    constructor
    · intro h; exact ⟨fun h' => by have := h.on h'; rwa [pred_map Φ i hi] at this, h.off⟩
    · intro h; exact ⟨fun h' => by rw [pred_map Φ i hi]; exact h.1 h', h.2⟩

theorem oblsS_obls {P all a w} {Φ : List SP} : ∀ {i os φs tl}, OblsS P all Φ a w i os φs tl → (∀ j, φs[j]? = Φ[i + j]?) → (∀ j, os[j]? = all[i + j]?) →
    ∀ j o, j < φs.length → all[i + j]? = some o → Obl Ext P all (Φ.map SP.holds) (Φ.map SP.boolOf) a w (i + j) o
  | _, _, _, _, .nil, _, _ => by intro j o h; simp at h
  | i, _, _, _, .cons (φ := φ) h hs, hφ, hos => by
      intro j o hj ho
      cases j with
      | zero =>
        have h1 := hos 0
        simp only [List.getElem?_cons_zero, Nat.add_zero] at h1 ho
        rw [ho] at h1; cases h1
        have h0 := hφ 0
        simp only [List.getElem?_cons_zero, Nat.add_zero] at h0
        have hi : i < Φ.length := (List.getElem?_eq_some_iff.1 h0.symm).1
        have hp : pred (Φ.map SP.holds) i = φ.holds := by
          rw [pred_map Φ i hi]; simp [← h0]
        intro a' w' hE hK hact
        show Ok P _ a' w' (pred (Φ.map SP.holds) i)
        rw [hp]
        exact h a' w' hE (fun t ht => (know_iff (by omega)).1 (hK t ht)) hact
      | succ j =>
        have e : i + (j + 1) = i + 1 + j := by omega
        rw [e] at ho ⊢
        refine oblsS_obls hs (fun j => ?_) (fun j => ?_) j o (by simpa using hj) ho
        · have := hφ (j + 1)
          simp only [List.getElem?_cons_succ] at this
          rw [this]; congr 1; omega
        · have := hos (j + 1)
          simp only [List.getElem?_cons_succ] at this
          rw [this]; congr 1; omega

/-- **THE REGION RULE.** -/
theorem region {D : List Deferred} {P : Program} {Q : Exit → Act → World → Prop} {N id : Nat} {os tail : List Oper} {draw : Bool} {a : Act} {w : World} (Φ : List SP) (hm : P.follows .mixedOrders = true)
    (hA : a.fitD N D) (hobl : OblsS P os Φ a w 0 os Φ tail) (hok : (okRegion N os && tailOk os Φ.length) = true) (hg : guardsOk os Φ = true)
    (hQ : ∀ a' w', a'.fitD N D → Ext w w' → (∀ t, KnowS os Φ a Φ.length t w' (a'.get t)) → wpList P os.toArray Q tail a' w') : (Code.region id os.toArray draw).wp P Q a w := by
  obtain ⟨hl, hdrop⟩ := hobl.drop
  rw [Bool.and_eq_true] at hok
  refine region_E (E := Ext) (m := Φ.length) Ext.refl (fun _ _ _ => Ext.trans) Ext.drawn (Φ := Φ.map SP.holds) (cs := Φ.map SP.boolOf) hm hA hok.1 hok.2 hl hdrop ⟨?_, ?_⟩ (fun i o hi ho => by simpa using oblsS_obls hobl (by simp) (by simp) i o hi (by simpa using ho)) (fun a' w' h1 h2 h3 _ => hQ a' w' h1 h2 fun t => (know_iff (Nat.le_refl _)).1 (h3 t))
  · intro i w w' v hE hp
    by_cases hi : i < Φ.length
    · rw [pred_map Φ i hi] at hp ⊢; exact SP.stable _ hE hp
    · simp [pred, hi]
  · intro i o g want ho hgd w v hp
    unfold guardsOk at hg
    rw [List.all_eq_true] at hg
    have := hg o (List.mem_of_getElem? ho)
    rw [hgd] at this
    by_cases hi : g < Φ.length
    · rw [pred_map Φ g hi] at hp
      have := SP.bool_of this w v hp
      rw [this]; simp [hi]
    · simp [hi, SP.isBool, undef] at this

/-! ### Types -/
structure Ty (P : Program) (T : TypeId) (d : TypeDesc) (z : Value) (size bytes : Nat) : Prop where
  u : P.underlying T = some d
  i : (P.info? T).map (fun i => (i.zero, i.size, i.bytes)) = some (some z, size, bytes)
theorem Ty.info {P T d z size bytes} (h : Ty P T d z size bytes) : ∃ i, P.info? T = some i ∧ i.zero = some z ∧ i.size = size ∧ i.bytes = bytes := by
  have := h.i
  cases hi : P.info? T with
  | none => simp [hi] at this
  | some i => simp [hi] at this; exact ⟨i, rfl, this.1, this.2.1, this.2.2⟩

theorem Ty.run_u {P T d z size bytes} (h : Ty P T d z size bytes) (w : World) : (underlying T).run P w = .ok d w := by
  simp [underlying, h.u]
theorem Ty.run_size {P T d z size bytes} (h : Ty P T d z size bytes) (w : World) : (sizeOf T).run P w = .ok size w := by
  obtain ⟨i, h1, h2, h3, h4⟩ := h.info
  simp [sizeOf, typeInfo, h1, h3]
theorem Ty.run_zero {P T d z size bytes} (h : Ty P T d z size bytes) (w : World) : (zeroValue T).run P w = .ok z w := by
  obtain ⟨i, h1, h2, h3, h4⟩ := h.info
  simp [zeroValue, typeInfo, h1, h2]
theorem Ty.run_info {P T d z size bytes} (h : Ty P T d z size bytes) (w : World) : ∃ i, (typeInfo T).run P w = .ok i w ∧ i.zero = some z ∧ i.size = size ∧ i.bytes = bytes := by
  obtain ⟨i, h1, h2, h3, h4⟩ := h.info
  exact ⟨i, by simp [typeInfo, h1], h2, h3, h4⟩
def isAggD : TypeDesc → Bool
  | .struct _ | .array _ _ => true
  | _ => false
theorem Ty.run_agg {P T d z size bytes} (h : Ty P T d z size bytes) (w : World) : (isAgg T).run P w = .ok (isAggD d) w := by
  simp only [isAgg, Sem.run_bind, h.run_u, Result.andThen]
  cases d <;> rfl

/-! ### Memory, as it is read -/
/-- u is a slice of the elements xs, each of E cells. -/
def SlV (w : World) (E : Nat) (u : Value) (xs : List Value) : Prop :=
  ∃ a cap, u = .slice a xs.length cap ∧ xs.length ≤ cap ∧ (∀ x ∈ xs, x.cells.size = E) ∧
    (xs = [] ∨ ∃ b off, a = some ⟨b, off, none⟩ ∧ ∀ (i : Nat) (x : Value), xs[i]? = some x → ∀ j, j < E → w.cell? ⟨b, off + (i * E + j), none⟩ = x.cells[j]?)
/-- u is the address of x. -/
def PtrTo (w : World) (u : Value) (x : Value) : Prop :=
  ∃ b off, u = .pointer (some ⟨b, off, none⟩) ∧ ∀ j, j < x.cells.size → w.cell? ⟨b, off + j, none⟩ = x.cells[j]?
/-- block b is a row of cells. -/
def Own (w : World) (b : Nat) (cs : Array Value) (T : TypeId) : Prop := ∃ fr : Nat × Nat, w.heap[b]? = some (.cells cs T fr) ∧ ∀ o, o < cs.size → (decide (fr.1 ≤ o) && decide (o < fr.2)) = false

theorem SlV.ext {w w' : World} {E : Nat} {u : Value} {xs : List Value} (h : SlV w E u xs) (hE : Ext w w') : SlV w' E u xs := by
  obtain ⟨a, cap, h1, h2, h3, h4⟩ := h
  refine ⟨a, cap, h1, h2, h3, h4.imp id ?_⟩
  rintro ⟨b, off, ha, hc⟩
  refine ⟨b, off, ha, fun i x hx j hj => ?_⟩
  have := hc i x hx j hj
  have hlt : j < x.cells.size := by rw [h3 x (List.mem_of_getElem? hx)]; exact hj
  rw [Array.getElem?_eq_getElem hlt] at this ⊢
  exact hE.cell this
theorem PtrTo.ext {w w' : World} {u x : Value} (h : PtrTo w u x) (hE : Ext w w') : PtrTo w' u x := by
  obtain ⟨b, off, h1, h2⟩ := h
  refine ⟨b, off, h1, fun j hj => ?_⟩
  have := h2 j hj
  rw [Array.getElem?_eq_getElem hj] at this ⊢
  exact hE.cell this
theorem Own.ext {w w' : World} {b : Nat} {cs : Array Value} {T : TypeId} (h : Own w b cs T) (hE : Ext w w') : Own w' b cs T := by
  obtain ⟨fr, h, hf⟩ := h
  exact ⟨fr, hE.heap h, hf⟩
theorem Own.cell {w : World} {b : Nat} {cs : Array Value} {T : TypeId} (h : Own w b cs T) (off : Nat) : w.cell? ⟨b, off, none⟩ = cs[off]? := by
  obtain ⟨fr, h, hf⟩ := h
  unfold World.cell?; rw [h]; rfl
theorem Own.frozen {w : World} {b : Nat} {cs : Array Value} {T : TypeId} (h : Own w b cs T) (off : Nat) (ho : off < cs.size) : w.frozen? ⟨b, off, none⟩ = false := by
  obtain ⟨fr, h, hf⟩ := h
  unfold World.frozen?; rw [h]; exact hf off ho
theorem Own.lt {w : World} {b : Nat} {cs : Array Value} {T : TypeId} (h : Own w b cs T) : b < w.heap.size := by
  obtain ⟨fr, h, hf⟩ := h
  exact (Array.getElem?_eq_some_iff.1 h).1
theorem Own.new (w : World) (cs : Array Value) (T : TypeId) : Own (w.alloc (.cells cs T)) w.heap.size cs T := by
  refine ⟨(0, 0), ?_, ?_⟩
  · unfold World.alloc; simp
  · intro o _; simp
theorem Own.set {w : World} {b : Nat} {cs : Array Value} {T : TypeId} (h : Own w b cs T) (off : Nat) (v : Value) : Own (w.setCell ⟨b, off, none⟩ v) b (cs.setIfInBounds off v) T := by
  obtain ⟨⟨lo, hi⟩, h, hf⟩ := h
  refine ⟨(lo, hi), ?_, fun o ho => hf o (by simpa using ho)⟩
  unfold World.setCell
  simp [Array.getElem?_modify, h]
theorem Own.set_ne {w : World} {b b' : Nat} {cs : Array Value} {T : TypeId} (h : Own w b cs T) (hb : b' ≠ b) (off : Nat) (v : Value) : Own (w.setCell ⟨b', off, none⟩ v) b cs T := by
  obtain ⟨fr, h, hf⟩ := h
  refine ⟨fr, ?_, hf⟩
  unfold World.setCell
  simp [Array.getElem?_modify, h, hb]

abbrev SP.sl (E : Nat) (xs : List Value) : SP := .pr (fun w u => SlV w E u xs) (fun _ _ _ hE h => h.ext hE)
abbrev SP.pt (x : Value) : SP := .pr (fun w u => PtrTo w u x) (fun _ _ _ hE h => h.ext hE)
/-- a new variable's address -/
abbrev SP.box (L : Nat) (cs : Array Value) (T : TypeId) : SP := .pr (fun w u => ∃ b, L ≤ b ∧ u = .pointer (some ⟨b, 0, none⟩) ∧ Own w b cs T) (fun _ _ _ hE ⟨b, h0, h1, h2⟩ => ⟨b, h0, h1, h2.ext hE⟩)

/-! ### Single operations -/
section ops
variable {P : Program} {a : Act} {w : World} {d : Option Tmp} {T : TypeId} {pos : String} {aft : Array Edge} {g : Option (Nat × Bool)}

theorem ok_run {o : Oper} {v : Value} {w' : World} {φ : World → Value → Prop} (h : (execOp a.eval o).run P w = .ok (.value v) w') (hE : Ext w w') (hφ : φ w' v) : Ok P o a w φ :=
  fun K Q hK => by unfold Oper.wp; rw [h]; exact hK v w' hE hφ
theorem ok_pure {o : Oper} {v : Value} (h : (execOp a.eval o).run P w = .ok (.value v) w) : Ok P o a w (SP.isv v).holds := ok_run h (Ext.refl w) rfl

theorem ok_move {x : Operand} {v : Value} (hx : a.eval x = v) : Ok P ⟨d, .move x, T, pos, aft, g⟩ a w (SP.isv v).holds := ok_pure (by simp [execOp, hx])
theorem ok_move_pr {x : Operand} {φ : SP} (hx : φ.holds w (a.eval x)) : Ok P ⟨d, .move x, T, pos, aft, g⟩ a w φ.holds := ok_run (v := a.eval x) (by simp [execOp]) (Ext.refl w) hx
theorem ok_assign {x : Operand} {v : Value} (hx : a.eval x = v) : Ok P ⟨d, .assign x, T, pos, aft, g⟩ a w (SP.isv v).holds := ok_pure (by simp [execOp, hx])
theorem ok_assign_pr {x : Operand} {φ : SP} (hx : φ.holds w (a.eval x)) : Ok P ⟨d, .assign x, T, pos, aft, g⟩ a w φ.holds := ok_run (v := a.eval x) (by simp [execOp]) (Ext.refl w) hx
theorem ok_pick {c x y : Operand} {b p q : Bool} (hc : a.eval c = .bool b) (hx : b = true → a.eval x = .bool p) (hy : b = false → a.eval y = .bool q) :
    Ok P ⟨d, .pick c x y, T, pos, aft, g⟩ a w (SP.isv (.bool (bif b then p else q))).holds := by
  refine ok_pure ?_
  cases b <;> simp [execOp, hc, asBool, hx, hy]

theorem ok_add {x y : Operand} {X Y : TypeId} {k : IntKind} {m n : Int} (hx : a.eval x = .int k m) (hy : a.eval y = .int k n) :
    Ok P ⟨d, .binOp .add X x y Y, T, pos, aft, g⟩ a w (SP.isv (.int k (k.wrap (m + n)))).holds := ok_pure (by simp [execOp, eqGuard, hx, hy, binOp, Op.intArith])
theorem ok_sub {x y : Operand} {X Y : TypeId} {k : IntKind} {m n : Int} (hx : a.eval x = .int k m) (hy : a.eval y = .int k n) :
    Ok P ⟨d, .binOp .sub X x y Y, T, pos, aft, g⟩ a w (SP.isv (.int k (k.wrap (m - n)))).holds := ok_pure (by simp [execOp, eqGuard, hx, hy, binOp, Op.intArith])
theorem ok_mul {x y : Operand} {X Y : TypeId} {k : IntKind} {m n : Int} (hx : a.eval x = .int k m) (hy : a.eval y = .int k n) :
    Ok P ⟨d, .binOp .mul X x y Y, T, pos, aft, g⟩ a w (SP.isv (.int k (k.wrap (m * n)))).holds := ok_pure (by simp [execOp, eqGuard, hx, hy, binOp, Op.intArith])
theorem ok_quo {x y : Operand} {X Y : TypeId} {k : IntKind} {m n : Int} (hx : a.eval x = .int k m) (hy : a.eval y = .int k n) (h0 : n ≠ 0) :
    Ok P ⟨d, .binOp .quo X x y Y, T, pos, aft, g⟩ a w (SP.isv (.int k (k.wrap (m.tdiv n)))).holds := ok_pure (by simp [execOp, eqGuard, hx, hy, binOp, Op.intDiv, h0])
theorem ok_rem {x y : Operand} {X Y : TypeId} {k : IntKind} {m n : Int} (hx : a.eval x = .int k m) (hy : a.eval y = .int k n) (h0 : n ≠ 0) :
    Ok P ⟨d, .binOp .rem X x y Y, T, pos, aft, g⟩ a w (SP.isv (.int k (m.tmod n))).holds := ok_pure (by simp [execOp, eqGuard, hx, hy, binOp, Op.intDiv, h0])
theorem ok_bit {x y : Operand} {X Y : TypeId} {k : IntKind} {m n r : Int} {op : BinOp} (hx : a.eval x = .int k m) (hy : a.eval y = .int k n) (hop : op = .and ∨ op = .or ∨ op = .xor ∨ op = .andNot)
    (hr : ∀ w : World, (Op.intBits op k m n).run P w = .ok (.int k r) w) : Ok P ⟨d, .binOp op X x y Y, T, pos, aft, g⟩ a w (SP.isv (.int k r)).holds := by
  refine ok_pure ?_
  rcases hop with rfl | rfl | rfl | rfl <;> simp [execOp, eqGuard, hx, hy, binOp, hr]
theorem ok_shr {x y : Operand} {X Y : TypeId} {k k' : IntKind} {m n : Int} (hx : a.eval x = .int k m) (hy : a.eval y = .int k' n) (h0 : 0 ≤ n) :
    Ok P ⟨d, .binOp .shr X x y Y, T, pos, aft, g⟩ a w (SP.isv (.int k (m.fdiv (2 ^ (min n.toNat k.bits))))).holds := ok_pure (by
      have : ¬ n < 0 := by omega
      simp [execOp, eqGuard, hx, hy, binOp, Op.shift, this])
theorem ok_shl {x y : Operand} {X Y : TypeId} {k k' : IntKind} {m n : Int} (hx : a.eval x = .int k m) (hy : a.eval y = .int k' n) (h0 : 0 ≤ n) :
    Ok P ⟨d, .binOp .shl X x y Y, T, pos, aft, g⟩ a w (SP.isv (.int k (k.wrap (m * 2 ^ (min n.toNat k.bits))))).holds := ok_pure (by
      have : ¬ n < 0 := by omega
      simp [execOp, eqGuard, hx, hy, binOp, Op.shift, this])
theorem ok_eqlI {x y : Operand} {X Y : TypeId} {k : IntKind} {m n : Int} (hx : a.eval x = .int k m) (hy : a.eval y = .int k n) :
    Ok P ⟨d, .binOp .eql X x y Y, T, pos, aft, g⟩ a w (SP.isv (.bool (decide (m = n)))).holds := ok_pure (by simp [execOp, eqGuard, hx, hy, binOp, Op.intCmp]; rfl)
theorem ok_neqI {x y : Operand} {X Y : TypeId} {k : IntKind} {m n : Int} (hx : a.eval x = .int k m) (hy : a.eval y = .int k n) :
    Ok P ⟨d, .binOp .neq X x y Y, T, pos, aft, g⟩ a w (SP.isv (.bool (decide (m ≠ n)))).holds := ok_pure (by
      have : (m != n) = decide (m ≠ n) := by by_cases h : m = n <;> simp [h]
      simp [execOp, eqGuard, hx, hy, binOp, Op.intCmp, this])
theorem ok_lss {x y : Operand} {X Y : TypeId} {k : IntKind} {m n : Int} (hx : a.eval x = .int k m) (hy : a.eval y = .int k n) :
    Ok P ⟨d, .binOp .lss X x y Y, T, pos, aft, g⟩ a w (SP.isv (.bool (decide (m < n)))).holds := ok_pure (by simp [execOp, eqGuard, hx, hy, binOp, Op.intCmp])
theorem ok_leq {x y : Operand} {X Y : TypeId} {k : IntKind} {m n : Int} (hx : a.eval x = .int k m) (hy : a.eval y = .int k n) :
    Ok P ⟨d, .binOp .leq X x y Y, T, pos, aft, g⟩ a w (SP.isv (.bool (decide (m ≤ n)))).holds := ok_pure (by simp [execOp, eqGuard, hx, hy, binOp, Op.intCmp])
theorem ok_gtr {x y : Operand} {X Y : TypeId} {k : IntKind} {m n : Int} (hx : a.eval x = .int k m) (hy : a.eval y = .int k n) :
    Ok P ⟨d, .binOp .gtr X x y Y, T, pos, aft, g⟩ a w (SP.isv (.bool (decide (m > n)))).holds := ok_pure (by simp [execOp, eqGuard, hx, hy, binOp, Op.intCmp])
theorem ok_geq {x y : Operand} {X Y : TypeId} {k : IntKind} {m n : Int} (hx : a.eval x = .int k m) (hy : a.eval y = .int k n) :
    Ok P ⟨d, .binOp .geq X x y Y, T, pos, aft, g⟩ a w (SP.isv (.bool (decide (m ≥ n)))).holds := ok_pure (by simp [execOp, eqGuard, hx, hy, binOp, Op.intCmp])
theorem ok_not {x : Operand} {X : TypeId} {b : Bool} (hx : a.eval x = .bool b) : Ok P ⟨d, .unOp .not X x, T, pos, aft, g⟩ a w (SP.isv (.bool !b)).holds := ok_pure (by simp [execOp, hx, Op.unary])
theorem ok_neg {x : Operand} {X : TypeId} {k : IntKind} {m : Int} (hx : a.eval x = .int k m) : Ok P ⟨d, .unOp .neg X x, T, pos, aft, g⟩ a w (SP.isv (.int k (k.wrap (0 - m)))).holds := ok_pure (by simp [execOp, hx, Op.unary, Op.intArith])

/-! strings -/
theorem ba_beq (s t : ByteArray) : (s.toList == t.toList) = decide (s = t) := by
  by_cases h : s = t
  · subst h; simp
  · simp only [h, decide_false]
    rw [beq_eq_false_iff_ne]
    intro e
    apply h
    have h1 : s.data.toList = t.data.toList := by
      have h2 := congrArg (fun l : List UInt8 => l) e
      simpa only [ByteArray.toList_eq] using h2
    have h3 : s.data = t.data := Array.toList_inj.1 h1
    cases s; cases t; simp at h3; simp [h3]
theorem ok_eqlS {x y : Operand} {X Y : TypeId} {s t : ByteArray} (hx : a.eval x = .string s) (hy : a.eval y = .string t) :
    Ok P ⟨d, .binOp .eql X x y Y, T, pos, aft, g⟩ a w (SP.isv (.bool (decide (s = t)))).holds := ok_pure (by simp [execOp, eqGuard, hx, hy, binOp, Op.stringOp, ba_beq])
theorem ok_neqS {x y : Operand} {X Y : TypeId} {s t : ByteArray} (hx : a.eval x = .string s) (hy : a.eval y = .string t) :
    Ok P ⟨d, .binOp .neq X x y Y, T, pos, aft, g⟩ a w (SP.isv (.bool (decide (s ≠ t)))).holds := ok_pure (by simp [execOp, eqGuard, hx, hy, binOp, Op.stringOp, ba_beq])
theorem ok_addS {x y : Operand} {X Y : TypeId} {s t : ByteArray} (hx : a.eval x = .string s) (hy : a.eval y = .string t) (hb : s.size + t.size < 9223372036854775808) :
    Ok P ⟨d, .binOp .add X x y Y, T, pos, aft, g⟩ a w (SP.isv (.string (s ++ t))).holds := ok_pure (by
      have hm : IntKind.i64.max = 9223372036854775807 := by decide
      have hb' : ¬ ((s.size + t.size : Nat) : Int) > IntKind.i64.max := by rw [hm]; omega
      simp only [execOp, eqGuard, hx, hy, binOp, Op.stringOp, if_neg hb']
      simp)
theorem ok_eqlB {x y : Operand} {X Y : TypeId} {s t : Bool} {z sz by_} (hT : Ty P X .bool z sz by_) (hx : a.eval x = .bool s) (hy : a.eval y = .bool t) :
    Ok P ⟨d, .binOp .eql X x y Y, T, pos, aft, g⟩ a w (SP.isv (.bool (decide (s = t)))).holds := ok_pure (by
      have : (s == t) = decide (s = t) := by cases s <;> cases t <;> rfl
      simp [execOp, eqGuard, hx, hy, run_eql_bool (w := w) X s t hT.u, this])
theorem ok_neqB {x y : Operand} {X Y : TypeId} {s t : Bool} {z sz by_} (hT : Ty P X .bool z sz by_) (hx : a.eval x = .bool s) (hy : a.eval y = .bool t) :
    Ok P ⟨d, .binOp .neq X x y Y, T, pos, aft, g⟩ a w (SP.isv (.bool (decide (s ≠ t)))).holds := ok_pure (by
      have : (!(s == t)) = decide (s ≠ t) := by cases s <;> cases t <;> rfl
      simp [execOp, eqGuard, hx, hy, run_neq_bool (w := w) X s t hT.u, this])

theorem ok_convI {x : Operand} {X Y : TypeId} {k k' : IntKind} {m : Int} {z sz by_ z' sz' by_'} (h1 : Ty P X (.int k) z sz by_) (h2 : Ty P Y (.int k') z' sz' by_') (hx : a.eval x = .int k m) :
    Ok P ⟨d, .convert X Y x, T, pos, aft, g⟩ a w (SP.isv (.int k' (k'.wrap m))).holds := ok_pure (by simp [execOp, hx, convert, h1.run_u, h2.run_u, Conv.intToInt])

theorem ok_lenS {x : Operand} {X : TypeId} {s : ByteArray} {z sz by_} (hT : Ty P X .string z sz by_) (hx : a.eval x = .string s) :
    Ok P ⟨d, .call ⟨.builtin .len, #[x], #[X]⟩, T, pos, aft, g⟩ a w (SP.isv (.int .i64 s.size)).holds := ok_pure (by simp [execOp, resolve, invoke, builtin, hx, Builtin.len_, hT.run_u, goInt])
theorem ok_lenSl {x : Operand} {X E : TypeId} {p : Option Addr} {n c : Nat} {z sz by_} (hT : Ty P X (.slice E) z sz by_) (hx : a.eval x = .slice p n c) :
    Ok P ⟨d, .call ⟨.builtin .len, #[x], #[X]⟩, T, pos, aft, g⟩ a w (SP.isv (.int .i64 n)).holds := ok_pure (by simp [execOp, resolve, invoke, builtin, hx, Builtin.len_, hT.run_u, goInt])
theorem ok_lenV {x : Operand} {X E : TypeId} {n : Nat} {xs : List Value} {z sz by_} (hT : Ty P X (.slice E) z sz by_) {u : Value} (hu : a.eval x = u) (hx : SlV w n u xs) :
    Ok P ⟨d, .call ⟨.builtin .len, #[x], #[X]⟩, T, pos, aft, g⟩ a w (SP.isv (.int .i64 xs.length)).holds := by
  obtain ⟨p, cap, h1, _⟩ := hx
  exact ok_lenSl hT (hu.trans h1)
theorem ok_min {x y : Operand} {X Y : TypeId} {k : IntKind} {m n : Int} (hx : a.eval x = .int k m) (hy : a.eval y = .int k n) :
    Ok P ⟨d, .call ⟨.builtin .min, #[x, y], #[X, Y]⟩, T, pos, aft, g⟩ a w (SP.isv (.int k (min m n))).holds := ok_pure (by
      have : (if n < m then n else m) = min m n := by rw [Int.min_def]; split <;> split <;> omega
      simp [execOp, resolve, invoke, builtin, hx, hy, Builtin.min_, Builtin.min2, this])


/-! string slices -/
theorem bound_run {v : Int} {y : Nat} {k : IntKind} {code : BoundsCode} {w : World} (h0 : 0 ≤ v) (h1 : v ≤ y) : (Instr.sliceBound (.int k v) y code).run P w = .ok v.toNat w := by
  simp [Instr.sliceBound, asIntOf, h0, h1]
theorem ok_sliceS_h {x h : Operand} {X : TypeId} {s : ByteArray} {n : Int} {k : IntKind} {z sz by_} (hT : Ty P X .string z sz by_) (hx : a.eval x = .string s) (hh : a.eval h = .int k n) (h0 : 0 ≤ n) (h1 : n ≤ s.size) :
    Ok P ⟨d, .slice X x none (some h) none, T, pos, aft, g⟩ a w (SP.isv (.string (s.extract 0 n.toNat))).holds := ok_pure (by
      simp [execOp, Instr.sliceAt, Instr.slice, Instr.sliceBounds, hx, hh, hT.run_u, bound_run h0 h1])
theorem ok_sliceS_l {x l : Operand} {X : TypeId} {s : ByteArray} {m : Int} {k : IntKind} {z sz by_} (hT : Ty P X .string z sz by_) (hx : a.eval x = .string s) (hl : a.eval l = .int k m) (h0 : 0 ≤ m) (h1 : m ≤ s.size) :
    Ok P ⟨d, .slice X x (some l) none none, T, pos, aft, g⟩ a w (SP.isv (.string (s.extract m.toNat s.size))).holds := ok_pure (by
      simp [execOp, Instr.sliceAt, Instr.slice, Instr.sliceBounds, hx, hl, hT.run_u, bound_run h0 h1])
theorem ok_sliceS_lh {x l h : Operand} {X : TypeId} {s : ByteArray} {m n : Int} {k k' : IntKind} {z sz by_} (hT : Ty P X .string z sz by_) (hx : a.eval x = .string s) (hl : a.eval l = .int k' m) (hh : a.eval h = .int k n) (h0 : 0 ≤ m) (h1 : m ≤ n) (h2 : n ≤ s.size) :
    Ok P ⟨d, .slice X x (some l) (some h) none, T, pos, aft, g⟩ a w (SP.isv (.string (s.extract m.toNat n.toNat))).holds := ok_pure (by
      have e : m ≤ (n.toNat : Int) := by omega
      simp [execOp, Instr.sliceAt, Instr.slice, Instr.sliceBounds, hx, hl, hh, hT.run_u, bound_run (show 0 ≤ n by omega) h2, bound_run h0 e])
theorem ok_indexS {x i : Operand} {X : TypeId} {s : ByteArray} {m : Int} {k : IntKind} {z sz by_} (hT : Ty P X .string z sz by_) (hx : a.eval x = .string s) (hi : a.eval i = .int k m) (h0 : 0 ≤ m) (h1 : m.toNat < s.size) :
    Ok P ⟨d, .index X x i, T, pos, aft, g⟩ a w (SP.isv (.int .u8 ((s[m.toNat]'h1).toNat))).holds := ok_pure (by
      simp [execOp, Instr.index, asIntOf, hx, hi, hT.run_u, h0, h1])

/-! variables -/
theorem run_loadCellsFrom {b off : Nat} {cs : Array Value} : ∀ (n i : Nat) (acc : Array Value), i + n = cs.size → acc = cs.extract 0 i → (∀ j, j < cs.size → w.cell? ⟨b, off + j, none⟩ = cs[j]?) →
    (loadCellsFrom ⟨b, off, none⟩ i n acc).run P w = .ok cs w
  | 0, i, acc, hi, hacc, hc => by
      simp only [loadCellsFrom, Sem.run_pure]
      rw [hacc]; congr 1
      have : i = cs.size := by omega
      rw [this, Array.extract_size]
  | n + 1, i, acc, hi, hacc, hc => by
      have hlt : i < cs.size := by omega
      have h1 := hc i hlt
      rw [Array.getElem?_eq_getElem hlt] at h1
      have e : (⟨b, off, none⟩ : Addr).add i = ⟨b, off + i, none⟩ := by
        unfold Addr.add; split
        · rename_i h; subst h; rfl
        · rfl
      simp only [loadCellsFrom, Sem.run_bind, run_load, e, h1, Result.andThen]
      refine run_loadCellsFrom n (i + 1) _ (by omega) ?_ hc
      rw [hacc]
      simp [Array.push_extract_getElem]
theorem run_loadCells {b off : Nat} {cs : Array Value} (hc : ∀ j, j < cs.size → w.cell? ⟨b, off + j, none⟩ = cs[j]?) : (loadCells ⟨b, off, none⟩ cs.size).run P w = .ok cs w :=
  run_loadCellsFrom cs.size 0 #[] (by omega) (by simp) hc

theorem ok_loadCell {x : Operand} {X : TypeId} {dd z sz by_} {p : Addr} {v : Value} (hT : Ty P X dd z sz by_) (hd : isAggD dd = false) (hx : a.eval x = .pointer (some p)) (hc : w.cell? p = some v) :
    Ok P ⟨d, .load X x, T, pos, aft, g⟩ a w (SP.isv v).holds := ok_pure (by
      simp [execOp, Instr.loadAt, Instr.sureAddr, hx, loadVar, hT.run_agg, hd, hc])
theorem ok_loadOwn {x : Operand} {X X' : TypeId} {dd z sz by_} {b off : Nat} {cs : Array Value} {v : Value} (hT : Ty P X dd z sz by_) (hd : isAggD dd = false) (hx : a.eval x = .pointer (some ⟨b, off, none⟩)) (hO : Own w b cs X') (hc : cs[off]? = some v) :
    Ok P ⟨d, .load X x, T, pos, aft, g⟩ a w (SP.isv v).holds := ok_loadCell hT hd hx (by rw [hO.cell, hc])
theorem ok_loadOwnAgg {x : Operand} {X X' : TypeId} {dd z sz by_} {b : Nat} {cs : Array Value} (hT : Ty P X dd z sz by_) (hd : isAggD dd = true) (hx : a.eval x = .pointer (some ⟨b, 0, none⟩)) (hO : Own w b cs X') (hs : cs.size = sz) :
    Ok P ⟨d, .load X x, T, pos, aft, g⟩ a w (SP.isv (.agg cs)).holds     := ok_pure (by
      subst hs
      simp [execOp, Instr.loadAt, Instr.sureAddr, hx, loadVar, hT.run_agg, hd, hT.run_size, run_loadCells (P := P) (w := w) (b := b) (off := 0) (cs := cs) (fun j _ => by rw [hO.cell]; simp)])
theorem ok_loadPt {x : Operand} {X : TypeId} {dd z sz by_} {v : Value} (hT : Ty P X dd z sz by_) (hd : isAggD dd = false) {u : Value} (hu : a.eval x = u) (hx : PtrTo w u v) (hv : v.cells = #[v]) :
    Ok P ⟨d, .load X x, T, pos, aft, g⟩ a w (SP.isv v).holds := by
  obtain ⟨b, off, h1, h2⟩ := hx
  have := h2 0 (by rw [hv]; simp)
  exact ok_loadCell hT hd (hu.trans h1) (by rw [hv] at this; simpa using this)
theorem ok_loadPtAgg {x : Operand} {X : TypeId} {dd z sz by_} {cs : Array Value} (hT : Ty P X dd z sz by_) (hd : isAggD dd = true) {u : Value} (hu : a.eval x = u) (hx : PtrTo w u (.agg cs)) (hs : cs.size = sz) :
    Ok P ⟨d, .load X x, T, pos, aft, g⟩ a w (SP.isv (.agg cs)).holds := by
  subst hs
  obtain ⟨b, off, h1, h2⟩ := hx
  rw [h1] at hu
  exact ok_pure (by simp [execOp, Instr.loadAt, Instr.sureAddr, hu, loadVar, hT.run_agg, hd, hT.run_size, run_loadCells (P := P) (w := w) (b := b) (off := off) (cs := cs) h2])

theorem ok_box {x : Operand} {X : TypeId} {L : Nat} {v : Value} (hL : L ≤ w.heap.size) (hx : a.eval x = v) : Ok P ⟨d, .box X x, T, pos, aft, g⟩ a w (SP.box L v.cells X).holds :=
  ok_run (v := .pointer (some ⟨w.heap.size, 0, none⟩)) (w' := w.alloc (.cells v.cells X)) (by simp [execOp, Instr.box, newVar, newRow, hx]) (Ext.alloc _ _) ⟨_, hL, rfl, Own.new _ _ _⟩
theorem ok_alloc {X : TypeId} {L : Nat} {dd z sz by_} (hL : L ≤ w.heap.size) (hT : Ty P X dd z sz by_) : Ok P ⟨d, .alloc X, T, pos, aft, g⟩ a w (SP.box L z.cells X).holds :=
  ok_run (v := .pointer (some ⟨w.heap.size, 0, none⟩)) (w' := w.alloc (.cells z.cells X)) (by simp [execOp, Instr.alloc, hT.run_zero, newVar, newRow]) (Ext.alloc _ _) ⟨_, hL, rfl, Own.new _ _ _⟩

theorem addr_add (b off n : Nat) : (⟨b, off, none⟩ : Addr).add n = ⟨b, off + n, none⟩ := by
  unfold Addr.add; split
  · rename_i h; subst h; rfl
  · rfl

/-- a field of a struct type -/
structure Fld (P : Program) (X f ft off sz : Nat) : Prop where
  s : P.underlying X = some (.struct (P.fieldsOf X))
  h : (P.fieldsOf X)[f]?.map (fun f => (f.type, f.offset)) = some (ft, off)
  z : (P.info? ft).map (·.size) = some (sz + 1)
theorem Fld.get {X f ft off sz : Nat} (h : Fld P X f ft off sz) : ∃ fd, (P.fieldsOf X)[f]? = some fd ∧ fd.type = ft ∧ fd.offset = off := by
  have := h.h
  cases hf : (P.fieldsOf X)[f]? with
  | none => simp [hf] at this
  | some fd => simp [hf] at this; exact ⟨fd, rfl, this.1, this.2⟩
theorem ok_fieldAddr {x : Operand} {X b o f ft off sz : Nat} (hF : Fld P X f ft off sz) (hx : a.eval x = .pointer (some ⟨b, o, none⟩)) :
    Ok P ⟨d, .fieldAddr X x f, T, pos, aft, g⟩ a w (SP.isv (.pointer (some ⟨b, o + off, none⟩))).holds := ok_pure (by
  obtain ⟨fd, h1, h2, h3⟩ := hF.get
  have hz : ∀ w : World, (sizeOf ft).run P w = .ok (sz + 1) w := by
    intro w
    have := hF.z
    cases hi : P.info? ft with
    | none => simp [hi] at this
    | some i => simp [hi] at this; simp [sizeOf, typeInfo, hi, this]
  have hu : ∀ w : World, (underlying X).run P w = .ok (.struct (P.fieldsOf X)) w := by intro w; simp [underlying, hF.s]
  simp [execOp, Instr.fieldAt, hu, h1, Instr.sureAddr, hx, fieldPlace, h2, hz, h3, addr_add])
theorem ok_fieldAddrPt {x : Operand} {X f ft off sz : Nat} {cs : Array Value} {y : Value} (hF : Fld P X f ft off sz) {u : Value} (hu : a.eval x = u) (hx : PtrTo w u (.agg cs)) (hy : ∀ j, j < y.cells.size → off + j < cs.size ∧ y.cells[j]? = cs[off + j]?) :
    Ok P ⟨d, .fieldAddr X x f, T, pos, aft, g⟩ a w (SP.pt y).holds := by
  obtain ⟨b, o, h1, h2⟩ := hx
  intro K Q hK
  refine ok_fieldAddr hF (hu.trans h1) K Q fun v w' hE hv => hK v w' hE ?_
  refine ⟨b, o + off, hv, fun j hj => ?_⟩
  obtain ⟨h3, h4⟩ := hy j hj
  have h5 := h2 (off + j) h3
  simp only [Value.cells] at h5
  rw [h4, Nat.add_assoc]
  rw [Array.getElem?_eq_getElem h3] at h5 ⊢
  exact hE.cell h5

theorem ok_indexV {x i : Operand} {X e E : TypeId} {xs : List Value} {y : Value} {k : IntKind} {m : Int} {z sz by_ dd z' by_'} (hT : Ty P X (.slice e) z sz by_) (he : Ty P e dd z' E by_') {u : Value} (hu : a.eval x = u) (hx : SlV w E u xs) (hi : a.eval i = .int k m) (h0 : 0 ≤ m) (hy : xs[m.toNat]? = some y) :
    Ok P ⟨d, .indexAddr X x i, T, pos, aft, g⟩ a w (SP.pt y).holds := by
  obtain ⟨p, cap, h1, h2, h3, h4⟩ := hx
  have hlt : m.toNat < xs.length := (List.getElem?_eq_some_iff.1 hy).1
  rcases h4 with h4 | ⟨b, off, hp, hc⟩
  · subst h4; simp at hlt
  subst hp
  have hE := h3 y (List.mem_of_getElem? hy)
  rw [h1] at hu
  refine ok_run (v := .pointer (some ⟨b, off + m.toNat * E, none⟩)) (w' := w) ?_ (Ext.refl w) ⟨b, off + m.toNat * E, rfl, fun j hj => ?_⟩
  · have hlt' : m < (xs.length : Int) := by omega
    simp [execOp, Instr.indexAt, asIntOf, hi, hu, hT.run_u, he.run_size, h0, hlt', addr_add]
  · rw [Nat.add_assoc]; exact hc _ y hy j (by rw [hE] at hj; exact hj)
theorem ok_indexArr {x i : Operand} {X e E n b off : Nat} {k : IntKind} {m : Int} {z sz by_ dd z' by_'} (hT : Ty P X (.array n e) z sz by_) (he : Ty P e dd z' E by_') (hx : a.eval x = .pointer (some ⟨b, off, none⟩)) (hi : a.eval i = .int k m) (h0 : 0 ≤ m) (h1 : m < n) :
    Ok P ⟨d, .indexAddr X x i, T, pos, aft, g⟩ a w (SP.isv (.pointer (some ⟨b, off + m.toNat * E, none⟩))).holds := ok_pure (by
      simp [execOp, Instr.indexAt, asIntOf, hi, Instr.sureAddr, hx, hT.run_u, he.run_size, h0, h1, addr_add])
theorem ok_indexSl {x i : Operand} {X e E n c b off : Nat} {k : IntKind} {m : Int} {z sz by_ dd z' by_'} (hT : Ty P X (.slice e) z sz by_) (he : Ty P e dd z' E by_') (hx : a.eval x = .slice (some ⟨b, off, none⟩) n c) (hi : a.eval i = .int k m) (h0 : 0 ≤ m) (h1 : m < n) :
    Ok P ⟨d, .indexAddr X x i, T, pos, aft, g⟩ a w (SP.isv (.pointer (some ⟨b, off + m.toNat * E, none⟩))).holds := ok_pure (by
      simp [execOp, Instr.indexAt, asIntOf, hi, hx, hT.run_u, he.run_size, h0, h1, addr_add])

/-! slices -/
theorem SlV.slice {E : Nat} {xs : List Value} {u : Value} (h : SlV w E u xs) : ∃ p c, u = .slice p xs.length c ∧ xs.length ≤ c := by
  obtain ⟨p, c, h1, h2, _⟩ := h; exact ⟨p, c, h1, h2⟩
theorem SlV.take {E : Nat} {xs : List Value} {p : Option Addr} {c : Nat} (h : SlV w E (.slice p xs.length c) xs) {n : Nat} (hn : n ≤ xs.length) : SlV w E (.slice p n c) (xs.take n) := by
  obtain ⟨p', c', h1, h2, h3, h4⟩ := h
  cases h1
  refine ⟨p, c, by simp [hn], by simp; omega, fun x hx => h3 x (List.mem_of_mem_take hx), ?_⟩
  rcases h4 with h4 | ⟨b, off, hp, hc⟩
  · exact .inl (by simp [h4])
  · refine .inr ⟨b, off, hp, fun i x hx j hj => hc i x ?_ j hj⟩
    rw [List.getElem?_take] at hx
    split at hx
    · exact hx
    · cases hx
theorem SlV.drop {E : Nat} {xs : List Value} {p : Option Addr} {c : Nat} (h : SlV w E (.slice p xs.length c) xs) {m : Nat} (hm : m ≤ xs.length) :
    SlV w E (.slice (if c = m then p else p.map (·.add (m * E))) (xs.length - m) (c - m)) (xs.drop m) := by
  obtain ⟨p', c', h1, h2, h3, h4⟩ := h
  cases h1
  refine ⟨_, _, by rw [List.length_drop], by simp; omega, fun x hx => h3 x (List.mem_of_mem_drop hx), ?_⟩
  rcases h4 with h4 | ⟨b, off, hp, hc⟩
  · exact .inl (by simp [h4])
  · by_cases he : c = m
    · exact .inl (by rw [List.drop_eq_nil_of_le]; omega)
    · refine .inr ⟨b, off + m * E, by simp [he, hp, addr_add], fun i x hx j hj => ?_⟩
      have := hc (m + i) x (by simpa using hx) j hj
      rw [← this]; congr 2
      rw [Nat.add_mul]; omega
theorem ok_sliceV_h {x h : Operand} {X e E : TypeId} {xs : List Value} {n : Int} {k : IntKind} {z sz by_ dd z' by_'} (hT : Ty P X (.slice e) z sz by_) (he : Ty P e dd z' E by_') {u : Value} (hxu : a.eval x = u) (hx : SlV w E u xs) (hh : a.eval h = .int k n) (h0 : 0 ≤ n) (h1 : n ≤ xs.length) :
    Ok P ⟨d, .slice X x none (some h) none, T, pos, aft, g⟩ a w (SP.sl E (xs.take n.toNat)).holds := by
  obtain ⟨p, c, hu, hc⟩ := hx.slice
  rw [hu] at hx hxu
  clear hu
  have hu := hxu
  refine ok_run (v := .slice p n.toNat c) (w' := w) ?_ (Ext.refl w) (hx.take (by omega))
  have h1' : n ≤ (c : Int) := by omega
  simp [execOp, Instr.sliceAt, Instr.slice, Instr.sliceBounds, hu, hh, hT.run_u, he.run_size, bound_run h0 h1']
  intro _
  cases p <;> simp [Addr.add]
theorem ok_sliceV_l {x l : Operand} {X e E : TypeId} {xs : List Value} {m : Int} {k : IntKind} {z sz by_ dd z' by_'} (hT : Ty P X (.slice e) z sz by_) (he : Ty P e dd z' E by_') {u : Value} (hxu : a.eval x = u) (hx : SlV w E u xs) (hl : a.eval l = .int k m) (h0 : 0 ≤ m) (h1 : m ≤ xs.length) :
    Ok P ⟨d, .slice X x (some l) none none, T, pos, aft, g⟩ a w (SP.sl E (xs.drop m.toNat)).holds := by
  obtain ⟨p, c, hu, hc⟩ := hx.slice
  rw [hu] at hx hxu
  clear hu
  have hu := hxu
  refine ok_run (v := _) (w' := w) ?_ (Ext.refl w) (hx.drop (m := m.toNat) (by omega))
  simp [execOp, Instr.sliceAt, Instr.slice, Instr.sliceBounds, hu, hl, hT.run_u, he.run_size, bound_run h0 h1]

end ops
end Go.Eng
