/- Lifting: regions that draw their order and write on the way. No statement of the program stands here. -/
import Derived.Test.YtbkmnghnjajdmaaLig
set_option linter.unusedVariables false
set_option linter.unusedSimpArgs false
namespace Go.Lift
open Go Go.RowKit Go.Eng
variable {α β γ δ ε : Type}
/-- what was there below block B, but for the blocks of T, is as it was -/
structure ET (T : Nat → Prop) (B : Nat) (w w' : World) : Prop where
  os : w'.os = w.os
  tape : w'.tape = w.tape
  output : w'.output = w.output
  size : w.heap.size ≤ w'.heap.size
  block : ∀ b, b < w.heap.size → b < B → ¬ T b → w'.heap[b]? = w.heap[b]?
theorem ET.refl (T : Nat → Prop) (B : Nat) (w : World) : ET T B w w := ⟨rfl, rfl, rfl, Nat.le_refl _, fun _ _ _ _ => rfl⟩
theorem ET.trans {T : Nat → Prop} {B : Nat} {a b c : World} (h : ET T B a b) (k : ET T B b c) : ET T B a c :=
  ⟨k.os.trans h.os, k.tape.trans h.tape, k.output.trans h.output, Nat.le_trans h.size k.size, fun x hx hB hT => (k.block x (Nat.lt_of_lt_of_le hx h.size) hB hT).trans (h.block x hx hB hT)⟩
theorem ET.drawn (T : Nat → Prop) (B : Nat) (w : World) : ET T B w { w with drawn := w.drawn + 1 } := ⟨rfl, rfl, rfl, Nat.le_refl _, fun _ _ _ _ => rfl⟩
theorem ET.of {T : Nat → Prop} {B : Nat} {w w' : World} (h : Ext w w') : ET T B w w' := ⟨h.os, h.tape, h.output, h.size, fun b hb _ _ => h.block b hb⟩
/-- the tags as they are below block B; all beyond is somebody's -/
def cap (O : Tags) (B : Nat) : Tags := fun b => if b < B then O b else 1
theorem keep_cap {O : Tags} {w : World} : Keep 0 O w (cap O w.heap.size) w := ⟨Nat.le_refl _, fun b hb ho => ⟨by unfold cap; rw [if_pos hb]; exact ho, rfl⟩⟩
theorem GR.cap (r : GR α) {O : Tags} {w : World} {v : Value} {x : α} (h : r.v O w v x) : r.v (Go.Lift.cap O w.heap.size) w v x := r.v_mono h keep_cap
theorem cap_zero {O : Tags} {B b : Nat} (h : cap O B b = 0) : b < B ∧ O b = 0 := by
  unfold cap at h; split at h
  · exact ⟨‹_›, h⟩
  · cases h
theorem ET.keep {O : Tags} {T : Nat → Prop} {B : Nat} {w w' : World} (h : ET T B w w') (h0 : ∀ b, T b → O b ≠ 0) : Keep 0 (cap O B) w (cap O B) w' :=
  ⟨h.size, fun b hb ho => ⟨ho, by obtain ⟨h1, h2⟩ := cap_zero ho; exact h.block b hb h1 (fun e => h0 b e h2)⟩⟩
/-- from the caps back -/
theorem keep_uncap {O : Tags} {B : Nat} {w : World} : Keep 0 (cap O B) w O w := ⟨Nat.le_refl _, fun b _ ho => ⟨(cap_zero ho).2, rfl⟩⟩
theorem ET.keepO {O : Tags} {T : Nat → Prop} {w w' : World} {k : Nat} (h : ET T w.heap.size w w') (h0 : ∀ b, T b → O b ≠ k) : Keep k O w O w' :=
  ⟨h.size, fun b hb ho => ⟨ho, h.block b hb hb (fun e => h0 b e ho)⟩⟩
theorem stE_vl {O : Tags} {T : Nat → Prop} {B : Nat} (h0 : ∀ b, T b → O b ≠ 0) (r : GR α) (x : α) : StE (ET T B) (SP.vl r (cap O B) x) := fun w w' v hE h => r.v_mono h (hE.keep h0)
/-- a pointer to x, where nothing turns -/
def PtrZ (r : GR α) (O : Tags) (w : World) (p : Value) (x : α) : Prop := ∃ b off v, p = .pointer (some ⟨b, off, none⟩) ∧ O b = 0 ∧ r.v O w v x ∧ ∀ j, j < v.cells.size → w.cell? ⟨b, off + j, none⟩ = v.cells[j]?
theorem PtrZ.keep {r : GR α} {O O' : Tags} {w w' : World} {p : Value} {x : α} (h : PtrZ r O w p x) (hk : Keep 0 O w O' w') (hs : 0 < r.sz) (hr : r.fits) : PtrZ r O' w' p x := by
  obtain ⟨b, off, v, h1, h2, h3, h4⟩ := h
  have hsz := r.cells_size hr h3
  have hb : b < w.heap.size := by
    have := h4 0 (by omega)
    rw [Array.getElem?_eq_getElem (by omega)] at this
    unfold World.cell? at this
    cases hh : w.heap[b]? with
    | none => simp [hh] at this
    | some o => exact (Array.getElem?_eq_some_iff.1 hh).1
  refine ⟨b, off, v, h1, (hk.2 b hb h2).1, r.v_mono h3 hk, fun j hj => ?_⟩
  have := h4 j hj
  rw [Array.getElem?_eq_getElem hj] at this ⊢
  exact cell_keep hk h2 this
abbrev SP.ptrz (r : GR α) (O : Tags) (x : α) (hs : 0 < r.sz) (hr : r.fits) : SP := .pr (fun w p => PtrZ r O w p x) (fun _ _ _ hE h => h.keep (Keep.ext hE) hs hr)
theorem PtrZ.ptr {r : GR α} {O : Tags} {w : World} {p : Value} {x : α} (h : PtrZ r O w p x) : (SP.ptr r O x).holds w p := by
  obtain ⟨b, off, v, h1, h2, h3, h4⟩ := h
  exact ⟨v, ⟨b, off, h1, h4⟩, h3⟩
theorem stE_ptrz {O : Tags} {T : Nat → Prop} {B : Nat} (h0 : ∀ b, T b → O b ≠ 0) (r : GR α) (x : α) (hs : 0 < r.sz) (hr : r.fits) : StE (ET T B) (SP.ptrz r (cap O B) x hs hr) := fun w w' v hE h => h.keep (hE.keep h0) hs hr
theorem addS_ne {S : Nat → Bool} {i j : Nat} (h : Nat.beq j i = false) : addS S i j = S j := by simp [addS, h]
theorem addS_self (S : Nat → Bool) (i : Nat) : addS S i i = true := by simp [addS]

/-! ### a variable of the call's own, while stores into it are under way -/
def setIf (b : Bool) (off : Nat) (v : Value) (cs : Array Value) : Array Value := bif b then cs.setIfInBounds off v else cs
def applyS (S : Nat → Bool) : List (Nat × Nat × Value) → Array Value → Array Value
  | [], cs => cs
  | (i, off, v) :: l, cs => applyS S l (setIf (S i) off v cs)
theorem applyS_congr {S S' : Nat → Bool} : ∀ {l : List (Nat × Nat × Value)} {cs : Array Value}, (∀ p ∈ l, S p.1 = S' p.1) → applyS S l cs = applyS S' l cs
  | [], _, _ => rfl
  | (i, off, v) :: l, cs, h => by
      simp only [applyS]
      have h1 : S i = S' i := h (i, off, v) (by simp)
      rw [h1]
      exact applyS_congr fun p hp => h p (by simp [hp])
theorem applyS_none {S : Nat → Bool} : ∀ {l : List (Nat × Nat × Value)} {cs : Array Value}, (∀ p ∈ l, S p.1 = false) → applyS S l cs = cs
  | [], _, _ => rfl
  | (i, off, v) :: l, cs, h => by
      simp only [applyS]
      rw [h (i, off, v) (by simp)]
      exact applyS_none fun p hp => h p (by simp [hp])
theorem applyS_size {S : Nat → Bool} : ∀ {l : List (Nat × Nat × Value)} {cs : Array Value}, (applyS S l cs).size = cs.size
  | [], _ => rfl
  | (i, off, v) :: l, cs => by
      simp only [applyS]
      rw [applyS_size]; unfold setIf; cases S i <;> simp
/-- the cell at j, if no store to it was carried out -/
theorem applyS_get {S : Nat → Bool} {j : Nat} : ∀ {l : List (Nat × Nat × Value)} {cs : Array Value}, (∀ p ∈ l, p.2.1 = j → S p.1 = false) → (applyS S l cs)[j]? = cs[j]?
  | [], _, _ => rfl
  | (i, off, v) :: l, cs, h => by
      simp only [applyS]
      rw [applyS_get fun p hp => h p (by simp [hp])]
      unfold setIf
      cases hS : S i with
      | false => rfl
      | true =>
        have : off ≠ j := fun e => by have := h (i, off, v) (by simp) e; rw [hS] at this; cases this
        simp [Array.getElem?_setIfInBounds_ne this]
/-- the next store -/
theorem applyS_step {S : Nat → Bool} {i off : Nat} {v : Value} {l1 l2 : List (Nat × Nat × Value)} : ∀ {cs : Array Value}, S i = false → (∀ p ∈ l1, p.1 ≠ i) → (∀ p ∈ l2, S p.1 = false) → (∀ p ∈ l2, p.1 ≠ i) →
    applyS (addS S i) (l1 ++ (i, off, v) :: l2) cs = (applyS S (l1 ++ (i, off, v) :: l2) cs).setIfInBounds off v := by
  induction l1 with
  | nil =>
    intro cs hi _ h2 h3
    simp only [List.nil_append, applyS, addS_self, hi]
    rw [applyS_none (S := S) h2, applyS_none (S := addS S i) fun p hp => by rw [addS_ne (by simpa [beq_dec] using h3 p hp)]; exact h2 p hp]
    rfl
  | cons p l1 ih =>
    intro cs hi h1 h2 h3
    obtain ⟨i', off', v'⟩ := p
    simp only [List.cons_append, applyS]
    have : i' ≠ i := h1 (i', off', v') (by simp)
    rw [addS_ne (by simpa [beq_dec] using this)]
    exact ih hi (fun p hp => h1 p (by simp [hp])) h2 h3
def JBox (k : Nat) (B : Nat → Prop) (O : Tags) (b : Nat) (T : TypeId) (cs : Array Value) (l : List (Nat × Nat × Value)) (S : Nat → Bool) (w : World) : Prop := OwnB k B O w b (applyS S l cs) T
theorem JBox.pure {k : Nat} {B : Nat → Prop} {O : Tags} {b : Nat} {T : TypeId} {cs : Array Value} {l : List (Nat × Nat × Value)} {S : Nat → Bool} {w w' : World} (h : JBox k B O b T cs l S w) (hE : Ext w w') {i : Nat} (hi : (l.all fun p => !Nat.beq p.1 i) = true) : JBox k B O b T cs l (addS S i) w' := by
  unfold JBox at *
  rw [applyS_congr (S := addS S i) (S' := S) fun p hp => addS_ne (by have := List.all_eq_true.1 hi p hp; simpa using this)]
  exact h.ext hE
theorem JBox.other {k k' : Nat} {B : Nat → Prop} {O : Tags} {b : Nat} {T : TypeId} {cs : Array Value} {l : List (Nat × Nat × Value)} {S : Nat → Bool} {w w' : World} (h : JBox k B O b T cs l S w) (hE : KX (some k') O w O w') (hk : k ≠ k') {i : Nat} (hi : (l.all fun p => !Nat.beq p.1 i) = true) : JBox k B O b T cs l (addS S i) w' := by
  unfold JBox at *
  rw [applyS_congr (S := addS S i) (S' := S) fun p hp => addS_ne (by have := List.all_eq_true.1 hi p hp; simpa using this)]
  exact h.kx hE (by simpa using hk)
/-- the cell at j before any store to it -/
theorem JBox.own {k : Nat} {B : Nat → Prop} {O : Tags} {b : Nat} {T : TypeId} {cs : Array Value} {l : List (Nat × Nat × Value)} {S : Nat → Bool} {w : World} (h : JBox k B O b T cs l S w) {j : Nat} {v : Value} (hj : ∀ p ∈ l, p.2.1 = j → S p.1 = false) (hc : cs[j]? = some v) : w.cell? ⟨b, j, none⟩ = some v := by
  rw [OwnB.own h |>.cell, applyS_get hj]; exact hc
section ops
variable {P : Program} {a : Act} {w : World} {d : Option Tmp} {T : TypeId} {pos : String} {aft : Array Edge} {g : Option (Nat × Bool)}
/-- an operation that grows memory at most, within such a region -/
theorem okJ {o : Oper} {φ : SP} {T : Nat → Prop} {B : Nat} {JX : Value → World → Prop} (h : Ok P o a w φ.holds) (hst : ∀ v w'', Ext w w'' → JX v w'')
    {K : Act → World → Prop} {Q : Exit → Act → World → Prop} (hK : ∀ v w'', ET T B w w'' → JX v w'' → φ.holds w'' v → K (a.put o.dst v) w'') : o.wp P a w K Q :=
  h K Q fun v w'' hE hv => hK v w'' (ET.of hE) (hst v w'' hE) hv
theorem okl_loadJ {x : Operand} {X : TypeId} {dd z sz by_} {b off : Nat} {v : Value} (hT : Ty P X dd z sz by_) (hd : isAggD dd = false) (hx : a.eval x = .pointer (some ⟨b, off, none⟩)) (hc : w.cell? ⟨b, off, none⟩ = some v) :
    Ok P ⟨d, .load X x, T, pos, aft, g⟩ a w (SP.isv v).holds := ok_loadCell hT hd hx hc
/-- a store, within such a region -/
theorem storeJ {x y : Operand} {X T' b off k : Nat} {O : Tags} {TT : Nat → Prop} {B : Nat → Prop} {B' : Nat} {cs : Array Value} {l1 l2 : List (Nat × Nat × Value)} {S : Nat → Bool} {i : Nat} {v : Value} {dd z by_} (hT : Ty P X dd z 1 by_) (hx : a.eval x = .pointer (some ⟨b, off, none⟩)) (hy : a.eval y = v) (hv : v.cells = #[v]) (h1 : v.oneCell' = true)
    (hO : JBox k B O b T' cs (l1 ++ (i, off, v) :: l2) S w) (ho : off < cs.size) (hS : S i = false) (hl1 : (l1.all fun p => !Nat.beq p.1 i) = true) (hl2 : ∀ p ∈ l2, S p.1 = false) (hl2' : (l2.all fun p => !Nat.beq p.1 i) = true) (hk : TT b)
    {K : Act → World → Prop} {Q : Exit → Act → World → Prop} (hK : ∀ w'', ET TT B' w w'' → KX (some k) O w O w'' → JBox k B O b T' cs (l1 ++ (i, off, v) :: l2) (addS S i) w'' → K a w'') : (Oper.mk none (.store X x y) T pos aft none).wp P a w K Q := by
  have hJ := hO
  unfold JBox at hO
  have hsz : off < (applyS S (l1 ++ (i, off, v) :: l2) cs).size := by rw [applyS_size]; exact ho
  have hc : w.cell? ⟨b, off, none⟩ = some (applyS S (l1 ++ (i, off, v) :: l2) cs)[off] := by rw [hO.own.cell, Array.getElem?_eq_getElem hsz]
  have hrun : (execOp a.eval ⟨none, .store X x y, T, pos, aft, none⟩).run P w = .ok .skip (w.setCell ⟨b, off, none⟩ v) := by
    simp [execOp, Instr.storeAt, Instr.sureAddr, hx, hy, storeVar, hv, hT.run_size, storeCells, run_store _ _ _ _ _ h1, Addr.add, hc, hO.own.frozen off hsz]
  unfold Oper.wp
  rw [hrun]
  have hb := But.setCell w b off v
  refine hK _ ⟨hb.os, hb.tape, hb.output, hb.size, fun c hc _ hcT => hb.block c hc (fun e => by subst e; exact hcT hk)⟩ (KX.but hb hO.tag) ?_
  unfold JBox
  rw [applyS_step hS (fun p hp => by have := List.all_eq_true.1 hl1 p hp; simpa [beq_dec] using this) hl2 (fun p hp => by have := List.all_eq_true.1 hl2' p hp; simpa [beq_dec] using this)]
  exact ⟨hO.own.set off v, hO.ge, hO.tag⟩
end ops
theorem JBox.skip {k : Nat} {B : Nat → Prop} {O : Tags} {b : Nat} {T : TypeId} {cs : Array Value} {l : List (Nat × Nat × Value)} {S : Nat → Bool} {w : World} {os : List Oper} (hl : (l.all fun p => ((os[p.1]?).map (fun o => o.guard.isNone)).getD true) = true) {i : Nat} {o : Oper} (ho : os[i]? = some o) (hg : o.guard ≠ none) (h : JBox k B O b T cs l S w) : JBox k B O b T cs l (addS S i) w :=
  h.pure (Ext.refl _) (by
    rw [List.all_eq_true]
    intro p hp
    rw [beq_dec]
    by_cases e : p.1 = i
    · have := List.all_eq_true.1 hl p hp
      rw [e, ho] at this
      simp only [Option.map_some, Option.getD_some] at this
      cases hgo : o.guard with
      | none => exact absurd hgo hg
      | some _ => rw [hgo] at this; cases this
    · simp [e])
theorem all_nil {p : β → Prop} : ∀ x ∈ ([] : List β), p x := by simp
theorem all_cons {p : β → Prop} {y : β} {l : List β} (h : p y) (hs : ∀ x ∈ l, p x) : ∀ x ∈ y :: l, p x := by
  intro x hx; rcases List.mem_cons.1 hx with rfl | hx
  · exact h
  · exact hs x hx
section ops
variable {P : Program} {a : Act} {w : World} {d : Option Tmp} {T : TypeId} {pos : String} {aft : Array Edge} {g : Option (Nat × Bool)}
theorem ptrz_of_box {r : GR α} (hr : r.fits) {O w u x} (h : (rBox r).v O w u x) : PtrZ r O w u x := by
  obtain ⟨cs, ⟨b, cs', T, h1, h2, h3, h4⟩, hu⟩ := h
  rw [h1] at hu
  simp [rBox, packV] at hu
  have hv : r.v O w (packV r.agg cs') x := ⟨cs', h4, rfl⟩
  have hc : (packV r.agg cs').cells = cs'.toArray := cells_pack (fun ha => by rw [r.len h4, hr ha]) (r.one h4)
  exact ⟨b, 0, _, hu, h3, hv, fun j hj => by rw [hc] at hj ⊢; rw [h2.cell]; simp⟩
theorem okl_idxZ {x i : Operand} {X e : TypeId} {r : GR α} (hs : 0 < r.sz) (hr : r.fits) {O : Tags} {xs : List α} {y : α} {k : IntKind} {m : Int} {n : Nat} {z sz by_ dd z' E by_'} (hT : Ty P X (.slice e) z sz by_) (he : Ty P e dd z' E by_') (hE : r.sz = E) {u : Value} (hu : a.eval x = u) (hx : (rSl r).v O w u xs) (hi : a.eval i = .int k m) (h : (idx xs m).run n = some y) :
    Ok P ⟨d, .indexAddr X x i, T, pos, aft, g⟩ a w (SP.ptrz r O y hs hr).holds := by
  obtain ⟨h0, h1⟩ := run_idx h
  obtain ⟨vs, h2, h3, h4⟩ := rSl_v.1 hx
  obtain ⟨v, h5, h6⟩ := h3.get _ _ h1
  have hlt : m.toNat < vs.length := (List.getElem?_eq_some_iff.1 h5).1
  have hne : vs ≠ [] := fun e => by rw [e] at hlt; simp at hlt
  subst hE
  obtain ⟨p, cap, e1, e2, e3, e4⟩ := h2
  rcases e4 with e4 | ⟨b, off, hp, hc⟩
  · exact absurd e4 hne
  have hEs := e3 v (List.mem_of_getElem? h5)
  have hb := h4 hne b (by rw [e1, hp]; rfl)
  refine ok_run (v := .pointer (some ⟨b, off + m.toNat * r.sz, none⟩)) (w' := w) ?_ (Ext.refl w) ⟨b, off + m.toNat * r.sz, v, rfl, hb.2, h6, fun j hj => ?_⟩
  · have hlt' : m < (vs.length : Int) := by omega
    rw [e1, hp] at hu
    simp [execOp, Instr.indexAt, asIntOf, hi, hu, hT.run_u, he.run_size, h0, hlt', addr_add]
  · rw [Nat.add_assoc]; exact hc _ v h5 j (by rw [hEs] at hj; exact hj)
theorem okl_fldZ {x : Operand} {X f ft off sz : Nat} {S : GR γ} (hS : S.agg = true) {r : GR α} (hs : 0 < r.sz) (hr : r.fits) {p : γ → α} {O : Tags} {y : γ} (hsub : SubR S off r p) (hF : Fld P X f ft off sz) {u : Value} (hu : a.eval x = u) (hx : PtrZ S O w u y) :
    Ok P ⟨d, .fieldAddr X x f, T, pos, aft, g⟩ a w (SP.ptrz r O (p y) hs hr).holds := by
  obtain ⟨b, o, v, h1, hb, ⟨cs, h2, h3⟩, h4⟩ := hx
  obtain ⟨c1, c2, c3, e4, e5, e6⟩ := hsub h2
  rw [hS] at h3
  simp only [packV] at h3
  subst h3
  have hc2 : (packV r.agg c2).cells = c2.toArray := cells_pack (fun ha => by rw [r.len e6, hr ha]) (r.one e6)
  intro K Q hK
  refine ok_fieldAddr hF (hu.trans h1) K Q fun v' w' hE hv => hK v' w' hE ⟨b, o + off, packV r.agg c2, hv, hb, r.v_ext ⟨c2, e6, rfl⟩ hE, fun j hj => ?_⟩
  rw [hc2] at hj ⊢
  simp only [List.size_toArray] at hj
  have h5 := h4 (off + j) (by subst e4; simp only [Value.cells, List.size_toArray, List.length_append]; omega)
  subst e4
  simp only [Value.cells, List.getElem?_toArray] at h5 ⊢
  rw [List.getElem?_append_right (by omega), List.getElem?_append_left (by omega), show off + j - c1.length = j by omega] at h5
  rw [List.getElem?_eq_getElem hj] at h5 ⊢
  rw [Nat.add_assoc]
  exact hE.cell h5
end ops
theorem jstart {k : Nat} {B : Nat → Prop} {O : Tags} {w : World} {b : Nat} {cs : Array Value} {T : TypeId} {l : List (Nat × Nat × Value)} (h : OwnB k B O w b cs T) : JBox k B O b T cs l (fun _ => false) { w with drawn := w.drawn + 1 } := by
  unfold JBox
  rw [applyS_none (fun _ _ => rfl)]
  exact h.ext (Ext.drawn w)
/-! ### the end of such a region -/
theorem Base.et {A : Nat → Prop} {O Oc : Tags} {w0 w w' : World} {T : Nat → Prop} (h : Base A O w0 Oc w) (hO : OkO O w0) (hE : ET T w.heap.size w w') (hT : ∀ b, T b → A b) : Base A O w0 Oc w' :=
  ⟨hE.os.trans h.os, hE.tape.trans h.tape, hE.output.trans h.output, Nat.le_trans h.size hE.size, fun b hb hA => by
    have hb' : b < w.heap.size := Nat.lt_of_lt_of_le hb h.size
    rw [hE.block b hb' hb' (fun e => hA (hT b e))]; exact h.block b hb hA, fun b hb => h.ok b (Nat.le_trans hE.size hb), h.old, fun b _ ho => by
      by_cases hlt : b < w.heap.size
      · exact h.zero b hlt ho
      · exact hO b (by have := h.size; omega), h.new⟩
end Go.Lift
