/- The engine, sixth part: regions with a store among operations that do not mind it; appends; results in memory. No statement of the program stands here. -/
import Derived.Test.YtbkmnghnjajdmaaCtl
namespace Go.Eng
open Go Go.RowKit

/-! ### the region rule over another relation of worlds -/
def StE (E : World → World → Prop) (φ : SP) : Prop := ∀ w w' v, E w w' → φ.holds w v → φ.holds w' v
theorem stE_isv {E : World → World → Prop} (v : Value) : StE E (.isv v) := fun _ _ _ _ h => h
inductive AllSt (E : World → World → Prop) : List SP → Prop
  | nil : AllSt E []
  | cons {φ φs} (h : StE E φ) (hs : AllSt E φs) : AllSt E (φ :: φs)
theorem AllSt.at {E : World → World → Prop} : ∀ {Φ : List SP}, AllSt E Φ → ∀ i, StE E (Φ.getD i (.isv undef))
  | _, .nil, i => by simpa using stE_isv undef
  | _, .cons h _, 0 => by simpa using h
  | _, .cons _ hs, i + 1 => by simpa using AllSt.at hs i

def OblE (E : World → World → Prop) (P : Program) (os : List Oper) (Φ : List SP) (a : Act) (w : World) (i : Nat) (o : Oper) (φ : SP) : Prop :=
  ∀ a' w', E w w' → (∀ t, readsT o t = true → KnowS os Φ a i t w' (a'.get t)) → act os (Φ.map SP.boolOf) i = true → OkE E P o a' w' φ.holds
inductive OblsE (E : World → World → Prop) (P : Program) (all : List Oper) (Φ : List SP) (a : Act) (w : World) : Nat → List Oper → List SP → List Oper → Prop
  | nil {i os} : OblsE E P all Φ a w i os [] os
  | cons {i o os φ φs tl} (h : OblE E P all Φ a w i o φ) (hs : OblsE E P all Φ a w (i + 1) os φs tl) : OblsE E P all Φ a w i (o :: os) (φ :: φs) tl
theorem OblsE.drop {E P all Φ a w i os φs tl} (h : OblsE E P all Φ a w i os φs tl) : φs.length ≤ os.length ∧ os.drop φs.length = tl := by
  induction h with
  | nil => simp
  | cons _ _ ih => simp [ih]
theorem oblsE_obls {E P all a w} {Φ : List SP} : ∀ {i os φs tl}, OblsE E P all Φ a w i os φs tl → (∀ j, φs[j]? = Φ[i + j]?) → (∀ j, os[j]? = all[i + j]?) →
    ∀ j o, j < φs.length → all[i + j]? = some o → Obl E P all (Φ.map SP.holds) (Φ.map SP.boolOf) a w (i + j) o
  | _, _, _, _, .nil, _, _ => by intro j o h; simp at h
  | i, _, _, _, .cons (φ := φ) h hs, hφ, hos => by
      intro j o hj ho
      cases j with
      | zero =>
        have h1 := hos 0
        simp only [List.getElem?_cons_zero, Nat.add_zero] at h1 ho
        rw [ho] at h1; cases h1
        have h0 := hφ 0
        simp only [List.getElem?_cons_zero, Nat.add_zero] at h0
        have hi : i < Φ.length := (List.getElem?_eq_some_iff.1 h0.symm).1
        have hp : pred (Φ.map SP.holds) i = φ.holds := by
          rw [pred_map Φ i hi]; simp [← h0]
        intro a' w' hE hK hact
        show OkE E P _ a' w' (pred (Φ.map SP.holds) i)
        rw [hp]
        exact h a' w' hE (fun t ht => (know_iff (by omega)).1 (hK t ht)) hact
      | succ j =>
        have e : i + (j + 1) = i + 1 + j := by omega
        rw [e] at ho ⊢
        refine oblsE_obls hs (fun j => ?_) (fun j => ?_) j o (by simpa using hj) ho
        · have := hφ (j + 1)
          simp only [List.getElem?_cons_succ] at this
          rw [this]; congr 1; omega
        · have := hos (j + 1)
          simp only [List.getElem?_cons_succ] at this
          rw [this]; congr 1; omega
theorem regionE {D : List Deferred} {E : World → World → Prop} (hr : ∀ w, E w w) (ht : ∀ a b c, E a b → E b c → E a c) (hdr : ∀ w, E w { w with drawn := w.drawn + 1 }) {P : Program} {Q : Exit → Act → World → Prop} {N id : Nat} {os tail : List Oper} {draw : Bool} {a : Act} {w : World} (Φ : List SP) (hm : P.follows .mixedOrders = true)
    (hA : a.fitD N D) (hobl : OblsE E P os Φ a w 0 os Φ tail) (hst : AllSt E Φ) (hok : (okRegion N os && tailOk os Φ.length) = true) (hg : guardsOk os Φ = true)
    (hQ : ∀ a' w', a'.fitD N D → E w w' → (∀ t, KnowS os Φ a Φ.length t w' (a'.get t)) → (∀ (i : Nat) (o : Oper), os[i]? = some o → o.dst = none → i < Φ.length → act os (Φ.map SP.boolOf) i = true → ∃ v, (Φ.getD i (.isv undef)).holds w' v) → wpList P os.toArray Q tail a' w') : (Code.region id os.toArray draw).wp P Q a w := by
  obtain ⟨hl, hdrop⟩ := hobl.drop
  rw [Bool.and_eq_true] at hok
  refine region_E (E := E) (m := Φ.length) hr ht hdr (Φ := Φ.map SP.holds) (cs := Φ.map SP.boolOf) hm hA hok.1 hok.2 hl hdrop ⟨?_, ?_⟩ (fun i o hi ho => by simpa using oblsE_obls hobl (by simp) (by simp) i o hi (by simpa using ho)) (fun a' w' h1 h2 h3 h4 => hQ a' w' h1 h2 (fun t => (know_iff (Nat.le_refl _)).1 (h3 t)) (fun i o ho hd hi hact => by
    obtain ⟨v, hv⟩ := h4 i o ho hd hi hact
    exact ⟨v, by rwa [pred_map Φ i hi] at hv⟩))
  · intro i w w' v hE hp
    by_cases hi : i < Φ.length
    · rw [pred_map Φ i hi] at hp ⊢; exact hst.at i _ _ _ hE hp
    · simp [pred, hi]
  · intro i o g want ho hgd w v hp
    unfold guardsOk at hg
    rw [List.all_eq_true] at hg
    have := hg o (List.mem_of_getElem? ho)
    rw [hgd] at this
    by_cases hi : g < Φ.length
    · rw [pred_map Φ g hi] at hp
      have := SP.bool_of this w v hp
      rw [this]; simp [hi]
    · simp [hi, SP.isBool, undef] at this

/-! ### one store among operations that do not mind it -/
/-- All is as it was but block b, which is as it was or holds X; there may be more. -/
structure ButOr (b : Nat) (X : Obj) (w w' : World) : Prop where
  os : w'.os = w.os
  tape : w'.tape = w.tape
  output : w'.output = w.output
  size : w.heap.size ≤ w'.heap.size
  block : ∀ k, k < w.heap.size → k ≠ b → w'.heap[k]? = w.heap[k]?
  it : w'.heap[b]? = w.heap[b]? ∨ w'.heap[b]? = some X
theorem ButOr.refl (b : Nat) (X : Obj) (w : World) : ButOr b X w w := ⟨rfl, rfl, rfl, Nat.le_refl _, fun _ _ _ => rfl, .inl rfl⟩
theorem ButOr.trans {b : Nat} {X : Obj} {w1 w2 w3 : World} (h : ButOr b X w1 w2) (k : ButOr b X w2 w3) : ButOr b X w1 w3 := by
  refine ⟨k.os.trans h.os, k.tape.trans h.tape, k.output.trans h.output, Nat.le_trans h.size k.size, fun j hj hb => ?_, ?_⟩
  · rw [k.block j (Nat.lt_of_lt_of_le hj h.size) hb, h.block j hj hb]
  · rcases k.it with k | k
    · rcases h.it with h | h
      · exact .inl (k.trans h)
      · exact .inr (k.trans h)
    · exact .inr k
theorem ButOr.drawn (b : Nat) (X : Obj) (w : World) : ButOr b X w { w with drawn := w.drawn + 1 } := ⟨rfl, rfl, rfl, Nat.le_refl _, fun _ _ _ => rfl, .inl rfl⟩
abbrev SP.mark (b : Nat) (cs : Array Value) (T : TypeId) (fr : Nat × Nat) : SP := .pr (fun w _ => w.heap[b]? = some (.cells cs T fr)) (fun _ _ _ hE h => hE.heap h)
theorem stE_mark {b : Nat} {cs : Array Value} {T : TypeId} {fr : Nat × Nat} : StE (ButOr b (.cells cs T fr)) (.mark b cs T fr) := by
  intro w w' v hE h
  rcases hE.it with h' | h'
  · exact h'.trans h
  · exact h'
section
variable {P : Program} {a : Act} {w : World} {d : Option Tmp} {T : TypeId} {pos : String} {aft : Array Edge} {g : Option (Nat × Bool)}
/-- an operation that only grows memory -/
theorem okb {b : Nat} {X : Obj} {o : Oper} {φ : World → Value → Prop} (hb : b < w.heap.size) (h : Ok P o a w φ) : OkE (ButOr b X) P o a w φ := fun K Q hK =>
  h K Q fun v w' hE hv => hK v w' ⟨hE.os, hE.tape, hE.output, hE.size, fun k hk _ => hE.block k hk, .inl (hE.block b hb)⟩ hv
theorem okb_store {w0 : World} {x y : Operand} {X Tc b off : Nat} {cs : Array Value} {fr : Nat × Nat} {v : Value} {dd z by_} (hT : Ty P X dd z 1 by_) (h0 : w0.heap[b]? = some (.cells cs Tc fr)) (hf : ∀ o, o < cs.size → (decide (fr.1 ≤ o) && decide (o < fr.2)) = false) (hE : ButOr b (.cells (cs.setIfInBounds off v) Tc fr) w0 w)
    (hx : a.eval x = .pointer (some ⟨b, off, none⟩)) (hy : a.eval y = v) (hv : v.cells = #[v]) (h1 : v.oneCell' = true) (ho : off < cs.size) :
    OkE (ButOr b (.cells (cs.setIfInBounds off v) Tc fr)) P ⟨d, .store X x y, T, pos, aft, g⟩ a w (SP.mark b (cs.setIfInBounds off v) Tc fr).holds := by
  have hcs : ∃ cs', w.heap[b]? = some (.cells cs' Tc fr) ∧ cs'.size = cs.size ∧ cs'.setIfInBounds off v = cs.setIfInBounds off v := by
    rcases hE.it with h | h
    · exact ⟨cs, h.trans h0, rfl, rfl⟩
    · exact ⟨_, h, by simp, by simp⟩
  obtain ⟨cs', h2, h3, h4⟩ := hcs
  have hc : w.cell? ⟨b, off, none⟩ = some (cs'[off]'(by omega)) := by
    unfold World.cell?; rw [h2]; simp [Array.getElem?_eq_getElem (show off < cs'.size by omega)]
  have hfz : w.frozen? ⟨b, off, none⟩ = false := by
    unfold World.frozen?; rw [h2]; exact hf off ho
  have hset : (w.setCell ⟨b, off, none⟩ v).heap[b]? = some (.cells (cs.setIfInBounds off v) Tc fr) := by
    unfold World.setCell
    obtain ⟨lo, hi⟩ := fr
    simp [Array.getElem?_modify, h2, h4]
  intro K Q hK
  have hrun : (execOp a.eval ⟨d, .store X x y, T, pos, aft, g⟩).run P w = .ok .skip (w.setCell ⟨b, off, none⟩ v) := by
    simp [execOp, Instr.storeAt, Instr.sureAddr, hx, hy, storeVar, hv, hT.run_size, storeCells, run_store _ _ _ _ _ h1, Addr.add, hc, hfz]
  unfold Oper.wp
  rw [hrun]
  refine hK undef _ ⟨rfl, rfl, rfl, by simp [World.setCell], fun k hk hkb => ?_, .inr hset⟩ hset
  unfold World.setCell
  simp [Array.getElem?_modify, Ne.symm hkb]
end
theorem Own.of_mark {w : World} {b : Nat} {cs cs' : Array Value} {T : TypeId} {fr : Nat × Nat} (h : w.heap[b]? = some (.cells cs' T fr)) (hs : cs'.size = cs.size) (hf : ∀ o, o < cs.size → (decide (fr.1 ≤ o) && decide (o < fr.2)) = false) : Own w b cs' T :=
  ⟨fr, h, fun o ho => hf o (by omega)⟩
/-- Below, over a region with a store into block b -/
theorem ext_butor {w0 w w' : World} {b : Nat} {X : Obj} (h : Ext w0 w) (hb : w0.heap.size ≤ b) (hE : ButOr b X w w') : Ext w0 w' :=
  ⟨hE.os.trans h.os, hE.tape.trans h.tape, hE.output.trans h.output, Nat.le_trans h.size hE.size, fun k hk => by
    rw [hE.block k (Nat.lt_of_lt_of_le hk h.size) (by omega)]; exact h.block k hk⟩
theorem own_butor {w w' : World} {b b' : Nat} {X : Obj} {cs : Array Value} {T : TypeId} (h : Own w b' cs T) (hne : b' ≠ b) (hE : ButOr b X w w') : Own w' b' cs T := by
  obtain ⟨fr, h, hf⟩ := h
  exact ⟨fr, (hE.block b' (Array.getElem?_eq_some_iff.1 h).1 hne).trans h, hf⟩

/-! ### results in memory -/
theorem retPureCell {P : Program} {fn : Func} {φ : World → Value → Prop} {a : Act} {w0 w : World} {t N b X X' : Nat} {cs : Array Value} {dd z by_} (hr : fn.results = #[.cell t X]) (hA : a.fit N) (ht : a.get t = .pointer (some ⟨b, 0, none⟩)) (hT : Ty P X dd z cs.size by_) (hd : isAggD dd = true) (hO : Own w b cs X') (hB : Ext w0 w) (h : φ w (.agg cs)) :
    bodyPost P fn (fun e w' => ∃ v, e = .returned v ∧ Ext w0 w' ∧ φ w' v) .ret a w :=
  ⟨hA.defers, .agg cs, by
    have e1 : a.tmps.getD t undef = .pointer (some ⟨b, 0, none⟩) := ht
    simp only [Array.getD_eq_getD_getElem?] at e1
    simp [results, hr, e1, asAddr, loadVar, hT.run_agg, hd, hT.run_size, run_loadCells (P := P) (w := w) (b := b) (off := 0) (cs := cs) (fun j _ => by rw [hO.cell]; simp)], _, rfl, hB, h⟩
/-- a store of a whole variable -/
theorem run_storeCells {P : Program} {T b : Nat} : ∀ (l : List Value) (i : Nat) (w : World) (cs : Array Value), (∀ v ∈ l, v.oneCell' = true) → Own w b cs T → i + l.length ≤ cs.size →
    ∃ w' cs', (storeCells ⟨b, 0, none⟩ l i).run P w = .ok () w' ∧ Own w' b cs' T ∧ cs'.size = cs.size ∧ (∀ j, cs'[j]? = if i ≤ j ∧ j < i + l.length then l[j - i]? else cs[j]?) ∧
      w'.os = w.os ∧ w'.tape = w.tape ∧ w'.output = w.output ∧ w'.heap.size = w.heap.size ∧ ∀ k, k ≠ b → w'.heap[k]? = w.heap[k]?
  | [], i, w, cs, _, hO, _ => ⟨w, cs, rfl, hO, rfl, fun j => by rw [if_neg (by simp)], rfl, rfl, rfl, rfl, fun _ _ => rfl⟩
  | v :: l, i, w, cs, h1, hO, hs => by
      simp only [List.length_cons] at hs
      have hi : i < cs.size := by omega
      have hc : w.cell? ⟨b, i, none⟩ = some cs[i] := by rw [hO.cell, Array.getElem?_eq_getElem hi]
      obtain ⟨w', cs', h2, h3, h4, h5, h6, h7, h8, h9, h10⟩ := run_storeCells (P := P) l (i + 1) (w.setCell ⟨b, i, none⟩ v) _ (fun x hx => h1 x (by simp [hx])) (hO.set i v) (by simp; omega)
      refine ⟨w', cs', ?_, h3, by rw [h4]; simp, fun j => ?_, h6, h7, h8, by rw [h9]; simp [World.setCell], fun k hk => ?_⟩
      · have e : (⟨b, 0, none⟩ : Addr).add i = ⟨b, i, none⟩ := by rw [addr_add, Nat.zero_add]
        simp only [storeCells, Sem.run_bind, e, run_store _ _ _ _ _ (h1 v (by simp)), hc, hO.frozen i hi]
        exact h2
      · rw [h5 j, List.length_cons]
        by_cases hj : j = i
        · subst hj
          rw [if_neg (by omega), if_pos (by omega)]; simp [hi]
        · rw [Array.getElem?_setIfInBounds_ne (Ne.symm hj)]
          by_cases h : i + 1 ≤ j ∧ j < i + 1 + l.length
          · rw [if_pos h, if_pos (by omega)]
            have e : j - i = (j - (i + 1)) + 1 := by omega
            rw [e]; simp
          · rw [if_neg h, if_neg (by omega)]
      · rw [h10 k hk]
        unfold World.setCell; simp [Array.getElem?_modify, Ne.symm hk]
/-- Only block b has turned. -/
structure But (b : Nat) (w w' : World) : Prop where
  os : w'.os = w.os
  tape : w'.tape = w.tape
  output : w'.output = w.output
  size : w.heap.size ≤ w'.heap.size
  block : ∀ k, k < w.heap.size → k ≠ b → w'.heap[k]? = w.heap[k]?
theorem ext_but {w0 w w' : World} {b : Nat} (h : Ext w0 w) (hb : w0.heap.size ≤ b) (hE : But b w w') : Ext w0 w' :=
  ⟨hE.os.trans h.os, hE.tape.trans h.tape, hE.output.trans h.output, Nat.le_trans h.size hE.size, fun k hk => by
    rw [hE.block k (Nat.lt_of_lt_of_le hk h.size) (by omega)]; exact h.block k hk⟩
theorem own_but {w w' : World} {b b' : Nat} {cs : Array Value} {T : TypeId} (h : Own w b' cs T) (hne : b' ≠ b) (hE : But b w w') : Own w' b' cs T := by
  obtain ⟨fr, h, hf⟩ := h
  exact ⟨fr, (hE.block b' (Array.getElem?_eq_some_iff.1 h).1 hne).trans h, hf⟩
theorem But.setCell (w : World) (b off : Nat) (v : Value) : But b w (w.setCell ⟨b, off, none⟩ v) :=
  ⟨rfl, rfl, rfl, by simp [World.setCell], fun k _ hk => by unfold World.setCell; simp [Array.getElem?_modify, Ne.symm hk]⟩
section tails
variable {P : Program} {a : Act} {w : World} {T : TypeId} {pos : String} {aft : Array Edge} {ops : Array Oper} {Q : Exit → Act → World → Prop} {rest : List Oper}
theorem t_storeAgg {x y : Operand} {X T' b : Nat} {cs vs : Array Value} {dd z by_} (hT : Ty P X dd z vs.size by_) (hx : a.eval x = .pointer (some ⟨b, 0, none⟩)) (hy : a.eval y = .agg vs) (h1 : ∀ v ∈ vs.toList, v.oneCell' = true)
    (hO : Own w b cs T') (hs : cs.size = vs.size) (hK : ∀ w', But b w w' → Own w' b vs T' → wpList P ops Q rest a w') : wpList P ops Q (⟨none, .store X x y, T, pos, aft, none⟩ :: rest) a w := by
  obtain ⟨w', cs', h2, h3, h4, h5, h6, h7, h8, h9, h10⟩ := run_storeCells (P := P) vs.toList 0 w cs h1 hO (by simp [hs])
  have e : cs' = vs := by
    apply Array.ext_getElem?
    intro j
    rw [h5 j]
    simp only [Nat.zero_le, true_and, Nat.zero_add, Array.length_toList, Nat.sub_zero, Array.getElem?_toList]
    by_cases h : j < vs.size
    · rw [if_pos h]
    · rw [if_neg h, Array.getElem?_eq_none (by omega), Array.getElem?_eq_none (by omega)]
  subst e
  refine t_skip (w' := w') ?_ rfl rfl (hK w' ⟨h6, h7, h8, by omega, fun k _ hk => h10 k hk⟩ h3)
  simp [execOp, Instr.storeAt, Instr.sureAddr, hx, hy, storeVar, Value.cells, hT.run_size, h2]
/-- a store of one cell into a row that is ours -/
theorem t_store1 {x y : Operand} {X T' b off : Nat} {cs : Array Value} {v : Value} {dd z by_} (hT : Ty P X dd z 1 by_) (hx : a.eval x = .pointer (some ⟨b, off, none⟩)) (hy : a.eval y = v) (hv : v.cells = #[v]) (h1 : v.oneCell' = true)
    (hO : Own w b cs T') (ho : off < cs.size) (hK : ∀ w', But b w w' → Own w' b (cs.setIfInBounds off v) T' → wpList P ops Q rest a w') : wpList P ops Q (⟨none, .store X x y, T, pos, aft, none⟩ :: rest) a w :=
  t_store hT hx hy hv h1 hO ho (hK _ (But.setCell w b off v) (hO.set off v))
end tails

/-! ### appends -/
theorem OwnS.block_lt {w : World} {B T E : Nat} {u : Value} {vs : List Value} (h : OwnS w B T E u vs) : ∀ g, u.ownBlock = some g → g < w.heap.size := by
  intro g hg
  rcases h.row.2 with ⟨h1, _⟩ | ⟨b, cap, cur, h1, _, h3, _⟩
  · rw [h1] at hg; cases hg
  · rw [h1] at hg
    simp only [Value.ownBlock, Option.some.injEq] at hg
    subst hg; exact (Array.getElem?_eq_some_iff.1 h3).1
theorem OwnS.block_ge {w : World} {B T E : Nat} {u : Value} {vs : List Value} (h : OwnS w B T E u vs) : ∀ g, u.ownBlock = some g → B ≤ g := by
  intro g hg
  rcases h.row.2 with ⟨h1, _⟩ | ⟨b, cap, cur, h1, h2, _⟩
  · rw [h1] at hg; cases hg
  · rw [h1] at hg
    simp only [Value.ownBlock, Option.some.injEq] at hg
    subst hg; exact h2
/-- What an append to u has done: u's row alone may have turned; u' lies in u's row or in a new one. -/
structure Appd (w w' : World) (u u' : Value) : Prop where
  by_ : w.grownBy w' u.ownBlock
  at_ : u'.ownBlock = u.ownBlock ∨ ∀ g, u'.ownBlock = some g → w.heap.size ≤ g
theorem ext_appd {w0 w w' : World} {u u' : Value} (h : Ext w0 w) (hA : Appd w w' u u') (hb : ∀ g, u.ownBlock = some g → w0.heap.size ≤ g) : Ext w0 w' :=
  ⟨hA.by_.os.trans h.os, hA.by_.tape.trans h.tape, hA.by_.output.trans h.output, Nat.le_trans h.size hA.by_.size, fun k hk => by
    rw [hA.by_.block k (Nat.lt_of_lt_of_le hk h.size) (fun e => by have := hb k e.symm; omega)]; exact h.block k hk⟩
/-- two slices of the call's own lie apart -/
def Apart (u v : Value) : Prop := ∀ g, u.ownBlock = some g → v.ownBlock ≠ some g
theorem own_appd {w w' : World} {u u' : Value} {b : Nat} {cs : Array Value} {T : TypeId} (h : Own w b cs T) (hA : Appd w w' u u') (hne : u.ownBlock ≠ some b) : Own w' b cs T := by
  obtain ⟨fr, h, hf⟩ := h
  exact ⟨fr, (hA.by_.block b (Array.getElem?_eq_some_iff.1 h).1 (Ne.symm hne)).trans h, hf⟩
theorem ownS_appd {w w' : World} {u u' v : Value} {B T E : Nat} {vs : List Value} (h : OwnS w B T E v vs) (hA : Appd w w' u u') (hne : Apart u v) : OwnS w' B T E v vs := by
  refine ⟨h.sz, h.row.1, ?_⟩
  rcases h.row.2 with h1 | ⟨b, cap, cur, h1, h2, h3, h4⟩
  · exact .inl h1
  · refine .inr ⟨b, cap, cur, h1, h2, ?_, h4⟩
    rw [hA.by_.block b (Array.getElem?_eq_some_iff.1 h3).1 (fun e => hne b e.symm (by rw [h1]; rfl))]; exact h3
theorem apart_appd {w w' : World} {u u' v : Value} {B T E : Nat} {vs : List Value} (h : OwnS w B T E v vs) (hA : Appd w w' u u') (hne : Apart u v) : Apart u' v := by
  intro g hg hv
  rcases hA.at_ with h' | h'
  · exact hne g (h' ▸ hg) hv
  · have := h' g hg
    have := h.block_lt g hv
    omega
theorem Apart.symm {u v : Value} (h : Apart u v) : Apart v u := fun g hg hu => h g hu hg
theorem apart_nil (v : Value) : Apart (.slice none 0 0) v := fun g hg => by cases hg
/-- what is new lies apart from what was there -/
theorem apart_new {w : World} {B T E B' T' E' : Nat} {u v : Value} {vs us : List Value} {w' : World} (h : OwnS w B T E v vs) (h' : OwnS w' B' T' E' u us) (hB : w.heap.size ≤ B') : Apart u v := fun g hg hv => by
  have := h.block_lt g hv
  have := h'.block_ge g hg
  omega

theorem run_append_full {P : Program} {w : World} {B t ty e E bytes : Nat} {dd : TypeDesc} {z z' : Value} {sz by_ : Nat} (hT : Ty P t (.slice e) z sz by_) (he : Ty P e dd z' (E + 1) bytes) (hz : z'.cells.size = E + 1)
    {u : Value} {vs : List Value} (hO : OwnS w B e (E + 1) u vs) {u' : Value} {ns : List Value} (hN : SlV w (E + 1) u' ns) (h1 : ∀ x ∈ flat ns, x.oneCell' = true)
    (hb : (vs.length + ns.length) * bytes ≤ 140737488355328) (hl : vs.length + ns.length ≤ 9223372036854775807) (hB : B ≤ w.heap.size) :
    ∃ u2 w2, (Builtin.append_ #[t, t] ty #[u, u']).run P w = .ok u2 w2 ∧ OwnS w2 B e (E + 1) u2 (vs ++ ns) ∧ Appd w w2 u u2 := by
  obtain ⟨i, hi, hz0, hsz, hby⟩ := he.info
  obtain ⟨p, cap, hu', hcap, hnsz, hcells⟩ := hN
  have hflat : flat (vs ++ ns) = flat vs ++ flat ns := by simp [flat]
  have hszs : ∀ x ∈ vs ++ ns, x.cells.size = E + 1 := by
    intro x hx
    rcases List.mem_append.1 hx with h | h
    · exact hO.sz x h
    · exact hnsz x h
  have hml : vs.length + ns.length ≤ maxLen := by unfold maxLen; omega
  by_cases hp : p = none
  · subst hp
    have hns : ns = [] := by
      rcases hcells with h | ⟨b, off, h, _⟩
      · exact h
      · cases h
    subst hns
    have hc0 : (Builtin.append_ #[t, t] ty #[u, u']).run P w = .ok u w := by
      rcases hO.row.2 with ⟨hu, hn⟩ | ⟨g, c, cur, hu, _, _, hnc, _⟩
      · simp [Builtin.append_, hT.run_u, he.run_size, Builtin.lenOf, Builtin.firstCells, hu, hu']
      · simp [Builtin.append_, hT.run_u, he.run_size, Builtin.lenOf, Builtin.firstCells, hu, hu', hnc, storeCells]
    exact ⟨u, w, hc0, by simpa using hO, ⟨⟨rfl, rfl, rfl, Nat.le_refl _, fun _ _ _ => rfl⟩, .inl rfl⟩⟩
  · obtain ⟨ad, rfl⟩ : ∃ ad, p = some ad := by cases p with | none => exact absurd rfl hp | some ad => exact ⟨ad, rfl⟩
    have hnews : ∀ j v, (flat ns)[j]? = some v → w.cell? (ad.add j) = some v := by
      intro j v hj
      rcases hcells with h | ⟨b, off, h, hc⟩
      · subst h; simp [flat] at hj
      · cases h
        have hjl : j < ns.length * (E + 1) := by
          have := (List.getElem?_eq_some_iff.1 hj).1; rwa [flat_length hnsz] at this
        have hq : j / (E + 1) < ns.length := Nat.div_lt_of_lt_mul (by rw [Nat.mul_comm]; exact hjl)
        have hr : j % (E + 1) < E + 1 := Nat.mod_lt _ (by omega)
        have hx : ns[j / (E + 1)]? = some ns[j / (E + 1)] := List.getElem?_eq_getElem hq
        have e1 : j / (E + 1) * (E + 1) + j % (E + 1) = j := by rw [Nat.mul_comm]; exact Nat.div_add_mod j (E + 1)
        have h2 := hc _ _ hx _ hr
        have h3 := flat_at hnsz _ _ hx _ hr
        rw [e1] at h2 h3
        rw [addr_add, h2, ← h3]; exact hj
    have hfl := flat_length hnsz
    obtain ⟨u2, w2, hr, h2, h3, _⟩ := run_append_own (P := P) w B t ty e i z' (E + 1) bytes hT.u hi hz0 hsz hby hz (by omega) u vs.length (flat vs) hO.row ad ns.length cap (flat ns) hfl hnews h1 hml hb hB
    rw [← hu'] at hr
    refine ⟨u2, w2, hr, ⟨hszs, by rw [hflat, List.length_append]; exact h2⟩, h3, ?_⟩
    rcases hO.row.2 with ⟨hu, hn⟩ | ⟨g, c, cur, hu, hBg, hg, hnc, hcm, hcs, htk⟩
    · right
      intro g hg
      have hrow : w.ownsRow w.heap.size e (E + 1) u vs.length (flat vs) := ⟨hO.row.1, .inl ⟨hu, hn⟩⟩
      obtain ⟨u3, w3, hr3, h4, _, _⟩ := run_append_own (P := P) w w.heap.size t ty e i z' (E + 1) bytes hT.u hi hz0 hsz hby hz (by omega) u vs.length (flat vs) hrow ad ns.length cap (flat ns) hfl hnews h1 hml hb (Nat.le_refl _)
      rw [← hu', hr] at hr3
      cases hr3
      rcases h4.2 with ⟨h5, _⟩ | ⟨g', c', cur', h5, h6, _⟩
      · rw [h5] at hg; cases hg
      · rw [h5] at hg
        simp only [Value.ownBlock, Option.some.injEq] at hg
        subst hg; exact h6
    · by_cases hroom : vs.length + ns.length ≤ c
      · left
        have hrow := hO.row
        rw [hu] at hrow
        obtain ⟨w3, hr3, _, _⟩ := run_append_fits (P := P) w B t ty e i (E + 1) hT.u hi hsz g vs.length c (flat vs) hrow ad ns.length cap (flat ns) hfl hnews h1 hroom
        rw [← hu, ← hu', hr] at hr3
        cases hr3
        rw [hu]; rfl
      · right
        intro g' hg'
        have holds : ∀ j v, (flat vs)[j]? = some v → w.cell? ((⟨g, 0, none⟩ : Addr).add j) = some v := hO.row.cells (by rw [hu]; rfl)
        have hr3 := run_append_grow (P := P) w t ty e i z' hT.u hi hz0 ⟨g, 0, none⟩ vs.length c (flat vs) (by rw [hsz]; exact hO.row.1) holds ad ns.length cap (flat ns) (by rw [hsz]; exact hfl) hnews (by omega) (by omega) (growslice_fits (by omega) (by rw [hby]; exact hb))
        rw [← hu, ← hu', hr] at hr3
        cases hr3
        simp only [Value.ownBlock, Option.some.injEq] at hg'
        omega
section tails
variable {P : Program} {a : Act} {w : World} {T : TypeId} {pos : String} {aft : Array Edge} {ops : Array Oper} {Q : Exit → Act → World → Prop} {rest : List Oper}
theorem t_append {x y : Operand} {t e E B dst bytes : Nat} {dd : TypeDesc} {z z' : Value} {sz by_ : Nat} (hT : Ty P t (.slice e) z sz by_) (he : Ty P e dd z' (E + 1) bytes) (hz : z'.cells.size = E + 1)
    {u : Value} {vs : List Value} (hx : a.eval x = u) (hO : OwnS w B e (E + 1) u vs) {u' : Value} {ns : List Value} (hy : a.eval y = u') (hN : SlV w (E + 1) u' ns) (h1 : ∀ x ∈ flat ns, x.oneCell' = true)
    (hb : (vs.length + ns.length) * bytes ≤ 140737488355328) (hl : vs.length + ns.length ≤ 9223372036854775807) (hB : B ≤ w.heap.size)
    (hK : ∀ u2 w2, OwnS w2 B e (E + 1) u2 (vs ++ ns) → Appd w w2 u u2 → wpList P ops Q rest (a.put (some dst) u2) w2) : wpList P ops Q (⟨some dst, .call ⟨.builtin .append, #[x, y], #[t, t]⟩, T, pos, aft, none⟩ :: rest) a w := by
  obtain ⟨u2, w2, hr, h2, h3⟩ := run_append_full (ty := T) hT he hz hO hN h1 hb hl hB
  refine t_run (v := u2) (w' := w2) ?_ rfl (hK u2 w2 h2 h3)
  simp [execOp, resolve, invoke, builtin, hx, hy, hr]
theorem t_assign {x : Operand} {dst : Nat} {v : Value} (hx : a.eval x = v) (hK : wpList P ops Q rest (a.put (some dst) v) w) : wpList P ops Q (⟨some dst, .assign x, T, pos, aft, none⟩ :: rest) a w :=
  t_run (by simp [execOp, hx]) rfl hK
/-- the frame behind an assignment -/
theorem put_frame {D : List Deferred} {N dst : Nat} {v : Value} (hA : a.fitD N D) (hd : dst < N) {R : Prop} (hK : ∀ a' : Act, a'.fitD N D → a'.get dst = v → (∀ t, Nat.beq dst t = false → a'.get t = a.get t) → R) : R :=
  hK (a.put (some dst) v) (fit_put hA _ _) (get_put_same hA hd v) (fun t ht => get_put_ne (fun e => by subst e; simp at ht) v)
theorem put_cont {D : List Deferred} {N dst : Nat} {v : Value} (hA : a.fitD N D) (hd : dst < N) (hK : ∀ a' : Act, a'.fitD N D → a'.get dst = v → (∀ t, Nat.beq dst t = false → a'.get t = a.get t) → wpList P ops Q rest a' w) : wpList P ops Q rest (a.put (some dst) v) w :=
  hK (a.put (some dst) v) (fit_put hA _ _) (get_put_same hA hd v) (fun t ht => get_put_ne (fun e => by subst e; simp at ht) v)
end tails
theorem OwnS.mono {w : World} {B B' T E : Nat} {u : Value} {vs : List Value} (h : OwnS w B T E u vs) (hB : B' ≤ B) : OwnS w B' T E u vs := by
  refine ⟨h.sz, h.row.1, ?_⟩
  rcases h.row.2 with h | ⟨b, cap, cur, h1, h2, h3⟩
  · exact .inl h
  · exact .inr ⟨b, cap, cur, h1, Nat.le_trans hB h2, h3⟩
section moves
variable {P : Program} {a : Act} {w : World} {d : Option Tmp} {T : TypeId} {pos : String} {aft : Array Edge} {g : Option (Nat × Bool)} {x : Operand}
theorem ok_move_own {B T' E : Nat} {vs : List Value} (h : OwnS w B T' E (a.eval x) vs) : Ok P ⟨d, .move x, T, pos, aft, g⟩ a w (SP.own B T' E vs).holds := ok_move_pr (φ := .own B T' E vs) h
theorem ok_assign_own {B T' E : Nat} {vs : List Value} (h : OwnS w B T' E (a.eval x) vs) : Ok P ⟨d, .assign x, T, pos, aft, g⟩ a w (SP.own B T' E vs).holds := ok_assign_pr (φ := .own B T' E vs) h
theorem ok_move_sl {E : Nat} {vs : List Value} (h : SlV w E (a.eval x) vs) : Ok P ⟨d, .move x, T, pos, aft, g⟩ a w (SP.sl E vs).holds := ok_move_pr (φ := .sl E vs) h
theorem ok_assign_sl {E : Nat} {vs : List Value} (h : SlV w E (a.eval x) vs) : Ok P ⟨d, .assign x, T, pos, aft, g⟩ a w (SP.sl E vs).holds := ok_assign_pr (φ := .sl E vs) h
theorem ok_move_pt {y : Value} (h : PtrTo w (a.eval x) y) : Ok P ⟨d, .move x, T, pos, aft, g⟩ a w (SP.pt y).holds := ok_move_pr (φ := .pt y) h
theorem ok_assign_pt {y : Value} (h : PtrTo w (a.eval x) y) : Ok P ⟨d, .assign x, T, pos, aft, g⟩ a w (SP.pt y).holds := ok_assign_pr (φ := .pt y) h
end moves
theorem ownBlock_ge {w : World} {B T E B0 : Nat} {u : Value} {vs : List Value} (h : OwnS w B T E u vs) (hB : B0 ≤ B) : ∀ g, u.ownBlock = some g → B0 ≤ g := fun g hg => Nat.le_trans hB (h.block_ge g hg)
end Go.Eng
