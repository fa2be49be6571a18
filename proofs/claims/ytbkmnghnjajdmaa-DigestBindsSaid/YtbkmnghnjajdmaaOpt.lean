/- The engine, third part: rows that a call owns, conversions, calls, what stands at a region's end, a function's beginning and end. No statement of the program stands here. -/
import Derived.Test.YtbkmnghnjajdmaaOps
namespace Go.Eng
open Go Go.RowKit

/-! ### Rows -/
def flat (vs : List Value) : List Value := vs.flatMap fun x => x.cells.toList
theorem flat_length {E : Nat} : ∀ {vs : List Value}, (∀ x ∈ vs, x.cells.size = E) → (flat vs).length = vs.length * E
  | [], _ => by simp [flat]
  | x :: vs, h => by
      have := flat_length (vs := vs) (fun y hy => h y (by simp [hy]))
      unfold flat at this ⊢
      rw [List.flatMap_cons, List.length_append, this, Array.length_toList, h x (by simp), List.length_cons, Nat.add_mul]; omega
theorem flat_at {E : Nat} : ∀ {vs : List Value}, (∀ x ∈ vs, x.cells.size = E) → ∀ (i : Nat) (x : Value), vs[i]? = some x → ∀ j, j < E → (flat vs)[i * E + j]? = x.cells[j]?
  | [], _, i, x, h => by simp at h
  | y :: vs, hs, 0, x, h => by
      intro j hj
      simp at h; subst h
      have hy := hs y (by simp)
      unfold flat
      rw [List.flatMap_cons, Nat.zero_mul, Nat.zero_add, List.getElem?_append_left (by rw [Array.length_toList, hy]; exact hj)]
      simp
  | y :: vs, hs, i + 1, x, h => by
      intro j hj
      have hy := hs y (by simp)
      have := flat_at (vs := vs) (fun y hy => hs y (by simp [hy])) i x (by simpa using h) j hj
      unfold flat at this ⊢
      rw [List.flatMap_cons, List.getElem?_append_right (by rw [Array.length_toList, hy, Nat.add_mul]; omega), Array.length_toList, hy, ← this]
      congr 1
      rw [Nat.add_mul]; omega

/-- u is a slice of the elements vs (E cells each, of type T) that lies in a row of its own from block B on, or is nil. -/
structure OwnS (w : World) (B T E : Nat) (u : Value) (vs : List Value) : Prop where
  sz : ∀ x ∈ vs, x.cells.size = E
  row : w.ownsRow B T E u vs.length (flat vs)
theorem OwnS.ext {w w' : World} {B T E : Nat} {u : Value} {vs : List Value} (h : OwnS w B T E u vs) (hE : Ext w w') : OwnS w' B T E u vs := by
  refine ⟨h.sz, h.row.1, ?_⟩
  rcases h.row.2 with h | ⟨b, cap, cur, h1, h2, h3, h4⟩
  · exact .inl h
  · exact .inr ⟨b, cap, cur, h1, h2, hE.heap h3, h4⟩
theorem OwnS.nil (w : World) (B T E : Nat) : OwnS w B T E (.slice none 0 0) [] := ⟨by simp, by simp [flat], .inl ⟨rfl, rfl⟩⟩
theorem OwnS.slv {w : World} {B T E : Nat} {u : Value} {vs : List Value} (h : OwnS w B T E u vs) : SlV w E u vs := by
  rcases h.row.2 with ⟨h1, h2⟩ | ⟨b, cap, cur, h1, h2, h3, h4, h5, h6, h7⟩
  · have : vs = [] := List.eq_nil_of_length_eq_zero h2
    subst this
    exact ⟨none, 0, h1, by simp, by simp, .inl rfl⟩
  · refine ⟨some ⟨b, 0, none⟩, cap, h1, h4, h.sz, .inr ⟨b, 0, rfl, fun i x hx j hj => ?_⟩⟩
    have hf := flat_at h.sz i x hx j hj
    rw [← h7] at hf
    have hlt : i < vs.length := (List.getElem?_eq_some_iff.1 hx).1
    have hlt2 : i * E + j < vs.length * E := by
      have : (i + 1) * E ≤ vs.length * E := Nat.mul_le_mul_right _ hlt
      rw [Nat.add_mul] at this; omega
    rw [List.getElem?_take, if_pos hlt2] at hf
    unfold World.cell?
    simp only [h3, Nat.zero_add]
    rw [← hf]; simp
abbrev SP.own (B T E : Nat) (vs : List Value) : SP := .pr (fun w u => OwnS w B T E u vs) (fun _ _ _ hE h => h.ext hE)

def bv (l : List UInt8) : List Value := l.map fun b => .int .u8 (b.toNat : Int)

section ops
variable {P : Program} {a : Act} {w : World} {d : Option Tmp} {T : TypeId} {pos : String} {aft : Array Edge} {g : Option (Nat × Bool)}

/-! ### fills -/
theorem splice_size (off : Nat) : ∀ (l : List (Value × Nat)) (cells : Array Value), (l.foldl (fun cs (p : Value × Nat) => cs.setIfInBounds (off + p.2) p.1) cells).size = cells.size
  | [], _ => rfl
  | p :: l, cells => by rw [List.foldl_cons, splice_size off l]; simp
theorem splice_at (off : Nat) : ∀ (l : List Value) (k : Nat) (cells : Array Value), off + k + l.length ≤ cells.size → ∀ i,
    ((l.zipIdx k).foldl (fun cs (p : Value × Nat) => cs.setIfInBounds (off + p.2) p.1) cells)[i]? = if off + k ≤ i ∧ i < off + k + l.length then l[i - (off + k)]? else cells[i]?
  | [], k, cells, h, i => by
      rw [List.zipIdx_nil, List.foldl_nil, if_neg (by simp)]
  | x :: l, k, cells, h, i => by
      rw [List.zipIdx_cons, List.foldl_cons, splice_at off l (k + 1) _ (by simp at h ⊢; omega)]
      simp only [List.length_cons] at h ⊢
      by_cases h1 : i = off + k
      · subst h1
        rw [if_neg (by omega), if_pos (by omega), Nat.sub_self]
        have : off + k < cells.size := by omega
        simp [this]
      · by_cases h2 : off + (k + 1) ≤ i ∧ i < off + (k + 1) + l.length
        · rw [if_pos h2, if_pos (by omega)]
          have e : i - (off + k) = (i - (off + (k + 1))) + 1 := by omega
          rw [e]; simp
        · rw [if_neg h2, if_neg (by omega), Array.getElem?_setIfInBounds_ne (by omega)]
/-- the elements' parts, as a literal gives them -/
def partsFrom : Nat → List Value → List (Nat × Value)
  | _, [] => []
  | k, v :: vs => (k, v) :: partsFrom (k + 1) vs
theorem fill_parts {E : Nat} : ∀ (vs : List Value) (k : Nat) (cells : Array Value), (∀ x ∈ vs, x.cells.size = E) → cells.size = k * E + vs.length * E →
    ∃ out, Instr.fill (fun i => some (i * E, E)) cells (partsFrom k vs) = some out ∧ out.size = cells.size ∧ ∀ i, out[i]? = if k * E ≤ i ∧ i < k * E + vs.length * E then (flat vs)[i - k * E]? else cells[i]?
  | [], k, cells, _, hs => ⟨cells, rfl, rfl, fun i => by rw [if_neg (by simp)]⟩
  | v :: vs, k, cells, hv, hs => by
      have hvE := hv v (by simp)
      have e0 : (v :: vs).length * E = E + vs.length * E := by rw [List.length_cons, Nat.add_mul]; omega
      have e1 : (k + 1) * E = k * E + E := by rw [Nat.add_mul]; omega
      rw [e0] at hs ⊢
      let c1 := v.cells.zipIdx.foldl (fun cs (p : Value × Nat) => cs.setIfInBounds (k * E + p.2) p.1) cells
      have hc1 : c1 = (v.cells.toList.zipIdx 0).foldl (fun cs (p : Value × Nat) => cs.setIfInBounds (k * E + p.2) p.1) cells := by
        show v.cells.zipIdx.foldl _ cells = _
        rw [← Array.foldl_toList]; simp
      have hs1 : c1.size = cells.size := by rw [hc1]; exact splice_size _ _ _
      obtain ⟨out, h1, h2, h3⟩ := fill_parts vs (k + 1) c1 (fun x hx => hv x (by simp [hx])) (by rw [hs1, hs, e1]; omega)
      refine ⟨out, ?_, by rw [h2, hs1], fun i => ?_⟩
      · simp only [partsFrom, Instr.fill]
        rw [if_neg (by simp [hvE]; omega)]
        exact h1
      · rw [h3 i, hc1, splice_at (k * E) v.cells.toList 0 cells (by simp [hvE]; omega) i]
        simp only [Array.length_toList, hvE, Nat.add_zero, e1]
        unfold flat
        rw [List.flatMap_cons]
        generalize k * E = kE
        generalize vs.length * E = nE
        by_cases h4 : kE + E ≤ i ∧ i < kE + E + nE
        · rw [if_pos h4, if_pos (by omega), List.getElem?_append_right (by rw [Array.length_toList, hvE]; omega), Array.length_toList, hvE]
          congr 1; omega
        · rw [if_neg h4]
          by_cases h5 : kE ≤ i ∧ i < kE + E
          · rw [if_pos h5, if_pos (by omega), List.getElem?_append_left (by rw [Array.length_toList, hvE]; omega)]
          · rw [if_neg h5, if_neg (by omega)]
theorem fill_all {E : Nat} (vs : List Value) (cells : Array Value) (hv : ∀ x ∈ vs, x.cells.size = E) (hs : cells.size = vs.length * E) : Instr.fill (fun i => some (i * E, E)) cells (partsFrom 0 vs) = some (flat vs).toArray := by
  obtain ⟨out, h1, h2, h3⟩ := fill_parts vs 0 cells hv (by simpa using hs)
  rw [h1]; congr 1
  apply Array.ext_getElem?
  intro i
  rw [h3 i]
  simp only [Nat.zero_mul, Nat.zero_le, Nat.zero_add, true_and, Nat.sub_zero, List.getElem?_toArray]
  by_cases h : i < vs.length * E
  · rw [if_pos h]
  · rw [if_neg h, Array.getElem?_eq_none (by omega), List.getElem?_eq_none (by rw [flat_length hv]; omega)]

theorem ok_buildSlice {X e E n B : Nat} {vs : List Value} {parts : Array (Nat × Operand)} {z sz by_ dd z' by_'} (hT : Ty P X (.slice e) z sz by_) (he : Ty P e dd z' (E + 1) by_') (hB : B ≤ w.heap.size)
    (hp : (parts.map fun (i, x) => (i, a.eval x)) = (partsFrom 0 vs).toArray) (hv : ∀ x ∈ vs, x.cells.size = E + 1) (hn : vs.length = n) (hs : n * (E + 1) ≤ 16777216) :
    Ok P ⟨d, .buildSlice X n parts, T, pos, aft, g⟩ a w (SP.own B e (E + 1) vs).holds := by
  have hf : ∀ cells : Array Value, cells.size = n * (E + 1) → Instr.fill (fun i => some (i * (E + 1), E + 1)) cells (partsFrom 0 vs) = some (flat vs).toArray := fun cells hc => fill_all vs cells hv (by rw [hc, hn])
  refine ok_run (v := .slice (some ⟨w.heap.size, 0, none⟩) n n) (w' := w.alloc (.cells (flat vs).toArray e)) ?_ (Ext.alloc _ _) ⟨hv, ?_⟩
  · have h24 : ¬ n * (E + 1) > 2 ^ 24 := by simp; omega
    have hp' : (Array.map (fun x => (x.fst, a.eval x.snd)) parts) = (partsFrom 0 vs).toArray := hp
    by_cases hz : n * (E + 1) = 0
    · simp only [execOp, Instr.buildSlice, Sem.run_bind, hT.run_u, he.run_size, Result.andThen, Sem.run_pure, hp', if_neg h24, if_pos hz]
      rw [hf _ (by simp)]
      simp [newRow]
    · simp only [execOp, Instr.buildSlice, Sem.run_bind, hT.run_u, he.run_size, he.run_zero, Result.andThen, Sem.run_pure, hp', if_neg h24, if_neg hz]
      rw [hf _ (by simp)]
      simp [newRow]
  · have := World.ownsRow_lit (base := B) (e := e) (size := E + 1) w (flat vs).toArray n hB (by unfold maxLen; have : n ≤ n * (E + 1) := Nat.le_mul_of_pos_right _ (by omega); omega) (by simp [flat_length hv, hn])
    simpa [hn] using this

theorem ok_buildArr {X e E n : Nat} {vs : List Value} {parts : Array (Nat × Operand)} {z sz by_ dd z' by_'} (hT : Ty P X (.array n e) z sz by_) (he : Ty P e dd z' E by_') (hz : z.cells.size = n * E)
    (hp : (parts.map fun (i, x) => (i, a.eval x)) = (partsFrom 0 vs).toArray) (hv : ∀ x ∈ vs, x.cells.size = E) (hn : vs.length = n) :
    Ok P ⟨d, .build X parts, T, pos, aft, g⟩ a w (SP.isv (.agg (flat vs).toArray)).holds := by
  have hp' : (Array.map (fun x => (x.fst, a.eval x.snd)) parts) = (partsFrom 0 vs).toArray := hp
  refine ok_pure ?_
  simp [execOp, Instr.build, hT.run_u, hT.run_zero, he.run_size, hp', fill_all vs z.cells hv (by rw [hz, hn])]


end ops
end Go.Eng
