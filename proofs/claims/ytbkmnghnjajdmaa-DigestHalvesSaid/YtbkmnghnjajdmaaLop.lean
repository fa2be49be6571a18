/- Lifting: what handed values read as. No statement of the program stands here. -/
import Derived.Test.YtbkmnghnjajdmaaLij
import Derived.SliceStrings
import Derived.ChangeSlices
import Derived.Lib.SmallJoins
import Derived.OpenShut
import Derived.ShutString
import Derived.ChangeOld
set_option linter.unusedVariables false
set_option linter.unusedSimpArgs false
namespace Go.Lift
open Go Go.RowKit Go.Eng Go.ChangeShapes Go.WideShapes Go.ChangeAt Go.Joins Go.Deep Go.WideElems
variable {H : Type} {enc : TypeId × Value → H} {P : Program} {w : World} {base : Nat} {sp : Nat → Bool} {held : Bool} {α β γ : Type}
abbrev O0 : Tags := fun _ => 0
/-- handed values of a type read so -/
structure Opens (enc : TypeId × Value → H) (P : Program) (w : World) (base : Nat) (sp : Nat → Bool) (held : Bool) (t : Nat) (r : GR α) (Q : α → Prop) : Prop where
  size : P.cellsOf t = r.sz
  fits : r.fits
  op : ∀ fuel cs x, DataW.trod enc P w base sp held fuel t cs = some x → ∃ y, r.rel O0 w cs y ∧ Q y
theorem opens_int {t : Nat} {k : IntKind} (ht : P.underlying t = some (.int k)) (hs : P.cellsOf t = 1) : Opens enc P w base sp held t (rInt k) fun n => (Lit.int k n).wf = true :=
  ⟨hs, fun _ => rfl, fun fuel cs x h => by obtain ⟨n, h1, _, h2⟩ := DataW.trod_int ht h; exact ⟨n, h1, h2⟩⟩
theorem opens_bool {t : Nat} (ht : P.underlying t = some .bool) (hs : P.cellsOf t = 1) : Opens enc P w base sp held t rBool fun _ => True :=
  ⟨hs, fun _ => rfl, fun fuel cs x h => by obtain ⟨n, h1, _⟩ := DataW.trod_bool ht h; exact ⟨n, h1, trivial⟩⟩
theorem opens_str {t : Nat} (ht : P.underlying t = some .string) (hs : P.cellsOf t = 1) : Opens enc P w base sp held t rStr fun s => s.length ≤ maxLen :=
  ⟨hs, fun _ => rfl, fun fuel cs x h => by obtain ⟨s, h1, _, h2⟩ := DataW.trod_string ht h; exact ⟨bs s, by rw [h1]; show _ = [Value.string (str (bs s))]; rw [str_bs], by rw [← str_size, str_bs]; exact h2⟩⟩
theorem relL_of {r : GR α} {O : Tags} {Q : α → Prop} : ∀ {vs : List Value}, (∀ v ∈ vs, ∃ y, r.v O w v y ∧ Q y) → ∃ ys, RelL r O w vs ys ∧ ∀ y ∈ ys, Q y
  | [], _ => ⟨[], trivial, by simp⟩
  | v :: vs, h => by
      obtain ⟨y, h1, h2⟩ := h v (by simp)
      obtain ⟨ys, h3, h4⟩ := relL_of (vs := vs) fun u hu => h u (List.mem_cons_of_mem _ hu)
      exact ⟨y :: ys, ⟨h1, h3⟩, fun z hz => (List.mem_cons.1 hz).elim (fun e => by rw [e]; exact h2) (h4 z)⟩
theorem opens_slice {t e : Nat} {r : GR α} {Q : α → Prop} (ht : P.underlying t = some (.slice e)) (hs : P.cellsOf t = 1) (hE : Opens enc P w base sp held e r Q) (hpos : 0 < r.sz) : Opens enc P w base sp held t (rSl r) fun xs => (∀ x ∈ xs, Q x) ∧ xs.length ≤ maxLen := by
  refine ⟨hs, fun _ => rfl, fun fuel cs x h => ?_⟩
  rcases DataW.trod_slice ht h with ⟨rfl, _⟩ | ⟨a, len, cap, elems, rest, n, _, rfl, _, hb, hl, hm, hlen, hel, _, _⟩
  · exact ⟨[], ⟨_, [], rfl, ⟨none, 0, rfl, by simp, by simp, .inl rfl⟩, trivial, fun h => absurd rfl h⟩, by simp, by simp⟩
  · have each : ∀ i, i < len → ∃ cs, w.cells? base (a.add (i * r.sz)) r.sz = some cs ∧ ∃ y, r.rel O0 w cs y ∧ Q y := by
      intro i hi
      have := hel i hi
      rw [List.getElem?_eq_getElem (by omega), hE.size, Option.bind_eq_some_iff] at this
      obtain ⟨cs, h1, h2⟩ := this
      exact ⟨cs, h1, hE.op n cs _ h2⟩
    let f : Nat → Value := fun i => packV r.agg ((w.cells? base (a.add (i * r.sz)) r.sz).getD [])
    have hf : ∀ i, i < len → ∃ y, r.v O0 w (f i) y ∧ Q y := by
      intro i hi
      obtain ⟨cs, h1, y, h2, h3⟩ := each i hi
      exact ⟨y, ⟨cs, h2, by show packV r.agg ((w.cells? base (a.add (i * r.sz)) r.sz).getD []) = _; rw [h1]; rfl⟩, h3⟩
    have hfc : ∀ i, i < len → ∀ j, j < r.sz → w.cell? (a.add (i * r.sz + j)) = (f i).cells[j]? := by
      intro i hi j hj
      obtain ⟨cs, h1, y, h2, _⟩ := each i hi
      have h4 := (World.cells?_some h1).2.2 j hj
      have h5 : (f i).cells = cs.toArray := by
        show (packV r.agg ((w.cells? base (a.add (i * r.sz)) r.sz).getD [])).cells = _
        rw [h1]
        exact cells_pack (fun ha => by show cs.length = 1; rw [r.len h2, hE.fits ha]) (r.one h2)
      rw [h5, List.getElem?_toArray, ← h4]
      rw [_root_.Go.Addr.add_add]
    obtain ⟨ys, h1, h2⟩ := relL_of (r := r) (O := O0) (w := w) (Q := Q) (vs := (List.range len).map f) (by
      intro v hv
      obtain ⟨i, hi, rfl⟩ := List.mem_map.1 hv
      exact hf i (List.mem_range.1 hi))
    have hyl : ys.length = len := by have := h1.len; simpa using this.symm
    refine ⟨ys, ⟨_, (List.range len).map f, rfl, ⟨some a, cap, by simp, by simpa using hl, ?_, ?_⟩, h1, ?_⟩, h2, by omega⟩
    · intro v hv
      obtain ⟨y, hy⟩ : ∃ y, r.v O0 w v y := by
        obtain ⟨i, hi, rfl⟩ := List.mem_map.1 hv
        obtain ⟨y, hy, _⟩ := hf i (List.mem_range.1 hi); exact ⟨y, hy⟩
      exact r.cells_size hE.fits hy
    · by_cases h0 : len = 0
      · left; simp [h0]
      · right
        obtain ⟨b, off, spot⟩ := a
        have hc0 : (w.cell? (Addr.add ⟨b, off, spot⟩ (0 * r.sz + 0))).isSome = true := by
          rw [hfc 0 (by omega) 0 hpos]
          obtain ⟨y, hy, _⟩ := hf 0 (by omega)
          have := r.cells_size hE.fits hy
          rw [Array.getElem?_eq_getElem (by omega)]; rfl
        obtain ⟨v0, hv0⟩ := Option.isSome_iff_exists.1 hc0
        have hspot : spot = none := by simpa [Addr.add] using World.cell?_spot hv0
        subst hspot
        refine ⟨b, off, rfl, fun i x hx j hj => ?_⟩
        have hi : i < len := by have := (List.getElem?_eq_some_iff.1 hx).1; simpa using this
        have hx' : x = f i := by
          rw [List.getElem?_map, List.getElem?_range hi] at hx
          simpa using hx.symm
        rw [hx', ← hfc i hi j hj]
        unfold Addr.add
        split
        · rename_i h0; congr 1; simp [h0]
        · rfl
    · intro hne g hg
      have h0 : 0 < len := by
        rcases Nat.eq_zero_or_pos len with h0 | h0
        · subst h0; exact absurd rfl hne
        · exact h0
      have hgb : g = a.block := by
        have : (Value.slice (some a) len cap).ownBlock = some a.block := rfl
        rw [this] at hg; exact (Option.some.inj hg).symm
      subst hgb
      refine ⟨?_, rfl⟩
      obtain ⟨cs, h3, _⟩ := each 0 h0
      have h4 := (World.cells?_some h3)
      have h5 := h4.2.2 0 hpos
      rw [List.getElem?_eq_getElem (by omega)] at h5
      have he : (a.add (0 * r.sz)).add 0 = a := by simp [Addr.add]
      rw [he] at h5
      exact World.block_lt_of_cell? _ _ h5
theorem open_top {t : Nat} {r : GR α} {Q : α → Prop} {v : Value} {d : DataW H} {ps : List MemPlace} (hE : Opens enc P w base sp held t r Q) (hv : packV r.agg v.cells.toList = v) (h : DataW.Trod enc P w base sp held t v d ps) : ∃ x, r.v O0 w v x ∧ Q x := by
  obtain ⟨fuel, hf⟩ := h
  obtain ⟨y, h1, h2⟩ := hE.op fuel _ _ hf
  exact ⟨y, ⟨_, h1, hv.symm⟩, h2⟩
theorem open_rsl {t e : Nat} {r : GR α} {Q : α → Prop} {re : Reach} {b0 : Nat} {v : Value} {d : DataW H} {ps : List MemPlace} (ht : P.underlying t = some (.slice e)) (hs : P.cellsOf t = 1) (hE : Opens enc P w base sp held e r Q) (hpos : 0 < r.sz) (hval : Value.okWide P w re b0 t v) (h : DataW.Trod enc P w base sp held t v d ps) :
    ∃ xs, (rSl r).v O0 w v xs ∧ (∀ x ∈ xs, Q x) ∧ xs.length ≤ maxLen := by
  obtain ⟨a, len, cap, rfl⟩ := okWide_slice ht hval
  exact open_top (opens_slice ht hs hE hpos) (by simp [Value.cells, packV, rSl]) h
theorem okO_O0 : OkO O0 w := fun _ _ => rfl
end Go.Lift
