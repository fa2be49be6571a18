/- Lifting, sixth part: small facts. No statement of the program stands here. -/
import Derived.Test.YtbkmnghnjajdmaaLie
set_option linter.unusedVariables false
set_option linter.unusedSimpArgs false
namespace Go.Lift
open Go Go.RowKit Go.Eng
variable {α β γ δ ε : Type}
theorem idx_lt {xs : List α} {i : Int} {n : Nat} {x : α} (h : (idx xs i).run n = some x) : 0 ≤ i ∧ i < xs.length := by
  obtain ⟨h1, h2⟩ := run_idx h
  have := (List.getElem?_eq_some_iff.1 h2).1
  exact ⟨h1, by omega⟩
theorem OwnR.indep {agg : Bool} {sz : Nat} {cells : α → List Value} {hl ho} {T B : Nat} {O : Tags} {w : World} {u : Value} {xs : List α} (O' : Tags) (h : OwnR (rC agg sz cells hl ho) T B O w u xs) : OwnR (rC agg sz cells hl ho) T B O' w u xs := by
  obtain ⟨vs, h1, h2⟩ := h
  exact ⟨vs, h1, RelL.closed.2 (RelL.closed.1 h2)⟩
theorem own_one {k : Nat} {r : GR α} {T B O w u xs} (h : OwnL k r T B O w u xs) : u.oneCell' = true := by
  obtain ⟨vs, h1, _⟩ := h
  obtain ⟨a, cap, h2, _⟩ := h1.slv
  rw [h2]; rfl
theorem sl_one {r : GR α} {O w u} {x : α} (h : r.v O w u x) (ha : r.agg = false) (hs : r.sz = 1) : u.oneCell' = true := by
  obtain ⟨cs, h4, h5⟩ := h
  have hl := r.len h4
  rw [hs] at hl
  match cs, hl with
  | [c], _ =>
    rw [ha] at h5; simp [packV] at h5; subst h5
    exact r.one h4 u (by simp)
theorem OwnL.rds {k : Nat} {r : GR α} {T B O w u xs} (h : OwnL k r T B O w u xs) : Rd r O w u xs := h.rd
theorem pk_nil {a : Act} : ([] : List (Nat × Operand)).map (fun p => (p.1, a.eval p.2)) = [] := rfl
theorem pk_cons {a : Act} {i : Nat} {x : Operand} {v : Value} {ps : List (Nat × Operand)} {vs : List (Nat × Value)} (h : a.eval x = v) (hs : ps.map (fun p => (p.1, a.eval p.2)) = vs) : ((i, x) :: ps).map (fun p => (p.1, a.eval p.2)) = (i, v) :: vs := by
  simp [h, hs]
theorem kspS {os : List Oper} {Φ : List SP} {a : Act} {n t j : Nat} {w : World} {v : Value} {φ : SP} (h : KnowS os Φ a n t w v) (e : lw os (fun j => Nat.blt j n) t = some j) (hΦ : Φ.getD j (.isv undef) = φ) (hg : act os (Φ.map SP.boolOf) j = true) : φ.holds w v := by
  unfold KnowS at h; rw [e] at h
  have := h.1 hg
  rw [hΦ] at this; exact this
/-- **THE REGION RULE** for a region that keeps the order of the text: the operations behind the first ones are left as a list. -/
theorem regionT {D : List Deferred} {P : Program} {Q : Exit → Act → World → Prop} {N id : Nat} {os tail : List Oper} {a : Act} {w : World} (Φ : List SP)
    (hA : a.fitD N D) (hobl : OblsS P os Φ a w 0 os Φ tail) (hok : okRegion N os = true) (hg : guardsOk os Φ = true)
    (hQ : ∀ a' w', a'.fitD N D → Ext w w' → (∀ t, KnowS os Φ a Φ.length t w' (a'.get t)) → wpList P os.toArray Q tail a' w') : (Code.region id os.toArray false).wp P Q a w := by
  obtain ⟨hl, hdrop⟩ := hobl.drop
  have hgood : Go.Eng.Good Ext os (Φ.map SP.holds) (Φ.map SP.boolOf) := by
    refine ⟨?_, ?_⟩
    · intro i w w' v hE hp
      by_cases hi : i < Φ.length
      · rw [pred_map Φ i hi] at hp ⊢; exact SP.stable _ hE hp
      · simp [pred, hi]
    · intro i o g want ho hgd w v hp
      unfold guardsOk at hg
      rw [List.all_eq_true] at hg
      have := hg o (List.mem_of_getElem? ho)
      rw [hgd] at this
      by_cases hi : g < Φ.length
      · rw [pred_map Φ g hi] at hp
        have := SP.bool_of this w v hp
        rw [this]; simp [hi]
      · simp [hi, SP.isBool, undef] at this
  have hQ' : ∀ a' w', Inv Ext N D os (Φ.map SP.holds) (Φ.map SP.boolOf) a w (fun j => Nat.blt j Φ.length) a' w' → wpOps P os.toArray Q (List.range' Φ.length (os.length - Φ.length)) a' w' := fun a' w' h => by
    have := hQ a' w' h.fit h.ext (fun t => (know_iff (Nat.le_refl _)).1 (h.know t))
    rw [← wpOps_eq_wpList tail Φ.length (fun j => by rw [← hdrop]; simp)] at this
    rwa [← hdrop, List.length_drop] at this
  refine wp_region ?_
  rw [List.range_eq_range']
  have := text_step Ext.refl (fun _ _ _ => Ext.trans) (Q := Q) hl hok hgood (fun i o hi ho => by simpa using oblsS_obls hobl (by simp) (by simp) i o hi (by simpa using ho)) hQ' Φ.length 0 (by simp) _ _ (inv_start (w' := w) (by intro j _; rw [blt_dec]; simp) hA (Ext.refl w))
  simpa using this
section ops
variable {P : Program} {a : Act} {w : World} {d : Option Tmp} {T : TypeId} {pos : String} {aft : Array Edge} {g : Option (Nat × Bool)}
theorem okl_ldr {x : Operand} {X : TypeId} (r : GR α) (hr : r.fits) {O : Tags} {y : α} {dd z sz by_} (hT : Ty P X dd z sz by_) (hd : isAggD dd = r.agg) (hs : r.sz = sz) {u : Value} (hu : a.eval x = u) (hx : (SP.ptr r O y).holds w u) {v : Value} (hv : ∀ O w u, r.v O w u y → u = v) :
    Ok P ⟨d, .load X x, T, pos, aft, g⟩ a w (SP.isv v).holds := fun K Q hK =>
  okl_ld (r := r) hr hT hd hs hu hx K Q fun v' w' hE h => hK v' w' hE (hv _ _ _ h)
end ops
end Go.Lift
