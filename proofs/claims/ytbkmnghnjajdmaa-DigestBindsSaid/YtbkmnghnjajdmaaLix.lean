/- The engine: a rule for a region of operations that make, hand on and write what is the call's own, in whatever order. No statement of the program stands here. -/
import Derived.Test.YtbkmnghnjajdmaaLig
set_option linter.unusedVariables false
set_option linter.unusedSimpArgs false
namespace Go.Eng
open Go Go.RowKit
variable {D : List Deferred}
abbrev SP.tt : SP := .pr (fun _ _ => True) (fun _ _ _ _ h => h)
theorem stE_tt (E : World → World → Prop) : StE E SP.tt := fun _ _ _ _ h => h
theorem down_add {os : List Oper} {S : Nat → Bool} (hd : DownClosed os S) {i : Nat} {o : Oper} (ho : os[i]? = some o) (hpre : ∀ e ∈ o.after, Region.binds .any e = true → S e.on = true) : DownClosed os (addS S i) := by
  intro j oj e hoj he hb hj
  simp only [addS, Bool.or_eq_true] at hj ⊢
  rcases hj with hj | hj
  · exact .inl (hd j oj e hoj he hb hj)
  · obtain rfl := Nat.eq_of_beq_eq_true hj
    rw [ho] at hoj; cases hoj
    exact .inl (hpre e he hb)
/-- the text's order: a rule with an invariant -/
theorem textJ {E : World → World → Prop} {J : (Nat → Bool) → Act → World → Prop} (hr : ∀ w, E w w) (ht : ∀ a b c, E a b → E b c → E a c) {P : Program} {Q : Exit → Act → World → Prop} {N : Nat} {os : List Oper} {Φ : Preds} {cs : List Bool} {a : Act} {w : World}
    (hskip : ∀ (i : Nat) (o : Oper) S a' w', os[i]? = some o → o.guard ≠ none → act os cs i = false → S i = false → (∀ e ∈ o.after, Region.binds .any e = true → S e.on = true) → J S a' w' → J (addS S i) (a'.put o.dst undef) w')
    (hok : okRegion N os = true) (hgood : Go.Eng.Good E os Φ cs) (hobl : ∀ i o, os[i]? = some o → OblJ E J P os Φ cs a w i o)
    (hQ : ∀ a' w', InvJ E J N D os Φ cs a w (fun j => Nat.blt j os.length) a' w' → Q .normal a' w') :
    ∀ (n i : Nat), i + n = os.length → ∀ a' w', InvJ E J N D os Φ cs a w (fun j => Nat.blt j i) a' w' → wpOps P os.toArray Q (List.range' i n) a' w' := by
  intro n
  induction n with
  | zero =>
    intro i hi a' w' hI
    obtain rfl : i = os.length := by omega
    exact hQ a' w' hI
  | succ n ih =>
    intro i hi a' w' hI
    have hlt : i < os.length := by omega
    have ho : os[i]? = some os[i] := List.getElem?_eq_getElem hlt
    have hdc : DownClosed os (fun j => Nat.blt j i) := by
      intro j oj e hoj he hb hj
      simp only [blt_dec, decide_eq_true_eq] at hj ⊢
      have := (okRegion_spec hok hoj).1 e he hb
      omega
    have hstep := invJ_step (Q := Q) hr ht hskip hok hgood hI hdc ho (by rw [blt_dec]; simp) (fun e he hb => by
      simp only [blt_dec, decide_eq_true_eq]; exact (okRegion_spec hok ho).1 e he hb) (hobl i _ ho) (wpOps P os.toArray Q (List.range' (i + 1) n)) (fun a'' w'' hI' => by
      refine ih (i + 1) (by omega) a'' w'' ?_
      have : (fun j => Nat.blt j (i + 1)) = addS (fun j => Nat.blt j i) i := funext fun j => by
        show Nat.blt j (i + 1) = (Nat.blt j i || Nat.beq j i)
        rw [blt_dec, blt_dec, beq_dec]
        by_cases h : j < i + 1 <;> by_cases h2 : j < i <;> by_cases h3 : j = i <;> simp [h, h2, h3] <;> omega
      rw [this]; exact hI')
    rw [List.range'_succ, wpOps]
    simp only [List.getElem?_toArray, ho]
    split at hstep
    · rename_i hw; rw [if_pos hw]; exact .inl hstep
    · rename_i hw; rw [if_neg hw]; exact hstep
def TrueE : World → World → Prop := fun _ _ => True
/-- what a region's operations owe, where an invariant holds all that is known of memory -/
inductive OblsX (J : (Nat → Bool) → Act → World → Prop) (P : Program) (N : Nat) (D : List Deferred) (all : List Oper) (Φ : List SP) (a : Act) : Nat → List Oper → List SP → Prop
  | nil {i} : OblsX J P N D all Φ a i [] []
  | cons {i o os φ φs} (h : ∀ S a' w', a'.fitD N D → J S a' w' → S i = false → (∀ k, ((bitsOf all).getD k 0).testBit i = true → S k = false) → (∀ k, ((bitsOf all).getD i 0).testBit k = true → addS S i k = true) →
      (∀ t, readsT o t = true → KnowS all Φ a i t w' (a'.get t)) → act all (Φ.map SP.boolOf) i = true →
      ∀ (K : Act → World → Prop) (Q : Exit → Act → World → Prop), (∀ v w'', J (addS S i) (a'.put o.dst v) w'' → φ.holds w'' v → K (a'.put o.dst v) w'') → o.wp P a' w' K Q)
      (hs : OblsX J P N D all Φ a (i + 1) os φs) : OblsX J P N D all Φ a i (o :: os) (φ :: φs)
theorem oblsX_len {J P N a} {all : List Oper} {Φ : List SP} {i os φs} (h : OblsX J P N D all Φ a i os φs) : φs.length = os.length := by
  induction h with
  | nil => rfl
  | cons _ _ ih => simp [ih]
def JX (J : (Nat → Bool) → Act → World → Prop) (N : Nat) (D : List Deferred) (os : List Oper) : (Nat → Bool) → Act → World → Prop := fun S a w => a.fitD N D ∧ DownClosed os S ∧ J S a w
theorem oblsX_J {J : (Nat → Bool) → Act → World → Prop} {P : Program} {N : Nat} {all : List Oper} {Φ : List SP} {a : Act} {w : World} : ∀ {i os φs}, OblsX J P N D all Φ a i os φs → (∀ j, os[j]? = all[i + j]?) → OblsJ TrueE (JX J N D all) P all Φ a w i os φs
  | _, _, _, .nil, _ => .nil
  | i, o :: os, φ :: φs, .cons h hs, hos => by
      refine .cons (fun S a' w' _ hJ hSi hafter hpre hK hact K Q hcont => ?_) (oblsX_J hs fun j => ?_)
      · have ho : all[i]? = some o := by have := hos 0; simpa using this.symm
        have hd := down_add hJ.2.1 ho hpre
        refine h S a' w' hJ.1 hJ.2.2 hSi hafter (fun k hk => before_closed hd hk (by simp [addS, beq_dec])) hK hact K Q fun v w'' h1 h2 => hcont v w'' trivial ⟨fit_put hJ.1 _ _, hd, h1⟩ h2
      · have := hos (j + 1)
        simp only [List.getElem?_cons_succ] at this
        rw [this]; congr 1; omega
/-- **THE RULE**, where an invariant J holds all that is known of memory: whatever the order. -/
theorem regionX (J : (Nat → Bool) → Act → World → Prop) {P : Program} {Q : Exit → Act → World → Prop} {N id : Nat} {os : List Oper} {a : Act} {w : World} {draw : Bool} (Φ : List SP) (hm : P.follows .mixedOrders = true)
    (hA : a.fitD N D) (hst : AllSt TrueE Φ) (hobl : OblsX J P N D os Φ a 0 os Φ)
    (hskip : ∀ (i : Nat) (o : Oper) S a' w', os[i]? = some o → act os (Φ.map SP.boolOf) i = false → a'.fitD N D → S i = false → (∀ k, ((bitsOf os).getD i 0).testBit k = true → addS S i k = true) → J S a' w' → J (addS S i) (a'.put o.dst undef) w')
    (hstart : ∀ w1, Ext w w1 → J (fun _ => false) a w1) (hok : okRegion N os = true) (hg : guardsOk os Φ = true)
    (hQ : ∀ a' w', a'.fitD N D → (∀ t, KnowS os Φ a Φ.length t w' (a'.get t)) → J (fun j => Nat.blt j os.length) a' w' → Q .normal a' w') : (Code.region id os.toArray draw).wp P Q a w := by
  have hskip' : ∀ (i : Nat) (o : Oper) S a' w', os[i]? = some o → o.guard ≠ none → act os (Φ.map SP.boolOf) i = false → S i = false → (∀ e ∈ o.after, Region.binds .any e = true → S e.on = true) → JX J N D os S a' w' → JX J N D os (addS S i) (a'.put o.dst undef) w' :=
    fun i o S a' w' ho _ hact hSi hpre hJ => by
      have hd := down_add hJ.2.1 ho hpre
      exact ⟨fit_put hJ.1 _ _, hd, hskip i o S a' w' ho hact hJ.1 hSi (fun k hk => before_closed hd hk (by simp [addS, beq_dec])) hJ.2.2⟩
  have hJ := oblsX_J (w := w) hobl (by simp)
  have hd0 : DownClosed os (fun _ => false) := fun _ _ _ _ _ _ h => by cases h
  cases draw with
  | true =>
    exact regionJ (E := TrueE) (JX J N D os) (fun _ => trivial) (fun _ _ _ _ _ => trivial) (fun _ => trivial) Φ hm hA hst hJ hskip' ⟨hA, hd0, hstart _ (Ext.drawn w)⟩ hok hg
      (fun a' w' h1 _ h2 h3 => hQ a' w' h1 h2 h3.2.2)
  | false =>
    have hlen := oblsX_len hobl
    have hgood : Go.Eng.Good TrueE os (Φ.map SP.holds) (Φ.map SP.boolOf) := by
      refine ⟨?_, ?_⟩
      · intro i w w' v hE hp
        by_cases hi : i < Φ.length
        · rw [pred_map Φ i hi] at hp ⊢; exact hst.at i w w' v hE hp
        · simp [pred, hi]
      · intro i o g want ho hgd w v hp
        unfold guardsOk at hg
        rw [List.all_eq_true] at hg
        have := hg o (List.mem_of_getElem? ho)
        rw [hgd] at this
        by_cases hi : g < Φ.length
        · rw [pred_map Φ g hi] at hp
          have := SP.bool_of this w v hp
          rw [this]; simp [hi]
        · simp [hi, SP.isBool, undef] at this
    refine wp_region ?_
    have hsz : os.toArray.size = os.length := by simp
    rw [List.range_eq_range']
    have h0 := inv_start (E := TrueE) (N := N) (D := D) (os := os) (Φ := Φ.map SP.holds) (cs := Φ.map SP.boolOf) (S := fun j => Nat.blt j 0) (a := a) (w := w) (w' := w) (by intro j _; rw [blt_dec]; simp) hA trivial
    have hfun : (fun j => Nat.blt j 0) = fun _ : Nat => false := funext fun j => by rw [blt_dec]; simp
    have := textJ (E := TrueE) (J := JX J N D os) (D := D) (N := N) (a := a) (w := w) (Q := Q) (fun _ => trivial) (fun _ _ _ _ _ => trivial) hskip' hok hgood (fun i o ho => by
      have hi : i < os.length := (List.getElem?_eq_some_iff.1 ho).1
      have := oblsJ_obls hJ (by simp) (by simp) i o (by omega) (by simpa using ho)
      simpa using this) (fun a' w' hI => hQ a' w' hI.fit (fun t => by
        have := hI.know t
        rw [← hlen] at this
        exact (know_iff (Nat.le_refl _)).1 this) hI.inv.2.2) os.length 0 (by simp) a w ⟨h0.fit, h0.ext, h0.know, by rw [hfun]; exact ⟨hA, hd0, hstart w (Ext.refl w)⟩⟩
    simpa using this
theorem addS_off {S : Nat → Bool} {i j : Nat} (h : Nat.beq j i = false) (hj : addS S i j = true) : S j = true := by simpa [addS, h] using hj
theorem addS_on {S : Nat → Bool} {i j : Nat} (hj : S j = true) : addS S i j = true := by simp [addS, hj]
theorem addS_no {S : Nat → Bool} {i j : Nat} (hj : addS S i j = false) : S j = false := by
  unfold addS at hj; rw [Bool.or_eq_false_iff] at hj; exact hj.1
theorem addS_me {S : Nat → Bool} {i : Nat} (h : addS S i i = false) {p : Prop} : p := by simp [addS, beq_dec] at h
end Go.Eng
