/- The engine: a rule for a region that draws its order and writes on the way. No statement of the program stands here. -/
import Derived.Test.YtbkmnghnjajdmaaLif
set_option linter.unusedVariables false
set_option linter.unusedSimpArgs false
namespace Go.Eng
open Go Go.RowKit
variable {D : List Deferred}
structure InvJ (E : World → World → Prop) (J : (Nat → Bool) → Act → World → Prop) (N : Nat) (D : List Deferred) (os : List Oper) (Φ : Preds) (cs : List Bool) (a : Act) (w : World) (S : Nat → Bool) (a' : Act) (w' : World) : Prop where
  fit : a'.fitD N D
  ext : E w w'
  know : ∀ t, Know os Φ cs a S t w' (a'.get t)
  inv : J S a' w'
def addS (S : Nat → Bool) (i : Nat) : Nat → Bool := fun j => S j || Nat.beq j i
/-- Operation i is carried out, after all that it follows and before all that follow it. -/
def OblJ (E : World → World → Prop) (J : (Nat → Bool) → Act → World → Prop) (P : Program) (os : List Oper) (Φ : Preds) (cs : List Bool) (a : Act) (w : World) (i : Nat) (o : Oper) : Prop :=
  ∀ S a' w', E w w' → J S a' w' → S i = false → (∀ k, ((bitsOf os).getD k 0).testBit i = true → S k = false) → (∀ e ∈ o.after, Region.binds .any e = true → S e.on = true) →
    (∀ t, readsT o t = true → Know os Φ cs a (fun j => Nat.blt j i) t w' (a'.get t)) → act os cs i = true →
    ∀ (K : Act → World → Prop) (Q : Exit → Act → World → Prop), (∀ v w'', E w' w'' → J (addS S i) (a'.put o.dst v) w'' → pred Φ i w'' v → K (a'.put o.dst v) w'') → o.wp P a' w' K Q

theorem invJ_put {E : World → World → Prop} {J : (Nat → Bool) → Act → World → Prop} (ht : ∀ a b c, E a b → E b c → E a c) {N : Nat} {os : List Oper} {Φ : Preds} {cs : List Bool} {a : Act} {w : World} {S : Nat → Bool} {a' : Act} {w' w'' : World}
    (hok : okRegion N os = true) (hgood : Go.Eng.Good E os Φ cs) (hI : InvJ E J N D os Φ cs a w S a' w') (hd : DownClosed os S) {i : Nat} {o : Oper} (ho : os[i]? = some o) (hi : S i = false)
    (hE : E w' w'') {v : Value} (hv : Left os Φ cs i w'' v) (hJ : J (addS S i) (a'.put o.dst v) w'') : InvJ E J N D os Φ cs a w (addS S i) (a'.put o.dst v) w'' := by
  refine ⟨fit_put hI.fit _ _, ht _ _ _ hI.ext hE, fun t => ?_, hJ⟩
  by_cases hdst : o.dst = some t
  · have hlw : lw os (addS S i) t = some i := by
      refine lwGo_put os 0 none (Nat.zero_le _) ⟨o, by simpa using ho, by simp [writes, hdst]⟩ fun j oj hj hoj hw => ?_
      simp at hoj
      have hdj : oj.dst = some t := by
        unfold writes at hw
        cases hd : oj.dst with
        | none => simp [hd] at hw
        | some d => rw [hd] at hw; exact congrArg some (Nat.eq_of_beq_eq_true hw)
      have hp := ((okRegion_spec hok hoj).2.1 t hdj).2 i o ho (by omega) (.inr hdst)
      unfold okPair at hp
      rw [Nat.max_eq_left (by omega), Nat.min_eq_right (by omega)] at hp
      cases hSj : S j with
      | false => rfl
      | true => have := before_closed hd hp hSj; rw [hi] at this; cases this
    unfold Know
    rw [hlw, hdst]
    simp only []
    rw [get_put_same hI.fit ((okRegion_spec hok ho).2.1 t hdst).1]
    exact hv
  · have hlw : lw os (addS S i) t = lw os S t := by
      refine lw_congr fun j oj hoj hw => ?_
      by_cases hji : j = i
      · subst hji
        rw [ho] at hoj; cases hoj
        unfold writes at hw
        cases hd : o.dst with
        | none => simp [hd] at hw
        | some d => rw [hd] at hw; exact absurd (by rw [hd, Nat.eq_of_beq_eq_true hw]) hdst
      · simp [addS, beq_dec, hji]
    have hget : (a'.put o.dst v).get t = a'.get t := by
      cases hd : o.dst with
      | none => rfl
      | some d => exact get_put_ne (fun e => hdst (by rw [hd, e])) v
    have hk := hI.know t
    unfold Know at hk ⊢
    rw [hlw, hget]
    cases hl : lw os S t with
    | none => rw [hl] at hk; exact hk
    | some j =>
      rw [hl] at hk
      exact ⟨fun h => hgood.stable _ _ _ _ hE (hk.on h), hk.off⟩

theorem invJ_step {E : World → World → Prop} {J : (Nat → Bool) → Act → World → Prop} (hr : ∀ w, E w w) (ht : ∀ a b c, E a b → E b c → E a c) {P : Program} {Q : Exit → Act → World → Prop} {N : Nat} {os : List Oper} {Φ : Preds} {cs : List Bool} {a : Act} {w : World} {S : Nat → Bool} {a' : Act} {w' : World}
    (hskip : ∀ (i : Nat) (o : Oper) S a' w', os[i]? = some o → o.guard ≠ none → act os cs i = false → S i = false → (∀ e ∈ o.after, Region.binds .any e = true → S e.on = true) → J S a' w' → J (addS S i) (a'.put o.dst undef) w')
    (hok : okRegion N os = true) (hgood : Go.Eng.Good E os Φ cs) (hI : InvJ E J N D os Φ cs a w S a' w') (hd : DownClosed os S) {i : Nat} {o : Oper} (ho : os[i]? = some o) (hi : S i = false)
    (hpre : ∀ e ∈ o.after, Region.binds .any e = true → S e.on = true) (hobl : OblJ E J P os Φ cs a w i o)
    (K : Act → World → Prop) (hK : ∀ a'' w'', InvJ E J N D os Φ cs a w (addS S i) a'' w'' → K a'' w'') :
    if Region.wanted o (yielded os.toArray a'.tmps) then o.wp P a' w' K Q else K (a'.put o.dst undef) w' := by
  have hdc : DownClosed os (addS S i) := by
    intro j oj e hoj he hb hj
    simp only [addS, Bool.or_eq_true] at hj ⊢
    rcases hj with hj | hj
    · exact .inl (hd j oj e hoj he hb hj)
    · obtain rfl := Nat.eq_of_beq_eq_true hj
      rw [ho] at hoj; cases hoj
      exact .inl (hpre e he hb)
  have hrun : act os cs i = true → o.wp P a' w' K Q := fun hact =>
    hobl S a' w' hI.ext hI.inv hi
      (fun k hk => by
        cases hS : S k with
        | false => rfl
        | true => have := before_closed hd hk hS; rw [hi] at this; cases this)
      hpre
      (fun t ht => by
        have := hI.know t
        unfold Know at this ⊢
        rwa [lw_at hok hd ho hi hpre (names_of_reads ht)] at this) hact K Q
      (fun v w'' hE hJ hv => hK _ _ (invJ_put ht hok hgood hI hd ho hi hE ⟨fun _ => hv, fun h => by rw [hact] at h; cases h⟩ hJ))
  have hsk : act os cs i = false → o.guard ≠ none → K (a'.put o.dst undef) w' := fun hact hg =>
    hK _ _ (invJ_put ht hok hgood hI hd ho hi (hr _) ⟨(fun h => by rw [hact] at h; cases h), fun _ => rfl⟩ (hskip i o S a' w' ho hg hact hi hpre hI.inv))
  cases hg : o.guard with
  | none =>
    have : Region.wanted o (yielded os.toArray a'.tmps) = true := by simp [Region.wanted, hg]
    rw [if_pos this]
    exact hrun (act_none ho hg)
  | some p =>
    obtain ⟨g, want⟩ := p
    obtain ⟨_, _, h3⟩ := okRegion_spec hok ho
    obtain ⟨_, og, d, hog, hdst, hlw⟩ := h3 g want hg
    have hkd := hI.know d
    unfold Know at hkd
    have hnm : d ∈ names os o := by
      unfold names
      rw [hg]
      exact List.mem_append_right _ (by simp [hog, hdst])
    rw [lw_at hok hd ho hi hpre hnm, hlw] at hkd
    simp only [] at hkd
    have hact := act_some (cs := cs) (ok_guard_lt hok) ho hg
    have hdN : d < a'.tmps.size := by rw [hI.fit.size]; exact ((okRegion_spec hok hog).2.1 d hdst).1
    have hget : a'.tmps[d]? = some (a'.get d) := by
      simp [Act.get, Array.getD_eq_getD_getElem?, Array.getElem?_eq_getElem hdN]
    have hy : yielded os.toArray a'.tmps g = (match a'.get d with | .bool b => some b | _ => none) := by
      unfold yielded
      simp only [List.getElem?_toArray, hog, Option.bind_some, hdst, hget]
      cases a'.get d <;> rfl
    cases hag : act os cs g with
    | false =>
      have h := hkd.off hag
      rw [hag] at hact
      have hw : Region.wanted o (yielded os.toArray a'.tmps) = false := by
        simp only [Region.wanted, hg, hy, h, undef]; rfl
      rw [if_neg (by rw [hw]; exact Bool.false_ne_true)]
      exact hsk (by simpa using hact) (by rw [hg]; simp)
    | true =>
      have h := hgood.guards i o g want ho hg _ _ (hkd.on hag)
      rw [hag, Bool.true_and] at hact
      have hw : Region.wanted o (yielded os.toArray a'.tmps) = act os cs i := by
        simp only [Region.wanted, hg, hy, h, hact]
        cases cs.getD g false <;> cases want <;> rfl
      rw [hw]
      cases hb : act os cs i with
      | true => rw [if_pos rfl]; exact hrun hb
      | false => rw [if_neg Bool.false_ne_true]; exact hsk hb (by rw [hg]; simp)

theorem anyJ {E : World → World → Prop} {J : (Nat → Bool) → Act → World → Prop} (hr : ∀ w, E w w) (ht : ∀ a b c, E a b → E b c → E a c) {P : Program} {Q : Exit → Act → World → Prop} {N : Nat} {os : List Oper} {Φ : Preds} {cs : List Bool} {a : Act} {w : World}
    (hskip : ∀ (i : Nat) (o : Oper) S a' w', os[i]? = some o → o.guard ≠ none → act os cs i = false → S i = false → (∀ e ∈ o.after, Region.binds .any e = true → S e.on = true) → J S a' w' → J (addS S i) (a'.put o.dst undef) w')
    (hok : okRegion N os = true) (hgood : Go.Eng.Good E os Φ cs) (hobl : ∀ i o, os[i]? = some o → OblJ E J P os Φ cs a w i o)
    (hQ : ∀ a' w', InvJ E J N D os Φ cs a w (fun j => Nat.blt j os.length) a' w' → Q .normal a' w') :
    ∀ (fuel : Nat) (listed : Array Bool), listed.size = os.length → os.length ≤ fuel + (listed.toList.countP (· = true)) → DownClosed os (fun j => listed.getD j false) → ∀ a' w', InvJ E J N D os Φ cs a w (fun j => listed.getD j false) a' w' →
      wpAny P .any os.toArray Q fuel listed a' w' := by
  have full : ∀ (fuel : Nat) (listed : Array Bool), listed.size = os.length → (∀ i, i < os.length → listed.getD i false = true) → ∀ a' w', InvJ E J N D os Φ cs a w (fun j => listed.getD j false) a' w' → wpAny P .any os.toArray Q fuel listed a' w' := by
    intro fuel listed hs hall a' w' hI
    have hnil : Region.ready .any os.toArray listed = [] := by
      unfold Region.ready
      rw [List.filter_eq_nil_iff]
      intro i hi
      have hi' : i < listed.size := by simp at hi; omega
      have hli := hall i (by omega)
      have : listed.getD i true = true := by
        simp [Array.getD_eq_getD_getElem?, hi'] at hli ⊢; exact hli
      simp [this]
    have hfun : (fun j => listed.getD j false) = (fun j => Nat.blt j os.length) := by
      funext j
      rw [blt_dec]
      by_cases h : j < os.length
      · simp only [h, decide_true]; exact hall j h
      · simp only [h, decide_false]
        rw [Array.getD_eq_getD_getElem?, Array.getElem?_eq_none (by omega)]; rfl
    have hQ' : Q .normal a' w' := hQ a' w' (by rw [hfun] at hI; exact hI)
    cases fuel with
    | zero => exact ⟨hnil, hQ'⟩
    | succ fuel => exact ⟨fun _ => hQ', fun i hi => by rw [hnil] at hi; cases hi⟩
  intro fuel
  induction fuel with
  | zero =>
    intro listed hs hc hd a' w' hI
    have hc' : listed.toList.countP (· = true) = listed.toList.length := by
      have := List.countP_le_length (p := (fun b => decide (b = true))) (l := listed.toList)
      simp only [Array.length_toList] at this ⊢; omega
    rw [List.countP_eq_length] at hc'
    refine full 0 listed hs (fun i hi => ?_) a' w' hI
    have hi' : i < listed.size := by omega
    have hli := hc' listed[i] (by simp)
    simp [Array.getD_eq_getD_getElem?, hi']; simpa using hli
  | succ fuel ih =>
    intro listed hs hc hd a' w' hI
    by_cases hall : ∀ i, i < os.length → listed.getD i false = true
    · exact full (fuel + 1) listed hs hall a' w' hI
    · have hex : ∃ i, i < os.length ∧ listed.getD i false = false ∧ ∀ j, j < i → listed.getD j false = true := by
        have key : ∀ n, (∀ j, j < n → listed.getD j false = true) ∨ ∃ i, i < n ∧ listed.getD i false = false ∧ ∀ j, j < i → listed.getD j false = true := by
          intro n
          induction n with
          | zero => exact .inl (by intro j hj; omega)
          | succ n ihn =>
            rcases ihn with h | ⟨i, h1, h2⟩
            · cases hn : listed.getD n false with
              | true => refine .inl fun j hj => ?_
                        rcases Nat.lt_or_ge j n with h' | h'
                        · exact h j h'
                        · obtain rfl : j = n := by omega
                          exact hn
              | false => exact .inr ⟨n, by omega, hn, h⟩
            · exact .inr ⟨i, by omega, h2⟩
        rcases key os.length with h | h
        · exact absurd h hall
        · exact h
      refine ⟨fun hnil => ?_, fun i hi => ?_⟩
      · exfalso
        obtain ⟨i, hlt, hif, hj⟩ := hex
        have hrm : i ∈ Region.ready .any os.toArray listed := by
          unfold Region.ready
          rw [List.mem_filter]
          refine ⟨by simpa using hlt, ?_⟩
          have hl' : listed.getD i true = false := by
            have : i < listed.size := by omega
            simp [Array.getD_eq_getD_getElem?, this] at hif ⊢; exact hif
          have ho : os[i]? = some os[i] := List.getElem?_eq_getElem hlt
          simp only [hl', Bool.not_false, Bool.true_and, List.getElem?_toArray, ho, Option.map_some, Option.getD_some]
          rw [Array.all_eq_true']
          intro e he
          cases hb : Region.binds .any e with
          | false => rfl
          | true => simp [hj e.on ((okRegion_spec hok ho).1 e he hb)]
        rw [hnil] at hrm; cases hrm
      · unfold Region.ready at hi
        rw [List.mem_filter] at hi
        obtain ⟨hlt, hi⟩ := hi
        have hlt : i < os.length := by simpa using hlt
        have ho : os[i]? = some os[i] := List.getElem?_eq_getElem hlt
        simp only [Bool.and_eq_true, Bool.not_eq_true', List.getElem?_toArray, ho, Option.map_some, Option.getD_some] at hi
        obtain ⟨hnl, hpre⟩ := hi
        have hi' : i < listed.size := by omega
        have hli : listed.getD i false = false := by
          simp [Array.getD_eq_getD_getElem?, hi'] at hnl ⊢; exact hnl
        have hpre' : ∀ e ∈ os[i].after, Region.binds .any e = true → listed.getD e.on false = true := by
          rw [Array.all_eq_true'] at hpre
          intro e he hb
          have := hpre e he
          simpa [hb] using this
        have hstep := invJ_step (Q := Q) hr ht hskip hok hgood hI hd ho hli hpre' (hobl i _ ho) (wpAny P .any os.toArray Q fuel (listed.setIfInBounds i true)) (fun a'' w'' hI' => by
          refine ih _ (by simp [hs]) ?_ ?_ a'' w'' ?_
          · have hc2 : (listed.setIfInBounds i true).toList.countP (· = true) = listed.toList.countP (· = true) + 1 := by
              rw [Array.toList_setIfInBounds, List.countP_set (by simpa using hi')]
              have : listed[i] = false := by simpa [Array.getD_eq_getD_getElem?, hi'] using hli
              simp [this]
            omega
          · intro j oj e hoj he hb hj
            simp only [getD_set_true _ _ _ hi'] at hj ⊢
            simp only [Bool.or_eq_true] at hj ⊢
            rcases hj with hj | hj
            · exact .inl (hd j oj e hoj he hb hj)
            · obtain rfl := Nat.eq_of_beq_eq_true hj
              rw [ho] at hoj; cases hoj
              exact .inl (hpre' e he hb)
          · have : (fun j => (listed.setIfInBounds i true).getD j false) = addS (fun j => listed.getD j false) i := funext fun j => getD_set_true _ _ _ hi'
            rw [this]; exact hI')
        unfold wpOp
        simp only [List.getElem?_toArray, ho]
        split at hstep
        · rename_i hw; rw [if_pos hw]; exact .inl hstep
        · rename_i hw; rw [if_neg hw]; exact hstep
/-! ### as it is used: plain values alone, and an invariant of memory -/
def KnowV (os : List Oper) (Φ : List SP) (a : Act) (n t : Nat) (w : World) (v : Value) : Prop := KnowS os Φ a n t w v
inductive OblsJ (E : World → World → Prop) (J : (Nat → Bool) → Act → World → Prop) (P : Program) (all : List Oper) (Φ : List SP) (a : Act) (w : World) : Nat → List Oper → List SP → Prop
  | nil {i} : OblsJ E J P all Φ a w i [] []
  | cons {i o os φ φs} (h : ∀ S a' w', E w w' → J S a' w' → S i = false → (∀ k, ((bitsOf all).getD k 0).testBit i = true → S k = false) → (∀ e ∈ o.after, Region.binds .any e = true → S e.on = true) →
      (∀ t, readsT o t = true → KnowS all Φ a i t w' (a'.get t)) → act all (Φ.map SP.boolOf) i = true →
      ∀ (K : Act → World → Prop) (Q : Exit → Act → World → Prop), (∀ v w'', E w' w'' → J (addS S i) (a'.put o.dst v) w'' → φ.holds w'' v → K (a'.put o.dst v) w'') → o.wp P a' w' K Q)
      (hs : OblsJ E J P all Φ a w (i + 1) os φs) : OblsJ E J P all Φ a w i (o :: os) (φ :: φs)
theorem oblsJ_len {E J P all Φ a w i os φs} (h : OblsJ E J P all Φ a w i os φs) : φs.length = os.length := by
  induction h with
  | nil => rfl
  | cons _ _ ih => simp [ih]
theorem oblsJ_obls {E J P all a w} {Φ : List SP} : ∀ {i os φs}, OblsJ E J P all Φ a w i os φs → (∀ j, φs[j]? = Φ[i + j]?) → (∀ j, os[j]? = all[i + j]?) →
    ∀ j o, j < φs.length → all[i + j]? = some o → OblJ E J P all (Φ.map SP.holds) (Φ.map SP.boolOf) a w (i + j) o
  | _, _, _, .nil, _, _ => by intro j o h; simp at h
  | i, _, _, .cons (φ := φ) h hs, hφ, hos => by
      intro j o hj ho
      cases j with
      | zero =>
        have h1 := hos 0
        simp only [List.getElem?_cons_zero, Nat.add_zero] at h1 ho
        rw [ho] at h1; cases h1
        have h0 := hφ 0
        simp only [List.getElem?_cons_zero, Nat.add_zero] at h0
        have hi : i < Φ.length := (List.getElem?_eq_some_iff.1 h0.symm).1
        have hp : pred (Φ.map SP.holds) i = φ.holds := by
          rw [pred_map Φ i hi]; simp [← h0]
        intro S a' w' hE hJ hSi hafter hpre hK hact K Q hcont
        refine h S a' w' hE hJ hSi hafter hpre (fun t ht => (know_iff (by omega)).1 (hK t ht)) hact K Q fun v w'' h1 h2 h3 => hcont v w'' h1 h2 ?_
        show pred (Φ.map SP.holds) i w'' v
        rw [hp]; exact h3
      | succ j =>
        have e : i + (j + 1) = i + 1 + j := by omega
        rw [e] at ho ⊢
        refine oblsJ_obls hs (fun j => ?_) (fun j => ?_) j o (by simpa using hj) ho
        · have := hφ (j + 1)
          simp only [List.getElem?_cons_succ] at this
          rw [this]; congr 1; omega
        · have := hos (j + 1)
          simp only [List.getElem?_cons_succ] at this
          rw [this]; congr 1; omega
/-- **THE RULE** for a region that draws its order and writes on the way: an invariant J says what has become of what is written, by the operations that are done. -/
theorem regionJ {E : World → World → Prop} (J : (Nat → Bool) → Act → World → Prop) (hr : ∀ w, E w w) (ht : ∀ a b c, E a b → E b c → E a c) (hdr : ∀ w, E w { w with drawn := w.drawn + 1 }) {P : Program} {Q : Exit → Act → World → Prop} {N id : Nat} {os : List Oper} {a : Act} {w : World} (Φ : List SP) (hm : P.follows .mixedOrders = true)
    (hA : a.fitD N D) (hst : AllSt E Φ) (hobl : OblsJ E J P os Φ a w 0 os Φ)
    (hskip : ∀ (i : Nat) (o : Oper) S a' w', os[i]? = some o → o.guard ≠ none → act os (Φ.map SP.boolOf) i = false → S i = false → (∀ e ∈ o.after, Region.binds .any e = true → S e.on = true) → J S a' w' → J (addS S i) (a'.put o.dst undef) w')
    (hstart : J (fun _ => false) a { w with drawn := w.drawn + 1 }) (hok : okRegion N os = true) (hg : guardsOk os Φ = true)
    (hQ : ∀ a' w', a'.fitD N D → E w w' → (∀ t, KnowS os Φ a Φ.length t w' (a'.get t)) → J (fun j => Nat.blt j os.length) a' w' → Q .normal a' w') : (Code.region id os.toArray true).wp P Q a w := by
  have hlen := oblsJ_len hobl
  have hgood : Go.Eng.Good E os (Φ.map SP.holds) (Φ.map SP.boolOf) := by
    refine ⟨?_, ?_⟩
    · intro i w w' v hE hp
      by_cases hi : i < Φ.length
      · rw [pred_map Φ i hi] at hp ⊢; exact hst.at i w w' v hE hp
      · simp [pred, hi]
    · intro i o g want ho hgd w v hp
      unfold guardsOk at hg
      rw [List.all_eq_true] at hg
      have := hg o (List.mem_of_getElem? ho)
      rw [hgd] at this
      by_cases hi : g < Φ.length
      · rw [pred_map Φ g hi] at hp
        have := SP.bool_of this w v hp
        rw [this]; simp [hi]
      · simp [hi, SP.isBool, undef] at this
  refine wp_region_any hm ?_
  have hfalse : (fun j => (Array.replicate os.toArray.size false).getD j false) = fun _ => false := by
    funext j
    simp [Array.getD_eq_getD_getElem?]
    by_cases hi : j < os.length <;> simp [hi]
  refine anyJ (D := D) (N := N) (a := a) (w := w) hr ht hskip hok hgood (fun i o ho => ?_) (fun a' w' hI => ?_) _ _ (by simp) ?_ ?_ _ _ ?_
  · have hi : i < os.length := (List.getElem?_eq_some_iff.1 ho).1
    have := oblsJ_obls hobl (by simp) (by simp) i o (by omega) (by simpa using ho)
    simpa using this
  · refine hQ a' w' hI.fit hI.ext (fun t => ?_) hI.inv
    have := hI.know t
    rw [← hlen] at this
    exact (know_iff (Nat.le_refl _)).1 this
  · simp
  · intro i o e _ _ _ h
    simp [Array.getD_eq_getD_getElem?] at h
    by_cases hi : i < os.length <;> simp [hi] at h
  · have h0 := inv_start (E := E) (N := N) (D := D) (os := os) (Φ := Φ.map SP.holds) (cs := Φ.map SP.boolOf) (S := fun _ => false) (fun _ _ => rfl) hA (hdr w)
    refine ⟨h0.fit, ?_, ?_, ?_⟩
    · exact h0.ext
    · rw [hfalse]; exact h0.know
    · rw [hfalse]; exact hstart
end Go.Eng
