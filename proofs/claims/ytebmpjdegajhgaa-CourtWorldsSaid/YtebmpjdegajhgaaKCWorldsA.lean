/- Lemmas behind a claim of this seat. No statement of the program stands here. -/
import Derived.Test.YtebmpjdegajhgaaRows
import Derived.ProofKit
import Derived.WalkKit
import Derived.WalkSpells
import Derived.WalkLawsBesides
import Derived.RangeFuncRecord
import Derived.RangeFuncSeq
import Derived.RangeFuncLeaves
import Derived.Sort.OwnSortedInts
import Derived.Lib.SlicesCompact
import Derived.Lib.LazyBuf
import Derived.Scope
import Derived.Laws.StructEq
import Derived.ChangeKeysEq
set_option linter.unusedSimpArgs false
set_option linter.unusedVariables false
section
namespace Go.Eng
open Go Go.RowKit
def Ext (w w' : World) : Prop := Below w.heap.size w w'
theorem Ext.refl (w : World) : Ext w w := Below.refl _ _
theorem Ext.trans {a b c : World} (h : Ext a b) (k : Ext b c) : Ext a c := Below.trans h (Below.mono k (Below.size h))
theorem Ext.drawn (w : World) : Ext w { w with drawn := w.drawn + 1 } := (Below.refl _ _).drew
theorem Ext.alloc (w : World) (o : Obj) : Ext w (w.alloc o) := (Below.refl _ _).alloc (Nat.le_refl _) o
theorem Ext.heap {w w' : World} (h : Ext w w') {b : Nat} {o : Obj} (hb : w.heap[b]? = some o) : w'.heap[b]? = some o := by
 rw [Below.block h b (Array.getElem?_eq_some_iff.1 hb).1]; exact hb
theorem Ext.cell {w w' : World} (h : Ext w w') {p : Addr} {v : Value} (hc : w.cell? p = some v) : w'.cell? p = some v := by
 unfold World.cell? at hc ⊢
 cases hb : w.heap[p.block]? with
 | none => simp [hb] at hc
 | some o => rw [Ext.heap h hb]; rw [hb] at hc; exact hc
def _root_.Go.Act.get (a : Act) (t : Nat) : Value := a.tmps.getD t undef
structure _root_.Go.Act.fitD (a : Act) (N : Nat) (D : List Deferred) : Prop where
 size : a.tmps.size = N
 defers : a.defers = D
abbrev _root_.Go.Act.fit (a : Act) (N : Nat) : Prop := a.fitD N []
variable {D : List Deferred}
theorem fit_put {a : Act} {N : Nat} (h : a.fitD N D) (d : Option Tmp) (v : Value) : (a.put d v).fitD N D := by
 cases d with
 | none => exact h
 | some d => exact ⟨by simp [Act.put, h.size], h.defers⟩
theorem get_put_same {a : Act} {N d : Nat} (h : a.fitD N D) (hd : d < N) (v : Value) : (a.put (some d) v).get d = v := by
 have := h.size
 simp [Act.put, Act.get, Array.getD_eq_getD_getElem?, this, hd]
theorem get_put_ne {a : Act} {d t : Nat} (hd : d ≠ t) (v : Value) : (a.put (some d) v).get t = a.get t := by
 simp [Act.put, Act.get, Array.getD_eq_getD_getElem?, Array.getElem?_setIfInBounds_ne hd]
def writes (o : Oper) (t : Nat) : Bool := match o.dst with | some d => Nat.beq d t | none => false
def names (os : List Oper) (o : Oper) : List Nat :=
 (o.op.operands.toList.filterMap fun | .tmp t => some t | _ => none) ++
 (match o.guard with
  | some (g, _) => ((os[g]?).bind (·.dst)).toList
  | none => [])
def readsT (o : Oper) (t : Nat) : Bool := o.op.operands.toList.any fun | .tmp u => Nat.beq u t | _ => false
def lwGo (S : Nat → Bool) (t : Nat) : Nat → List Oper → Option Nat → Option Nat
 | _, [], acc => acc
 | i, o :: os, acc => lwGo S t (i + 1) os (bif S i && writes o t then some i else acc)
def lw (os : List Oper) (S : Nat → Bool) (t : Nat) : Option Nat := lwGo S t 0 os none
def actN (os : List Oper) (cs : List Bool) : Nat → Nat → Bool
 | 0, _ => true
 | n + 1, i => match (os[i]?).bind (·.guard) with
  | none => true
  | some (g, w) => actN os cs n g && (cs.getD g false == w)
def act (os : List Oper) (cs : List Bool) (i : Nat) : Bool := actN os cs (i + 1) i
abbrev Preds := List (World → Value → Prop)
def pred (Φ : Preds) (i : Nat) : World → Value → Prop := Φ.getD i (fun _ _ => True)
structure Left (os : List Oper) (Φ : Preds) (cs : List Bool) (i : Nat) (w : World) (v : Value) : Prop where
 on : act os cs i = true → pred Φ i w v
 off : act os cs i = false → v = undef
def Know (os : List Oper) (Φ : Preds) (cs : List Bool) (a : Act) (S : Nat → Bool) (t : Nat) (w : World) (v : Value) : Prop :=
 match lw os S t with
 | none => v = a.get t
 | some i => Left os Φ cs i w v
def OkE (E : World → World → Prop) (P : Program) (o : Oper) (a : Act) (w : World) (φ : World → Value → Prop) : Prop :=
 ∀ (K : Act → World → Prop) (Q : Exit → Act → World → Prop), (∀ v w', E w w' → φ w' v → K (a.put o.dst v) w') → o.wp P a w K Q
abbrev Ok := OkE Ext
def Obl (E : World → World → Prop) (P : Program) (os : List Oper) (Φ : Preds) (cs : List Bool) (a : Act) (w : World) (i : Nat) (o : Oper) : Prop :=
 ∀ a' w', E w w' → (∀ t, readsT o t = true → Know os Φ cs a (fun j => Nat.blt j i) t w' (a'.get t)) → act os cs i = true → OkE E P o a' w' (pred Φ i)
def bitsOf (os : List Oper) : Array Nat := Region.before os.toArray
def okPair (b : Array Nat) (i j : Nat) : Bool := (b.getD (max i j) 0).testBit (min i j)
def okRegion (N : Nat) (os : List Oper) : Bool :=
 let b := bitsOf os
 let z := os.zipIdx
 (z.all fun (o, i) =>
  (o.after.all fun e => !Region.binds .any e || decide (e.on < i)) &&
  (match o.dst with | some d => decide (d < N) && z.all (fun (o', j) => !(decide (i ≠ j) && ((names os o').contains d || o'.dst == some d)) || okPair b i j) | none => true) &&
  (match o.guard with
   | none => true
   | some (g, _) => (b.getD i 0).testBit g && (((os[g]?).bind (·.dst)).any fun d => lw os (fun j => Nat.blt j i) d == some g)))
theorem lwGo_congr {S S' : Nat → Bool} {t : Nat} : ∀ (os : List Oper) (k : Nat) (acc : Option Nat), (∀ j, k ≤ j → ∀ o, os[j - k]? = some o → writes o t = true → S j = S' j) →
  lwGo S t k os acc = lwGo S' t k os acc
 | [], _, _, _ => rfl
 | o :: os, k, acc, h => by
   simp only [lwGo]
   have h0 : (S k && writes o t) = (S' k && writes o t) := by
    cases hw : writes o t with
    | false => simp
    | true => simp [h k (Nat.le_refl _) o (by simp) hw]
   rw [h0]
   exact lwGo_congr os (k + 1) _ fun j hj o' ho' hw' => h j (by omega) o' (by
    have e : j - k = (j - (k + 1)) + 1 := by omega
    rw [e]; simpa using ho') hw'
theorem lw_congr {S S' : Nat → Bool} {t : Nat} {os : List Oper} (h : ∀ j o, os[j]? = some o → writes o t = true → S j = S' j) : lw os S t = lw os S' t :=
 lwGo_congr os 0 none fun j _ o ho hw => h j o (by simpa using ho) hw
theorem lwGo_some {S : Nat → Bool} {t i : Nat} : ∀ (os : List Oper) (k : Nat) (acc : Option Nat), lwGo S t k os acc = some i →
  acc = some i ∨ (k ≤ i ∧ S i = true ∧ ∃ o, os[i - k]? = some o ∧ writes o t = true)
 | [], _, _, h => .inl h
 | o :: os, k, acc, h => by
   simp only [lwGo] at h
   rcases lwGo_some os (k + 1) _ h with h1 | ⟨h1, h2, o', h3, h4⟩
   ·cases hb : (S k && writes o t) with
    | false => rw [hb] at h1; exact .inl h1
    | true =>
     rw [hb] at h1
     obtain rfl : k = i := by simpa using h1
     simp only [Bool.and_eq_true] at hb
     exact .inr ⟨Nat.le_refl _, hb.1, o, by simp, hb.2⟩
   ·refine .inr ⟨by omega, h2, o', ?_, h4⟩
    have e : i - k = (i - (k + 1)) + 1 := by omega
    rw [e]; simpa using h3
theorem lw_some {S : Nat → Bool} {t i : Nat} {os : List Oper} (h : lw os S t = some i) : S i = true ∧ ∃ o, os[i]? = some o ∧ writes o t = true := by
 rcases lwGo_some os 0 none h with h | ⟨_, h2, h3⟩
 ·simp at h
 ·exact ⟨h2, by simpa using h3⟩
theorem lwGo_put {S : Nat → Bool} {t i : Nat} : ∀ (os : List Oper) (k : Nat) (acc : Option Nat), k ≤ i → (∃ o, os[i - k]? = some o ∧ writes o t = true) →
  (∀ j o, i < j → os[j - k]? = some o → writes o t = true → S j = false) →
  lwGo (fun j => S j || Nat.beq j i) t k os acc = some i
 | [], k, acc, hk, ⟨o, ho, _⟩, _ => by simp at ho
 | o :: os, k, acc, hk, ⟨o', ho', hw'⟩, hS => by
   simp only [lwGo]
   by_cases hki : k = i
   ·subst hki
    simp at ho'
    subst ho'
    have hb : ((S k || Nat.beq k k) && writes o t) = true := by simp [hw']
    rw [hb]
    have : lwGo (fun j => S j || Nat.beq j k) t (k + 1) os (some k) = lwGo (fun _ => false) t (k + 1) os (some k) := by
     refine lwGo_congr os (k + 1) _ fun j hj o' ho' hw' => ?_
     have h1 := hS j o' (by omega) (by
      have e : j - k = (j - (k + 1)) + 1 := by omega
      rw [e]; simpa using ho') hw'
     have h2 : Nat.beq j k = false := by
      cases hb : Nat.beq j k with
      | false => rfl
      | true => have := Nat.eq_of_beq_eq_true hb; omega
     simp [h1, h2]
    rw [show (bif true then some k else acc) = some k from rfl, this]
    have hz : ∀ (os : List Oper) (k' : Nat) (acc : Option Nat), lwGo (fun _ => false) t k' os acc = acc := by
     intro os
     induction os with
     | nil => intro _ _; rfl
     | cons _ _ ih => intro k' acc; simp [lwGo, ih]
    rw [hz]
   ·refine lwGo_put os (k + 1) _ (by omega) ⟨o', ?_, hw'⟩ fun j o'' hj ho'' hw'' => hS j o'' hj ?_ hw''
    ·have e : i - k = (i - (k + 1)) + 1 := by omega
     rw [e] at ho'; simpa using ho'
    ·have e : j - k = (j - (k + 1)) + 1 := by omega
     rw [e]; simpa using ho''
def DownClosed (os : List Oper) (S : Nat → Bool) : Prop := ∀ i o e, os[i]? = some o → e ∈ o.after → Region.binds .any e = true → S i = true → S e.on = true
theorem foldEdge_testBit (acc : Array Nat) (k : Nat) : ∀ (es : List Edge) (s : Nat),
  (es.foldl (fun s e => if Region.binds .any e then s ||| 2 ^ e.on ||| acc.getD e.on 0 else s) s).testBit k = true →
  s.testBit k = true ∨ ∃ e ∈ es, Region.binds .any e = true ∧ (e.on = k ∨ (acc.getD e.on 0).testBit k = true)
 | [], s, h => .inl h
 | e :: es, s, h => by
   rw [List.foldl_cons] at h
   rcases foldEdge_testBit acc k es _ h with h | ⟨e', he', hb, hk⟩
   ·cases hb : Region.binds .any e with
    | false => rw [hb] at h; exact .inl h
    | true =>
     rw [hb] at h
     simp only [if_true, Nat.testBit_or, Bool.or_eq_true, Nat.testBit_two_pow, decide_eq_true_eq] at h
     rcases h with (h | h) | h
     ·exact .inl h
     ·exact .inr ⟨e, by simp, hb, .inl h⟩
     ·exact .inr ⟨e, by simp, hb, .inr h⟩
   ·exact .inr ⟨e', by simp [he'], hb, hk⟩
theorem before_aux (os : List Oper) (S : Nat → Bool) (hd : DownClosed os S) : ∀ (l : List Oper) (acc : Array Nat), (∀ j, l[j]? = os[acc.size + j]?) →
  (∀ i k, (acc.getD i 0).testBit k = true → S i = true → S k = true) →
  ∀ i k, ((l.foldl (fun (acc : Array Nat) o => acc.push (o.after.foldl (fun s e => if Region.binds .any e then s ||| 2 ^ e.on ||| acc.getD e.on 0 else s) 0)) acc).getD i 0).testBit k = true → S i = true → S k = true
 | [], acc, _, ha, i, k, h, hi => ha i k h hi
 | o :: l, acc, hl, ha, i, k, h, hi => by
   rw [List.foldl_cons] at h
   refine before_aux os S hd l _ (fun j => ?_) (fun i k h hi => ?_) i k h hi
   ·have := hl (j + 1)
    simp only [List.getElem?_cons_succ] at this
    rw [this]; simp; congr 1; omega
   ·by_cases hlt : i < acc.size
    ·refine ha i k ?_ hi
     rw [Array.getD_eq_getD_getElem?, Array.getElem?_push_lt hlt] at h
     rw [Array.getD_eq_getD_getElem?, Array.getElem?_eq_getElem hlt]; exact h
    ·by_cases he : i = acc.size
     ·subst he
      rw [Array.getD_eq_getD_getElem?, Array.getElem?_push_size, Option.getD_some, ← Array.foldl_toList] at h
      rcases foldEdge_testBit acc k _ _ h with h | ⟨e, he, hb, hk⟩
      ·simp at h
      ·have hS : S e.on = true := hd acc.size o e (by have := hl 0; simpa using this.symm) (by simpa using he) hb hi
       rcases hk with rfl | hk
       ·exact hS
       ·exact ha _ _ hk hS
     ·rw [Array.getD_eq_getD_getElem?, Array.getElem?_eq_none (by simp; omega)] at h
      simp at h
theorem before_closed {os : List Oper} {S : Nat → Bool} (hd : DownClosed os S) {i k : Nat} (h : ((bitsOf os).getD i 0).testBit k = true) (hi : S i = true) : S k = true := by
 unfold bitsOf Region.before at h
 rw [← Array.foldl_toList] at h
 exact before_aux os S hd os #[] (by simp) (by simp) i k h hi
structure Inv (E : World → World → Prop) (N : Nat) (D : List Deferred) (os : List Oper) (Φ : Preds) (cs : List Bool) (a : Act) (w : World) (S : Nat → Bool) (a' : Act) (w' : World) : Prop where
 fit : a'.fitD N D
 ext : E w w'
 know : ∀ t, Know os Φ cs a S t w' (a'.get t)
 done : ∀ (i : Nat) (o : Oper), os[i]? = some o → o.dst = none → S i = true → act os cs i = true → ∃ v, pred Φ i w' v
theorem names_of_reads {os : List Oper} {o : Oper} {t : Nat} (h : readsT o t = true) : t ∈ names os o := by
 unfold readsT at h
 rw [List.any_eq_true] at h
 obtain ⟨x, hx, h⟩ := h
 cases x <;> simp at h
 rename_i u
 subst h
 exact List.mem_append_left _ (List.mem_filterMap.2 ⟨_, hx, rfl⟩)
theorem okRegion_spec {N : Nat} {os : List Oper} (h : okRegion N os = true) {i : Nat} {o : Oper} (ho : os[i]? = some o) :
  (∀ e ∈ o.after, Region.binds .any e = true → e.on < i) ∧
  (∀ d, o.dst = some d → d < N ∧ ∀ j o', os[j]? = some o' → i ≠ j → (d ∈ names os o' ∨ o'.dst = some d) → okPair (bitsOf os) i j = true) ∧
  (∀ g want, o.guard = some (g, want) → ((bitsOf os).getD i 0).testBit g = true ∧ ∃ og d, os[g]? = some og ∧ og.dst = some d ∧ lw os (fun j => Nat.blt j i) d = some g) := by
 unfold okRegion at h
 rw [List.all_eq_true] at h
 have hm : (o, i) ∈ os.zipIdx := by
  rw [List.mem_zipIdx_iff_getElem?]; simpa using ho
 have h1 := h _ hm
 simp only [Bool.and_eq_true] at h1
 obtain ⟨⟨h1, h2⟩, h3⟩ := h1
 refine ⟨?_, ?_, ?_⟩
 ·intro e he hb
  rw [Array.all_eq_true'] at h1
  have := h1 e he
  simpa [hb] using this
 ·intro d hd
  rw [hd] at h2
  simp only [Bool.and_eq_true, decide_eq_true_eq] at h2
  refine ⟨h2.1, fun j o' ho' hij hor => ?_⟩
  have h4 := h2.2
  rw [List.all_eq_true] at h4
  have hm' : (o', j) ∈ os.zipIdx := by
   rw [List.mem_zipIdx_iff_getElem?]; simpa using ho'
  have h5 := h4 _ hm'
  have h6 : (decide (i ≠ j) && ((names os o').contains d || o'.dst == some d)) = true := by
   simp [hij]
   rcases hor with h | h
   ·exact .inl h
   ·exact .inr h
  rw [h6] at h5
  simpa using h5
 ·intro g want hg
  rw [hg] at h3
  simp only [Bool.and_eq_true, Option.any_eq_true, beq_iff_eq] at h3
  obtain ⟨h3, d, hd, hlw⟩ := h3
  rw [Option.bind_eq_some_iff] at hd
  obtain ⟨og, hog, hd⟩ := hd
  exact ⟨h3, og, d, hog, hd, hlw⟩
theorem lw_at {N : Nat} {os : List Oper} (hok : okRegion N os = true) {S : Nat → Bool} (hd : DownClosed os S) {i : Nat} {o : Oper} (ho : os[i]? = some o) (hi : S i = false)
  (hpre : ∀ e ∈ o.after, Region.binds .any e = true → S e.on = true) {t : Nat} (ht : t ∈ names os o) :
  lw os S t = lw os (fun j => Nat.blt j i) t := by
 refine lw_congr fun j oj hoj hw => ?_
 have hdst : oj.dst = some t := by
  unfold writes at hw
  cases hd : oj.dst with
  | none => simp [hd] at hw
  | some d => rw [hd] at hw; exact congrArg some (Nat.eq_of_beq_eq_true hw)
 have hS' : DownClosed os (fun j => S j || Nat.beq j i) := by
  intro j oj e hoj he hb hj
  simp only [Bool.or_eq_true] at hj ⊢
  rcases hj with hj | hj
  ·exact .inl (hd j oj e hoj he hb hj)
  ·obtain rfl := Nat.eq_of_beq_eq_true hj
   rw [ho] at hoj; cases hoj
   exact .inl (hpre e he hb)
 have hb : ∀ a b : Nat, Nat.blt a b = decide (a < b) := fun a b => by
  cases h : Nat.blt a b with
  | true => simp [Nat.blt_eq] at h; simp [h]
  | false =>
        symm; simp; have h' : ¬ (Nat.blt a b = true) := by simp [h]
        rw [Nat.blt_eq] at h'; omega
 rw [hb]
 by_cases hji : j = i
 ·subst hji; simp [hi]
 have hp := ((okRegion_spec hok hoj).2.1 t hdst).2 i o ho hji (.inl ht)
 unfold okPair at hp
 by_cases hlt : j < i
 ·rw [Nat.max_eq_right (by omega), Nat.min_eq_left (by omega)] at hp
  have := before_closed hS' hp (by simp)
  simp only [Bool.or_eq_true] at this
  rcases this with h | h
  ·simp [h, hlt]
  ·have := Nat.eq_of_beq_eq_true h; omega
 ·rw [Nat.max_eq_left (by omega), Nat.min_eq_right (by omega)] at hp
  cases hSj : S j with
  | false => simp; omega
  | true => have := before_closed hd hp hSj; rw [hi] at this; cases this
theorem actN_fuel {os : List Oper} {cs : List Bool} (hdec : ∀ (i : Nat) (o : Oper) (g : Nat) (w : Bool), os[i]? = some o → o.guard = some (g, w) → g < i) : ∀ (i n m : Nat), i < n → i < m → actN os cs n i = actN os cs m i := by
 intro i
 induction i using Nat.strongRecOn with
 | _ i ih =>
  intro n m hn hm
  obtain ⟨n, rfl⟩ : ∃ k, n = k + 1 := ⟨n - 1, by omega⟩
  obtain ⟨m, rfl⟩ : ∃ k, m = k + 1 := ⟨m - 1, by omega⟩
  simp only [actN]
  cases ho : os[i]? with
  | none => rfl
  | some o =>
   cases hg : o.guard with
   | none => simp [hg]
   | some p =>
    obtain ⟨g, w⟩ := p
    have hlt := hdec i o g w ho hg
    simp only [Option.bind_some, hg]
    rw [ih g hlt n m (by omega) (by omega)]
theorem act_none {os : List Oper} {cs : List Bool} {i : Nat} {o : Oper} (ho : os[i]? = some o) (hg : o.guard = none) : act os cs i = true := by
 simp [act, actN, ho, hg]
theorem act_some {os : List Oper} {cs : List Bool} (hdec : ∀ (i : Nat) (o : Oper) (g : Nat) (w : Bool), os[i]? = some o → o.guard = some (g, w) → g < i) {i g : Nat} {w : Bool} {o : Oper} (ho : os[i]? = some o) (hg : o.guard = some (g, w)) :
  act os cs i = (act os cs g && (cs.getD g false == w)) := by
 have := hdec i o g w ho hg
 simp only [act, actN, ho, Option.bind_some, hg]
 rw [actN_fuel hdec g i (g + 1) this (by omega)]
 rfl
theorem ok_guard_lt {N : Nat} {os : List Oper} (hok : okRegion N os = true) : ∀ (i : Nat) (o : Oper) (g : Nat) (w : Bool), os[i]? = some o → o.guard = some (g, w) → g < i := by
 intro i o g w ho hg
 obtain ⟨_, _, h3⟩ := okRegion_spec hok ho
 obtain ⟨_, og, d, hog, hd, hlw⟩ := h3 g w hg
 have := (lw_some hlw).1
 rw [Nat.blt_eq] at this; exact this
structure Good (E : World → World → Prop) (os : List Oper) (Φ : Preds) (cs : List Bool) : Prop where
 stable : ∀ i w w' v, E w w' → pred Φ i w v → pred Φ i w' v
 guards : ∀ (i : Nat) (o : Oper) (g : Nat) (want : Bool), os[i]? = some o → o.guard = some (g, want) → ∀ w v, pred Φ g w v → v = .bool (cs.getD g false)
theorem blt_dec (a b : Nat) : Nat.blt a b = decide (a < b) := by
 cases h : Nat.blt a b with
 | true => simp [Nat.blt_eq] at h; simp [h]
 | false =>
  symm; simp
  have h' : ¬ (Nat.blt a b = true) := by simp [h]
  rw [Nat.blt_eq] at h'; omega
theorem beq_dec (a b : Nat) : Nat.beq a b = decide (a = b) := by
 cases h : Nat.beq a b with
 | true => simp [Nat.eq_of_beq_eq_true h]
 | false => symm; simp; intro e; subst e; simp at h
theorem inv_put {E : World → World → Prop} (ht : ∀ a b c, E a b → E b c → E a c) {N : Nat} {os : List Oper} {Φ : Preds} {cs : List Bool} {a : Act} {w : World} {S : Nat → Bool} {a' : Act} {w' w'' : World}
  (hok : okRegion N os = true) (hgood : Good E os Φ cs) (hI : Inv E N D os Φ cs a w S a' w') (hd : DownClosed os S) {i : Nat} {o : Oper} (ho : os[i]? = some o) (hi : S i = false)
  (hE : E w' w'') {v : Value} (hv : Left os Φ cs i w'' v) : Inv E N D os Φ cs a w (fun j => S j || Nat.beq j i) (a'.put o.dst v) w'' := by
 refine ⟨fit_put hI.fit _ _, ht _ _ _ hI.ext hE, fun t => ?_, fun j oj hoj hdj hSj hact => ?_⟩
 rotate_left
 ·simp only [Bool.or_eq_true] at hSj
  rcases hSj with hSj | hSj
  ·obtain ⟨u, hu⟩ := hI.done j oj hoj hdj hSj hact
   exact ⟨u, hgood.stable _ _ _ _ hE hu⟩
  ·obtain rfl := Nat.eq_of_beq_eq_true hSj
   exact ⟨v, hv.on hact⟩
 by_cases hdst : o.dst = some t
 ·have hlw : lw os (fun j => S j || Nat.beq j i) t = some i := by
   refine lwGo_put os 0 none (Nat.zero_le _) ⟨o, by simpa using ho, by simp [writes, hdst]⟩ fun j oj hj hoj hw => ?_
   simp at hoj
   have hdj : oj.dst = some t := by
    unfold writes at hw
    cases hd : oj.dst with
    | none => simp [hd] at hw
    | some d => rw [hd] at hw; exact congrArg some (Nat.eq_of_beq_eq_true hw)
   have hp := ((okRegion_spec hok hoj).2.1 t hdj).2 i o ho (by omega) (.inr hdst)
   unfold okPair at hp
   rw [Nat.max_eq_left (by omega), Nat.min_eq_right (by omega)] at hp
   cases hSj : S j with
   | false => rfl
   | true => have := before_closed hd hp hSj; rw [hi] at this; cases this
  unfold Know
  rw [hlw, hdst]
  simp only []
  rw [get_put_same hI.fit ((okRegion_spec hok ho).2.1 t hdst).1]
  exact hv
 ·have hlw : lw os (fun j => S j || Nat.beq j i) t = lw os S t := by
   refine lw_congr fun j oj hoj hw => ?_
   by_cases hji : j = i
   ·subst hji
    rw [ho] at hoj; cases hoj
    unfold writes at hw
    cases hd : o.dst with
    | none => simp [hd] at hw
    | some d => rw [hd] at hw; exact absurd (by rw [hd, Nat.eq_of_beq_eq_true hw]) hdst
   ·simp [beq_dec, hji]
  have hget : (a'.put o.dst v).get t = a'.get t := by
   cases hd : o.dst with
   | none => rfl
   | some d => exact get_put_ne (fun e => hdst (by rw [hd, e])) v
  have hk := hI.know t
  unfold Know at hk ⊢
  rw [hlw, hget]
  cases hl : lw os S t with
  | none => rw [hl] at hk; exact hk
  | some j =>
   rw [hl] at hk
   exact ⟨fun h => hgood.stable _ _ _ _ hE (hk.on h), hk.off⟩
theorem inv_step {E : World → World → Prop} (hr : ∀ w, E w w) (ht : ∀ a b c, E a b → E b c → E a c) {P : Program} {Q : Exit → Act → World → Prop} {N : Nat} {os : List Oper} {Φ : Preds} {cs : List Bool} {a : Act} {w : World} {S : Nat → Bool} {a' : Act} {w' : World}
  (hok : okRegion N os = true) (hgood : Good E os Φ cs) (hI : Inv E N D os Φ cs a w S a' w') (hd : DownClosed os S) {i : Nat} {o : Oper} (ho : os[i]? = some o) (hi : S i = false)
  (hpre : ∀ e ∈ o.after, Region.binds .any e = true → S e.on = true) (hobl : Obl E P os Φ cs a w i o)
  (K : Act → World → Prop) (hK : ∀ a'' w'', Inv E N D os Φ cs a w (fun j => S j || Nat.beq j i) a'' w'' → K a'' w'') :
  if Region.wanted o (yielded os.toArray a'.tmps) then o.wp P a' w' K Q else K (a'.put o.dst undef) w' := by
 have hrun : act os cs i = true → o.wp P a' w' K Q := fun hact =>
  hobl a' w' hI.ext (fun t ht => by
   have := hI.know t
   unfold Know at this ⊢
   rwa [lw_at hok hd ho hi hpre (names_of_reads ht)] at this) hact K Q
   (fun v w'' hE hv => hK _ _ (inv_put ht hok hgood hI hd ho hi hE ⟨fun _ => hv, fun h => by rw [hact] at h; cases h⟩))
 have hskip : act os cs i = false → K (a'.put o.dst undef) w' := fun hact =>
  hK _ _ (inv_put ht hok hgood hI hd ho hi (hr _) ⟨(fun h => by rw [hact] at h; cases h), fun _ => rfl⟩)
 cases hg : o.guard with
 | none =>
  have : Region.wanted o (yielded os.toArray a'.tmps) = true := by simp [Region.wanted, hg]
  rw [if_pos this]
  exact hrun (act_none ho hg)
 | some p =>
  obtain ⟨g, want⟩ := p
  obtain ⟨_, _, h3⟩ := okRegion_spec hok ho
  obtain ⟨_, og, d, hog, hdst, hlw⟩ := h3 g want hg
  have hkd := hI.know d
  unfold Know at hkd
  have hnm : d ∈ names os o := by
   unfold names
   rw [hg]
   exact List.mem_append_right _ (by simp [hog, hdst])
  rw [lw_at hok hd ho hi hpre hnm, hlw] at hkd
  simp only [] at hkd
  have hact := act_some (cs := cs) (ok_guard_lt hok) ho hg
  have hdN : d < a'.tmps.size := by rw [hI.fit.size]; exact ((okRegion_spec hok hog).2.1 d hdst).1
  have hget : a'.tmps[d]? = some (a'.get d) := by
   simp [Act.get, Array.getD_eq_getD_getElem?, Array.getElem?_eq_getElem hdN]
  have hy : yielded os.toArray a'.tmps g = (match a'.get d with | .bool b => some b | _ => none) := by
   unfold yielded
   simp only [List.getElem?_toArray, hog, Option.bind_some, hdst, hget]
   cases a'.get d <;> rfl
  cases hag : act os cs g with
  | false =>
   have h := hkd.off hag
   rw [hag] at hact
   have hw : Region.wanted o (yielded os.toArray a'.tmps) = false := by
    simp only [Region.wanted, hg, hy, h, undef]; rfl
   rw [if_neg (by rw [hw]; exact Bool.false_ne_true)]
   exact hskip (by simpa using hact)
  | true =>
   have h := hgood.guards i o g want ho hg _ _ (hkd.on hag)
   rw [hag, Bool.true_and] at hact
   have hw : Region.wanted o (yielded os.toArray a'.tmps) = act os cs i := by
    simp only [Region.wanted, hg, hy, h, hact]
    cases cs.getD g false <;> cases want <;> rfl
   rw [hw]
   cases hb : act os cs i with
   | true => rw [if_pos rfl]; exact hrun hb
   | false => rw [if_neg Bool.false_ne_true]; exact hskip hb
theorem getD_set_true (l : Array Bool) (i j : Nat) (hi : i < l.size) : (l.setIfInBounds i true).getD j false = (l.getD j false || Nat.beq j i) := by
 rw [beq_dec]
 by_cases h : j = i
 ·subst h; simp [Array.getD_eq_getD_getElem?, hi]
 ·simp [Array.getD_eq_getD_getElem?, Array.getElem?_setIfInBounds_ne (Ne.symm h), h]
def tailOk (os : List Oper) (m : Nat) : Bool :=
 let b := bitsOf os
 (List.range os.length).all fun k => !Nat.ble m k || (List.range k).all fun j => (b.getD k 0).testBit j
theorem tailOk_spec {os : List Oper} {m : Nat} (h : tailOk os m = true) {j k : Nat} (hk : k < os.length) (hm : m ≤ k) (hj : j < k) : ((bitsOf os).getD k 0).testBit j = true := by
 unfold tailOk at h
 simp only [List.all_eq_true, List.mem_range] at h
 have := h k hk
 have hb : Nat.ble m k = true := by rw [Nat.ble_eq]; exact hm
 simp only [hb, Bool.not_true, Bool.false_or, List.all_eq_true, List.mem_range] at this
 exact this j hj
theorem any_tail {P : Program} {Q : Exit → Act → World → Prop} {N : Nat} {os : List Oper} {m : Nat} (hok : okRegion N os = true) (ht : tailOk os m = true) :
  ∀ (n k fuel : Nat) (listed : Array Bool) (a : Act) (w : World), k + n = os.length → m ≤ k → n ≤ fuel → listed.size = os.length → (∀ j, listed.getD j false = Nat.blt j k) →
   wpOps P os.toArray Q (List.range' k n) a w → wpAny P .any os.toArray Q fuel listed a w := by
 intro n
 induction n with
 | zero =>
  intro k fuel listed a w hk hm hf hs hl h
  have hnil : Region.ready .any os.toArray listed = [] := by
   unfold Region.ready
   rw [List.filter_eq_nil_iff]
   intro i hi
   have hi' : i < listed.size := by simp at hi; omega
   have hli := hl i
   rw [blt_dec] at hli
   have : listed.getD i true = true := by
    simp [Array.getD_eq_getD_getElem?, hi'] at hli ⊢
    rw [hli, decide_eq_true_eq]; omega
   simp [this]
  have hQ : Q .normal a w := by simpa [wpOps] using h
  cases fuel with
  | zero => exact ⟨hnil, hQ⟩
  | succ fuel => exact ⟨fun _ => hQ, fun i hi => by rw [hnil] at hi; cases hi⟩
 | succ n ih =>
  intro k fuel listed a w hk hm hf hs hl h
  obtain ⟨fuel, rfl⟩ : ∃ f, fuel = f + 1 := ⟨fuel - 1, by omega⟩
  have hk' : k < os.length := by omega
  have ho : os[k]? = some os[k] := List.getElem?_eq_getElem hk'
  have hkl : k < listed.size := by omega
  have hready : k ∈ Region.ready .any os.toArray listed := by
   unfold Region.ready
   rw [List.mem_filter]
   refine ⟨by simpa using hk', ?_⟩
   have hlk := hl k
   rw [blt_dec] at hlk
   have hlt : listed.getD k true = false := by
    simp [Array.getD_eq_getD_getElem?, hkl] at hlk ⊢; exact hlk
   simp only [hlt, Bool.not_false, Bool.true_and, List.getElem?_toArray, ho, Option.map_some, Option.getD_some]
   rw [Array.all_eq_true']
   intro e he
   cases hb : Region.binds .any e with
   | false => rfl
   | true => simp only [Bool.not_true, Bool.false_or]; rw [hl, blt_dec]; simpa using (okRegion_spec hok ho).1 e he hb
  refine ⟨fun hnil => (by rw [hnil] at hready; cases hready), fun i hi => ?_⟩
  have hik : i = k := by
   unfold Region.ready at hi
   rw [List.mem_filter] at hi
   obtain ⟨hlt, hi⟩ := hi
   have hlt : i < os.length := by simpa using hlt
   have hoi : os[i]? = some os[i] := List.getElem?_eq_getElem hlt
   simp only [Bool.and_eq_true, Bool.not_eq_true', List.getElem?_toArray, hoi, Option.map_some, Option.getD_some] at hi
   obtain ⟨hnl, hpre⟩ := hi
   have hi' : i < listed.size := by omega
   have hli : listed.getD i false = false := by
    simp [Array.getD_eq_getD_getElem?, hi'] at hnl ⊢; exact hnl
   have hge : k ≤ i := by
    rw [hl, blt_dec] at hli; simpa using hli
   rcases Nat.lt_or_ge k i with hgt | hle
   ·exfalso
    have hbit := tailOk_spec ht hlt (by omega) hgt
    have hdc : DownClosed os (fun j => listed.getD j false || Nat.beq j i) := by
     intro j oj e hoj he hb hj
     simp only [Bool.or_eq_true] at hj ⊢
     rcases hj with hj | hj
     ·left
      rw [hl, blt_dec, decide_eq_true_eq] at hj ⊢
      have := (okRegion_spec hok hoj).1 e he hb
      omega
     ·obtain rfl := Nat.eq_of_beq_eq_true hj
      rw [hoi] at hoj; cases hoj
      left
      rw [Array.all_eq_true'] at hpre
      have := hpre e he
      simpa [hb] using this
    have := before_closed hdc hbit (by simp)
    simp only [Bool.or_eq_true] at this
    rcases this with h | h
    ·rw [hl, blt_dec] at h; simp at h
    ·have := Nat.eq_of_beq_eq_true h; omega
   ·omega
  subst hik
  rw [List.range'_succ, wpOps_cons] at h
  refine wpOp_mono (fun a w h => ?_) h
  refine ih (i + 1) fuel _ a w (by omega) (by omega) (by omega) (by simp [hs]) (fun j => ?_) h
  rw [getD_set_true _ _ _ hkl, hl, blt_dec, blt_dec, beq_dec]
  by_cases h : j < i + 1 <;> by_cases h2 : j < i <;> by_cases h3 : j = i <;> simp [h, h2, h3] <;> omega
theorem any_step {E : World → World → Prop} (hr : ∀ w, E w w) (ht : ∀ a b c, E a b → E b c → E a c) {P : Program} {Q : Exit → Act → World → Prop} {N : Nat} {os : List Oper} {Φ : Preds} {cs : List Bool} {a : Act} {w : World}
  {m : Nat} (hmle : m ≤ os.length) (htl : tailOk os m = true)
  (hok : okRegion N os = true) (hgood : Good E os Φ cs) (hobl : ∀ i o, i < m → os[i]? = some o → Obl E P os Φ cs a w i o)
  (hQ : ∀ a' w', Inv E N D os Φ cs a w (fun j => Nat.blt j m) a' w' → wpOps P os.toArray Q (List.range' m (os.length - m)) a' w') :
  ∀ (fuel : Nat) (listed : Array Bool), listed.size = os.length → os.length ≤ fuel + (listed.toList.countP (· = true)) → (∀ j, listed.getD j false = true → j < m) → DownClosed os (fun j => listed.getD j false) → ∀ a' w', Inv E N D os Φ cs a w (fun j => listed.getD j false) a' w' →
   wpAny P .any os.toArray Q fuel listed a' w' := by
 have full : ∀ (fuel : Nat) (listed : Array Bool), listed.size = os.length → os.length ≤ fuel + (listed.toList.countP (· = true)) → (∀ j, listed.getD j false = Nat.blt j m) →
   ∀ a' w', Inv E N D os Φ cs a w (fun j => listed.getD j false) a' w' → wpAny P .any os.toArray Q fuel listed a' w' := by
  intro fuel listed hs hc hl a' w' hI
  have hcount : listed.toList.countP (· = true) ≤ m := by
   have h1 : listed.toList = (List.range listed.size).map (fun j => Nat.blt j m) := by
    apply List.ext_getElem
    ·simp
    ·intro i h1 h2
     have := hl i
     have hi : i < listed.size := by simpa using h1
     simp [Array.getD_eq_getD_getElem?, hi] at this
     simp [this]
   rw [h1, List.countP_map]
   have : ∀ n : Nat, (List.range n).countP ((fun b => decide (b = true)) ∘ fun j => Nat.blt j m) ≤ m := by
    intro n
    have h2 : ∀ n : Nat, (List.range n).countP ((fun b => decide (b = true)) ∘ fun j => Nat.blt j m) = min n m := by
     intro n
     induction n with
     | zero => simp
     | succ n ih =>
      rw [List.range_succ, List.countP_append, ih]
      simp only [List.countP_cons, List.countP_nil, Function.comp, blt_dec]
      by_cases h : n < m <;> simp [h] <;> omega
    rw [h2]; omega
   exact this _
  refine any_tail hok htl (os.length - m) m fuel listed a' w' (by omega) (Nat.le_refl _) (by omega) hs hl (hQ a' w' ?_)
  have : (fun j => listed.getD j false) = (fun j => Nat.blt j m) := funext hl
  rwa [this] at hI
 have pre_full : ∀ (listed : Array Bool), (∀ j, listed.getD j false = true → j < m) → (∀ i, i < m → listed.getD i false = true) → ∀ j, listed.getD j false = Nat.blt j m := by
  intro listed h1 h2 j
  rw [blt_dec]
  by_cases h : j < m
  ·simp [h, h2 j h]
  ·cases hl : listed.getD j false with
   | false => simp [h]
   | true => exact absurd (h1 j hl) h
 intro fuel
 induction fuel with
 | zero =>
  intro listed hs hc hm hd a' w' hI
  have hc' : listed.toList.countP (· = true) = listed.toList.length := by
   have := List.countP_le_length (p := (fun b => decide (b = true))) (l := listed.toList)
   simp only [Array.length_toList] at this ⊢; omega
  rw [List.countP_eq_length] at hc'
  refine full 0 listed hs hc (pre_full listed hm fun i hi => ?_) a' w' hI
  have hi' : i < listed.size := by omega
  have hli := hc' listed[i] (by simp)
  simp [Array.getD_eq_getD_getElem?, hi']; simpa using hli
 | succ fuel ih =>
  intro listed hs hc hm hd a' w' hI
  by_cases hall : ∀ i, i < m → listed.getD i false = true
  ·exact full (fuel + 1) listed hs hc (pre_full listed hm hall) a' w' hI
  ·have hex : ∃ i, i < m ∧ listed.getD i false = false ∧ ∀ j, j < i → listed.getD j false = true := by
    have key : ∀ n, (∀ j, j < n → listed.getD j false = true) ∨ ∃ i, i < n ∧ listed.getD i false = false ∧ ∀ j, j < i → listed.getD j false = true := by
     intro n
     induction n with
     | zero => exact .inl (by intro j hj; omega)
     | succ n ihn =>
      rcases ihn with h | ⟨i, h1, h2⟩
      ·cases hn : listed.getD n false with
       | true =>
            refine .inl fun j hj => ?_
            rcases Nat.lt_or_ge j n with h' | h'
            ·exact h j h'
            ·obtain rfl : j = n := by omega
             exact hn
       | false => exact .inr ⟨n, by omega, hn, h⟩
      ·exact .inr ⟨i, by omega, h2⟩
    rcases key m with h | h
    ·exact absurd h hall
    ·exact h
   refine ⟨fun hnil => ?_, fun i hi => ?_⟩
   ·exfalso
    obtain ⟨i, him, hif, hj⟩ := hex
    have hlt : i < os.length := by omega
    have hrm : i ∈ Region.ready .any os.toArray listed := by
     unfold Region.ready
     rw [List.mem_filter]
     refine ⟨by simpa using hlt, ?_⟩
     have hl' : listed.getD i true = false := by
      have : i < listed.size := by omega
      simp [Array.getD_eq_getD_getElem?, this] at hif ⊢; exact hif
     have ho : os[i]? = some os[i] := List.getElem?_eq_getElem hlt
     simp only [hl', Bool.not_false, Bool.true_and, List.getElem?_toArray, ho, Option.map_some, Option.getD_some]
     rw [Array.all_eq_true']
     intro e he
     cases hb : Region.binds .any e with
     | false => rfl
     | true => simp [hj e.on ((okRegion_spec hok ho).1 e he hb)]
    rw [hnil] at hrm; cases hrm
   ·unfold Region.ready at hi
    rw [List.mem_filter] at hi
    obtain ⟨hlt, hi⟩ := hi
    have hlt : i < os.length := by simpa using hlt
    have ho : os[i]? = some os[i] := List.getElem?_eq_getElem hlt
    simp only [Bool.and_eq_true, Bool.not_eq_true', List.getElem?_toArray, ho, Option.map_some, Option.getD_some] at hi
    obtain ⟨hnl, hpre⟩ := hi
    have hi' : i < listed.size := by omega
    have hli : listed.getD i false = false := by
     simp [Array.getD_eq_getD_getElem?, hi'] at hnl ⊢; exact hnl
    have hpre' : ∀ e ∈ os[i].after, Region.binds .any e = true → listed.getD e.on false = true := by
     rw [Array.all_eq_true'] at hpre
     intro e he hb
     have := hpre e he
     simpa [hb] using this
    have him : i < m := by
     rcases Nat.lt_or_ge i m with h | h
     ·exact h
     ·exfalso
      refine hall fun j hj => ?_
      have hbit := tailOk_spec htl hlt h (show j < i by omega)
      have hdc : DownClosed os (fun j => listed.getD j false || Nat.beq j i) := by
       intro j oj e hoj he hb hj
       simp only [Bool.or_eq_true] at hj ⊢
       rcases hj with hj | hj
       ·exact .inl (hd j oj e hoj he hb hj)
       ·obtain rfl := Nat.eq_of_beq_eq_true hj
        rw [ho] at hoj; cases hoj
        exact .inl (hpre' e he hb)
      have := before_closed hdc hbit (by simp)
      simp only [Bool.or_eq_true] at this
      rcases this with h' | h'
      ·exact h'
      ·have := Nat.eq_of_beq_eq_true h'; omega
    have hstep := inv_step (Q := Q) hr ht hok hgood hI hd ho hli hpre' (hobl i _ him ho) (wpAny P .any os.toArray Q fuel (listed.setIfInBounds i true)) (fun a'' w'' hI' => by
     refine ih _ (by simp [hs]) ?_ ?_ ?_ a'' w'' ?_
     ·have hc2 : (listed.setIfInBounds i true).toList.countP (· = true) = listed.toList.countP (· = true) + 1 := by
       rw [Array.toList_setIfInBounds, List.countP_set (by simpa using hi')]
       have : listed[i] = false := by simpa [Array.getD_eq_getD_getElem?, hi'] using hli
       simp [this]
      omega
     ·intro j hj
      rw [getD_set_true _ _ _ hi', Bool.or_eq_true] at hj
      rcases hj with hj | hj
      ·exact hm j hj
      ·have := Nat.eq_of_beq_eq_true hj; omega
     ·intro j oj e hoj he hb hj
      simp only [getD_set_true _ _ _ hi'] at hj ⊢
      simp only [Bool.or_eq_true] at hj ⊢
      rcases hj with hj | hj
      ·exact .inl (hd j oj e hoj he hb hj)
      ·obtain rfl := Nat.eq_of_beq_eq_true hj
       rw [ho] at hoj; cases hoj
       exact .inl (hpre' e he hb)
     ·have : (fun j => (listed.setIfInBounds i true).getD j false) = (fun j => listed.getD j false || Nat.beq j i) := funext fun j => getD_set_true _ _ _ hi'
      rw [this]; exact hI')
    unfold wpOp
    simp only [List.getElem?_toArray, ho]
    split at hstep
    ·rename_i hw; rw [if_pos hw]; exact .inl hstep
    ·rename_i hw; rw [if_neg hw]; exact hstep
theorem text_step {E : World → World → Prop} (hr : ∀ w, E w w) (ht : ∀ a b c, E a b → E b c → E a c) {P : Program} {Q : Exit → Act → World → Prop} {N : Nat} {os : List Oper} {Φ : Preds} {cs : List Bool} {a : Act} {w : World}
  {m : Nat} (hmle : m ≤ os.length)
  (hok : okRegion N os = true) (hgood : Good E os Φ cs) (hobl : ∀ i o, i < m → os[i]? = some o → Obl E P os Φ cs a w i o)
  (hQ : ∀ a' w', Inv E N D os Φ cs a w (fun j => Nat.blt j m) a' w' → wpOps P os.toArray Q (List.range' m (os.length - m)) a' w') :
  ∀ (n i : Nat), i + n = m → ∀ a' w', Inv E N D os Φ cs a w (fun j => Nat.blt j i) a' w' → wpOps P os.toArray Q (List.range' i (os.length - i)) a' w' := by
 intro n
 induction n with
 | zero =>
  intro i hi a' w' hI
  obtain rfl : i = m := by omega
  exact hQ a' w' hI
 | succ n ih =>
  intro i hi a' w' hI
  have hlt : i < os.length := by omega
  have ho : os[i]? = some os[i] := List.getElem?_eq_getElem hlt
  have hdc : DownClosed os (fun j => Nat.blt j i) := by
   intro j oj e hoj he hb hj
   simp only [blt_dec, decide_eq_true_eq] at hj ⊢
   have := (okRegion_spec hok hoj).1 e he hb
   omega
  have hstep := inv_step (Q := Q) hr ht hok hgood hI hdc ho (by rw [blt_dec]; simp) (fun e he hb => by
   simp only [blt_dec, decide_eq_true_eq]; exact (okRegion_spec hok ho).1 e he hb) (hobl i _ (by omega) ho) (wpOps P os.toArray Q (List.range' (i + 1) (os.length - (i + 1)))) (fun a'' w'' hI' => by
   refine ih (i + 1) (by omega) a'' w'' ?_
   have : (fun j => Nat.blt j (i + 1)) = (fun j => Nat.blt j i || Nat.beq j i) := funext fun j => by
    rw [blt_dec, blt_dec, beq_dec]
    by_cases h : j < i + 1 <;> by_cases h2 : j < i <;> by_cases h3 : j = i <;> simp [h, h2, h3] <;> omega
   rw [this]; exact hI')
  rw [show os.length - i = (os.length - (i + 1)) + 1 by omega, List.range'_succ, wpOps]
  simp only [List.getElem?_toArray, ho]
  split at hstep
  ·rename_i hw; rw [if_pos hw]; exact .inl hstep
  ·rename_i hw; rw [if_neg hw]; exact hstep
theorem inv_start {E : World → World → Prop} {N : Nat} {os : List Oper} {Φ : Preds} {cs : List Bool} {a : Act} {w w' : World} {S : Nat → Bool} (hS : ∀ j, j < os.length → S j = false) (hA : a.fitD N D) (hE : E w w') : Inv E N D os Φ cs a w S a w' := by
 refine ⟨hA, hE, fun t => ?_, fun i o ho _ hSi _ => by rw [hS i (List.getElem?_eq_some_iff.1 ho).1] at hSi; cases hSi⟩
 have : lw os S t = none := by
  rw [lw_congr (S' := fun _ => false) fun j o ho _ => hS j (List.getElem?_eq_some_iff.1 ho).1]
  cases h : lw os (fun _ => false) t with
  | none => rfl
  | some i => exact absurd (lw_some h).1 (by simp)
 unfold Know
 rw [this]
theorem region_E {E : World → World → Prop} (hr : ∀ w, E w w) (ht : ∀ a b c, E a b → E b c → E a c) (hdr : ∀ w, E w { w with drawn := w.drawn + 1 })
  {P : Program} {Q : Exit → Act → World → Prop} {N id m : Nat} {os tail : List Oper} {draw : Bool} {Φ : Preds} {cs : List Bool} {a : Act} {w : World} (hm : P.follows .mixedOrders = true)
  (hA : a.fitD N D) (hok : okRegion N os = true) (htl : tailOk os m = true) (hmle : m ≤ os.length) (htail : os.drop m = tail) (hgood : Good E os Φ cs) (hobl : ∀ i o, i < m → os[i]? = some o → Obl E P os Φ cs a w i o)
  (hQ : ∀ a' w', a'.fitD N D → E w w' → (∀ t, Know os Φ cs a (fun j => Nat.blt j m) t w' (a'.get t)) → (∀ (i : Nat) (o : Oper), os[i]? = some o → o.dst = none → i < m → act os cs i = true → ∃ v, pred Φ i w' v) → wpList P os.toArray Q tail a' w') : (Code.region id os.toArray draw).wp P Q a w := by
 have hQ' : ∀ a' w', Inv E N D os Φ cs a w (fun j => Nat.blt j m) a' w' → wpOps P os.toArray Q (List.range' m (os.length - m)) a' w' := fun a' w' h => by
  have := hQ a' w' h.fit h.ext h.know (fun i o ho hd hi hact => h.done i o ho hd (by rw [blt_dec]; simp [hi]) hact)
  rw [← wpOps_eq_wpList tail m (fun j => by rw [← htail]; simp)] at this
  rwa [← htail, List.length_drop] at this
 cases draw with
 | true =>
  refine wp_region_any hm ?_
  refine any_step hr ht hmle htl hok hgood hobl hQ' _ _ (by simp) ?_ ?_ ?_ _ _ (inv_start ?_ hA (hdr w))
  ·simp
  ·intro j h
   simp [Array.getD_eq_getD_getElem?] at h
   by_cases hi : j < os.length <;> simp [hi] at h
  ·intro i o e _ _ _ h
   simp [Array.getD_eq_getD_getElem?] at h
   by_cases hi : i < os.length <;> simp [hi] at h
  ·intro j hj; simp [Array.getD_eq_getD_getElem?, hj]
 | false =>
  refine wp_region ?_
  rw [List.range_eq_range']
  have := text_step hr ht (Q := Q) hmle hok hgood hobl hQ' m 0 (by simp) _ _ (inv_start (w' := w) (by intro j _; rw [blt_dec]; simp) hA (hr w))
  simpa using this
end Go.Eng
end
section
namespace Go.Eng
open Go Go.RowKit
inductive SP where
 | isv (v : Value)
 | pr (p : World → Value → Prop) (st : ∀ w w' v, Ext w w' → p w v → p w' v)
def SP.holds : SP → World → Value → Prop
 | .isv v, _, u => u = v
 | .pr p _, w, u => p w u
def SP.boolOf : SP → Bool
 | .isv (.bool b) => b
 | _ => false
def SP.isBool : SP → Bool
 | .isv (.bool _) => true
 | _ => false
theorem SP.stable (s : SP) {w w' : World} {v : Value} (h : Ext w w') (hs : s.holds w v) : s.holds w' v := by
 cases s with
 | isv v => exact hs
 | pr p st => exact st _ _ _ h hs
theorem SP.bool_of {s : SP} (h : s.isBool = true) : ∀ w v, s.holds w v → v = .bool s.boolOf := by
 intro w v hv
 cases s with
 | isv u => cases u <;> first | (cases h; done) | exact hv
 | pr p st => cases h
def guardsOk (os : List Oper) (Φ : List SP) : Bool := os.all fun o => match o.guard with | none => true | some (g, _) => (Φ.getD g (.isv undef)).isBool
def KnowS (os : List Oper) (Φ : List SP) (a : Act) (n t : Nat) (w : World) (v : Value) : Prop :=
 match lw os (fun j => Nat.blt j n) t with
 | none => v = a.get t
 | some i => (act os (Φ.map SP.boolOf) i = true → (Φ.getD i (.isv undef)).holds w v) ∧ (act os (Φ.map SP.boolOf) i = false → v = undef)
def OblS (P : Program) (os : List Oper) (Φ : List SP) (a : Act) (w : World) (i : Nat) (o : Oper) (φ : SP) : Prop :=
 ∀ a' w', Ext w w' → (∀ t, readsT o t = true → KnowS os Φ a i t w' (a'.get t)) → act os (Φ.map SP.boolOf) i = true → Ok P o a' w' φ.holds
inductive OblsS (P : Program) (all : List Oper) (Φ : List SP) (a : Act) (w : World) : Nat → List Oper → List SP → List Oper → Prop
 | nil {i os} : OblsS P all Φ a w i os [] os
 | cons {i o os φ φs tl} (h : OblS P all Φ a w i o φ) (hs : OblsS P all Φ a w (i + 1) os φs tl) : OblsS P all Φ a w i (o :: os) (φ :: φs) tl
theorem pred_map (Φ : List SP) (i : Nat) (hi : i < Φ.length) : pred (Φ.map SP.holds) i = (Φ.getD i (.isv undef)).holds := by
 simp [pred, hi]
theorem OblsS.drop {P all Φ a w i os φs tl} (h : OblsS P all Φ a w i os φs tl) : φs.length ≤ os.length ∧ os.drop φs.length = tl := by
 induction h with
 | nil => simp
 | cons _ _ ih => simp [ih]
theorem know_iff {os : List Oper} {Φ : List SP} {a : Act} {n t : Nat} (hn : n ≤ Φ.length) {w : World} {v : Value} :
  Know os (Φ.map SP.holds) (Φ.map SP.boolOf) a (fun j => Nat.blt j n) t w v ↔ KnowS os Φ a n t w v := by
 unfold Know KnowS
 cases h : lw os (fun j => Nat.blt j n) t with
 | none => rfl
 | some i =>
  have hi := (lw_some h).1
  rw [blt_dec, decide_eq_true_eq] at hi
  have hi : i < Φ.length := by omega
  simp only []
  constructor
  ·intro h; exact ⟨fun h' => by have := h.on h'; rwa [pred_map Φ i hi] at this, h.off⟩
  ·intro h; exact ⟨fun h' => by rw [pred_map Φ i hi]; exact h.1 h', h.2⟩
theorem oblsS_obls {P all a w} {Φ : List SP} : ∀ {i os φs tl}, OblsS P all Φ a w i os φs tl → (∀ j, φs[j]? = Φ[i + j]?) → (∀ j, os[j]? = all[i + j]?) →
  ∀ j o, j < φs.length → all[i + j]? = some o → Obl Ext P all (Φ.map SP.holds) (Φ.map SP.boolOf) a w (i + j) o
 | _, _, _, _, .nil, _, _ => by intro j o h; simp at h
 | i, _, _, _, .cons (φ := φ) h hs, hφ, hos => by
   intro j o hj ho
   cases j with
   | zero =>
    have h1 := hos 0
    simp only [List.getElem?_cons_zero, Nat.add_zero] at h1 ho
    rw [ho] at h1; cases h1
    have h0 := hφ 0
    simp only [List.getElem?_cons_zero, Nat.add_zero] at h0
    have hi : i < Φ.length := (List.getElem?_eq_some_iff.1 h0.symm).1
    have hp : pred (Φ.map SP.holds) i = φ.holds := by
     rw [pred_map Φ i hi]; simp [← h0]
    intro a' w' hE hK hact
    show Ok P _ a' w' (pred (Φ.map SP.holds) i)
    rw [hp]
    exact h a' w' hE (fun t ht => (know_iff (by omega)).1 (hK t ht)) hact
   | succ j =>
    have e : i + (j + 1) = i + 1 + j := by omega
    rw [e] at ho ⊢
    refine oblsS_obls hs (fun j => ?_) (fun j => ?_) j o (by simpa using hj) ho
    ·have := hφ (j + 1)
     simp only [List.getElem?_cons_succ] at this
     rw [this]; congr 1; omega
    ·have := hos (j + 1)
     simp only [List.getElem?_cons_succ] at this
     rw [this]; congr 1; omega
theorem region {D : List Deferred} {P : Program} {Q : Exit → Act → World → Prop} {N id : Nat} {os tail : List Oper} {draw : Bool} {a : Act} {w : World} (Φ : List SP) (hm : P.follows .mixedOrders = true)
  (hA : a.fitD N D) (hobl : OblsS P os Φ a w 0 os Φ tail) (hok : (okRegion N os && tailOk os Φ.length) = true) (hg : guardsOk os Φ = true)
  (hQ : ∀ a' w', a'.fitD N D → Ext w w' → (∀ t, KnowS os Φ a Φ.length t w' (a'.get t)) → wpList P os.toArray Q tail a' w') : (Code.region id os.toArray draw).wp P Q a w := by
 obtain ⟨hl, hdrop⟩ := hobl.drop
 rw [Bool.and_eq_true] at hok
 refine region_E (E := Ext) (m := Φ.length) Ext.refl (fun _ _ _ => Ext.trans) Ext.drawn (Φ := Φ.map SP.holds) (cs := Φ.map SP.boolOf) hm hA hok.1 hok.2 hl hdrop ⟨?_, ?_⟩ (fun i o hi ho => by simpa using oblsS_obls hobl (by simp) (by simp) i o hi (by simpa using ho)) (fun a' w' h1 h2 h3 _ => hQ a' w' h1 h2 fun t => (know_iff (Nat.le_refl _)).1 (h3 t))
 ·intro i w w' v hE hp
  by_cases hi : i < Φ.length
  ·rw [pred_map Φ i hi] at hp ⊢; exact SP.stable _ hE hp
  ·simp [pred, hi]
 ·intro i o g want ho hgd w v hp
  unfold guardsOk at hg
  rw [List.all_eq_true] at hg
  have := hg o (List.mem_of_getElem? ho)
  rw [hgd] at this
  by_cases hi : g < Φ.length
  ·rw [pred_map Φ g hi] at hp
   have := SP.bool_of this w v hp
   rw [this]; simp [hi]
  ·simp [hi, SP.isBool, undef] at this
structure Ty (P : Program) (T : TypeId) (d : TypeDesc) (z : Value) (size bytes : Nat) : Prop where
 u : P.underlying T = some d
 i : (P.info? T).map (fun i => (i.zero, i.size, i.bytes)) = some (some z, size, bytes)
theorem Ty.info {P T d z size bytes} (h : Ty P T d z size bytes) : ∃ i, P.info? T = some i ∧ i.zero = some z ∧ i.size = size ∧ i.bytes = bytes := by
 have := h.i
 cases hi : P.info? T with
 | none => simp [hi] at this
 | some i => simp [hi] at this; exact ⟨i, rfl, this.1, this.2.1, this.2.2⟩
theorem Ty.run_u {P T d z size bytes} (h : Ty P T d z size bytes) (w : World) : (underlying T).run P w = .ok d w := by
 simp [underlying, h.u]
theorem Ty.run_size {P T d z size bytes} (h : Ty P T d z size bytes) (w : World) : (sizeOf T).run P w = .ok size w := by
 obtain ⟨i, h1, h2, h3, h4⟩ := h.info
 simp [sizeOf, typeInfo, h1, h3]
theorem Ty.run_zero {P T d z size bytes} (h : Ty P T d z size bytes) (w : World) : (zeroValue T).run P w = .ok z w := by
 obtain ⟨i, h1, h2, h3, h4⟩ := h.info
 simp [zeroValue, typeInfo, h1, h2]
def isAggD : TypeDesc → Bool
 | .struct _ | .array _ _ => true
 | _ => false
theorem Ty.run_agg {P T d z size bytes} (h : Ty P T d z size bytes) (w : World) : (isAgg T).run P w = .ok (isAggD d) w := by
 simp only [isAgg, Sem.run_bind, h.run_u, Result.andThen]
 cases d <;> rfl
def SlV (w : World) (E : Nat) (u : Value) (xs : List Value) : Prop :=
 ∃ a cap, u = .slice a xs.length cap ∧ xs.length ≤ cap ∧ (∀ x ∈ xs, x.cells.size = E) ∧
  (xs = [] ∨ ∃ b off, a = some ⟨b, off, none⟩ ∧ ∀ (i : Nat) (x : Value), xs[i]? = some x → ∀ j, j < E → w.cell? ⟨b, off + (i * E + j), none⟩ = x.cells[j]?)
def PtrTo (w : World) (u : Value) (x : Value) : Prop :=
 ∃ b off, u = .pointer (some ⟨b, off, none⟩) ∧ ∀ j, j < x.cells.size → w.cell? ⟨b, off + j, none⟩ = x.cells[j]?
def Own (w : World) (b : Nat) (cs : Array Value) (T : TypeId) : Prop := ∃ fr : Nat × Nat, w.heap[b]? = some (.cells cs T fr) ∧ ∀ o, o < cs.size → (decide (fr.1 ≤ o) && decide (o < fr.2)) = false
theorem SlV.ext {w w' : World} {E : Nat} {u : Value} {xs : List Value} (h : SlV w E u xs) (hE : Ext w w') : SlV w' E u xs := by
 obtain ⟨a, cap, h1, h2, h3, h4⟩ := h
 refine ⟨a, cap, h1, h2, h3, h4.imp id ?_⟩
 rintro ⟨b, off, ha, hc⟩
 refine ⟨b, off, ha, fun i x hx j hj => ?_⟩
 have := hc i x hx j hj
 have hlt : j < x.cells.size := by rw [h3 x (List.mem_of_getElem? hx)]; exact hj
 rw [Array.getElem?_eq_getElem hlt] at this ⊢
 exact hE.cell this
theorem PtrTo.ext {w w' : World} {u x : Value} (h : PtrTo w u x) (hE : Ext w w') : PtrTo w' u x := by
 obtain ⟨b, off, h1, h2⟩ := h
 refine ⟨b, off, h1, fun j hj => ?_⟩
 have := h2 j hj
 rw [Array.getElem?_eq_getElem hj] at this ⊢
 exact hE.cell this
theorem Own.ext {w w' : World} {b : Nat} {cs : Array Value} {T : TypeId} (h : Own w b cs T) (hE : Ext w w') : Own w' b cs T := by
 obtain ⟨fr, h, hf⟩ := h
 exact ⟨fr, hE.heap h, hf⟩
theorem Own.cell {w : World} {b : Nat} {cs : Array Value} {T : TypeId} (h : Own w b cs T) (off : Nat) : w.cell? ⟨b, off, none⟩ = cs[off]? := by
 obtain ⟨fr, h, hf⟩ := h
 unfold World.cell?; rw [h]; rfl
theorem Own.frozen {w : World} {b : Nat} {cs : Array Value} {T : TypeId} (h : Own w b cs T) (off : Nat) (ho : off < cs.size) : w.frozen? ⟨b, off, none⟩ = false := by
 obtain ⟨fr, h, hf⟩ := h
 unfold World.frozen?; rw [h]; exact hf off ho
theorem Own.lt {w : World} {b : Nat} {cs : Array Value} {T : TypeId} (h : Own w b cs T) : b < w.heap.size := by
 obtain ⟨fr, h, hf⟩ := h
 exact (Array.getElem?_eq_some_iff.1 h).1
theorem Own.new (w : World) (cs : Array Value) (T : TypeId) : Own (w.alloc (.cells cs T)) w.heap.size cs T := by
 refine ⟨(0, 0), ?_, ?_⟩
 ·unfold World.alloc; simp
 ·intro o _; simp
theorem Own.set {w : World} {b : Nat} {cs : Array Value} {T : TypeId} (h : Own w b cs T) (off : Nat) (v : Value) : Own (w.setCell ⟨b, off, none⟩ v) b (cs.setIfInBounds off v) T := by
 obtain ⟨⟨lo, hi⟩, h, hf⟩ := h
 refine ⟨(lo, hi), ?_, fun o ho => hf o (by simpa using ho)⟩
 unfold World.setCell
 simp [Array.getElem?_modify, h]
abbrev SP.pt (x : Value) : SP := .pr (fun w u => PtrTo w u x) (fun _ _ _ hE h => h.ext hE)
abbrev SP.box (L : Nat) (cs : Array Value) (T : TypeId) : SP := .pr (fun w u => ∃ b, L ≤ b ∧ u = .pointer (some ⟨b, 0, none⟩) ∧ Own w b cs T) (fun _ _ _ hE ⟨b, h0, h1, h2⟩ => ⟨b, h0, h1, h2.ext hE⟩)
section ops
variable {P : Program} {a : Act} {w : World} {d : Option Tmp} {T : TypeId} {pos : String} {aft : Array Edge} {g : Option (Nat × Bool)}
theorem ok_run {o : Oper} {v : Value} {w' : World} {φ : World → Value → Prop} (h : (execOp a.eval o).run P w = .ok (.value v) w') (hE : Ext w w') (hφ : φ w' v) : Ok P o a w φ :=
 fun K Q hK => by unfold Oper.wp; rw [h]; exact hK v w' hE hφ
theorem ok_pure {o : Oper} {v : Value} (h : (execOp a.eval o).run P w = .ok (.value v) w) : Ok P o a w (SP.isv v).holds := ok_run h (Ext.refl w) rfl
theorem ok_move {x : Operand} {v : Value} (hx : a.eval x = v) : Ok P ⟨d, .move x, T, pos, aft, g⟩ a w (SP.isv v).holds := ok_pure (by simp [execOp, hx])
theorem ok_move_pr {x : Operand} {φ : SP} (hx : φ.holds w (a.eval x)) : Ok P ⟨d, .move x, T, pos, aft, g⟩ a w φ.holds := ok_run (v := a.eval x) (by simp [execOp]) (Ext.refl w) hx
theorem ok_assign {x : Operand} {v : Value} (hx : a.eval x = v) : Ok P ⟨d, .assign x, T, pos, aft, g⟩ a w (SP.isv v).holds := ok_pure (by simp [execOp, hx])
theorem ok_assign_pr {x : Operand} {φ : SP} (hx : φ.holds w (a.eval x)) : Ok P ⟨d, .assign x, T, pos, aft, g⟩ a w φ.holds := ok_run (v := a.eval x) (by simp [execOp]) (Ext.refl w) hx
theorem ok_pick {c x y : Operand} {b p q : Bool} (hc : a.eval c = .bool b) (hx : b = true → a.eval x = .bool p) (hy : b = false → a.eval y = .bool q) :
  Ok P ⟨d, .pick c x y, T, pos, aft, g⟩ a w (SP.isv (.bool (bif b then p else q))).holds := by
 refine ok_pure ?_
 cases b <;> simp [execOp, hc, asBool, hx, hy]
theorem ok_add {x y : Operand} {X Y : TypeId} {k : IntKind} {m n : Int} (hx : a.eval x = .int k m) (hy : a.eval y = .int k n) :
  Ok P ⟨d, .binOp .add X x y Y, T, pos, aft, g⟩ a w (SP.isv (.int k (k.wrap (m + n)))).holds := ok_pure (by simp [execOp, eqGuard, hx, hy, binOp, Op.intArith])
theorem ok_sub {x y : Operand} {X Y : TypeId} {k : IntKind} {m n : Int} (hx : a.eval x = .int k m) (hy : a.eval y = .int k n) :
  Ok P ⟨d, .binOp .sub X x y Y, T, pos, aft, g⟩ a w (SP.isv (.int k (k.wrap (m - n)))).holds := ok_pure (by simp [execOp, eqGuard, hx, hy, binOp, Op.intArith])
theorem ok_rem {x y : Operand} {X Y : TypeId} {k : IntKind} {m n : Int} (hx : a.eval x = .int k m) (hy : a.eval y = .int k n) (h0 : n ≠ 0) :
  Ok P ⟨d, .binOp .rem X x y Y, T, pos, aft, g⟩ a w (SP.isv (.int k (m.tmod n))).holds := ok_pure (by simp [execOp, eqGuard, hx, hy, binOp, Op.intDiv, h0])
theorem ok_bit {x y : Operand} {X Y : TypeId} {k : IntKind} {m n r : Int} {op : BinOp} (hx : a.eval x = .int k m) (hy : a.eval y = .int k n) (hop : op = .and ∨ op = .or ∨ op = .xor ∨ op = .andNot)
  (hr : ∀ w : World, (Op.intBits op k m n).run P w = .ok (.int k r) w) : Ok P ⟨d, .binOp op X x y Y, T, pos, aft, g⟩ a w (SP.isv (.int k r)).holds := by
 refine ok_pure ?_
 rcases hop with rfl | rfl | rfl | rfl <;> simp [execOp, eqGuard, hx, hy, binOp, hr]
theorem ok_shr {x y : Operand} {X Y : TypeId} {k k' : IntKind} {m n : Int} (hx : a.eval x = .int k m) (hy : a.eval y = .int k' n) (h0 : 0 ≤ n) :
  Ok P ⟨d, .binOp .shr X x y Y, T, pos, aft, g⟩ a w (SP.isv (.int k (m.fdiv (2 ^ (min n.toNat k.bits))))).holds := ok_pure (by
   have : ¬ n < 0 := by omega
   simp [execOp, eqGuard, hx, hy, binOp, Op.shift, this])
theorem ok_shl {x y : Operand} {X Y : TypeId} {k k' : IntKind} {m n : Int} (hx : a.eval x = .int k m) (hy : a.eval y = .int k' n) (h0 : 0 ≤ n) :
  Ok P ⟨d, .binOp .shl X x y Y, T, pos, aft, g⟩ a w (SP.isv (.int k (k.wrap (m * 2 ^ (min n.toNat k.bits))))).holds := ok_pure (by
   have : ¬ n < 0 := by omega
   simp [execOp, eqGuard, hx, hy, binOp, Op.shift, this])
theorem ok_eqlI {x y : Operand} {X Y : TypeId} {k : IntKind} {m n : Int} (hx : a.eval x = .int k m) (hy : a.eval y = .int k n) :
  Ok P ⟨d, .binOp .eql X x y Y, T, pos, aft, g⟩ a w (SP.isv (.bool (decide (m = n)))).holds := ok_pure (by simp [execOp, eqGuard, hx, hy, binOp, Op.intCmp]; rfl)
theorem ok_neqI {x y : Operand} {X Y : TypeId} {k : IntKind} {m n : Int} (hx : a.eval x = .int k m) (hy : a.eval y = .int k n) :
  Ok P ⟨d, .binOp .neq X x y Y, T, pos, aft, g⟩ a w (SP.isv (.bool (decide (m ≠ n)))).holds := ok_pure (by
   have : (m != n) = decide (m ≠ n) := by by_cases h : m = n <;> simp [h]
   simp [execOp, eqGuard, hx, hy, binOp, Op.intCmp, this])
theorem ok_lss {x y : Operand} {X Y : TypeId} {k : IntKind} {m n : Int} (hx : a.eval x = .int k m) (hy : a.eval y = .int k n) :
  Ok P ⟨d, .binOp .lss X x y Y, T, pos, aft, g⟩ a w (SP.isv (.bool (decide (m < n)))).holds := ok_pure (by simp [execOp, eqGuard, hx, hy, binOp, Op.intCmp])
theorem ok_gtr {x y : Operand} {X Y : TypeId} {k : IntKind} {m n : Int} (hx : a.eval x = .int k m) (hy : a.eval y = .int k n) :
  Ok P ⟨d, .binOp .gtr X x y Y, T, pos, aft, g⟩ a w (SP.isv (.bool (decide (m > n)))).holds := ok_pure (by simp [execOp, eqGuard, hx, hy, binOp, Op.intCmp])
theorem ok_geq {x y : Operand} {X Y : TypeId} {k : IntKind} {m n : Int} (hx : a.eval x = .int k m) (hy : a.eval y = .int k n) :
  Ok P ⟨d, .binOp .geq X x y Y, T, pos, aft, g⟩ a w (SP.isv (.bool (decide (m ≥ n)))).holds := ok_pure (by simp [execOp, eqGuard, hx, hy, binOp, Op.intCmp])
theorem ok_not {x : Operand} {X : TypeId} {b : Bool} (hx : a.eval x = .bool b) : Ok P ⟨d, .unOp .not X x, T, pos, aft, g⟩ a w (SP.isv (.bool !b)).holds := ok_pure (by simp [execOp, hx, Op.unary])
theorem ok_neqB {x y : Operand} {X Y : TypeId} {s t : Bool} {z sz by_} (hT : Ty P X .bool z sz by_) (hx : a.eval x = .bool s) (hy : a.eval y = .bool t) :
  Ok P ⟨d, .binOp .neq X x y Y, T, pos, aft, g⟩ a w (SP.isv (.bool (decide (s ≠ t)))).holds := ok_pure (by
   have : (!(s == t)) = decide (s ≠ t) := by cases s <;> cases t <;> rfl
   simp [execOp, eqGuard, hx, hy, run_neq_bool (w := w) X s t hT.u, this])
theorem ok_convI {x : Operand} {X Y : TypeId} {k k' : IntKind} {m : Int} {z sz by_ z' sz' by_'} (h1 : Ty P X (.int k) z sz by_) (h2 : Ty P Y (.int k') z' sz' by_') (hx : a.eval x = .int k m) :
  Ok P ⟨d, .convert X Y x, T, pos, aft, g⟩ a w (SP.isv (.int k' (k'.wrap m))).holds := ok_pure (by simp [execOp, hx, convert, h1.run_u, h2.run_u, Conv.intToInt])
theorem ok_lenSl {x : Operand} {X E : TypeId} {p : Option Addr} {n c : Nat} {z sz by_} (hT : Ty P X (.slice E) z sz by_) (hx : a.eval x = .slice p n c) :
  Ok P ⟨d, .call ⟨.builtin .len, #[x], #[X]⟩, T, pos, aft, g⟩ a w (SP.isv (.int .i64 n)).holds := ok_pure (by simp [execOp, resolve, invoke, builtin, hx, Builtin.len_, hT.run_u, goInt])
theorem ok_lenV {x : Operand} {X E : TypeId} {n : Nat} {xs : List Value} {z sz by_} (hT : Ty P X (.slice E) z sz by_) {u : Value} (hu : a.eval x = u) (hx : SlV w n u xs) :
  Ok P ⟨d, .call ⟨.builtin .len, #[x], #[X]⟩, T, pos, aft, g⟩ a w (SP.isv (.int .i64 xs.length)).holds := by
 obtain ⟨p, cap, h1, _⟩ := hx
 exact ok_lenSl hT (hu.trans h1)
theorem ok_min {x y : Operand} {X Y : TypeId} {k : IntKind} {m n : Int} (hx : a.eval x = .int k m) (hy : a.eval y = .int k n) :
  Ok P ⟨d, .call ⟨.builtin .min, #[x, y], #[X, Y]⟩, T, pos, aft, g⟩ a w (SP.isv (.int k (min m n))).holds := ok_pure (by
   have : (if n < m then n else m) = min m n := by rw [Int.min_def]; split <;> split <;> omega
   simp [execOp, resolve, invoke, builtin, hx, hy, Builtin.min_, Builtin.min2, this])
theorem bound_run {v : Int} {y : Nat} {k : IntKind} {code : BoundsCode} {w : World} (h0 : 0 ≤ v) (h1 : v ≤ y) : (Instr.sliceBound (.int k v) y code).run P w = .ok v.toNat w := by
 simp [Instr.sliceBound, asIntOf, h0, h1]
theorem ok_indexS {x i : Operand} {X : TypeId} {s : ByteArray} {m : Int} {k : IntKind} {z sz by_} (hT : Ty P X .string z sz by_) (hx : a.eval x = .string s) (hi : a.eval i = .int k m) (h0 : 0 ≤ m) (h1 : m.toNat < s.size) :
  Ok P ⟨d, .index X x i, T, pos, aft, g⟩ a w (SP.isv (.int .u8 ((s[m.toNat]'h1).toNat))).holds := ok_pure (by
   simp [execOp, Instr.index, asIntOf, hx, hi, hT.run_u, h0, h1])
theorem run_loadCellsFrom {b off : Nat} {cs : Array Value} : ∀ (n i : Nat) (acc : Array Value), i + n = cs.size → acc = cs.extract 0 i → (∀ j, j < cs.size → w.cell? ⟨b, off + j, none⟩ = cs[j]?) →
  (loadCellsFrom ⟨b, off, none⟩ i n acc).run P w = .ok cs w
 | 0, i, acc, hi, hacc, hc => by
   simp only [loadCellsFrom, Sem.run_pure]
   rw [hacc]; congr 1
   have : i = cs.size := by omega
   rw [this, Array.extract_size]
 | n + 1, i, acc, hi, hacc, hc => by
   have hlt : i < cs.size := by omega
   have h1 := hc i hlt
   rw [Array.getElem?_eq_getElem hlt] at h1
   have e : (⟨b, off, none⟩ : Addr).add i = ⟨b, off + i, none⟩ := by
    unfold Addr.add; split
    ·rename_i h; subst h; rfl
    ·rfl
   simp only [loadCellsFrom, Sem.run_bind, run_load, e, h1, Result.andThen]
   refine run_loadCellsFrom n (i + 1) _ (by omega) ?_ hc
   rw [hacc]
   simp [Array.push_extract_getElem]
theorem run_loadCells {b off : Nat} {cs : Array Value} (hc : ∀ j, j < cs.size → w.cell? ⟨b, off + j, none⟩ = cs[j]?) : (loadCells ⟨b, off, none⟩ cs.size).run P w = .ok cs w :=
 run_loadCellsFrom cs.size 0 #[] (by omega) (by simp) hc
theorem ok_loadCell {x : Operand} {X : TypeId} {dd z sz by_} {p : Addr} {v : Value} (hT : Ty P X dd z sz by_) (hd : isAggD dd = false) (hx : a.eval x = .pointer (some p)) (hc : w.cell? p = some v) :
  Ok P ⟨d, .load X x, T, pos, aft, g⟩ a w (SP.isv v).holds := ok_pure (by
   simp [execOp, Instr.loadAt, Instr.sureAddr, hx, loadVar, hT.run_agg, hd, hc])
theorem ok_loadOwn {x : Operand} {X X' : TypeId} {dd z sz by_} {b off : Nat} {cs : Array Value} {v : Value} (hT : Ty P X dd z sz by_) (hd : isAggD dd = false) (hx : a.eval x = .pointer (some ⟨b, off, none⟩)) (hO : Own w b cs X') (hc : cs[off]? = some v) :
  Ok P ⟨d, .load X x, T, pos, aft, g⟩ a w (SP.isv v).holds := ok_loadCell hT hd hx (by rw [hO.cell, hc])
theorem ok_loadOwnAgg {x : Operand} {X X' : TypeId} {dd z sz by_} {b : Nat} {cs : Array Value} (hT : Ty P X dd z sz by_) (hd : isAggD dd = true) (hx : a.eval x = .pointer (some ⟨b, 0, none⟩)) (hO : Own w b cs X') (hs : cs.size = sz) :
  Ok P ⟨d, .load X x, T, pos, aft, g⟩ a w (SP.isv (.agg cs)).holds     := ok_pure (by
   subst hs
   simp [execOp, Instr.loadAt, Instr.sureAddr, hx, loadVar, hT.run_agg, hd, hT.run_size, run_loadCells (P := P) (w := w) (b := b) (off := 0) (cs := cs) (fun j _ => by rw [hO.cell]; simp)])
theorem ok_loadPt {x : Operand} {X : TypeId} {dd z sz by_} {v : Value} (hT : Ty P X dd z sz by_) (hd : isAggD dd = false) {u : Value} (hu : a.eval x = u) (hx : PtrTo w u v) (hv : v.cells = #[v]) :
  Ok P ⟨d, .load X x, T, pos, aft, g⟩ a w (SP.isv v).holds := by
 obtain ⟨b, off, h1, h2⟩ := hx
 have := h2 0 (by rw [hv]; simp)
 exact ok_loadCell hT hd (hu.trans h1) (by rw [hv] at this; simpa using this)
theorem ok_loadPtAgg {x : Operand} {X : TypeId} {dd z sz by_} {cs : Array Value} (hT : Ty P X dd z sz by_) (hd : isAggD dd = true) {u : Value} (hu : a.eval x = u) (hx : PtrTo w u (.agg cs)) (hs : cs.size = sz) :
  Ok P ⟨d, .load X x, T, pos, aft, g⟩ a w (SP.isv (.agg cs)).holds := by
 subst hs
 obtain ⟨b, off, h1, h2⟩ := hx
 rw [h1] at hu
 exact ok_pure (by simp [execOp, Instr.loadAt, Instr.sureAddr, hu, loadVar, hT.run_agg, hd, hT.run_size, run_loadCells (P := P) (w := w) (b := b) (off := off) (cs := cs) h2])
theorem ok_box {x : Operand} {X : TypeId} {L : Nat} {v : Value} (hL : L ≤ w.heap.size) (hx : a.eval x = v) : Ok P ⟨d, .box X x, T, pos, aft, g⟩ a w (SP.box L v.cells X).holds :=
 ok_run (v := .pointer (some ⟨w.heap.size, 0, none⟩)) (w' := w.alloc (.cells v.cells X)) (by simp [execOp, Instr.box, newVar, newRow, hx]) (Ext.alloc _ _) ⟨_, hL, rfl, Own.new _ _ _⟩
theorem ok_alloc {X : TypeId} {L : Nat} {dd z sz by_} (hL : L ≤ w.heap.size) (hT : Ty P X dd z sz by_) : Ok P ⟨d, .alloc X, T, pos, aft, g⟩ a w (SP.box L z.cells X).holds :=
 ok_run (v := .pointer (some ⟨w.heap.size, 0, none⟩)) (w' := w.alloc (.cells z.cells X)) (by simp [execOp, Instr.alloc, hT.run_zero, newVar, newRow]) (Ext.alloc _ _) ⟨_, hL, rfl, Own.new _ _ _⟩
theorem addr_add (b off n : Nat) : (⟨b, off, none⟩ : Addr).add n = ⟨b, off + n, none⟩ := by
 unfold Addr.add; split
 ·rename_i h; subst h; rfl
 ·rfl
structure Fld (P : Program) (X f ft off sz : Nat) : Prop where
 s : P.underlying X = some (.struct (P.fieldsOf X))
 h : (P.fieldsOf X)[f]?.map (fun f => (f.type, f.offset)) = some (ft, off)
 z : (P.info? ft).map (·.size) = some (sz + 1)
theorem Fld.get {X f ft off sz : Nat} (h : Fld P X f ft off sz) : ∃ fd, (P.fieldsOf X)[f]? = some fd ∧ fd.type = ft ∧ fd.offset = off := by
 have := h.h
 cases hf : (P.fieldsOf X)[f]? with
 | none => simp [hf] at this
 | some fd => simp [hf] at this; exact ⟨fd, rfl, this.1, this.2⟩
theorem ok_fieldAddr {x : Operand} {X b o f ft off sz : Nat} (hF : Fld P X f ft off sz) (hx : a.eval x = .pointer (some ⟨b, o, none⟩)) :
  Ok P ⟨d, .fieldAddr X x f, T, pos, aft, g⟩ a w (SP.isv (.pointer (some ⟨b, o + off, none⟩))).holds := ok_pure (by
 obtain ⟨fd, h1, h2, h3⟩ := hF.get
 have hz : ∀ w : World, (sizeOf ft).run P w = .ok (sz + 1) w := by
  intro w
  have := hF.z
  cases hi : P.info? ft with
  | none => simp [hi] at this
  | some i => simp [hi] at this; simp [sizeOf, typeInfo, hi, this]
 have hu : ∀ w : World, (underlying X).run P w = .ok (.struct (P.fieldsOf X)) w := by intro w; simp [underlying, hF.s]
 simp [execOp, Instr.fieldAt, hu, h1, Instr.sureAddr, hx, fieldPlace, h2, hz, h3, addr_add])
theorem ok_fieldAddrPt {x : Operand} {X f ft off sz : Nat} {cs : Array Value} {y : Value} (hF : Fld P X f ft off sz) {u : Value} (hu : a.eval x = u) (hx : PtrTo w u (.agg cs)) (hy : ∀ j, j < y.cells.size → off + j < cs.size ∧ y.cells[j]? = cs[off + j]?) :
  Ok P ⟨d, .fieldAddr X x f, T, pos, aft, g⟩ a w (SP.pt y).holds := by
 obtain ⟨b, o, h1, h2⟩ := hx
 intro K Q hK
 refine ok_fieldAddr hF (hu.trans h1) K Q fun v w' hE hv => hK v w' hE ?_
 refine ⟨b, o + off, hv, fun j hj => ?_⟩
 obtain ⟨h3, h4⟩ := hy j hj
 have h5 := h2 (off + j) h3
 simp only [Value.cells] at h5
 rw [h4, Nat.add_assoc]
 rw [Array.getElem?_eq_getElem h3] at h5 ⊢
 exact hE.cell h5
theorem ok_indexV {x i : Operand} {X e E : TypeId} {xs : List Value} {y : Value} {k : IntKind} {m : Int} {z sz by_ dd z' by_'} (hT : Ty P X (.slice e) z sz by_) (he : Ty P e dd z' E by_') {u : Value} (hu : a.eval x = u) (hx : SlV w E u xs) (hi : a.eval i = .int k m) (h0 : 0 ≤ m) (hy : xs[m.toNat]? = some y) :
  Ok P ⟨d, .indexAddr X x i, T, pos, aft, g⟩ a w (SP.pt y).holds := by
 obtain ⟨p, cap, h1, h2, h3, h4⟩ := hx
 have hlt : m.toNat < xs.length := (List.getElem?_eq_some_iff.1 hy).1
 rcases h4 with h4 | ⟨b, off, hp, hc⟩
 ·subst h4; simp at hlt
 subst hp
 have hE := h3 y (List.mem_of_getElem? hy)
 rw [h1] at hu
 refine ok_run (v := .pointer (some ⟨b, off + m.toNat * E, none⟩)) (w' := w) ?_ (Ext.refl w) ⟨b, off + m.toNat * E, rfl, fun j hj => ?_⟩
 ·have hlt' : m < (xs.length : Int) := by omega
  simp [execOp, Instr.indexAt, asIntOf, hi, hu, hT.run_u, he.run_size, h0, hlt', addr_add]
 ·rw [Nat.add_assoc]; exact hc _ y hy j (by rw [hE] at hj; exact hj)
theorem SlV.slice {E : Nat} {xs : List Value} {u : Value} (h : SlV w E u xs) : ∃ p c, u = .slice p xs.length c ∧ xs.length ≤ c := by
 obtain ⟨p, c, h1, h2, _⟩ := h; exact ⟨p, c, h1, h2⟩
theorem SlV.take {E : Nat} {xs : List Value} {p : Option Addr} {c : Nat} (h : SlV w E (.slice p xs.length c) xs) {n : Nat} (hn : n ≤ xs.length) : SlV w E (.slice p n c) (xs.take n) := by
 obtain ⟨p', c', h1, h2, h3, h4⟩ := h
 cases h1
 refine ⟨p, c, by simp [hn], by simp; omega, fun x hx => h3 x (List.mem_of_mem_take hx), ?_⟩
 rcases h4 with h4 | ⟨b, off, hp, hc⟩
 ·exact .inl (by simp [h4])
 ·refine .inr ⟨b, off, hp, fun i x hx j hj => hc i x ?_ j hj⟩
  rw [List.getElem?_take] at hx
  split at hx
  ·exact hx
  ·cases hx
end ops
end Go.Eng
end
section
namespace Go.Eng
open Go Go.RowKit
def flat (vs : List Value) : List Value := vs.flatMap fun x => x.cells.toList
theorem flat_length {E : Nat} : ∀ {vs : List Value}, (∀ x ∈ vs, x.cells.size = E) → (flat vs).length = vs.length * E
 | [], _ => by simp [flat]
 | x :: vs, h => by
   have := flat_length (vs := vs) (fun y hy => h y (by simp [hy]))
   unfold flat at this ⊢
   rw [List.flatMap_cons, List.length_append, this, Array.length_toList, h x (by simp), List.length_cons, Nat.add_mul]; omega
theorem flat_at {E : Nat} : ∀ {vs : List Value}, (∀ x ∈ vs, x.cells.size = E) → ∀ (i : Nat) (x : Value), vs[i]? = some x → ∀ j, j < E → (flat vs)[i * E + j]? = x.cells[j]?
 | [], _, i, x, h => by simp at h
 | y :: vs, hs, 0, x, h => by
   intro j hj
   simp at h; subst h
   have hy := hs y (by simp)
   unfold flat
   rw [List.flatMap_cons, Nat.zero_mul, Nat.zero_add, List.getElem?_append_left (by rw [Array.length_toList, hy]; exact hj)]
   simp
 | y :: vs, hs, i + 1, x, h => by
   intro j hj
   have hy := hs y (by simp)
   have := flat_at (vs := vs) (fun y hy => hs y (by simp [hy])) i x (by simpa using h) j hj
   unfold flat at this ⊢
   rw [List.flatMap_cons, List.getElem?_append_right (by rw [Array.length_toList, hy, Nat.add_mul]; omega), Array.length_toList, hy, ← this]
   congr 1
   rw [Nat.add_mul]; omega
structure OwnS (w : World) (B T E : Nat) (u : Value) (vs : List Value) : Prop where
 sz : ∀ x ∈ vs, x.cells.size = E
 row : w.ownsRow B T E u vs.length (flat vs)
theorem OwnS.ext {w w' : World} {B T E : Nat} {u : Value} {vs : List Value} (h : OwnS w B T E u vs) (hE : Ext w w') : OwnS w' B T E u vs := by
 refine ⟨h.sz, h.row.1, ?_⟩
 rcases h.row.2 with h | ⟨b, cap, cur, h1, h2, h3, h4⟩
 ·exact .inl h
 ·exact .inr ⟨b, cap, cur, h1, h2, hE.heap h3, h4⟩
theorem OwnS.nil (w : World) (B T E : Nat) : OwnS w B T E (.slice none 0 0) [] := ⟨by simp, by simp [flat], .inl ⟨rfl, rfl⟩⟩
theorem OwnS.slv {w : World} {B T E : Nat} {u : Value} {vs : List Value} (h : OwnS w B T E u vs) : SlV w E u vs := by
 rcases h.row.2 with ⟨h1, h2⟩ | ⟨b, cap, cur, h1, h2, h3, h4, h5, h6, h7⟩
 ·have : vs = [] := List.eq_nil_of_length_eq_zero h2
  subst this
  exact ⟨none, 0, h1, by simp, by simp, .inl rfl⟩
 ·refine ⟨some ⟨b, 0, none⟩, cap, h1, h4, h.sz, .inr ⟨b, 0, rfl, fun i x hx j hj => ?_⟩⟩
  have hf := flat_at h.sz i x hx j hj
  rw [← h7] at hf
  have hlt : i < vs.length := (List.getElem?_eq_some_iff.1 hx).1
  have hlt2 : i * E + j < vs.length * E := by
   have : (i + 1) * E ≤ vs.length * E := Nat.mul_le_mul_right _ hlt
   rw [Nat.add_mul] at this; omega
  rw [List.getElem?_take, if_pos hlt2] at hf
  unfold World.cell?
  simp only [h3, Nat.zero_add]
  rw [← hf]; simp
abbrev SP.own (B T E : Nat) (vs : List Value) : SP := .pr (fun w u => OwnS w B T E u vs) (fun _ _ _ hE h => h.ext hE)
def bv (l : List UInt8) : List Value := l.map fun b => .int .u8 (b.toNat : Int)
section ops
variable {P : Program} {a : Act} {w : World} {d : Option Tmp} {T : TypeId} {pos : String} {aft : Array Edge} {g : Option (Nat × Bool)}
theorem splice_size (off : Nat) : ∀ (l : List (Value × Nat)) (cells : Array Value), (l.foldl (fun cs (p : Value × Nat) => cs.setIfInBounds (off + p.2) p.1) cells).size = cells.size
 | [], _ => rfl
 | p :: l, cells => by rw [List.foldl_cons, splice_size off l]; simp
theorem splice_at (off : Nat) : ∀ (l : List Value) (k : Nat) (cells : Array Value), off + k + l.length ≤ cells.size → ∀ i,
  ((l.zipIdx k).foldl (fun cs (p : Value × Nat) => cs.setIfInBounds (off + p.2) p.1) cells)[i]? = if off + k ≤ i ∧ i < off + k + l.length then l[i - (off + k)]? else cells[i]?
 | [], k, cells, h, i => by
   rw [List.zipIdx_nil, List.foldl_nil, if_neg (by simp)]
 | x :: l, k, cells, h, i => by
   rw [List.zipIdx_cons, List.foldl_cons, splice_at off l (k + 1) _ (by simp at h ⊢; omega)]
   simp only [List.length_cons] at h ⊢
   by_cases h1 : i = off + k
   ·subst h1
    rw [if_neg (by omega), if_pos (by omega), Nat.sub_self]
    have : off + k < cells.size := by omega
    simp [this]
   ·by_cases h2 : off + (k + 1) ≤ i ∧ i < off + (k + 1) + l.length
    ·rw [if_pos h2, if_pos (by omega)]
     have e : i - (off + k) = (i - (off + (k + 1))) + 1 := by omega
     rw [e]; simp
    ·rw [if_neg h2, if_neg (by omega), Array.getElem?_setIfInBounds_ne (by omega)]
def partsFrom : Nat → List Value → List (Nat × Value)
 | _, [] => []
 | k, v :: vs => (k, v) :: partsFrom (k + 1) vs
theorem fill_parts {E : Nat} : ∀ (vs : List Value) (k : Nat) (cells : Array Value), (∀ x ∈ vs, x.cells.size = E) → cells.size = k * E + vs.length * E →
  ∃ out, Instr.fill (fun i => some (i * E, E)) cells (partsFrom k vs) = some out ∧ out.size = cells.size ∧ ∀ i, out[i]? = if k * E ≤ i ∧ i < k * E + vs.length * E then (flat vs)[i - k * E]? else cells[i]?
 | [], k, cells, _, hs => ⟨cells, rfl, rfl, fun i => by rw [if_neg (by simp)]⟩
 | v :: vs, k, cells, hv, hs => by
   have hvE := hv v (by simp)
   have e0 : (v :: vs).length * E = E + vs.length * E := by rw [List.length_cons, Nat.add_mul]; omega
   have e1 : (k + 1) * E = k * E + E := by rw [Nat.add_mul]; omega
   rw [e0] at hs ⊢
   let c1 := v.cells.zipIdx.foldl (fun cs (p : Value × Nat) => cs.setIfInBounds (k * E + p.2) p.1) cells
   have hc1 : c1 = (v.cells.toList.zipIdx 0).foldl (fun cs (p : Value × Nat) => cs.setIfInBounds (k * E + p.2) p.1) cells := by
    show v.cells.zipIdx.foldl _ cells = _
    rw [← Array.foldl_toList]; simp
   have hs1 : c1.size = cells.size := by rw [hc1]; exact splice_size _ _ _
   obtain ⟨out, h1, h2, h3⟩ := fill_parts vs (k + 1) c1 (fun x hx => hv x (by simp [hx])) (by rw [hs1, hs, e1]; omega)
   refine ⟨out, ?_, by rw [h2, hs1], fun i => ?_⟩
   ·simp only [partsFrom, Instr.fill]
    rw [if_neg (by simp [hvE]; omega)]
    exact h1
   ·rw [h3 i, hc1, splice_at (k * E) v.cells.toList 0 cells (by simp [hvE]; omega) i]
    simp only [Array.length_toList, hvE, Nat.add_zero, e1]
    unfold flat
    rw [List.flatMap_cons]
    generalize k * E = kE
    generalize vs.length * E = nE
    by_cases h4 : kE + E ≤ i ∧ i < kE + E + nE
    ·rw [if_pos h4, if_pos (by omega), List.getElem?_append_right (by rw [Array.length_toList, hvE]; omega), Array.length_toList, hvE]
     congr 1; omega
    ·rw [if_neg h4]
     by_cases h5 : kE ≤ i ∧ i < kE + E
     ·rw [if_pos h5, if_pos (by omega), List.getElem?_append_left (by rw [Array.length_toList, hvE]; omega)]
     ·rw [if_neg h5, if_neg (by omega)]
theorem fill_all {E : Nat} (vs : List Value) (cells : Array Value) (hv : ∀ x ∈ vs, x.cells.size = E) (hs : cells.size = vs.length * E) : Instr.fill (fun i => some (i * E, E)) cells (partsFrom 0 vs) = some (flat vs).toArray := by
 obtain ⟨out, h1, h2, h3⟩ := fill_parts vs 0 cells hv (by simpa using hs)
 rw [h1]; congr 1
 apply Array.ext_getElem?
 intro i
 rw [h3 i]
 simp only [Nat.zero_mul, Nat.zero_le, Nat.zero_add, true_and, Nat.sub_zero, List.getElem?_toArray]
 by_cases h : i < vs.length * E
 ·rw [if_pos h]
 ·rw [if_neg h, Array.getElem?_eq_none (by omega), List.getElem?_eq_none (by rw [flat_length hv]; omega)]
theorem ok_buildSlice {X e E n B : Nat} {vs : List Value} {parts : Array (Nat × Operand)} {z sz by_ dd z' by_'} (hT : Ty P X (.slice e) z sz by_) (he : Ty P e dd z' (E + 1) by_') (hB : B ≤ w.heap.size)
  (hp : (parts.map fun (i, x) => (i, a.eval x)) = (partsFrom 0 vs).toArray) (hv : ∀ x ∈ vs, x.cells.size = E + 1) (hn : vs.length = n) (hs : n * (E + 1) ≤ 16777216) :
  Ok P ⟨d, .buildSlice X n parts, T, pos, aft, g⟩ a w (SP.own B e (E + 1) vs).holds := by
 have hf : ∀ cells : Array Value, cells.size = n * (E + 1) → Instr.fill (fun i => some (i * (E + 1), E + 1)) cells (partsFrom 0 vs) = some (flat vs).toArray := fun cells hc => fill_all vs cells hv (by rw [hc, hn])
 refine ok_run (v := .slice (some ⟨w.heap.size, 0, none⟩) n n) (w' := w.alloc (.cells (flat vs).toArray e)) ?_ (Ext.alloc _ _) ⟨hv, ?_⟩
 ·have h24 : ¬ n * (E + 1) > 2 ^ 24 := by simp; omega
  have hp' : (Array.map (fun x => (x.fst, a.eval x.snd)) parts) = (partsFrom 0 vs).toArray := hp
  by_cases hz : n * (E + 1) = 0
  ·simp only [execOp, Instr.buildSlice, Sem.run_bind, hT.run_u, he.run_size, Result.andThen, Sem.run_pure, hp', if_neg h24, if_pos hz]
   rw [hf _ (by simp)]
   simp [newRow]
  ·simp only [execOp, Instr.buildSlice, Sem.run_bind, hT.run_u, he.run_size, he.run_zero, Result.andThen, Sem.run_pure, hp', if_neg h24, if_neg hz]
   rw [hf _ (by simp)]
   simp [newRow]
 ·have := World.ownsRow_lit (base := B) (e := e) (size := E + 1) w (flat vs).toArray n hB (by unfold maxLen; have : n ≤ n * (E + 1) := Nat.le_mul_of_pos_right _ (by omega); omega) (by simp [flat_length hv, hn])
  simpa [hn] using this
end ops
end Go.Eng
end
section
namespace Go.Eng
open Go Go.RowKit
section ops
variable {P : Program} {a : Act} {w : World} {d : Option Tmp} {T : TypeId} {pos : String} {aft : Array Edge} {g : Option (Nat × Bool)}
theorem bv_cells {l : List UInt8} : ∀ x ∈ bv l, x.cells.size = 1 := by
 intro x hx
 unfold bv at hx
 rw [List.mem_map] at hx
 obtain ⟨b, _, rfl⟩ := hx; rfl
def BytesRow (w : World) (T b cap : Nat) (l : List UInt8) : Prop := ∃ cs, Own w b cs T ∧ l.length ≤ cap ∧ cs.size = cap ∧ ∀ (j : Nat) (x : UInt8), l[j]? = some x → cs[j]? = some (.int .u8 (x.toNat : Int))
theorem BytesRow.ext {w w' : World} {T b cap : Nat} {l : List UInt8} (h : BytesRow w T b cap l) (hE : Ext w w') : BytesRow w' T b cap l := by
 obtain ⟨cs, h1, h2⟩ := h; exact ⟨cs, h1.ext hE, h2⟩
theorem BytesRow.slv {w : World} {T b cap : Nat} {l : List UInt8} (h : BytesRow w T b cap l) : SlV w 1 (.slice (some ⟨b, 0, none⟩) l.length cap) (bv l) := by
 obtain ⟨cs, h1, h2, h3, h4⟩ := h
 refine ⟨_, cap, by simp [bv], by simpa [bv] using h2, bv_cells, .inr ⟨b, 0, rfl, fun i x hx j hj => ?_⟩⟩
 obtain rfl : j = 0 := by omega
 unfold bv at hx
 rw [List.getElem?_map] at hx
 cases hl : l[i]? with
 | none => simp [hl] at hx
 | some y =>
  simp [hl] at hx; subst hx
  rw [h1.cell]
  simp [Value.cells, h4 i y hl]
abbrev SP.bytes (B T : Nat) (l : List UInt8) : SP := .pr (fun w u => ∃ b cap, B ≤ b ∧ u = .slice (some ⟨b, 0, none⟩) l.length cap ∧ BytesRow w T b cap l) (fun _ _ _ hE ⟨b, cap, h0, h1, h2⟩ => ⟨b, cap, h0, h1, h2.ext hE⟩)
structure FnOk (P : Program) (f : FuncId) : Prop where
 h : ∃ fn, P.funcs[f]? = some fn ∧ fn.body.isNone = false ∧ (fn.name == "runtime.NumGoroutine") = false
def Pure (P : Program) (f : FuncId) (args : Array Value) (w : World) (φ : World → Value → Prop) : Prop :=
 Calls P f args w fun e w' => ∃ v, e = .returned v ∧ Ext w w' ∧ φ w' v
theorem Pure.mono {f : FuncId} {args : Array Value} {φ φ' : World → Value → Prop} (h : Pure P f args w φ) (hm : ∀ w' v, Ext w w' → φ w' v → φ' w' v) : Pure P f args w φ' :=
 Calls.mono h fun _ _ ⟨v, h1, h2, h3⟩ => ⟨v, h1, h2, hm _ _ h2 h3⟩
theorem ok_call {f : FuncId} {xs : Array Operand} {ts : Array TypeId} {args : Array Value} {φ : SP} (hf : FnOk P f) (ha : xs.map a.eval = args) (h : Pure P f args w φ.holds) :
  Ok P ⟨d, .call ⟨.value (.func f), xs, ts⟩, T, pos, aft, g⟩ a w φ.holds := by
 intro K Q hK
 obtain ⟨fn, h1, h2, h3⟩ := hf.h
 have hr : (execOp a.eval ⟨d, .call ⟨.value (.func f), xs, ts⟩, T, pos, aft, g⟩).run P w = .ok (.enter f args) w := by
  have hb : (fn.body.isNone = true) = False := by simp [h2]
  simp only [execOp, resolve, Act.eval, Deferred.ofValue, ha, Sem.run_bind, Sem.run_pure, Result.andThen, invoke, callFunc, run_program, h1]
  simp [h2, h3]
 unfold Oper.wp
 rw [hr]
 refine Calls.mono h fun e w' he => ?_
 obtain ⟨v, rfl, hE, hv⟩ := he
 exact hK v w' hE hv
theorem ok_makeFunc {f : FuncId} {fi ca : Array Operand} {v1 v2 : Array Value} (h1 : fi.map a.eval = v1) (h2 : ca.map a.eval = v2) : Ok P ⟨d, .makeFunc (.func f) fi ca, T, pos, aft, g⟩ a w (SP.isv (.func (.func f) v1 v2)).holds := ok_pure (by
 simp [execOp, Instr.makeFunc, h1, h2])
section tails
variable {ops : Array Oper} {Q : Exit → Act → World → Prop} {rest : List Oper}
theorem t_ok {o : Oper} {φ : World → Value → Prop} (h : Ok P o a w φ) (hg : o.guard = none) (hK : ∀ v w', Ext w w' → φ w' v → wpList P ops Q rest (a.put o.dst v) w') : wpList P ops Q (o :: rest) a w := by
 have : Region.wanted o (yielded ops a.tmps) = true := by simp [Region.wanted, hg]
 simp only [wpList, this, if_true]
 exact .inl (h _ _ hK)
theorem t_run {o : Oper} {v : Value} {w' : World} (h : (execOp a.eval o).run P w = .ok (.value v) w') (hg : o.guard = none) (hK : wpList P ops Q rest (a.put o.dst v) w') : wpList P ops Q (o :: rest) a w := by
 have : Region.wanted o (yielded ops a.tmps) = true := by simp [Region.wanted, hg]
 simp only [wpList, this, if_true]
 left
 unfold Oper.wp; rw [h]; exact hK
theorem t_skip {o : Oper} {w' : World} (h : (execOp a.eval o).run P w = .ok .skip w') (hg : o.guard = none) (hd : o.dst = none) (hK : wpList P ops Q rest a w') : wpList P ops Q (o :: rest) a w := by
 have : Region.wanted o (yielded ops a.tmps) = true := by simp [Region.wanted, hg]
 simp only [wpList, this, if_true]
 left
 unfold Oper.wp; rw [h]
 show wpList P ops Q rest (a.put o.dst undef) w'
 rw [hd]; exact hK
theorem t_store {x y : Operand} {X T' b off : Nat} {cs : Array Value} {v : Value} {dd z by_} (hT : Ty P X dd z 1 by_) (hx : a.eval x = .pointer (some ⟨b, off, none⟩)) (hy : a.eval y = v) (hv : v.cells = #[v]) (h1 : v.oneCell' = true)
  (hO : Own w b cs T') (ho : off < cs.size) (hK : wpList P ops Q rest a (w.setCell ⟨b, off, none⟩ v)) : wpList P ops Q (⟨none, .store X x y, T, pos, aft, none⟩ :: rest) a w := by
 refine t_skip (w' := w.setCell ⟨b, off, none⟩ v) ?_ rfl rfl hK
 have hc : w.cell? ⟨b, off, none⟩ = some cs[off] := by rw [hO.cell, Array.getElem?_eq_getElem ho]
 simp [execOp, Instr.storeAt, Instr.sureAddr, hx, hy, storeVar, hv, hT.run_size, storeCells, run_store _ _ _ _ _ h1, Addr.add, hc, hO.frozen off ho]
end tails
end ops
theorem fit_start (args : Array Value) (N : Nat) (h : args.size ≤ N) : (Act.mk (args ++ Array.replicate (N - args.size) undef) []).fit N := ⟨by simp; omega, rfl⟩
theorem get_start {args : Array Value} {N i : Nat} {v : Value} (h : args[i]? = some v) : (Act.mk (args ++ Array.replicate (N - args.size) undef) []).get i = v := by
 have hi := (Array.getElem?_eq_some_iff.1 h).1
 simp only [Act.get, Array.getD_eq_getD_getElem?, Array.getElem?_append_left hi, h]; rfl
theorem pure_of_wp {P : Program} {f : FuncId} {fn : Func} {c : Code} {args : Array Value} {w : World} {φ : World → Value → Prop} (hf : P.funcs[f]? = some fn) (hb : fn.body = some c) (N : Nat) (hN : fn.ntmps = N) (hle : args.size ≤ N)
  (h : ∀ a, a.fit N → (∀ i v, args[i]? = some v → a.get i = v) → c.wp P (bodyPost P fn fun e w' => ∃ v, e = .returned v ∧ Ext w w' ∧ φ w' v) a w) : Pure P f args w φ := by
 refine calls_of_wp hf hb ?_
 rw [hN]
 exact h _ (fit_start args N hle) fun i v hv => get_start hv
theorem ret1 {P : Program} {fn : Func} {R : Ending → World → Prop} {a : Act} {w : World} {t N : Nat} {v : Value} (hr : fn.results = #[.tmp t]) (hA : a.fit N) (ht : a.get t = v) (h : R (.returned v) w) : bodyPost P fn R .ret a w :=
 ⟨hA.defers, v, by
  have e1 : a.tmps.getD t undef = v := ht
  simp only [Array.getD_eq_getD_getElem?] at e1
  simp [results, hr, e1], h⟩
theorem retPure {P : Program} {fn : Func} {φ : World → Value → Prop} {a : Act} {w0 w : World} {t N : Nat} {v : Value} (hr : fn.results = #[.tmp t]) (hA : a.fit N) (ht : a.get t = v) (hB : Ext w0 w) (h : φ w v) :
  bodyPost P fn (fun e w' => ∃ v, e = .returned v ∧ Ext w0 w' ∧ φ w' v) .ret a w := ret1 hr hA ht ⟨v, rfl, hB, h⟩
theorem retPure2 {P : Program} {fn : Func} {φ : World → Value → Prop} {a : Act} {w0 w : World} {t u N : Nat} {v v' : Value} (hr : fn.results = #[.tmp t, .tmp u]) (hA : a.fit N) (ht : a.get t = v) (hu : a.get u = v') (hB : Ext w0 w) (h : φ w (.tuple #[v, v'])) :
  bodyPost P fn (fun e w' => ∃ v, e = .returned v ∧ Ext w0 w' ∧ φ w' v) .ret a w :=
 ⟨hA.defers, .tuple #[v, v'], by
  have e1 : a.tmps.getD t undef = v := ht
  have e2 : a.tmps.getD u undef = v' := hu
  simp only [Array.getD_eq_getD_getElem?] at e1 e2
  simp [results, hr, e1, e2], _, rfl, hB, h⟩
end Go.Eng
end
section
namespace Go.Eng
open Go Go.RowKit
section ctl
variable {P : Program} {Q : Exit → Act → World → Prop} {K : Act → World → Prop} {a : Act} {w : World} {ops : Array Oper} {id : Nat}
theorem nx_then (h : K a w) : Exit.then K Q .normal a w := h
theorem nx_blk (h : Q .normal a w) : Exit.inBlock id Q .normal a w := h
theorem ex_then {e : Nat} (h : Q (.exit e) a w) : Exit.then K Q (.exit e) a w := h
theorem ex_same (h : Q .normal a w) : Exit.inBlock id Q (.exit id) a w := by unfold Exit.inBlock; simp; exact h
theorem ex_other {e : Nat} (hne : Nat.beq e id = false) (h : Q (.exit e) a w) : Exit.inBlock id Q (.exit e) a w := by
 have : e ≠ id := fun h => by subst h; simp at hne
 unfold Exit.inBlock; simp [this]; exact h
theorem rt_then (h : Q .ret a w) : Exit.then K Q .ret a w := h
theorem rt_blk (h : Q .ret a w) : Exit.inBlock id Q .ret a w := h
theorem li_nil (h : Q .normal a w) : wpList P ops Q [] a w := h
theorem wp_cond_b {c : Operand} {x y : Code} {b : Bool} (hc : a.eval c = .bool b) (ht : b = true → x.wp P Q a w) (hf : b = false → y.wp P Q a w) : (Code.cond c x y).wp P Q a w := by
 cases b
 ·exact wp_cond_false hc (hf rfl)
 ·exact wp_cond_true hc (ht rfl)
theorem loop_m {c : Code} (I : Nat → Act → World → Prop) {m : Nat} (h₀ : I m a w)
  (round : ∀ m a w, I m a w → c.wp P (Exit.then (fun a' w' => ∃ m', m' < m ∧ I m' a' w') Q) a w) : (Code.loop c).wp P Q a w := by
 intro b k cs
 have key : ∀ m a w, I m a w →
   ∃ e a' w', Q e a' w' ∧ Arrives P (lone (b.at a (.code c :: .inLoop c :: k)) cs w) b k cs e a' w' := by
  intro m
  induction m using Nat.strongRecOn with
  | _ m ih =>
   intro a w hI
   obtain ⟨e, a₁, w₁, hq, harr⟩ := round m a w hI b (.inLoop c :: k) cs
   cases e with
   | normal =>
    obtain ⟨m', hlt, hI₁⟩ := hq
    obtain ⟨e₂, a₂, w₂, hq₂, harr₂⟩ := ih m' hlt a₁ w₁ hI₁
    exact ⟨e₂, a₂, w₂, hq₂, .of_steps (Steps.trans harr (.one step_inLoop)) harr₂⟩
   | exit id => exact ⟨_, a₁, w₁, hq, .pass (x := .inLoop c) rfl (fun _ _ => .inl (by simp)) harr⟩
   | goto l => exact ⟨_, a₁, w₁, hq, .pass (x := .inLoop c) rfl (fun _ _ => .inl (by simp)) harr⟩
   | ret => exact ⟨_, a₁, w₁, hq, .pass (x := .inLoop c) rfl (fun _ _ => .inl (by simp)) harr⟩
   | panic ch => exact ⟨_, a₁, w₁, hq, .pass (x := .inLoop c) rfl (fun _ _ => .inl (by simp)) harr⟩
   | outgrown => exact ⟨_, a₁, w₁, hq, .pass (x := .inLoop c) rfl (fun _ _ => .inl (by simp)) harr⟩
 obtain ⟨e, a', w', hq, harr⟩ := key m a w h₀
 exact ⟨e, a', w', hq, .of_steps (.one step_loop) harr⟩
theorem seq_join {x y : Code} (J : Act → World → Prop) (hx : x.wp P (Exit.then J Q) a w) (hy : ∀ a w, J a w → y.wp P Q a w) : (Code.seq x y).wp P Q a w :=
 wp_seq (wp_mono hx fun e a w h => by cases e <;> first | exact hy _ _ h | exact h)
end ctl
section know
variable {os : List Oper} {Φ : List SP} {a : Act} {n t j : Nat} {w : World} {v val : Value}
theorem kn (h : KnowS os Φ a n t w v) (e : lw os (fun j => Nat.blt j n) t = none) (r : a.get t = val) : v = val := by
 unfold KnowS at h; rw [e] at h; exact h.trans r
theorem ksv (h : KnowS os Φ a n t w v) (e : lw os (fun j => Nat.blt j n) t = some j) (hΦ : Φ.getD j (.isv undef) = .isv val) (hg : act os (Φ.map SP.boolOf) j = true) : v = val := by
 unfold KnowS at h; rw [e] at h
 have := h.1 hg
 rw [hΦ] at this; exact this
theorem ksp {p : World → Value → Prop} {st} (h : KnowS os Φ a n t w v) (e : lw os (fun j => Nat.blt j n) t = some j) (hΦ : Φ.getD j (.isv undef) = .pr p st) (hg : act os (Φ.map SP.boolOf) j = true) : p w v := by
 unfold KnowS at h; rw [e] at h
 have := h.1 hg
 rw [hΦ] at this; exact this
theorem act_g1 {cs : List Bool} {i g : Nat} {want : Bool} (e : (os[i]?).bind (·.guard) = some (g, want)) (h0 : actN os cs i g = true) (hc : cs.getD g false = want) : act os cs i = true := by
 unfold act actN
 rw [e]
 simp only [Bool.and_eq_true, beq_iff_eq]
 exact ⟨h0, hc⟩
end know
section ints
variable {P : Program} {a : Act} {w : World} {d : Option Tmp} {T : TypeId} {pos : String} {aft : Array Edge} {g : Option (Nat × Bool)}
theorem ok_isv {o : Oper} {v v' : Value} (h : Ok P o a w (SP.isv v).holds) (e : v = v') : Ok P o a w (SP.isv v').holds := e ▸ h
inductive Parts (a : Act) : Nat → List (Nat × Operand) → List Value → Prop
 | nil {k} : Parts a k [] []
 | cons {k x v ps vs} (h : a.eval x = v) (hs : Parts a (k + 1) ps vs) : Parts a k ((k, x) :: ps) (v :: vs)
theorem parts_eq {k : Nat} {ps : List (Nat × Operand)} {vs : List Value} (h : Parts a k ps vs) : ps.map (fun p => (p.1, a.eval p.2)) = partsFrom k vs := by
 induction h with
 | nil => rfl
 | cons h _ ih => simp [partsFrom, h, ih]
theorem parts_of {ps : List (Nat × Operand)} {vs : List Value} (h : Parts a 0 ps vs) : (ps.toArray.map fun (i, x) => (i, a.eval x)) = (partsFrom 0 vs).toArray := by
 rw [← parts_eq h]; simp
theorem parts_nil {k : Nat} : Parts a k [] [] := .nil
theorem parts_cons {k : Nat} {x : Operand} {v : Value} {ps : List (Nat × Operand)} {vs : List Value} (h : a.eval x = v) (hs : Parts a (k + 1) ps vs) : Parts a k ((k, x) :: ps) (v :: vs) := .cons h hs
def byteAt (s : ByteArray) (i : Nat) : UInt8 := s.data.toList.getD i 0
theorem byteAt_eq {s : ByteArray} {i : Nat} (h : i < s.size) : s[i] = byteAt s i := by
 unfold byteAt
 have h' : i < s.data.toList.length := by rw [Array.length_toList]; exact h
 rw [List.getD_eq_getElem?_getD, List.getElem?_eq_getElem h']; rfl
theorem ok_call0 {f : FuncId} {ts : Array TypeId} {φ : SP} (hf : FnOk P f) (h : Pure P f #[] w φ.holds) :
  Ok P ⟨d, .call ⟨.value (.func f), #[], ts⟩, T, pos, aft, g⟩ a w φ.holds := ok_call hf (by simp) h
theorem ok_call1 {f : FuncId} {x1 : Operand} {v1 : Value} {ts : Array TypeId} {φ : SP} (hf : FnOk P f) (h1 : a.eval x1 = v1) (h : Pure P f #[v1] w φ.holds) :
  Ok P ⟨d, .call ⟨.value (.func f), #[x1], ts⟩, T, pos, aft, g⟩ a w φ.holds := ok_call hf (by simp [h1]) h
theorem ok_call2 {f : FuncId} {x1 x2 : Operand} {v1 v2 : Value} {ts : Array TypeId} {φ : SP} (hf : FnOk P f) (h1 : a.eval x1 = v1) (h2 : a.eval x2 = v2) (h : Pure P f #[v1, v2] w φ.holds) :
  Ok P ⟨d, .call ⟨.value (.func f), #[x1, x2], ts⟩, T, pos, aft, g⟩ a w φ.holds := ok_call hf (by simp [h1, h2]) h
theorem ok_call3 {f : FuncId} {x1 x2 x3 : Operand} {v1 v2 v3 : Value} {ts : Array TypeId} {φ : SP} (hf : FnOk P f) (h1 : a.eval x1 = v1) (h2 : a.eval x2 = v2) (h3 : a.eval x3 = v3) (h : Pure P f #[v1, v2, v3] w φ.holds) :
  Ok P ⟨d, .call ⟨.value (.func f), #[x1, x2, x3], ts⟩, T, pos, aft, g⟩ a w φ.holds := ok_call hf (by simp [h1, h2, h3]) h
theorem ok_call4 {f : FuncId} {x1 x2 x3 x4 : Operand} {v1 v2 v3 v4 : Value} {ts : Array TypeId} {φ : SP} (hf : FnOk P f) (h1 : a.eval x1 = v1) (h2 : a.eval x2 = v2) (h3 : a.eval x3 = v3) (h4 : a.eval x4 = v4) (h : Pure P f #[v1, v2, v3, v4] w φ.holds) :
  Ok P ⟨d, .call ⟨.value (.func f), #[x1, x2, x3, x4], ts⟩, T, pos, aft, g⟩ a w φ.holds := ok_call hf (by simp [h1, h2, h3, h4]) h
end ints
end Go.Eng
namespace Go.Eng
open Go Go.RowKit
section arrs
variable {P : Program} {a : Act} {w : World} {d : Option Tmp} {T : TypeId} {pos : String} {aft : Array Edge} {g : Option (Nat × Bool)}
end arrs
end Go.Eng
end
section
namespace Go.Eng
open Go Go.RowKit
def StE (E : World → World → Prop) (φ : SP) : Prop := ∀ w w' v, E w w' → φ.holds w v → φ.holds w' v
theorem stE_isv {E : World → World → Prop} (v : Value) : StE E (.isv v) := fun _ _ _ _ h => h
inductive AllSt (E : World → World → Prop) : List SP → Prop
 | nil : AllSt E []
 | cons {φ φs} (h : StE E φ) (hs : AllSt E φs) : AllSt E (φ :: φs)
theorem AllSt.at {E : World → World → Prop} : ∀ {Φ : List SP}, AllSt E Φ → ∀ i, StE E (Φ.getD i (.isv undef))
 | _, .nil, i => by simpa using stE_isv undef
 | _, .cons h _, 0 => by simpa using h
 | _, .cons _ hs, i + 1 => by simpa using AllSt.at hs i
structure ButOr (b : Nat) (X : Obj) (w w' : World) : Prop where
 os : w'.os = w.os
 tape : w'.tape = w.tape
 output : w'.output = w.output
 size : w.heap.size ≤ w'.heap.size
 block : ∀ k, k < w.heap.size → k ≠ b → w'.heap[k]? = w.heap[k]?
 it : w'.heap[b]? = w.heap[b]? ∨ w'.heap[b]? = some X
theorem ButOr.refl (b : Nat) (X : Obj) (w : World) : ButOr b X w w := ⟨rfl, rfl, rfl, Nat.le_refl _, fun _ _ _ => rfl, .inl rfl⟩
theorem ButOr.trans {b : Nat} {X : Obj} {w1 w2 w3 : World} (h : ButOr b X w1 w2) (k : ButOr b X w2 w3) : ButOr b X w1 w3 := by
 refine ⟨k.os.trans h.os, k.tape.trans h.tape, k.output.trans h.output, Nat.le_trans h.size k.size, fun j hj hb => ?_, ?_⟩
 ·rw [k.block j (Nat.lt_of_lt_of_le hj h.size) hb, h.block j hj hb]
 ·rcases k.it with k | k
  ·rcases h.it with h | h
   ·exact .inl (k.trans h)
   ·exact .inr (k.trans h)
  ·exact .inr k
section
variable {P : Program} {a : Act} {w : World} {d : Option Tmp} {T : TypeId} {pos : String} {aft : Array Edge} {g : Option (Nat × Bool)}
end
structure But (b : Nat) (w w' : World) : Prop where
 os : w'.os = w.os
 tape : w'.tape = w.tape
 output : w'.output = w.output
 size : w.heap.size ≤ w'.heap.size
 block : ∀ k, k < w.heap.size → k ≠ b → w'.heap[k]? = w.heap[k]?
theorem But.setCell (w : World) (b off : Nat) (v : Value) : But b w (w.setCell ⟨b, off, none⟩ v) :=
 ⟨rfl, rfl, rfl, by simp [World.setCell], fun k _ hk => by unfold World.setCell; simp [Array.getElem?_modify, Ne.symm hk]⟩
section tails
variable {P : Program} {a : Act} {w : World} {T : TypeId} {pos : String} {aft : Array Edge} {ops : Array Oper} {Q : Exit → Act → World → Prop} {rest : List Oper}
theorem t_store1 {x y : Operand} {X T' b off : Nat} {cs : Array Value} {v : Value} {dd z by_} (hT : Ty P X dd z 1 by_) (hx : a.eval x = .pointer (some ⟨b, off, none⟩)) (hy : a.eval y = v) (hv : v.cells = #[v]) (h1 : v.oneCell' = true)
  (hO : Own w b cs T') (ho : off < cs.size) (hK : ∀ w', But b w w' → Own w' b (cs.setIfInBounds off v) T' → wpList P ops Q rest a w') : wpList P ops Q (⟨none, .store X x y, T, pos, aft, none⟩ :: rest) a w :=
 t_store hT hx hy hv h1 hO ho (hK _ (But.setCell w b off v) (hO.set off v))
end tails
theorem OwnS.block_lt {w : World} {B T E : Nat} {u : Value} {vs : List Value} (h : OwnS w B T E u vs) : ∀ g, u.ownBlock = some g → g < w.heap.size := by
 intro g hg
 rcases h.row.2 with ⟨h1, _⟩ | ⟨b, cap, cur, h1, _, h3, _⟩
 ·rw [h1] at hg; cases hg
 ·rw [h1] at hg
  simp only [Value.ownBlock, Option.some.injEq] at hg
  subst hg; exact (Array.getElem?_eq_some_iff.1 h3).1
theorem OwnS.block_ge {w : World} {B T E : Nat} {u : Value} {vs : List Value} (h : OwnS w B T E u vs) : ∀ g, u.ownBlock = some g → B ≤ g := by
 intro g hg
 rcases h.row.2 with ⟨h1, _⟩ | ⟨b, cap, cur, h1, h2, _⟩
 ·rw [h1] at hg; cases hg
 ·rw [h1] at hg
  simp only [Value.ownBlock, Option.some.injEq] at hg
  subst hg; exact h2
structure Appd (w w' : World) (u u' : Value) : Prop where
 by_ : w.grownBy w' u.ownBlock
 at_ : u'.ownBlock = u.ownBlock ∨ ∀ g, u'.ownBlock = some g → w.heap.size ≤ g
def Apart (u v : Value) : Prop := ∀ g, u.ownBlock = some g → v.ownBlock ≠ some g
theorem Apart.symm {u v : Value} (h : Apart u v) : Apart v u := fun g hg hu => h g hu hg
theorem run_append_full {P : Program} {w : World} {B t ty e E bytes : Nat} {dd : TypeDesc} {z z' : Value} {sz by_ : Nat} (hT : Ty P t (.slice e) z sz by_) (he : Ty P e dd z' (E + 1) bytes) (hz : z'.cells.size = E + 1)
  {u : Value} {vs : List Value} (hO : OwnS w B e (E + 1) u vs) {u' : Value} {ns : List Value} (hN : SlV w (E + 1) u' ns) (h1 : ∀ x ∈ flat ns, x.oneCell' = true)
  (hb : (vs.length + ns.length) * bytes ≤ 140737488355328) (hl : vs.length + ns.length ≤ 9223372036854775807) (hB : B ≤ w.heap.size) :
  ∃ u2 w2, (Builtin.append_ #[t, t] ty #[u, u']).run P w = .ok u2 w2 ∧ OwnS w2 B e (E + 1) u2 (vs ++ ns) ∧ Appd w w2 u u2 := by
 obtain ⟨i, hi, hz0, hsz, hby⟩ := he.info
 obtain ⟨p, cap, hu', hcap, hnsz, hcells⟩ := hN
 have hflat : flat (vs ++ ns) = flat vs ++ flat ns := by simp [flat]
 have hszs : ∀ x ∈ vs ++ ns, x.cells.size = E + 1 := by
  intro x hx
  rcases List.mem_append.1 hx with h | h
  ·exact hO.sz x h
  ·exact hnsz x h
 have hml : vs.length + ns.length ≤ maxLen := by unfold maxLen; omega
 by_cases hp : p = none
 ·subst hp
  have hns : ns = [] := by
   rcases hcells with h | ⟨b, off, h, _⟩
   ·exact h
   ·cases h
  subst hns
  have hc0 : (Builtin.append_ #[t, t] ty #[u, u']).run P w = .ok u w := by
   rcases hO.row.2 with ⟨hu, hn⟩ | ⟨g, c, cur, hu, _, _, hnc, _⟩
   ·simp [Builtin.append_, hT.run_u, he.run_size, Builtin.lenOf, Builtin.firstCells, hu, hu']
   ·simp [Builtin.append_, hT.run_u, he.run_size, Builtin.lenOf, Builtin.firstCells, hu, hu', hnc, storeCells]
  exact ⟨u, w, hc0, by simpa using hO, ⟨⟨rfl, rfl, rfl, Nat.le_refl _, fun _ _ _ => rfl⟩, .inl rfl⟩⟩
 ·obtain ⟨ad, rfl⟩ : ∃ ad, p = some ad := by cases p with | none => exact absurd rfl hp | some ad => exact ⟨ad, rfl⟩
  have hnews : ∀ j v, (flat ns)[j]? = some v → w.cell? (ad.add j) = some v := by
   intro j v hj
   rcases hcells with h | ⟨b, off, h, hc⟩
   ·subst h; simp [flat] at hj
   ·cases h
    have hjl : j < ns.length * (E + 1) := by
     have := (List.getElem?_eq_some_iff.1 hj).1; rwa [flat_length hnsz] at this
    have hq : j / (E + 1) < ns.length := Nat.div_lt_of_lt_mul (by rw [Nat.mul_comm]; exact hjl)
    have hr : j % (E + 1) < E + 1 := Nat.mod_lt _ (by omega)
    have hx : ns[j / (E + 1)]? = some ns[j / (E + 1)] := List.getElem?_eq_getElem hq
    have e1 : j / (E + 1) * (E + 1) + j % (E + 1) = j := by rw [Nat.mul_comm]; exact Nat.div_add_mod j (E + 1)
    have h2 := hc _ _ hx _ hr
    have h3 := flat_at hnsz _ _ hx _ hr
    rw [e1] at h2 h3
    rw [addr_add, h2, ← h3]; exact hj
  have hfl := flat_length hnsz
  obtain ⟨u2, w2, hr, h2, h3, _⟩ := run_append_own (P := P) w B t ty e i z' (E + 1) bytes hT.u hi hz0 hsz hby hz (by omega) u vs.length (flat vs) hO.row ad ns.length cap (flat ns) hfl hnews h1 hml hb hB
  rw [← hu'] at hr
  refine ⟨u2, w2, hr, ⟨hszs, by rw [hflat, List.length_append]; exact h2⟩, h3, ?_⟩
  rcases hO.row.2 with ⟨hu, hn⟩ | ⟨g, c, cur, hu, hBg, hg, hnc, hcm, hcs, htk⟩
  ·right
   intro g hg
   have hrow : w.ownsRow w.heap.size e (E + 1) u vs.length (flat vs) := ⟨hO.row.1, .inl ⟨hu, hn⟩⟩
   obtain ⟨u3, w3, hr3, h4, _, _⟩ := run_append_own (P := P) w w.heap.size t ty e i z' (E + 1) bytes hT.u hi hz0 hsz hby hz (by omega) u vs.length (flat vs) hrow ad ns.length cap (flat ns) hfl hnews h1 hml hb (Nat.le_refl _)
   rw [← hu', hr] at hr3
   cases hr3
   rcases h4.2 with ⟨h5, _⟩ | ⟨g', c', cur', h5, h6, _⟩
   ·rw [h5] at hg; cases hg
   ·rw [h5] at hg
    simp only [Value.ownBlock, Option.some.injEq] at hg
    subst hg; exact h6
  ·by_cases hroom : vs.length + ns.length ≤ c
   ·left
    have hrow := hO.row
    rw [hu] at hrow
    obtain ⟨w3, hr3, _, _⟩ := run_append_fits (P := P) w B t ty e i (E + 1) hT.u hi hsz g vs.length c (flat vs) hrow ad ns.length cap (flat ns) hfl hnews h1 hroom
    rw [← hu, ← hu', hr] at hr3
    cases hr3
    rw [hu]; rfl
   ·right
    intro g' hg'
    have holds : ∀ j v, (flat vs)[j]? = some v → w.cell? ((⟨g, 0, none⟩ : Addr).add j) = some v := hO.row.cells (by rw [hu]; rfl)
    have hr3 := run_append_grow (P := P) w t ty e i z' hT.u hi hz0 ⟨g, 0, none⟩ vs.length c (flat vs) (by rw [hsz]; exact hO.row.1) holds ad ns.length cap (flat ns) (by rw [hsz]; exact hfl) hnews (by omega) (by omega) (growslice_fits (by omega) (by rw [hby]; exact hb))
    rw [← hu, ← hu', hr] at hr3
    cases hr3
    simp only [Value.ownBlock, Option.some.injEq] at hg'
    omega
section tails
variable {P : Program} {a : Act} {w : World} {T : TypeId} {pos : String} {aft : Array Edge} {ops : Array Oper} {Q : Exit → Act → World → Prop} {rest : List Oper}
theorem t_append {x y : Operand} {t e E B dst bytes : Nat} {dd : TypeDesc} {z z' : Value} {sz by_ : Nat} (hT : Ty P t (.slice e) z sz by_) (he : Ty P e dd z' (E + 1) bytes) (hz : z'.cells.size = E + 1)
  {u : Value} {vs : List Value} (hx : a.eval x = u) (hO : OwnS w B e (E + 1) u vs) {u' : Value} {ns : List Value} (hy : a.eval y = u') (hN : SlV w (E + 1) u' ns) (h1 : ∀ x ∈ flat ns, x.oneCell' = true)
  (hb : (vs.length + ns.length) * bytes ≤ 140737488355328) (hl : vs.length + ns.length ≤ 9223372036854775807) (hB : B ≤ w.heap.size)
  (hK : ∀ u2 w2, OwnS w2 B e (E + 1) u2 (vs ++ ns) → Appd w w2 u u2 → wpList P ops Q rest (a.put (some dst) u2) w2) : wpList P ops Q (⟨some dst, .call ⟨.builtin .append, #[x, y], #[t, t]⟩, T, pos, aft, none⟩ :: rest) a w := by
 obtain ⟨u2, w2, hr, h2, h3⟩ := run_append_full (ty := T) hT he hz hO hN h1 hb hl hB
 refine t_run (v := u2) (w' := w2) ?_ rfl (hK u2 w2 h2 h3)
 simp [execOp, resolve, invoke, builtin, hx, hy, hr]
theorem put_cont {D : List Deferred} {N dst : Nat} {v : Value} (hA : a.fitD N D) (hd : dst < N) (hK : ∀ a' : Act, a'.fitD N D → a'.get dst = v → (∀ t, Nat.beq dst t = false → a'.get t = a.get t) → wpList P ops Q rest a' w) : wpList P ops Q rest (a.put (some dst) v) w :=
 hK (a.put (some dst) v) (fit_put hA _ _) (get_put_same hA hd v) (fun t ht => get_put_ne (fun e => by subst e; simp at ht) v)
end tails
theorem OwnS.mono {w : World} {B B' T E : Nat} {u : Value} {vs : List Value} (h : OwnS w B T E u vs) (hB : B' ≤ B) : OwnS w B' T E u vs := by
 refine ⟨h.sz, h.row.1, ?_⟩
 rcases h.row.2 with h | ⟨b, cap, cur, h1, h2, h3⟩
 ·exact .inl h
 ·exact .inr ⟨b, cap, cur, h1, Nat.le_trans hB h2, h3⟩
section moves
variable {P : Program} {a : Act} {w : World} {d : Option Tmp} {T : TypeId} {pos : String} {aft : Array Edge} {g : Option (Nat × Bool)} {x : Operand}
end moves
end Go.Eng
end
section
namespace Go.Eng
open Go Go.RowKit
theorem made_flat (z : Value) (E : Nat) (hE : z.cells.size = E + 1) (n : Nat) : (madeCells z.cells (n * (E + 1))).toList = flat (List.replicate n z) := by
 have hs : ∀ x ∈ List.replicate n z, x.cells.size = E + 1 := fun x hx => by rw [List.eq_of_mem_replicate hx]; exact hE
 apply List.ext_getElem?
 intro j
 by_cases hj : j < n * (E + 1)
 ·have hq : j / (E + 1) < n := Nat.div_lt_of_lt_mul (by rw [Nat.mul_comm]; exact hj)
  have hr : j % (E + 1) < E + 1 := Nat.mod_lt _ (by omega)
  have e1 : j / (E + 1) * (E + 1) + j % (E + 1) = j := by rw [Nat.mul_comm]; exact Nat.div_add_mod j (E + 1)
  have h2 := flat_at hs (j / (E + 1)) z (by simp [hq]) _ hr
  rw [e1] at h2
  rw [h2]
  have hr' : j % (E + 1) < z.cells.size := by omega
  simp [madeCells, hj, hE]
  rw [Array.getElem?_eq_getElem hr', getElem!_pos z.cells _ hr']
 ·rw [List.getElem?_eq_none (by rw [Array.length_toList, size_madeCells]; omega), List.getElem?_eq_none (by rw [flat_length hs]; simp; omega)]
section ops
variable {P : Program} {a : Act} {w : World} {d : Option Tmp} {T : TypeId} {pos : String} {aft : Array Edge} {g : Option (Nat × Bool)}
theorem ok_makeN {x y : Operand} {X e E B bytes : Nat} {k k' : IntKind} {n : Nat} {m : Int} {z sz by_ dd z'} (hT : Ty P X (.slice e) z sz by_) (he : Ty P e dd z' (E + 1) bytes) (hz : z'.cells.size = E + 1) (hB : B ≤ w.heap.size)
  (hx : a.eval x = .int k m) (hy : a.eval y = .int k' m) (hm : m = (n : Int)) (hb : bytes * n ≤ 281474976710656) (hl : n ≤ 9223372036854775807) :
  Ok P ⟨d, .makeSlice X x y, T, pos, aft, g⟩ a w (SP.own B e (E + 1) (List.replicate n z')).holds := by
 obtain ⟨i, hi, hz0, hsz, hby⟩ := he.info
 subst hm
 have hr := run_make (P := P) w X e i z' hT.u hi hz0 k k' (n : Int) (n : Int) (by omega) (Int.le_refl _) (by rw [hby]; have h : ((bytes * n : Nat) : Int) ≤ 281474976710656 := (by omega); rwa [Int.natCast_mul] at h) (by omega)
 simp only [Int.toNat_natCast] at hr
 refine ok_run (w' := w.alloc (.cells (madeCells z'.cells (n * i.size)) e)) (v := .slice (some ⟨w.heap.size, 0, none⟩) n n) (by simp only [execOp, hx, hy, Sem.run_bind, hr, Result.andThen, Sem.run_pure]) (Ext.alloc _ _) ⟨fun x hx => by rw [List.eq_of_mem_replicate hx]; exact hz, ?_⟩
 rw [hsz, ← made_flat z' E hz n, List.length_replicate]
 exact World.ownsRow_lit w _ n hB (by unfold maxLen; omega) (size_madeCells _ _)
def EltOf (u : Value) (off : Nat) (p : Value) : Prop := ∃ b, u.ownBlock = some b ∧ p = .pointer (some ⟨b, off, none⟩)
abbrev SP.elt (u : Value) (off : Nat) : SP := .pr (fun _ p => EltOf u off p) (fun _ _ _ _ h => h)
theorem ok_indexElt {x i : Operand} {X e E B : Nat} {vs : List Value} {u : Value} {k : IntKind} {m : Int} {n : Nat} {z sz by_ dd z' by_'} (hT : Ty P X (.slice e) z sz by_) (he : Ty P e dd z' E by_') (hxu : a.eval x = u) (hO : OwnS w B e E u vs) (hi : a.eval i = .int k m) (hm : m = (n : Int)) (hn : n < vs.length) :
  Ok P ⟨d, .indexAddr X x i, T, pos, aft, g⟩ a w (SP.elt u (n * E)).holds := by
 subst hm
 rcases hO.row.2 with ⟨_, h2⟩ | ⟨b, cap, cur, h1, _⟩
 ·omega
 ·refine ok_run (v := .pointer (some ⟨b, n * E, none⟩)) (w' := w) ?_ (Ext.refl _) ⟨b, by rw [h1]; rfl, rfl⟩
  have hn' : (n : Int) < (vs.length : Int) := by omega
  simp [execOp, Instr.indexAt, asIntOf, hi, hxu, h1, hT.run_u, he.run_size, hn', addr_add]
  intro h; omega
end ops
theorem flat_set {E : Nat} : ∀ (vs : List Value) (n : Nat) (v : Value), (∀ x ∈ vs, x.cells.size = E) → v.cells.size = E → n < vs.length → ∀ j, (flat (vs.set n v))[j]? = if n * E ≤ j ∧ j < n * E + E then v.cells[j - n * E]? else (flat vs)[j]? := by
 intro vs n v hs hv hn j
 have hs' : ∀ x ∈ vs.set n v, x.cells.size = E := by
  intro x hx
  rcases List.mem_or_eq_of_mem_set hx with h | h
  ·exact hs x h
  ·rw [h]; exact hv
 by_cases hE : E = 0
 ·subst hE
  have h1 : flat (vs.set n v) = [] := List.eq_nil_of_length_eq_zero (by rw [flat_length hs']; simp)
  have h2 : flat vs = [] := List.eq_nil_of_length_eq_zero (by rw [flat_length hs]; simp)
  rw [h1, h2, if_neg (by omega)]
 ·by_cases hj : j < vs.length * E
  ·have hq : j / E < vs.length := Nat.div_lt_of_lt_mul (by rw [Nat.mul_comm]; exact hj)
   have hr : j % E < E := Nat.mod_lt _ (by omega)
   have e1 : j / E * E + j % E = j := by rw [Nat.mul_comm]; exact Nat.div_add_mod j E
   by_cases hnj : j / E = n
   ·have h2 := flat_at hs' (j / E) v (by rw [hnj]; simp [hn]) _ hr
    rw [e1] at h2
    rw [h2, ← hnj, if_pos (by omega)]
    congr 1; omega
   ·have h2 := flat_at hs' (j / E) vs[j / E] (by simp [hnj, Ne.symm hnj, hq]) _ hr
    have h3 := flat_at hs (j / E) vs[j / E] (by simp [hq]) _ hr
    rw [e1] at h2 h3
    rw [h2, ← h3, if_neg]
    rintro ⟨h4, h5⟩
    apply hnj
    have a1 : n * E ≤ j := h4
    have a2 : j < (n + 1) * E := by rw [Nat.add_mul]; omega
    have b1 : n ≤ j / E := (Nat.le_div_iff_mul_le (by omega)).2 a1
    have b2 : j / E < n + 1 := (Nat.div_lt_iff_lt_mul (by omega)).2 a2
    omega
  ·have hle : n * E + E ≤ vs.length * E := by
    have : (n + 1) * E ≤ vs.length * E := Nat.mul_le_mul_right _ hn
    rw [Nat.add_mul] at this; omega
   rw [List.getElem?_eq_none (by rw [flat_length hs']; simp; omega), if_neg (by omega), List.getElem?_eq_none (by rw [flat_length hs]; omega)]
theorem run_storeCells2 {P : Program} {T b off : Nat} : ∀ (l : List Value) (i : Nat) (w : World) (cs : Array Value), (∀ v ∈ l, v.oneCell' = true) → w.heap[b]? = some (.cells cs T) → off + i + l.length ≤ cs.size →
  ∃ w' cs', (storeCells ⟨b, off, none⟩ l i).run P w = .ok () w' ∧ w'.heap[b]? = some (.cells cs' T) ∧ cs'.size = cs.size ∧ (∀ j, cs'[j]? = if off + i ≤ j ∧ j < off + i + l.length then l[j - (off + i)]? else cs[j]?) ∧
   w'.os = w.os ∧ w'.tape = w.tape ∧ w'.output = w.output ∧ w'.heap.size = w.heap.size ∧ ∀ k, k ≠ b → w'.heap[k]? = w.heap[k]?
 | [], i, w, cs, _, hO, _ => ⟨w, cs, rfl, hO, rfl, fun j => by rw [if_neg (by simp)], rfl, rfl, rfl, rfl, fun _ _ => rfl⟩
 | v :: l, i, w, cs, h1, hO, hs => by
   simp only [List.length_cons] at hs
   have hi : off + i < cs.size := by omega
   have hOwn : Own w b cs T := ⟨(0, 0), hO, fun o _ => by simp⟩
   have hc : w.cell? ⟨b, off + i, none⟩ = some cs[off + i] := by rw [hOwn.cell, Array.getElem?_eq_getElem hi]
   have hset : (w.setCell ⟨b, off + i, none⟩ v).heap[b]? = some (.cells (cs.setIfInBounds (off + i) v) T) := by
    unfold World.setCell; simp [Array.getElem?_modify, hO]
   obtain ⟨w', cs', h2, h3, h4, h5, h6, h7, h8, h9, h10⟩ := run_storeCells2 (P := P) (off := off) l (i + 1) (w.setCell ⟨b, off + i, none⟩ v) _ (fun x hx => h1 x (by simp [hx])) hset (by simp; omega)
   refine ⟨w', cs', ?_, h3, by rw [h4]; simp, fun j => ?_, h6, h7, h8, by rw [h9]; simp [World.setCell], fun k hk => ?_⟩
   ·have e : (⟨b, off, none⟩ : Addr).add i = ⟨b, off + i, none⟩ := by rw [addr_add]
    simp only [storeCells, Sem.run_bind, e, run_store _ _ _ _ _ (h1 v (by simp)), hc, hOwn.frozen (off + i) hi]
    exact h2
   ·rw [h5 j, List.length_cons]
    by_cases hj : j = off + i
    ·subst hj
     rw [if_neg (by omega), if_pos (by omega)]; simp [hi]
    ·rw [Array.getElem?_setIfInBounds_ne (Ne.symm hj)]
     by_cases h : off + (i + 1) ≤ j ∧ j < off + (i + 1) + l.length
     ·rw [if_pos h, if_pos (by omega)]
      have e : j - (off + i) = (j - (off + (i + 1))) + 1 := by omega
      rw [e]; simp
     ·rw [if_neg h, if_neg (by omega)]
   ·rw [h10 k hk]
    unfold World.setCell; simp [Array.getElem?_modify, Ne.symm hk]
section tails
variable {P : Program} {a : Act} {w : World} {T : TypeId} {pos : String} {aft : Array Edge} {ops : Array Oper} {Q : Exit → Act → World → Prop} {rest : List Oper}
theorem t_storeElt {x y : Operand} {X E B n : Nat} {vs : List Value} {u p v : Value} {dd z by_} (hT : Ty P X dd z E by_) (hx : a.eval x = p) (hp : EltOf u (n * E) p) (hO : OwnS w B X E u vs) (hy : a.eval y = v) (hv : v.cells.size = E) (h1 : ∀ c ∈ v.cells.toList, c.oneCell' = true) (hn : n < vs.length)
  (hK : ∀ w', OwnS w' B X E u (vs.set n v) → Appd w w' u u → wpList P ops Q rest a w') : wpList P ops Q (⟨none, .store X x y, T, pos, aft, none⟩ :: rest) a w := by
 obtain ⟨b, hb, rfl⟩ := hp
 rcases hO.row.2 with ⟨_, h2⟩ | ⟨g, cap, cur, hu, hBg, hg, hnc, hcm, hcs, htk⟩
 ·omega
 ·rw [hu] at hb
  simp only [Value.ownBlock, Option.some.injEq] at hb
  subst hb
  have hnE : n * E + E ≤ vs.length * E := by
   have : (n + 1) * E ≤ vs.length * E := Nat.mul_le_mul_right _ hn
   rw [Nat.add_mul] at this; omega
  have hvc : vs.length * E ≤ cap * E := Nat.mul_le_mul_right _ hnc
  obtain ⟨w', cs', h2, h3, h4, h5, h6, h7, h8, h9, h10⟩ := run_storeCells2 (P := P) (off := n * E) v.cells.toList 0 w cur h1 hg (by rw [Array.length_toList, hv, hcs]; omega)
  refine t_skip (w' := w') ?_ rfl rfl (hK w' ⟨?_, ?_, .inr ⟨g, cap, cs', by rw [hu, List.length_set], hBg, h3, by rw [List.length_set]; exact hnc, hcm, by rw [h4, hcs], ?_⟩⟩ ⟨⟨h6, h7, h8, by omega, fun k _ hk => h10 k (fun e => hk (by rw [hu, e]; rfl))⟩, .inl rfl⟩)
  ·simp [execOp, Instr.storeAt, Instr.sureAddr, hx, hy, storeVar, hv, hT.run_size, h2]
  ·intro c hc
   rcases List.mem_or_eq_of_mem_set hc with h | h
   ·exact hO.sz c h
   ·rw [h]; exact hv
  ·have hs' : ∀ c ∈ vs.set n v, c.cells.size = E := by
    intro c hc
    rcases List.mem_or_eq_of_mem_set hc with h | h
    ·exact hO.sz c h
    ·rw [h]; exact hv
   rw [flat_length hs']
  ·apply List.ext_getElem?
   intro j
   rw [flat_set vs n v hO.sz hv hn j, List.length_set, List.getElem?_take]
   have hfl : ∀ j, j < vs.length * E → (flat vs)[j]? = cur[j]? := by
    intro j hj
    rw [← htk, List.getElem?_take, if_pos hj]; simp
   by_cases hj : j < vs.length * E
   ·rw [if_pos hj, Array.getElem?_toList, h5 j]
    simp only [Nat.add_zero, Array.length_toList, hv, Array.getElem?_toList]
    by_cases h : n * E ≤ j ∧ j < n * E + E
    ·rw [if_pos h, if_pos h]
    ·rw [if_neg h, if_neg h, hfl j hj]
   ·rw [if_neg hj, if_neg (by omega)]
    symm
    rw [List.getElem?_eq_none]
    rw [flat_length hO.sz]; omega
end tails
section ops
variable {P : Program} {a : Act} {w : World} {d : Option Tmp} {T : TypeId} {pos : String} {aft : Array Edge} {g : Option (Nat × Bool)}
end ops
section lists
variable {P : Program} {ops : Array Oper} {Q : Exit → Act → World → Prop} {rest : List Oper} {a : Act} {w : World} {o : Oper}
end lists
end Go.Eng
end
section
set_option linter.unusedVariables false
set_option linter.unusedSimpArgs false
namespace Go.Lift
open Go Go.RowKit Go.Eng
structure Comp (α : Type) where
 run : Nat → Option α
 mono : ∀ {n m : Nat} {a : α}, n ≤ m → run n = some a → run m = some a
namespace Comp
variable {α β σ ε : Type}
def pure (a : α) : Comp α := ⟨fun _ => some a, fun _ h => h⟩
def fail : Comp α := ⟨fun _ => none, fun _ h => h⟩
def bind (c : Comp α) (f : α → Comp β) : Comp β := ⟨fun n => match c.run n with | none => none | some a => (f a).run n, by
 intro n m a hnm h
 cases hc : c.run n with
 | none => rw [hc] at h; cases h
 | some x => rw [hc] at h; rw [c.mono hnm hc]; exact (f x).mono hnm h⟩
def gd (g : Bool) (c : Comp α) (d : α) : Comp α := match g with | true => c | false => pure d
def ofOpt (o : Option α) : Comp α := match o with | some a => pure a | none => fail
inductive Step (σ ε : Type) where
 | next (s : σ)
 | done (e : ε)
def loopN (body : σ → Comp (Step σ ε)) (n : Nat) : Nat → σ → Option ε
 | 0, _ => none
 | k + 1, s => match (body s).run n with
  | none => none
  | some (.next s') => loopN body n k s'
  | some (.done e) => some e
theorem loopN_mono {body : σ → Comp (Step σ ε)} {n m : Nat} (hnm : n ≤ m) : ∀ {k l : Nat} {s : σ} {e : ε}, k ≤ l → loopN body n k s = some e → loopN body m l s = some e := by
 intro k
 induction k with
 | zero => intro l s e _ h; cases h
 | succ k ih =>
  intro l s e hkl h
  obtain ⟨l, rfl⟩ : ∃ l', l = l' + 1 := ⟨l - 1, by omega⟩
  simp only [loopN] at h ⊢
  cases hb : (body s).run n with
  | none => rw [hb] at h; cases h
  | some x =>
   rw [(body s).mono hnm hb]; rw [hb] at h
   cases x with
   | next s' => exact ih (by omega) h
   | done e' => exact h
def loop (body : σ → Comp (Step σ ε)) (s : σ) : Comp ε := ⟨fun n => loopN body n n s, fun hnm h => loopN_mono hnm hnm h⟩
theorem run_pure {a b : α} {n : Nat} (h : (pure a).run n = some b) : a = b := by cases h; rfl
theorem run_bind {c : Comp α} {f : α → Comp β} {n : Nat} {b : β} (h : (c.bind f).run n = some b) : ∃ a, c.run n = some a ∧ (f a).run n = some b := by
 unfold bind at h
 simp only [] at h
 cases hc : c.run n with
 | none => rw [hc] at h; cases h
 | some x => rw [hc] at h; exact ⟨x, rfl, h⟩
theorem run_b_t {p : Bool} {c d : Comp α} {n : Nat} {a : α} (hp : p = true) (h : (if p = true then c else d).run n = some a) : c.run n = some a := by rwa [if_pos hp] at h
theorem run_b_f {p : Bool} {c d : Comp α} {n : Nat} {a : α} (hp : p = false) (h : (if p = true then c else d).run n = some a) : d.run n = some a := by rwa [if_neg (by simp [hp])] at h
theorem run_gd {g : Bool} {c : Comp α} {d : α} {n : Nat} {a : α} (h : (gd g c d).run n = some a) (hg : g = true) : c.run n = some a := by subst hg; exact h
theorem run_ofOpt {o : Option α} {n : Nat} {a : α} (h : (ofOpt o).run n = some a) : o = some a := by
 cases o with
 | none => cases h
 | some x => cases h; rfl
theorem run_loop {body : σ → Comp (Step σ ε)} {s : σ} {n : Nat} {e : ε} (h : (loop body s).run n = some e) : loopN body n n s = some e := h
theorem loopN_succ {body : σ → Comp (Step σ ε)} {s : σ} {n m : Nat} {e : ε} (h : loopN body n m s = some e) :
  ∃ m', m' < m ∧ ∃ st, (body s).run n = some st ∧ (∀ s', st = .next s' → loopN body n m' s' = some e) ∧ (∀ e', st = .done e' → e' = e) := by
 cases m with
 | zero => cases h
 | succ k =>
  simp only [loopN] at h
  cases hb : (body s).run n with
  | none => rw [hb] at h; cases h
  | some x =>
   rw [hb] at h
   refine ⟨k, by omega, x, rfl, fun s' hs => ?_, fun e' he => ?_⟩
   ·subst hs; exact h
   ·subst he; cases h; rfl
open Classical in
noncomputable def val (c : Comp α) : Option α := if h : ∃ a, ∃ n, c.run n = some a then some h.choose else none
theorem run_unique {c : Comp α} {n m : Nat} {a b : α} (h : c.run n = some a) (k : c.run m = some b) : a = b := by
 have h' := c.mono (Nat.le_max_left n m) h
 have k' := c.mono (Nat.le_max_right n m) k
 rw [h'] at k'; cases k'; rfl
theorem val_some {c : Comp α} {a : α} : c.val = some a ↔ ∃ n, c.run n = some a := by
 unfold val
 constructor
 ·intro h
  split at h
  ·rename_i hx; cases h; exact hx.choose_spec
  ·cases h
 ·rintro ⟨n, hn⟩
  have hx : ∃ a, ∃ n, c.run n = some a := ⟨a, n, hn⟩
  rw [dif_pos hx]
  obtain ⟨m, hm⟩ := hx.choose_spec
  rw [run_unique hm hn]
theorem val_run {c : Comp α} {n : Nat} {a : α} (h : c.run n = some a) : c.val = some a := val_some.2 ⟨n, h⟩
theorem val_none {c : Comp α} : c.val = none ↔ ∀ n, c.run n = none := by
 constructor
 ·intro h n
  cases hn : c.run n with
  | none => rfl
  | some a => rw [val_run hn] at h; cases h
 ·intro h
  cases hv : c.val with
  | none => rfl
  | some a => obtain ⟨n, hn⟩ := val_some.1 hv; rw [h n] at hn; cases hn
theorem val_ext {c d : Comp α} (h : ∀ a, c.val = some a ↔ d.val = some a) : c.val = d.val := by
 cases hc : c.val with
 | none =>
  cases hd : d.val with
  | none => rfl
  | some a => rw [(h a).2 hd] at hc; cases hc
 | some a => rw [(h a).1 hc]
@[simp] theorem val_pure (a : α) : (pure a).val = some a := val_run (n := 0) rfl
@[simp] theorem val_fail : (fail : Comp α).val = none := val_none.2 fun _ => rfl
@[simp] theorem val_ofOpt (o : Option α) : (ofOpt o).val = o := by cases o <;> simp [ofOpt]
theorem val_bind (c : Comp α) (f : α → Comp β) : (c.bind f).val = c.val.bind fun a => (f a).val := by
 cases hc : c.val with
 | none =>
  rw [Option.bind_none, val_none]
  intro n
  have := val_none.1 hc n
  simp [bind, this]
 | some a =>
  rw [Option.bind_some]
  obtain ⟨n, hn⟩ := val_some.1 hc
  refine val_ext fun b => ?_
  rw [val_some, val_some]
  constructor
  ·rintro ⟨m, hm⟩
   obtain ⟨x, h1, h2⟩ := run_bind hm
   rw [run_unique hn h1]; exact ⟨m, h2⟩
  ·rintro ⟨m, hm⟩
   refine ⟨max n m, ?_⟩
   have h1 := c.mono (Nat.le_max_left n m) hn
   have h2 := (f a).mono (Nat.le_max_right n m) hm
   simp [bind, h1, h2]
theorem val_ite {p : Prop} [Decidable p] (c d : Comp α) : (if p then c else d).val = if p then c.val else d.val := by split <;> rfl
theorem val_gd (g : Bool) (c : Comp α) (d : α) : (gd g c d).val = if g then c.val else some d := by cases g <;> simp [gd]
theorem opt_ext {c d : Option α} (h : ∀ a, c = some a ↔ d = some a) : c = d := by
 cases hc : c with
 | none =>
  cases hd : d with
  | none => rfl
  | some a => rw [(h a).2 hd] at hc; cases hc
 | some a => rw [(h a).1 hc]
theorem val_loop (body : σ → Comp (Step σ ε)) (s : σ) : (loop body s).val = (body s).val.bind fun | .next s' => (loop body s').val | .done e => some e := by
 refine opt_ext fun e => ?_
 constructor
 ·intro h
  obtain ⟨n, hn⟩ := val_some.1 h
  obtain ⟨m', hm, st, h1, h2, h3⟩ := loopN_succ (run_loop hn)
  rw [val_run h1, Option.bind_some]
  cases st with
  | next s' =>
   have := h2 s' rfl
   exact val_run (n := n) (loopN_mono (Nat.le_refl _) (Nat.le_of_lt hm) this)
  | done e' => rw [h3 e' rfl]
 ·intro h
  cases hb : (body s).val with
  | none => rw [hb] at h; cases h
  | some st =>
   rw [hb, Option.bind_some] at h
   obtain ⟨n, hn⟩ := val_some.1 hb
   cases st with
   | next s' =>
    obtain ⟨m, hm⟩ := val_some.1 h
    refine val_run (n := max n m + 1) ?_
    show loopN body _ (max n m + 1) s = some e
    simp only [loopN]
    rw [(body s).mono (by omega : n ≤ max n m + 1) hn]
    exact loopN_mono (by omega) (by omega) (run_loop hm)
   | done e' =>
    refine val_run (n := n + 1) ?_
    show loopN body _ (n + 1) s = some e
    simp only [loopN]
    rw [(body s).mono (by omega : n ≤ n + 1) hn]
    exact h
end Comp
end Go.Lift
end
section
set_option linter.unusedVariables false
set_option linter.unusedSimpArgs false
namespace Go.Lift
open Go Go.RowKit Go.Eng
abbrev Tags := Nat → Nat
def Keep (k : Nat) (O : Tags) (w : World) (O' : Tags) (w' : World) : Prop :=
 w.heap.size ≤ w'.heap.size ∧ ∀ b, b < w.heap.size → O b = k → O' b = k ∧ w'.heap[b]? = w.heap[b]?
theorem Keep.refl (k : Nat) (O : Tags) (w : World) : Keep k O w O w := ⟨Nat.le_refl _, fun _ _ h => ⟨h, rfl⟩⟩
theorem Keep.trans {k : Nat} {O O' O'' : Tags} {w w' w'' : World} (h : Keep k O w O' w') (h' : Keep k O' w' O'' w'') : Keep k O w O'' w'' :=
 ⟨Nat.le_trans h.1 h'.1, fun b hb ho => by
  obtain ⟨h1, h2⟩ := h.2 b hb ho
  obtain ⟨h3, h4⟩ := h'.2 b (Nat.lt_of_lt_of_le hb h.1) h1
  exact ⟨h3, h4.trans h2⟩⟩
theorem Keep.ext {k : Nat} {O : Tags} {w w' : World} (h : Ext w w') : Keep k O w O w' := ⟨h.size, fun b hb ho => ⟨ho, h.block b hb⟩⟩
def KX (j : Option Nat) (O : Tags) (w : World) (O' : Tags) (w' : World) : Prop :=
 w.heap.size ≤ w'.heap.size ∧ ∀ b, b < w.heap.size → some (O b) ≠ j → O' b = O b ∧ w'.heap[b]? = w.heap[b]?
theorem KX.keep {j : Option Nat} {k : Nat} {O O' : Tags} {w w' : World} (h : KX j O w O' w') (hk : some k ≠ j) : Keep k O w O' w' :=
 ⟨h.1, fun b hb ho => by obtain ⟨h1, h2⟩ := h.2 b hb (by rw [ho]; exact hk); exact ⟨h1.trans ho, h2⟩⟩
theorem KX.ext {O : Tags} {w w' : World} (h : Ext w w') : KX none O w O w' := ⟨h.size, fun b hb _ => ⟨rfl, h.block b hb⟩⟩
def OkO (O : Tags) (w : World) : Prop := ∀ b, w.heap.size ≤ b → O b = 0
theorem OkO.ext {O : Tags} {w w' : World} (h : OkO O w) (hE : Ext w w') : OkO O w' := fun b hb => h b (Nat.le_trans hE.size hb)
def tag (O : Tags) (o : Option Nat) (k : Nat) : Tags := fun b => if o = some b then k else O b
theorem tag_same (O : Tags) (b k : Nat) : tag O (some b) k b = k := by simp [tag]
theorem tag_ne {O : Tags} {o : Option Nat} {b k : Nat} (h : o ≠ some b) : tag O o k b = O b := by simp [tag, h]
theorem OkO.tag {O : Tags} {w : World} (h : OkO O w) {o : Option Nat} {k : Nat} (ho : ∀ g, o = some g → g < w.heap.size) : OkO (tag O o k) w := by
 intro b hb
 by_cases hg : o = some b
 ·exact absurd (ho b hg) (by omega)
 ·rw [tag_ne hg]; exact h b hb
theorem KX.tag {O : Tags} {w w' : World} {o : Option Nat} {k : Nat} (h : Ext w w') (ho : ∀ g, o = some g → w.heap.size ≤ g) : KX none O w (Go.Lift.tag O o k) w' :=
 ⟨h.size, fun b hb _ => ⟨tag_ne (fun e => by have := ho b e; omega), h.block b hb⟩⟩
theorem KX.free {O : Tags} {w : World} {o : Option Nat} {k : Nat} (h : ∀ g, o = some g → O g = k) : KX (some k) O w (Go.Lift.tag O o 0) w :=
 ⟨Nat.le_refl _, fun b _ hk => ⟨tag_ne (fun e => hk (by rw [h b e])), rfl⟩⟩
structure GR (α : Type) where
 agg : Bool
 sz : Nat
 rel : Tags → World → List Value → α → Prop
 len : ∀ {O w cs x}, rel O w cs x → cs.length = sz
 one : ∀ {O w cs x}, rel O w cs x → ∀ c ∈ cs, c.oneCell' = true
 mono : ∀ {O w O' w' cs x}, Keep 0 O w O' w' → rel O w cs x → rel O' w' cs x
variable {α β γ δ : Type}
def packV (agg : Bool) (cs : List Value) : Value := match agg with | true => .agg cs.toArray | false => cs.headD undef
def GR.v (r : GR α) (O : Tags) (w : World) (v : Value) (x : α) : Prop := ∃ cs, r.rel O w cs x ∧ v = packV r.agg cs
theorem GR.v_mono (r : GR α) {O w O' w' v x} (h : r.v O w v x) (hk : Keep 0 O w O' w') : r.v O' w' v x := by
 obtain ⟨cs, h1, h2⟩ := h
 exact ⟨cs, r.mono hk h1, h2⟩
theorem GR.v_ext (r : GR α) {O w w' v x} (h : r.v O w v x) (hE : Ext w w') : r.v O w' v x := r.v_mono h (Keep.ext hE)
def GR.fits (r : GR α) : Prop := r.agg = false → r.sz = 1
theorem cells_pack {agg : Bool} {cs : List Value} (h : agg = false → cs.length = 1) (h1 : ∀ c ∈ cs, c.oneCell' = true) : (packV agg cs).cells = cs.toArray := by
 cases agg with
 | true => rfl
 | false =>
  have := h rfl
  match cs, this with
  | [c], _ =>
   have := h1 c (by simp)
   cases c <;> first | rfl | (simp [Value.oneCell'] at this)
theorem GR.cells (r : GR α) (hr : r.fits) {O w v x} (h : r.v O w v x) : ∃ cs, r.rel O w cs x ∧ v = packV r.agg cs ∧ v.cells = cs.toArray := by
 obtain ⟨cs, h1, h2⟩ := h
 refine ⟨cs, h1, h2, ?_⟩
 rw [h2]
 exact cells_pack (fun ha => by rw [r.len h1, hr ha]) (r.one h1)
theorem GR.cells_size (r : GR α) (hr : r.fits) {O w v x} (h : r.v O w v x) : v.cells.size = r.sz := by
 obtain ⟨cs, h1, _, h3⟩ := r.cells hr h
 rw [h3]; simp [r.len h1]
theorem GR.cells_one (r : GR α) (hr : r.fits) {O w v x} (h : r.v O w v x) : ∀ c ∈ v.cells.toList, c.oneCell' = true := by
 obtain ⟨cs, h1, _, h3⟩ := r.cells hr h
 rw [h3]; simpa using r.one h1
def rC (agg : Bool) (sz : Nat) (cells : α → List Value) (hl : ∀ x, (cells x).length = sz) (ho : ∀ x, ∀ c ∈ cells x, c.oneCell' = true) : GR α where
 agg := agg
 sz := sz
 rel := fun _ _ cs x => cs = cells x
 len := fun h => by rw [h]; exact hl _
 one := fun h => by rw [h]; exact ho _
 mono := fun _ h => h
def str (l : List UInt8) : ByteArray := ⟨l.toArray⟩
theorem str_size (l : List UInt8) : (str l).size = l.length := rfl
abbrev Bytes := List UInt8
def rInt (k : IntKind) : GR Int := rC false 1 (fun x => [.int k x]) (fun _ => rfl) (fun _ => by simp [Value.oneCell'])
def rBool : GR Bool := rC false 1 (fun x => [.bool x]) (fun _ => rfl) (fun _ => by simp [Value.oneCell'])
theorem rInt_v {k : IntKind} {O w v x} : (rInt k).v O w v x ↔ v = .int k x := ⟨fun ⟨_, h1, h2⟩ => by rw [h2, h1]; rfl, fun h => ⟨_, rfl, h⟩⟩
theorem rBool_v {O w v x} : rBool.v O w v x ↔ v = .bool x := ⟨fun ⟨_, h1, h2⟩ => by rw [h2, h1]; rfl, fun h => ⟨_, rfl, h⟩⟩
theorem rC_v {agg : Bool} {sz : Nat} {cells : α → List Value} {hl ho} {O w v x} : (rC agg sz cells hl ho).v O w v x ↔ v = packV agg (cells x) := ⟨fun ⟨_, h1, h2⟩ => by rw [h2, h1]; rfl, fun h => ⟨_, rfl, h⟩⟩
def rNil : GR γ where
 agg := true
 sz := 0
 rel := fun _ _ cs _ => cs = []
 len := fun h => by rw [h]; rfl
 one := fun h => by rw [h]; simp
 mono := fun _ h => h
def rCons (r : GR α) (p : γ → α) (s : GR γ) : GR γ where
 agg := true
 sz := r.sz + s.sz
 rel := fun O w cs x => ∃ c1 c2, cs = c1 ++ c2 ∧ r.rel O w c1 (p x) ∧ s.rel O w c2 x
 len := fun ⟨c1, c2, h, h1, h2⟩ => by rw [h, List.length_append, r.len h1, s.len h2]
 one := fun ⟨c1, c2, h, h1, h2⟩ c hc => by
  rw [h, List.mem_append] at hc
  exact hc.elim (r.one h1 c) (s.one h2 c)
 mono := fun hk ⟨c1, c2, h, h1, h2⟩ => ⟨c1, c2, h, r.mono hk h1, s.mono hk h2⟩
def RelL (r : GR α) (O : Tags) (w : World) : List Value → List α → Prop
 | [], [] => True
 | v :: vs, x :: xs => r.v O w v x ∧ RelL r O w vs xs
 | _, _ => False
theorem RelL.mono {r : GR α} {O w O' w'} (hk : Keep 0 O w O' w') : ∀ {vs : List Value} {xs : List α}, RelL r O w vs xs → RelL r O' w' vs xs
 | [], [], _ => trivial
 | v :: vs, x :: xs, h => ⟨r.v_mono h.1 hk, RelL.mono hk h.2⟩
 | [], _ :: _, h => h.elim
 | _ :: _, [], h => h.elim
theorem RelL.len {r : GR α} {O w} : ∀ {vs : List Value} {xs : List α}, RelL r O w vs xs → vs.length = xs.length
 | [], [], _ => rfl
 | v :: vs, x :: xs, h => by simp [RelL.len h.2]
 | [], _ :: _, h => h.elim
 | _ :: _, [], h => h.elim
theorem RelL.get {r : GR α} {O w} : ∀ {vs : List Value} {xs : List α}, RelL r O w vs xs → ∀ (i : Nat) (x : α), xs[i]? = some x → ∃ v, vs[i]? = some v ∧ r.v O w v x
 | [], [], _, i, x, hx => by simp at hx
 | v :: vs, y :: xs, h, 0, x, hx => by simp at hx; subst hx; exact ⟨v, rfl, h.1⟩
 | v :: vs, y :: xs, h, i + 1, x, hx => by simp at hx; simpa using RelL.get h.2 i x hx
 | [], _ :: _, h, _, _, _ => h.elim
 | _ :: _, [], h, _, _, _ => h.elim
theorem RelL.append {r : GR α} {O w} : ∀ {vs us : List Value} {xs ys : List α}, RelL r O w vs xs → RelL r O w us ys → RelL r O w (vs ++ us) (xs ++ ys)
 | [], _, [], _, _, k => k
 | v :: vs, _, x :: xs, _, h, k => ⟨h.1, RelL.append h.2 k⟩
 | [], _, _ :: _, _, h, _ => h.elim
 | _ :: _, _, [], _, h, _ => h.elim
theorem RelL.take {r : GR α} {O w} : ∀ {vs : List Value} {xs : List α}, RelL r O w vs xs → ∀ n, RelL r O w (vs.take n) (xs.take n)
 | [], [], _, n => by simp [RelL]
 | v :: vs, x :: xs, h, 0 => trivial
 | v :: vs, x :: xs, h, n + 1 => ⟨h.1, RelL.take h.2 n⟩
 | [], _ :: _, h, _ => h.elim
 | _ :: _, [], h, _ => h.elim
theorem RelL.set {r : GR α} {O w} : ∀ {vs : List Value} {xs : List α}, RelL r O w vs xs → ∀ n {v x}, r.v O w v x → RelL r O w (vs.set n v) (xs.set n x)
 | [], [], _, n, _, _, _ => by simp [RelL]
 | _ :: vs, _ :: xs, h, 0, _, _, k => ⟨k, h.2⟩
 | _ :: vs, _ :: xs, h, n + 1, _, _, k => ⟨h.1, RelL.set h.2 n k⟩
 | [], _ :: _, h, _, _, _, _ => h.elim
 | _ :: _, [], h, _, _, _, _ => h.elim
theorem RelL.replicate {r : GR α} {O w v x} (h : r.v O w v x) : ∀ n, RelL r O w (List.replicate n v) (List.replicate n x)
 | 0 => trivial
 | n + 1 => ⟨h, RelL.replicate h n⟩
theorem RelL.size {r : GR α} (hr : r.fits) {O w} : ∀ {vs : List Value} {xs : List α}, RelL r O w vs xs → ∀ v ∈ vs, v.cells.size = r.sz
 | [], [], _, v, hv => by cases hv
 | u :: vs, x :: xs, h, v, hv => by
  rcases List.mem_cons.1 hv with rfl | hv
  ·exact r.cells_size hr h.1
  ·exact RelL.size hr h.2 v hv
 | [], _ :: _, h, _, _ => h.elim
 | _ :: _, [], h, _, _ => h.elim
theorem RelL.one {r : GR α} (hr : r.fits) {O w} : ∀ {vs : List Value} {xs : List α}, RelL r O w vs xs → ∀ c ∈ flat vs, c.oneCell' = true
 | [], [], _, c, hc => by simp [flat] at hc
 | u :: vs, x :: xs, h, c, hc => by
  simp only [flat, List.flatMap_cons, List.mem_append] at hc
  rcases hc with hc | hc
  ·exact r.cells_one hr h.1 c hc
  ·exact RelL.one hr h.2 c hc
 | [], _ :: _, h, _, _ => h.elim
 | _ :: _, [], h, _, _ => h.elim
theorem RelL.closed {agg : Bool} {sz : Nat} {cells : α → List Value} {hl ho} {O w} : ∀ {vs : List Value} {xs : List α}, RelL (rC agg sz cells hl ho) O w vs xs ↔ vs = xs.map fun x => packV agg (cells x)
 | [], [] => by simp [RelL]
 | v :: vs, x :: xs => by simp [RelL, rC_v, RelL.closed (vs := vs) (xs := xs)]
 | [], _ :: _ => by simp [RelL]
 | _ :: _, [] => by simp [RelL]
theorem cell_keep {O O' : Tags} {w w' : World} (hk : Keep 0 O w O' w') {p : Addr} {v : Value} (hp : O p.block = 0) (h : w.cell? p = some v) : w'.cell? p = some v := by
 have hb : p.block < w.heap.size := by
  unfold World.cell? at h
  cases hh : w.heap[p.block]? with
  | none => simp [hh] at h
  | some o => exact (Array.getElem?_eq_some_iff.1 hh).1
 have := (hk.2 _ hb hp).2
 rw [World.cell?_of_block this]; exact h
def Foot (O : Tags) (w : World) (u : Value) (vs : List Value) : Prop := vs ≠ [] → ∀ g, u.ownBlock = some g → g < w.heap.size ∧ O g = 0
theorem Foot.keep {O O' : Tags} {w w' : World} (hk : Keep 0 O w O' w') {u : Value} {vs : List Value} (h : Foot O w u vs) : Foot O' w' u vs := fun hv g hg => by
 obtain ⟨h1, h2⟩ := h hv g hg
 exact ⟨Nat.lt_of_lt_of_le h1 hk.1, (hk.2 g h1 h2).1⟩
theorem slv_keep {O O' : Tags} {w w' : World} (hk : Keep 0 O w O' w') {E : Nat} {u : Value} {vs : List Value} (h : SlV w E u vs) (hf : Foot O w u vs) : SlV w' E u vs := by
 obtain ⟨a, cap, h1, h2, h3, h4⟩ := h
 refine ⟨a, cap, h1, h2, h3, ?_⟩
 rcases h4 with h4 | ⟨b, off, ha, hc⟩
 ·exact .inl h4
 ·by_cases hv : vs = []
  ·exact .inl hv
  refine .inr ⟨b, off, ha, fun i x hx j hj => ?_⟩
  have := hc i x hx j hj
  have hlt : j < x.cells.size := by rw [h3 x (List.mem_of_getElem? hx)]; exact hj
  rw [Array.getElem?_eq_getElem hlt] at this ⊢
  exact cell_keep hk (hf hv b (by rw [h1, ha]; rfl)).2 this
def rSl (r : GR α) : GR (List α) where
 agg := false
 sz := 1
 rel := fun O w cs xs => ∃ u vs, cs = [u] ∧ SlV w r.sz u vs ∧ RelL r O w vs xs ∧ Foot O w u vs
 len := fun ⟨u, vs, h, _⟩ => by rw [h]; rfl
 one := fun ⟨u, vs, h, ⟨a, cap, h1, _⟩, _⟩ c hc => by
  rw [h] at hc; simp at hc; subst hc; rw [h1]; rfl
 mono := fun hk ⟨u, vs, h, h1, h2, h3⟩ => ⟨u, vs, h, slv_keep hk h1 h3, h2.mono hk, h3.keep hk⟩
theorem rSl_v {r : GR α} {O w u xs} : (rSl r).v O w u xs ↔ ∃ vs, SlV w r.sz u vs ∧ RelL r O w vs xs ∧ Foot O w u vs :=
 ⟨fun ⟨cs, ⟨u', vs, h, h1, h2, h3⟩, hu⟩ => by rw [h] at hu; simp [rSl, packV] at hu; subst hu; exact ⟨vs, h1, h2, h3⟩, fun ⟨vs, h1, h2, h3⟩ => ⟨[u], ⟨u, vs, rfl, h1, h2, h3⟩, rfl⟩⟩
def Rd (r : GR α) (O : Tags) (w : World) (u : Value) (xs : List α) : Prop := ∃ vs, SlV w r.sz u vs ∧ RelL r O w vs xs
theorem Rd.ext {r : GR α} {O w w' u xs} (h : Rd r O w u xs) (hE : Ext w w') : Rd r O w' u xs := by
 obtain ⟨vs, h1, h2⟩ := h; exact ⟨vs, h1.ext hE, h2.mono (Keep.ext hE)⟩
theorem rd_of {r : GR α} {O w u xs} (h : (rSl r).v O w u xs) : Rd r O w u xs := by
 obtain ⟨vs, h1, h2, _⟩ := rSl_v.1 h; exact ⟨vs, h1, h2⟩
theorem rSl_nil (r : GR α) (O : Tags) (w : World) (c : Nat) : (rSl r).v O w (.slice none 0 c) [] := rSl_v.2 ⟨[], ⟨none, c, rfl, by simp, by simp, .inl rfl⟩, trivial, fun h => absurd rfl h⟩
def OwnL (k : Nat) (r : GR α) (T : Nat) (B : Nat → Prop) (O : Tags) (w : World) (u : Value) (xs : List α) : Prop :=
 ∃ vs, OwnS w 0 T r.sz u vs ∧ RelL r O w vs xs ∧ ∀ g, u.ownBlock = some g → O g = k ∧ B g
theorem OwnL.rd {k : Nat} {r : GR α} {T B O w u xs} (h : OwnL k r T B O w u xs) : Rd r O w u xs := by
 obtain ⟨vs, h1, h2, _⟩ := h; exact ⟨vs, h1.slv, h2⟩
theorem ownS_keep {w w' : World} {B T E : Nat} {u : Value} {vs : List Value} (h : OwnS w B T E u vs) (hb : ∀ g, u.ownBlock = some g → w'.heap[g]? = w.heap[g]?) : OwnS w' B T E u vs := by
 refine ⟨h.sz, h.row.1, ?_⟩
 rcases h.row.2 with h1 | ⟨b, cap, cur, h1, h2, h3, h4⟩
 ·exact .inl h1
 ·exact .inr ⟨b, cap, cur, h1, h2, by rw [hb b (by rw [h1]; rfl)]; exact h3, h4⟩
theorem OwnL.keep {k : Nat} {r : GR α} {T B O w O' w' u xs} (h : OwnL k r T B O w u xs) (h0 : Keep 0 O w O' w') (hk : Keep k O w O' w') : OwnL k r T B O' w' u xs := by
 obtain ⟨vs, h1, h2, h3⟩ := h
 exact ⟨vs, ownS_keep h1 fun g hg => (hk.2 g (h1.block_lt g hg) (h3 g hg).1).2, h2.mono h0, fun g hg => ⟨(hk.2 g (h1.block_lt g hg) (h3 g hg).1).1, (h3 g hg).2⟩⟩
theorem OwnL.ext {k : Nat} {r : GR α} {T B O w w' u xs} (h : OwnL k r T B O w u xs) (hE : Ext w w') : OwnL k r T B O w' u xs := h.keep (Keep.ext hE) (Keep.ext hE)
theorem OwnL.kx {j : Option Nat} {k : Nat} {r : GR α} {T B O w O' w' u xs} (h : OwnL k r T B O w u xs) (hx : KX j O w O' w') (h0 : some 0 ≠ j) (hk : some k ≠ j) : OwnL k r T B O' w' u xs := h.keep (hx.keep h0) (hx.keep hk)
theorem OwnL.nil (k : Nat) (r : GR α) (T : Nat) (B : Nat → Prop) (O : Tags) (w : World) : OwnL k r T B O w (.slice none 0 0) [] := ⟨[], OwnS.nil _ _ _ _, trivial, fun g hg => by cases hg⟩
theorem OwnL.tagged {k : Nat} {r : GR α} {T B O w u xs} (h : OwnL k r T B O w u xs) : ∀ g, u.ownBlock = some g → O g = k := by obtain ⟨_, _, _, h3⟩ := h; exact fun g hg => (h3 g hg).1
theorem OwnL.ge {k : Nat} {r : GR α} {T B O w u xs} (h : OwnL k r T B O w u xs) : ∀ g, u.ownBlock = some g → B g ∧ g < w.heap.size := by
 obtain ⟨vs, h1, _, h3⟩ := h; exact fun g hg => ⟨(h3 g hg).2, h1.block_lt g hg⟩
theorem OwnL.freeze {k : Nat} {r : GR α} {T B O w u xs} (h : OwnL k r T B O w u xs) (hk : k ≠ 0) : (rSl r).v (tag O u.ownBlock 0) w u xs := by
 have ht := h.tagged
 obtain ⟨vs, h1, h2, h3⟩ := h
 exact rSl_v.2 ⟨vs, h1.slv, h2.mono ((KX.free ht).keep (by simpa using hk.symm)), fun _ g hg => ⟨h1.block_lt g hg, by rw [hg]; exact tag_same _ _ _⟩⟩
theorem OwnL.lend {k : Nat} {r : GR α} {T B O w u xs} (h : OwnL k r T B O w u xs) : (rSl r).v (fun _ => 0) w u xs := by
 obtain ⟨vs, h1, h2, h3⟩ := h
 exact rSl_v.2 ⟨vs, h1.slv, h2.mono ⟨Nat.le_refl _, fun _ _ _ => ⟨rfl, rfl⟩⟩, fun _ g hg => ⟨h1.block_lt g hg, rfl⟩⟩
theorem GR.lend (r : GR α) {O w v x} (h : r.v O w v x) : r.v (fun _ => 0) w v x := r.v_mono h ⟨Nat.le_refl _, fun _ _ _ => ⟨rfl, rfl⟩⟩
theorem okO_zero (w : World) : OkO (fun _ => 0) w := fun _ _ => rfl
def OwnR (r : GR α) (T B : Nat) (O : Tags) (w : World) (u : Value) (xs : List α) : Prop :=
 ∃ vs, OwnS w B T r.sz u vs ∧ RelL r (tag O u.ownBlock 1) w vs xs
theorem OwnR.ext {r : GR α} {T B O w w' u xs} (h : OwnR r T B O w u xs) (hE : Ext w w') : OwnR r T B O w' u xs := by
 obtain ⟨vs, h1, h2⟩ := h; exact ⟨vs, h1.ext hE, h2.mono (Keep.ext hE)⟩
theorem OwnR.rd {r : GR α} {T B O w u xs} (h : OwnR r T B O w u xs) : Rd r (tag O u.ownBlock 1) w u xs := by
 obtain ⟨vs, h1, h2⟩ := h; exact ⟨vs, h1.slv, h2⟩
theorem OwnR.ge {r : GR α} {T B O w u xs} (h : OwnR r T B O w u xs) : ∀ g, u.ownBlock = some g → B ≤ g ∧ g < w.heap.size := by
 obtain ⟨vs, h1, h2⟩ := h; exact fun g hg => ⟨h1.block_ge g hg, h1.block_lt g hg⟩
theorem OwnR.own {r : GR α} {T B O w u xs} (h : OwnR r T B O w u xs) (k : Nat) {B' : Nat → Prop} (hk : k ≠ 0) (hB : ∀ g, B ≤ g → B' g) : OwnL k r T B' (tag O u.ownBlock k) w u xs := by
 have hge := h.ge
 obtain ⟨vs, h1, h2⟩ := h
 refine ⟨vs, h1.mono (Nat.zero_le _), h2.mono ⟨Nat.le_refl _, fun b _ hb => ⟨?_, rfl⟩⟩, fun g hg => ⟨by rw [hg]; exact tag_same _ _ _, hB g (hge g hg).1⟩⟩
 by_cases hg : u.ownBlock = some b
 ·rw [hg, tag_same] at hb; cases hb
 ·rw [tag_ne hg] at hb ⊢; exact hb
theorem OwnR.val {r : GR α} {T B O w u xs} (h : OwnR r T B O w u xs) (hO : ∀ g, u.ownBlock = some g → O g = 0) : (rSl r).v O w u xs := by
 obtain ⟨vs, h1, h2⟩ := h
 refine rSl_v.2 ⟨vs, h1.slv, h2.mono ⟨Nat.le_refl _, fun b _ hb => ⟨?_, rfl⟩⟩, fun _ g hg => ⟨h1.block_lt g hg, hO g hg⟩⟩
 by_cases hg : u.ownBlock = some b
 ·rw [hg, tag_same] at hb; cases hb
 ·rw [tag_ne hg] at hb; exact hb
theorem _root_.Go.Eng.OwnS.rebase {w : World} {B B' T E : Nat} {u : Value} {vs : List Value} (h : OwnS w B T E u vs) (hb : ∀ g, u.ownBlock = some g → B' ≤ g) : OwnS w B' T E u vs := by
 refine ⟨h.sz, h.row.1, ?_⟩
 rcases h.row.2 with h1 | ⟨b, cap, cur, h1, h2, h3⟩
 ·exact .inl h1
 ·exact .inr ⟨b, cap, cur, h1, hb b (by rw [h1]; rfl), h3⟩
def Fr (w0 : World) : Nat → Prop := fun b => w0.heap.size ≤ b
def FrB (w0 : World) (c : Nat) : Nat → Prop := fun b => w0.heap.size ≤ b ∨ b = c
theorem OwnL.res {k : Nat} {r : GR α} {T O O0 w0 w u xs} (h : OwnL k r T (Fr w0) O w u xs) (hk : k ≠ 0) (h0 : ∀ b, b < w.heap.size → O b = 0 → O0 b = 0) : OwnR r T w0.heap.size O0 w u xs := by
 obtain ⟨vs, h1, h2, h3⟩ := h
 refine ⟨vs, h1.rebase fun g hg => (h3 g hg).2, h2.mono ⟨Nat.le_refl _, fun b hb ho => ⟨?_, rfl⟩⟩⟩
 rw [tag_ne (fun hg => by rw [(h3 b hg).1] at ho; exact hk ho)]
 exact h0 b hb ho
structure OwnB (k : Nat) (B : Nat → Prop) (O : Tags) (w : World) (b : Nat) (cs : Array Value) (T : TypeId) : Prop where
 own : Own w b cs T
 ge : B b
 tag : O b = k
theorem OwnB.keep {k : Nat} {B : Nat → Prop} {O O' : Tags} {w w' : World} {b : Nat} {cs : Array Value} {T : TypeId} (h : OwnB k B O w b cs T) (hk : Keep k O w O' w') : OwnB k B O' w' b cs T := by
 obtain ⟨h1, h2⟩ := hk.2 b h.own.lt h.tag
 obtain ⟨fr, h3, h4⟩ := h.own
 exact ⟨⟨fr, h2.trans h3, h4⟩, h.ge, h1⟩
theorem OwnB.ext {k : Nat} {B : Nat → Prop} {O : Tags} {w w' : World} {b : Nat} {cs : Array Value} {T : TypeId} (h : OwnB k B O w b cs T) (hE : Ext w w') : OwnB k B O w' b cs T := h.keep (Keep.ext hE)
theorem OwnB.kx {j : Option Nat} {k : Nat} {B : Nat → Prop} {O O' : Tags} {w w' : World} {b : Nat} {cs : Array Value} {T : TypeId} (h : OwnB k B O w b cs T) (hx : KX j O w O' w') (hk : some k ≠ j) : OwnB k B O' w' b cs T := h.keep (hx.keep hk)
def rBox (r : GR α) : GR α where
 agg := false
 sz := 1
 rel := fun O w cs x => ∃ b cs' T, cs = [.pointer (some ⟨b, 0, none⟩)] ∧ Own w b cs'.toArray T ∧ O b = 0 ∧ r.rel O w cs' x
 len := fun ⟨_, _, _, h, _⟩ => by rw [h]; rfl
 one := fun ⟨_, _, _, h, _⟩ c hc => by rw [h] at hc; simp at hc; subst hc; rfl
 mono := fun hk ⟨b, cs', T, h, ⟨fr, h1, h2⟩, h3, h4⟩ => by
  obtain ⟨h5, h6⟩ := hk.2 b (Array.getElem?_eq_some_iff.1 h1).1 h3
  exact ⟨b, cs', T, h, ⟨fr, h6.trans h1, h2⟩, h5, r.mono hk h4⟩
theorem OwnB.freeze {k : Nat} {B : Nat → Prop} {O : Tags} {w : World} {b : Nat} {cs : List Value} {T : TypeId} (h : OwnB k B O w b cs.toArray T) (hk : k ≠ 0) {r : GR α} {x : α} (hr : r.rel O w cs x) : (rBox r).v (Go.Lift.tag O (some b) 0) w (.pointer (some ⟨b, 0, none⟩)) x :=
 ⟨_, ⟨b, cs, T, rfl, h.own, tag_same _ _ _, r.mono ((KX.free (o := some b) (k := k) fun g hg => by cases hg; exact h.tag).keep (by simpa using hk.symm)) hr⟩, rfl⟩
theorem OwnB.tagged {k : Nat} {B : Nat → Prop} {O : Tags} {w : World} {b : Nat} {cs : Array Value} {T : TypeId} (h : OwnB k B O w b cs T) : ∀ g, some b = some g → O g = k := fun g hg => by cases hg; exact h.tag
theorem OwnB.ge' {k : Nat} {B : Nat → Prop} {O : Tags} {w : World} {b : Nat} {cs : Array Value} {T : TypeId} (h : OwnB k B O w b cs T) : ∀ g, some b = some g → B g := fun g hg => by cases hg; exact h.ge
structure Base (A : Nat → Prop) (O : Tags) (w0 : World) (Oc : Tags) (w : World) : Prop where
 os : w.os = w0.os
 tape : w.tape = w0.tape
 output : w.output = w0.output
 size : w0.heap.size ≤ w.heap.size
 block : ∀ b, b < w0.heap.size → ¬ A b → w.heap[b]? = w0.heap[b]?
 ok : OkO Oc w
 old : ∀ b, b < w0.heap.size → ¬ A b → Oc b = O b
 zero : ∀ b, b < w.heap.size → Oc b = 0 → O b = 0
 new : ∀ b, w0.heap.size ≤ b → A b
theorem Base.start {O : Tags} {w0 : World} (h : OkO O w0) : Base (Fr w0) O w0 O w0 := ⟨rfl, rfl, rfl, Nat.le_refl _, fun _ _ _ => rfl, h, fun _ _ _ => rfl, fun _ _ h => h, fun _ h => h⟩
theorem Base.ext {O Oc : Tags} {w0 w : World} (h : Base (Fr w0) O w0 Oc w) : Ext w0 w := ⟨h.os, h.tape, h.output, h.size, fun b hb => h.block b hb (fun e => by unfold Fr at e; omega)⟩
variable {A : Nat → Prop}
theorem Base.step {O Oc : Tags} {w0 w w' : World} (h : Base A O w0 Oc w) (hE : Ext w w') (hO : OkO O w0) : Base A O w0 Oc w' :=
 ⟨hE.os.trans h.os, hE.tape.trans h.tape, hE.output.trans h.output, Nat.le_trans h.size hE.size, fun b hb hA => (hE.block b (Nat.lt_of_lt_of_le hb h.size)).trans (h.block b hb hA), h.ok.ext hE, h.old,
  fun b _ ho => by
   by_cases hb : b < w.heap.size
   ·exact h.zero b hb ho
   ·exact hO b (by have := h.size; omega), h.new⟩
theorem Base.tag {O Oc : Tags} {w0 w : World} (h : Base A O w0 Oc w) {o : Option Nat} {k : Nat} (hk : k ≠ 0) (ho : ∀ g, o = some g → A g ∧ g < w.heap.size) : Base A O w0 (tag Oc o k) w :=
 ⟨h.os, h.tape, h.output, h.size, h.block, h.ok.tag fun g hg => (ho g hg).2, fun b hb hA => by rw [tag_ne (fun e => hA (ho b e).1)]; exact h.old b hb hA,
  fun b hb hz => by
   by_cases e : o = some b
   ·rw [e, tag_same] at hz; exact absurd hz hk
   ·rw [tag_ne e] at hz; exact h.zero b hb hz, h.new⟩
theorem Base.untag {O Oc : Tags} {w0 w : World} (h : Base A O w0 Oc w) (hO : OkO O w0) {o : Option Nat} (ho : ∀ g, o = some g → A g) (hz : ∀ g, o = some g → g < w0.heap.size → O g = 0) : Base A O w0 (Go.Lift.tag Oc o 0) w :=
 ⟨h.os, h.tape, h.output, h.size, h.block, fun b hb => by
  unfold Go.Lift.tag; split
  ·rfl
  ·exact h.ok b hb, fun b hb hA => by rw [tag_ne (fun e => hA (ho b e))]; exact h.old b hb hA,
  fun b hb hb0 => by
   by_cases e : o = some b
   ·by_cases hlt : b < w0.heap.size
    ·exact hz b e hlt
    ·exact hO b (by omega)
   ·rw [tag_ne e] at hb0; exact h.zero b hb hb0, h.new⟩
theorem Base.res {O Oc : Tags} {w0 w : World} (h : Base A O w0 Oc w) (r : GR α) {v x} (hr : r.v Oc w v x) : r.v O w v x := r.v_mono hr ⟨Nat.le_refl _, fun b hb ho => ⟨h.zero b hb ho, rfl⟩⟩
theorem Base.but {O Oc : Tags} {w0 w w' : World} {b : Nat} (h : Base A O w0 Oc w) (hb : A b) (hE : But b w w') (hO : OkO O w0) : Base A O w0 Oc w' :=
 ⟨hE.os.trans h.os, hE.tape.trans h.tape, hE.output.trans h.output, Nat.le_trans h.size hE.size, fun c hc hA => (hE.block c (Nat.lt_of_lt_of_le hc h.size) (fun e => hA (e ▸ hb))).trans (h.block c hc hA),
  fun c hc => h.ok c (Nat.le_trans hE.size hc), h.old, fun c _ ho => by
   by_cases hc : c < w.heap.size
   ·exact h.zero c hc ho
   ·exact hO c (by have := h.size; omega), h.new⟩
theorem KX.but {O : Tags} {w w' : World} {b k : Nat} (hE : But b w w') (hb : O b = k) : KX (some k) O w O w' :=
 ⟨hE.size, fun c hc hk => ⟨rfl, hE.block c hc (fun e => by subst e; exact hk (by rw [hb]))⟩⟩
end Go.Lift
end
section
set_option linter.unusedVariables false
set_option linter.unusedSimpArgs false
namespace Go.Lift
open Go Go.RowKit Go.Eng
variable {α β γ δ : Type}
abbrev SP.vl (r : GR α) (O : Tags) (x : α) : SP := .pr (fun w v => r.v O w v x) (fun _ _ _ hE h => r.v_ext h hE)
abbrev SP.ptr (r : GR α) (O : Tags) (x : α) : SP := .pr (fun w p => ∃ v, PtrTo w p v ∧ r.v O w v x) (fun _ _ _ hE ⟨v, h1, h2⟩ => ⟨v, h1.ext hE, r.v_ext h2 hE⟩)
abbrev SP.rd (r : GR α) (O : Tags) (xs : List α) : SP := .pr (fun w u => Rd r O w u xs) (fun _ _ _ hE h => h.ext hE)
abbrev SP.ownr (r : GR α) (T B : Nat) (O : Tags) (xs : List α) : SP := .pr (fun w u => OwnR r T B O w u xs) (fun _ _ _ hE h => h.ext hE)
abbrev SP.tup2 (φ ψ : SP) : SP := .pr (fun w v => ∃ a b, v = .tuple #[a, b] ∧ φ.holds w a ∧ ψ.holds w b) (fun _ _ _ hE ⟨a, b, h, h1, h2⟩ => ⟨a, b, h, φ.stable hE h1, ψ.stable hE h2⟩)
abbrev SP.tup3 (φ ψ χ : SP) : SP := .pr (fun w v => ∃ a b c, v = .tuple #[a, b, c] ∧ φ.holds w a ∧ ψ.holds w b ∧ χ.holds w c) (fun _ _ _ hE ⟨a, b, c, h, h1, h2, h3⟩ => ⟨a, b, c, h, φ.stable hE h1, ψ.stable hE h2, χ.stable hE h3⟩)
abbrev SP.unit : SP := .pr (fun _ _ => True) (fun _ _ _ _ h => h)
def LIM : Nat := 1073741824
def idx (xs : List α) (i : Int) : Comp α := if 0 ≤ i then Comp.ofOpt xs[i.toNat]? else Comp.fail
theorem run_idx {xs : List α} {i : Int} {n : Nat} {x : α} (h : (idx xs i).run n = some x) : 0 ≤ i ∧ xs[i.toNat]? = some x := by
 unfold idx at h; split at h
 ·exact ⟨‹_›, Comp.run_ofOpt h⟩
 ·cases h
def sub (xs : List α) (l h : Int) : Comp (List α) := if 0 ≤ l ∧ l ≤ h ∧ h ≤ xs.length then Comp.pure ((xs.take h.toNat).drop l.toNat) else Comp.fail
theorem run_sub {xs ys : List α} {l h : Int} {n : Nat} (hr : (sub xs l h).run n = some ys) : (0 ≤ l ∧ l ≤ h ∧ h ≤ xs.length) ∧ (xs.take h.toNat).drop l.toNat = ys := by
 unfold sub at hr; split at hr
 ·exact ⟨‹_›, Comp.run_pure hr⟩
 ·cases hr
def app (xs ys : List α) : Comp (List α) := if xs.length + ys.length ≤ LIM then Comp.pure (xs ++ ys) else Comp.fail
theorem run_app {xs ys zs : List α} {n : Nat} (h : (app xs ys).run n = some zs) : xs.length + ys.length ≤ LIM ∧ xs ++ ys = zs := by
 unfold app at h; split at h
 ·exact ⟨‹_›, Comp.run_pure h⟩
 ·cases h
def upd (xs : List α) (i : Int) (x : α) : Comp (List α) := if 0 ≤ i ∧ i < xs.length then Comp.pure (xs.set i.toNat x) else Comp.fail
theorem run_upd {xs ys : List α} {i : Int} {x : α} {n : Nat} (h : (upd xs i x).run n = some ys) : (0 ≤ i ∧ i < xs.length) ∧ xs.set i.toNat x = ys := by
 unfold upd at h; split at h
 ·exact ⟨‹_›, Comp.run_pure h⟩
 ·cases h
def mk (n : Int) (z : α) : Comp (List α) := if 0 ≤ n ∧ n ≤ LIM then Comp.pure (List.replicate n.toNat z) else Comp.fail
theorem run_mk {n : Int} {z : α} {ys : List α} {m : Nat} (h : (mk n z).run m = some ys) : (0 ≤ n ∧ n ≤ LIM) ∧ List.replicate n.toNat z = ys := by
 unfold mk at h; split at h
 ·exact ⟨‹_›, Comp.run_pure h⟩
 ·cases h
def strIdx (s : Bytes) (i : Int) : Comp Int := (idx s i).bind fun b => Comp.pure (b.toNat : Int)
def rem (a b : Int) : Comp Int := if b = 0 then Comp.fail else Comp.pure (a.tmod b)
theorem run_rem {a b c : Int} {n : Nat} (h : (rem a b).run n = some c) : b ≠ 0 ∧ a.tmod b = c := by
 unfold rem at h; split at h
 ·cases h
 ·exact ⟨‹_›, Comp.run_pure h⟩
def shlF (k : IntKind) (a n : Int) : Int := k.wrap (a * 2 ^ (min n.toNat k.bits))
def shrF (k : IntKind) (a n : Int) : Int := a.fdiv (2 ^ (min n.toNat k.bits))
def nonneg (n : Int) : Comp Unit := if 0 ≤ n then Comp.pure () else Comp.fail
theorem run_nonneg {n : Int} {m : Nat} {u : Unit} (h : (nonneg n).run m = some u) : 0 ≤ n := by
 unfold nonneg at h; split at h
 ·assumption
 ·cases h
def andB (k : IntKind) (a b : Int) : Int := k.wrap ((BitVec.ofInt k.bits a &&& BitVec.ofInt k.bits b).toNat : Int)
def orB (k : IntKind) (a b : Int) : Int := k.wrap ((BitVec.ofInt k.bits a ||| BitVec.ofInt k.bits b).toNat : Int)
def andNotB (k : IntKind) (a b : Int) : Int := k.wrap ((BitVec.ofInt k.bits a &&& ~~~ BitVec.ofInt k.bits b).toNat : Int)
section ops
variable {P : Program} {a : Act} {w : World} {d : Option Tmp} {T : TypeId} {pos : String} {aft : Array Edge} {g : Option (Nat × Bool)}
theorem okb_and {x y : Operand} {X Y : TypeId} {k : IntKind} {m n : Int} (hx : a.eval x = .int k m) (hy : a.eval y = .int k n) : Ok P ⟨d, .binOp .and X x y Y, T, pos, aft, g⟩ a w (SP.isv (.int k (andB k m n))).holds := ok_bit hx hy (.inl rfl) fun _ => rfl
theorem okb_or {x y : Operand} {X Y : TypeId} {k : IntKind} {m n : Int} (hx : a.eval x = .int k m) (hy : a.eval y = .int k n) : Ok P ⟨d, .binOp .or X x y Y, T, pos, aft, g⟩ a w (SP.isv (.int k (orB k m n))).holds := ok_bit hx hy (.inr (.inl rfl)) fun _ => rfl
theorem okb_andNot {x y : Operand} {X Y : TypeId} {k : IntKind} {m n : Int} (hx : a.eval x = .int k m) (hy : a.eval y = .int k n) : Ok P ⟨d, .binOp .andNot X x y Y, T, pos, aft, g⟩ a w (SP.isv (.int k (andNotB k m n))).holds := ok_bit hx hy (.inr (.inr (.inr rfl))) fun _ => rfl
theorem okl_shr {x y : Operand} {X Y : TypeId} {k k' : IntKind} {m n : Int} (hx : a.eval x = .int k m) (hy : a.eval y = .int k' n) (h0 : 0 ≤ n) : Ok P ⟨d, .binOp .shr X x y Y, T, pos, aft, g⟩ a w (SP.isv (.int k (shrF k m n))).holds := ok_shr hx hy h0
theorem okl_shl {x y : Operand} {X Y : TypeId} {k k' : IntKind} {m n : Int} (hx : a.eval x = .int k m) (hy : a.eval y = .int k' n) (h0 : 0 ≤ n) : Ok P ⟨d, .binOp .shl X x y Y, T, pos, aft, g⟩ a w (SP.isv (.int k (shlF k m n))).holds := ok_shl hx hy h0
theorem okl_indexS {x i : Operand} {X : TypeId} {s : Bytes} {m : Int} {y : Int} {n : Nat} {k : IntKind} {z sz by_} (hT : Ty P X .string z sz by_) (hx : a.eval x = .string (str s)) (hi : a.eval i = .int k m) (h : (strIdx s m).run n = some y) :
  Ok P ⟨d, .index X x i, T, pos, aft, g⟩ a w (SP.isv (.int .u8 y)).holds := by
 obtain ⟨b, h1, h2⟩ := Comp.run_bind h
 obtain ⟨h3, h4⟩ := run_idx h1
 have h2 := Comp.run_pure h2
 have hlt : m.toNat < s.length := (List.getElem?_eq_some_iff.1 h4).1
 have := ok_indexS (P := P) (w := w) (d := d) (T := T) (pos := pos) (aft := aft) (g := g) hT hx hi h3 (by rw [str_size]; exact hlt)
 have e : ((str s)[m.toNat]'(by rw [str_size]; exact hlt)) = b := by
  rw [byteAt_eq]
  simp [byteAt, str, h4]
 rw [e, h2] at this
 exact this
theorem okl_len {x : Operand} {X E : TypeId} {r : GR α} {O : Tags} {xs : List α} {z sz by_} (hT : Ty P X (.slice E) z sz by_) {u : Value} (hu : a.eval x = u) (hx : Rd r O w u xs) :
  Ok P ⟨d, .call ⟨.builtin .len, #[x], #[X]⟩, T, pos, aft, g⟩ a w (SP.isv (.int .i64 (xs.length : Int))).holds := by
 obtain ⟨vs, h1, h2⟩ := hx
 have := ok_lenV (P := P) (d := d) (T := T) (pos := pos) (aft := aft) (g := g) hT hu h1
 rwa [h2.len] at this
theorem okl_idx {x i : Operand} {X e : TypeId} {r : GR α} {O : Tags} {xs : List α} {y : α} {k : IntKind} {m : Int} {n : Nat} {z sz by_ dd z' E by_'} (hT : Ty P X (.slice e) z sz by_) (he : Ty P e dd z' E by_') (hE : r.sz = E) {u : Value} (hu : a.eval x = u) (hx : Rd r O w u xs) (hi : a.eval i = .int k m) (h : (idx xs m).run n = some y) :
  Ok P ⟨d, .indexAddr X x i, T, pos, aft, g⟩ a w (SP.ptr r O y).holds := by
 obtain ⟨h0, h1⟩ := run_idx h
 obtain ⟨vs, h2, h3⟩ := hx
 obtain ⟨v, h4, h5⟩ := h3.get _ _ h1
 subst hE
 intro K Q hK
 exact ok_indexV hT he hu h2 hi h0 h4 K Q fun p w' hE hp => hK p w' hE ⟨v, hp, r.v_ext h5 hE⟩
theorem okl_ld {x : Operand} {X : TypeId} {r : GR α} (hr : r.fits) {O : Tags} {y : α} {dd z sz by_} (hT : Ty P X dd z sz by_) (hd : isAggD dd = r.agg) (hs : r.sz = sz) {u : Value} (hu : a.eval x = u) (hx : (SP.ptr r O y).holds w u) :
  Ok P ⟨d, .load X x, T, pos, aft, g⟩ a w (SP.vl r O y).holds := by
 obtain ⟨v, h1, h2⟩ := hx
 obtain ⟨cs, h3, h4, h5⟩ := r.cells hr h2
 intro K Q hK
 cases ha : r.agg with
 | false =>
  rw [ha] at hd h4
  have hl : cs.length = 1 := by rw [r.len h3, hr ha]
  match cs, hl with
  | [c], _ =>
   simp only [packV, List.headD_cons] at h4
   subst h4
   exact ok_loadPt hT hd hu h1 h5 K Q fun v' w' hE hv => hK v' w' hE (by cases hv; exact r.v_ext h2 hE)
 | true =>
  rw [ha] at hd h4
  simp only [packV] at h4
  subst h4
  exact ok_loadPtAgg hT hd hu h1 (by simp [r.len h3, hs]) K Q fun v' w' hE hv => hK v' w' hE (by cases hv; exact r.v_ext h2 hE)
def SubR (S : GR γ) (off : Nat) (r : GR α) (p : γ → α) : Prop := ∀ {O w cs x}, S.rel O w cs x → ∃ c1 c2 c3, cs = c1 ++ (c2 ++ c3) ∧ c1.length = off ∧ r.rel O w c2 (p x)
theorem sub_hd {r : GR α} {p : γ → α} {S : GR γ} : SubR (rCons r p S) 0 r p := fun ⟨c1, c2, h, h1, h2⟩ => ⟨[], c1, c2, h, rfl, h1⟩
theorem sub_tl {r : GR α} {p : γ → α} {S : GR γ} {off n : Nat} {r' : GR β} {p' : γ → β} (h : SubR S off r' p') (hn : n = r.sz + off) : SubR (rCons r p S) n r' p' := fun ⟨c1, c2, hc, h1, h2⟩ => by
 obtain ⟨d1, d2, d3, e1, e2, e3⟩ := h h2
 exact ⟨c1 ++ d1, d2, d3, by rw [hc, e1, List.append_assoc], by rw [List.length_append, r.len h1, e2, hn], e3⟩
theorem okl_fld {x : Operand} {X f ft off sz : Nat} {S : GR γ} (hS : S.agg = true) {r : GR α} (hr : r.fits) {p : γ → α} {O : Tags} {y : γ} (hsub : SubR S off r p) (hF : Fld P X f ft off sz) {u : Value} (hu : a.eval x = u) (hx : (SP.ptr S O y).holds w u) :
  Ok P ⟨d, .fieldAddr X x f, T, pos, aft, g⟩ a w (SP.ptr r O (p y)).holds := by
 obtain ⟨v, h1, cs, h2, h3⟩ := hx
 obtain ⟨c1, c2, c3, h4, h5, h6⟩ := hsub h2
 rw [hS] at h3
 simp only [packV] at h3
 subst h3
 have hv : r.v O w (packV r.agg c2) (p y) := ⟨c2, h6, rfl⟩
 obtain ⟨cs', h7, h8, h9⟩ := r.cells hr hv
 have hc2 : (packV r.agg c2).cells = c2.toArray := cells_pack (fun ha => by rw [r.len h6, hr ha]) (r.one h6)
 intro K Q hK
 refine ok_fieldAddrPt (y := packV r.agg c2) hF hu h1 (fun j hj => ?_) K Q fun p' w' hE hp => hK p' w' hE ⟨_, hp, r.v_ext hv hE⟩
 rw [hc2] at hj ⊢
 simp only [List.size_toArray] at hj
 subst h4
 simp only [List.size_toArray, List.length_append, List.getElem?_toArray]
 refine ⟨by omega, ?_⟩
 rw [List.getElem?_append_right (by omega), List.getElem?_append_left (by omega)]
 congr 1; omega
theorem sl_foot {O : Tags} {u u' : Value} {vs vs' : List Value} (h : Foot O w u vs) (hu : ∀ g, vs' ≠ [] → u'.ownBlock = some g → vs ≠ [] ∧ u.ownBlock = some g) : Foot O w u' vs' := fun hv g hg => by
 obtain ⟨h1, h2⟩ := hu g hv hg
 exact h h1 g h2
theorem okl_slice_h {x h : Operand} {X e : TypeId} {r : GR α} {O : Tags} {xs ys : List α} {n : Int} {k : IntKind} {m : Nat} {z sz by_ dd z' E by_'} (hT : Ty P X (.slice e) z sz by_) (he : Ty P e dd z' E by_') (hE : r.sz = E) {u : Value} (hu : a.eval x = u) (hx : (rSl r).v O w u xs) (hh : a.eval h = .int k n) (hr : (sub xs 0 n).run m = some ys) :
  Ok P ⟨d, .slice X x none (some h) none, T, pos, aft, g⟩ a w (SP.vl (rSl r) O ys).holds := by
 obtain ⟨⟨h1, h2, h3⟩, h4⟩ := run_sub hr
 obtain ⟨vs, s1, s2, s3⟩ := rSl_v.1 hx
 subst hE
 have hlen := s2.len
 obtain ⟨p, c, hu', hc⟩ := s1.slice
 have e4 : ys = xs.take n.toNat := h4.symm
 rw [hu'] at s1 s3 hu
 refine ok_run (v := .slice p n.toNat c) (w' := w) ?_ (Ext.refl w) (rSl_v.2 ⟨vs.take n.toNat, s1.take (by omega), by rw [e4]; exact s2.take _, sl_foot s3 fun g hv hg => ⟨fun e => hv (by rw [e]; simp), by
   cases p with
   | none => simp [Value.ownBlock] at hg
   | some q => simpa [Value.ownBlock] using hg⟩⟩)
 have h1' : n ≤ (c : Int) := by omega
 simp [execOp, Instr.sliceAt, Instr.slice, Instr.sliceBounds, hu, hh, hT.run_u, he.run_size, bound_run h2 h1']
 intro _
 cases p <;> simp [Addr.add]
end ops
end Go.Lift
end
section
set_option linter.unusedVariables false
set_option linter.unusedSimpArgs false
namespace Go.Lift
open Go Go.RowKit Go.Eng
variable {α β γ δ ε : Type}
def CallV (P : Program) (u : Value) (args : Array Value) (w : World) (φ : World → Value → Prop) : Prop :=
 ∃ f xs, (Deferred.ofValue u args >>= fun d => invoke d.target d.args).run P w = .ok (.enter f xs) w ∧ Pure P f xs w φ
theorem callV_func {P : Program} {f : FuncId} {fst cap args : Array Value} {w : World} {φ : World → Value → Prop} (hf : FnOk P f) (h : Pure P f (fst ++ args ++ cap) w φ) : CallV P (.func (.func f) fst cap) args w φ := by
 obtain ⟨fn, h1, h2, h3⟩ := hf.h
 refine ⟨f, _, ?_, h⟩
 simp only [Deferred.ofValue, Sem.run_bind, Sem.run_pure, Result.andThen, invoke, callFunc, run_program, h1]
 simp [h2, h3]
abbrev RS (β : Type) := Tags → Nat → β → SP
def RS.v (r : GR β) : RS β := fun O _ y => SP.vl r O y
def RS.c (enc : β → Value) : RS β := fun _ _ y => SP.isv (enc y)
def RS.own (r : GR β) (T : Nat) : RS (List β) := fun O B y => SP.ownr r T B O y
def RS.unit : RS Unit := fun _ _ _ => SP.unit
def rF1 (P : Program) (r1 : GR α) (R : RS β) : GR (α → Comp β) where
 agg := false
 sz := 1
 rel := fun O w cs F => ∃ u, cs = [u] ∧ u.oneCell' = true ∧ ∀ O' w', OkO O' w' → Keep 0 O w O' w' → ∀ v x, r1.v O' w' v x → ∀ n y, (F x).run n = some y → CallV P u #[v] w' (R O' w'.heap.size y).holds
 len := fun ⟨_, h, _⟩ => by rw [h]; rfl
 one := fun ⟨_, h, h1, _⟩ c hc => by rw [h] at hc; simp at hc; subst hc; exact h1
 mono := fun hk ⟨u, h, h1, h2⟩ => ⟨u, h, h1, fun O' w' ho hk' => h2 O' w' ho (hk.trans hk')⟩
theorem rF1_v {P : Program} {r1 : GR α} {R : RS β} {O w u F} : (rF1 P r1 R).v O w u F ↔ u.oneCell' = true ∧ ∀ O' w', OkO O' w' → Keep 0 O w O' w' → ∀ v x, r1.v O' w' v x → ∀ n y, (F x).run n = some y → CallV P u #[v] w' (R O' w'.heap.size y).holds :=
 ⟨fun ⟨cs, ⟨u', h, h1, h2⟩, hu⟩ => by rw [h] at hu; simp [rF1, packV] at hu; subst hu; exact ⟨h1, h2⟩, fun ⟨h1, h2⟩ => ⟨[u], ⟨u, rfl, h1, h2⟩, rfl⟩⟩
section ops
variable {P : Program} {a : Act} {w : World} {d : Option Tmp} {T : TypeId} {pos : String} {aft : Array Edge} {g : Option (Nat × Bool)}
theorem okl_callv {x : Operand} {xs : Array Operand} {ts : Array TypeId} {args : Array Value} {u : Value} {φ : SP} (hu : a.eval x = u) (ha : xs.map a.eval = args) (h : CallV P u args w φ.holds) :
  Ok P ⟨d, .call ⟨.value x, xs, ts⟩, T, pos, aft, g⟩ a w φ.holds := by
 intro K Q hK
 obtain ⟨f, ys, h1, h2⟩ := h
 have hr : (execOp a.eval ⟨d, .call ⟨.value x, xs, ts⟩, T, pos, aft, g⟩).run P w = .ok (.enter f ys) w := by
  simp only [execOp, resolve, ha, hu]
  exact h1
 unfold Oper.wp
 rw [hr]
 refine Calls.mono h2 fun e w' he => ?_
 obtain ⟨v, rfl, hE, hv⟩ := he
 exact hK v w' hE hv
theorem okl_callv1 {x x1 : Operand} {ts : Array TypeId} {u v1 : Value} {r1 : GR α} {R : RS β} {O : Tags} {F : α → Comp β} {x' : α} {n : Nat} {y : β} (hu : a.eval x = u) (hF : (rF1 P r1 R).v O w u F) (hO : OkO O w) (h1 : a.eval x1 = v1) (hx : r1.v O w v1 x') (h : (F x').run n = some y) :
  Ok P ⟨d, .call ⟨.value x, #[x1], ts⟩, T, pos, aft, g⟩ a w (R O w.heap.size y).holds := okl_callv hu (by simp [h1]) ((rF1_v.1 hF).2 O w hO (Keep.refl _ _ _) v1 x' hx n y h)
theorem OwnR.base {r : GR α} {Ty' B B' : Nat} {O : Tags} {u : Value} {xs : List α} (h : OwnR r Ty' B O w u xs) (hB : B' ≤ B) : OwnR r Ty' B' O w u xs := by
 obtain ⟨vs, h1, h2⟩ := h; exact ⟨vs, h1.mono hB, h2⟩
theorem ok_weak {o : Oper} {φ ψ : World → Value → Prop} (h : Ok P o a w φ) (hw : ∀ w' v, Ext w w' → φ w' v → ψ w' v) : Ok P o a w ψ := fun K Q hK => h K Q fun v w' hE hv => hK v w' hE (hw w' v hE hv)
theorem okl_ext0 {x : Operand} {φ ψ : SP} (h : (SP.tup2 φ ψ).holds w (a.eval x)) : Ok P ⟨d, .extract x 0, T, pos, aft, g⟩ a w φ.holds := by
 obtain ⟨u, v, h1, h2, h3⟩ := h
 exact ok_run (v := u) (w' := w) (by simp [execOp, Instr.extract, h1]) (Ext.refl _) h2
theorem okl_ext1 {x : Operand} {φ ψ : SP} (h : (SP.tup2 φ ψ).holds w (a.eval x)) : Ok P ⟨d, .extract x 1, T, pos, aft, g⟩ a w ψ.holds := by
 obtain ⟨u, v, h1, h2, h3⟩ := h
 exact ok_run (v := v) (w' := w) (by simp [execOp, Instr.extract, h1]) (Ext.refl _) h3
theorem okl_ext3_0 {x : Operand} {φ ψ χ : SP} (h : (SP.tup3 φ ψ χ).holds w (a.eval x)) : Ok P ⟨d, .extract x 0, T, pos, aft, g⟩ a w φ.holds := by
 obtain ⟨u, v, y, h1, h2, h3, h4⟩ := h
 exact ok_run (v := u) (w' := w) (by simp [execOp, Instr.extract, h1]) (Ext.refl _) h2
theorem okl_ext3_1 {x : Operand} {φ ψ χ : SP} (h : (SP.tup3 φ ψ χ).holds w (a.eval x)) : Ok P ⟨d, .extract x 1, T, pos, aft, g⟩ a w ψ.holds := by
 obtain ⟨u, v, y, h1, h2, h3, h4⟩ := h
 exact ok_run (v := v) (w' := w) (by simp [execOp, Instr.extract, h1]) (Ext.refl _) h3
theorem okl_ext3_2 {x : Operand} {φ ψ χ : SP} (h : (SP.tup3 φ ψ χ).holds w (a.eval x)) : Ok P ⟨d, .extract x 2, T, pos, aft, g⟩ a w χ.holds := by
 obtain ⟨u, v, y, h1, h2, h3, h4⟩ := h
 exact ok_run (v := y) (w' := w) (by simp [execOp, Instr.extract, h1]) (Ext.refl _) h4
theorem okl_buildSlice {X e E n B : Nat} {r : GR α} (hr : r.fits) (hE : r.sz = E + 1) {O : Tags} (hO : OkO O w) {vs : List Value} {xs : List α} {parts : Array (Nat × Operand)} {z sz by_ dd z' by_'} (hT : Ty P X (.slice e) z sz by_) (he : Ty P e dd z' (E + 1) by_') (hB : B ≤ w.heap.size)
  (hp : Parts a 0 parts.toList vs) (hv : RelL r O w vs xs) (hn : vs.length = n) (hs : n * (E + 1) ≤ 16777216) :
  Ok P ⟨d, .buildSlice X n parts, T, pos, aft, g⟩ a w (SP.ownr r e B O xs).holds := by
 have hp' : (parts.map fun (i, x) => (i, a.eval x)) = (partsFrom 0 vs).toArray := by
  have := parts_of hp
  rwa [Array.toArray_toList] at this
 intro K Q hK
 refine ok_buildSlice (B := w.heap.size) hT he (Nat.le_refl _) hp' (fun x hx => by rw [hv.size hr x hx, hE]) hn hs K Q fun v w' hE' hv' => hK v w' hE' ⟨vs, ?_, ?_⟩
 ·rw [hE]; exact hv'.mono hB
 ·refine hv.mono ⟨hE'.size, fun b hb ho => ⟨?_, hE'.block b hb⟩⟩
  rw [tag_ne (fun e => by have := hv'.block_ge b e; omega)]; exact ho
theorem okl_make {x y : Operand} {X e E B bytes : Nat} {r : GR α} (hE : r.sz = E + 1) {O : Tags} {k k' : IntKind} {m : Int} {zx : α} {ys : List α} {nf : Nat} {z sz by_ dd z'} (hT : Ty P X (.slice e) z sz by_) (he : Ty P e dd z' (E + 1) bytes) (hby : bytes ≤ 131072) (hz : z'.cells.size = E + 1) (hB : B ≤ w.heap.size)
  (hx : a.eval x = .int k m) (hy : a.eval y = .int k' m) (hzx : ∀ O w, r.v O w z' zx) (h : (mk m zx).run nf = some ys) :
  Ok P ⟨d, .makeSlice X x y, T, pos, aft, g⟩ a w (SP.ownr r e B O ys).holds := by
 obtain ⟨⟨h0, h1⟩, h2⟩ := run_mk h
 unfold LIM at h1
 intro K Q hK
 have hb : bytes * m.toNat ≤ 131072 * 1073741824 := Nat.mul_le_mul hby (by omega)
 refine ok_makeN (B := B) (n := m.toNat) hT he hz hB hx hy (by omega) (by omega) (by omega) K Q fun v w' hE' hv' => hK v w' hE' ⟨_, by rw [hE]; exact hv', by rw [← h2]; exact RelL.replicate (hzx _ _) _⟩
end ops
section tails
variable {P : Program} {a : Act} {w : World} {T : TypeId} {pos : String} {aft : Array Edge} {ops : Array Oper} {Q : Exit → Act → World → Prop} {rest : List Oper} {A : Nat → Prop}
structure OkB (A : Nat → Prop) (w0 : World) (B : Nat → Prop) : Prop where
 sub : ∀ g, B g → A g
 new : ∀ g, w0.heap.size ≤ g → B g
theorem okB_self {A : Nat → Prop} {O0 O : Tags} {w0 w : World} (h : Base A O0 w0 O w) : OkB A w0 A := ⟨fun _ h => h, h.new⟩
theorem okB_fr {A : Nat → Prop} {O0 O : Tags} {w0 w : World} (h : Base A O0 w0 O w) : OkB A w0 (Fr w0) := ⟨h.new, fun _ h => h⟩
theorem base_appd {O0 O : Tags} {w0 w w' : World} {u u' : Value} (hB : Base A O0 w0 O w) (hO0 : OkO O0 w0) (hA : Appd w w' u u') (hb : ∀ g, u.ownBlock = some g → A g) {k : Nat} (hk : k ≠ 0) (hu : ∀ g, u'.ownBlock = some g → g < w'.heap.size) (ht : ∀ g, u.ownBlock = some g → O g = k) :
  Base A O0 w0 (tag O u'.ownBlock k) w' ∧ KX (some k) O w (tag O u'.ownBlock k) w' := by
 have hs := hB.size
 have hs2 := hA.by_.size
 have h1 : Base A O0 w0 O w' := ⟨hA.by_.os.trans hB.os, hA.by_.tape.trans hB.tape, hA.by_.output.trans hB.output, by omega, fun b hlt hnA => (hA.by_.block b (by omega) (fun e => hnA (hb b e.symm))).trans (hB.block b hlt hnA),
  fun b hb' => hB.ok b (by omega), hB.old, fun b _ ho => by
   by_cases hlt : b < w.heap.size
   ·exact hB.zero b hlt ho
   ·exact hO0 b (by omega), hB.new⟩
 refine ⟨h1.tag hk fun g hg => ⟨?_, hu g hg⟩, hs2, fun b hlt hbk => ?_⟩
 ·rcases hA.at_ with h8 | h8
  ·exact hb g (h8 ▸ hg)
  ·exact hB.new g (by have := h8 g hg; omega)
 ·have hne : u.ownBlock ≠ some b := fun e => hbk (by rw [ht b e])
  refine ⟨tag_ne fun e => ?_, hA.by_.block b hlt (Ne.symm hne)⟩
  rcases hA.at_ with h8 | h8
  ·exact hne (h8 ▸ e)
  ·have := h8 b e; omega
theorem l_append {x y : Operand} {t e E dst bytes k : Nat} {dd : TypeDesc} {z z' : Value} {sz by_ : Nat} {r : GR α} (hr : r.fits) (hE : r.sz = E + 1) (hT : Ty P t (.slice e) z sz by_) (he : Ty P e dd z' (E + 1) bytes) (hz : z'.cells.size = E + 1) (hby : bytes ≤ 131072)
  {O O0 : Tags} {w0 : World} (hO0 : OkO O0 w0) (hB : Base A O0 w0 O w) {u : Value} {xs : List α} {B : Nat → Prop} (hAB : OkB A w0 B) (hx : a.eval x = u) (hO : OwnL k r e B O w u xs) {u' : Value} {ys zs : List α} (hy : a.eval y = u') (hN : Rd r O w u' ys) {n : Nat} (happ : (app xs ys).run n = some zs) (hk : k ≠ 0)
  (hK : ∀ u2 w2 O2, OwnL k r e B O2 w2 u2 zs → Base A O0 w0 O2 w2 → KX (some k) O w O2 w2 → wpList P ops Q rest (a.put (some dst) u2) w2) : wpList P ops Q (⟨some dst, .call ⟨.builtin .append, #[x, y], #[t, t]⟩, T, pos, aft, none⟩ :: rest) a w := by
 obtain ⟨hl, hzs⟩ := run_app happ
 unfold LIM at hl
 have htag := hO.tagged
 have hge := hO.ge
 obtain ⟨vs, h1, h2, h3⟩ := hO
 obtain ⟨us, h4, h5⟩ := hN
 have hlen1 := h2.len
 have hlen2 := h5.len
 have hb : (vs.length + us.length) * bytes ≤ 1073741824 * 131072 := Nat.mul_le_mul (by omega) hby
 rw [hE] at h1 h4
 refine t_append hT he hz hx h1 hy h4 (h5.one hr) (by omega) (by omega) (Nat.zero_le _) fun u2 w2 h6 h7 => ?_
 obtain ⟨hB2, hkx⟩ := base_appd hB hO0 h7 (fun g hg => hAB.sub g (hge g hg).1) hk (fun g hg => h6.block_lt g hg) htag
 refine hK u2 w2 (tag O u2.ownBlock k) ⟨vs ++ us, by rw [hE]; exact h6, ?_, fun g hg => ⟨by rw [hg]; exact tag_same _ _ _, ?_⟩⟩ hB2 hkx
 ·rw [← hzs]
  have k0 := hkx.keep (k := 0) (by simpa using hk.symm)
  exact (h2.mono k0).append (h5.mono k0)
 ·rcases h7.at_ with h8 | h8
  ·exact (hge g (h8 ▸ hg)).1
  ·exact hAB.new g (by have := h8 g hg; have := hB.size; omega)
theorem okl_idxOwn {x i : Operand} {X e E k : Nat} {r : GR α} (hE : r.sz = E) {B : Nat → Prop} {O : Tags} {xs : List α} {u : Value} {kk : IntKind} {m : Int} {d : Option Tmp} {g : Option (Nat × Bool)} {z sz by_ dd z' by_'} (hT : Ty P X (.slice e) z sz by_) (he : Ty P e dd z' E by_') (hxu : a.eval x = u) (hO : OwnL k r e B O w u xs) (hi : a.eval i = .int kk m) (hm : 0 ≤ m ∧ m < xs.length) :
  Ok P ⟨d, .indexAddr X x i, T, pos, aft, g⟩ a w (SP.elt u (m.toNat * E)).holds := by
 obtain ⟨vs, h1, h2, h3⟩ := hO
 have := h2.len
 rw [hE] at h1
 exact ok_indexElt hT he hxu h1 hi (by omega : m = (m.toNat : Int)) (by omega)
theorem l_storeElt {x y : Operand} {X E k : Nat} {r : GR α} (hr : r.fits) (hE : r.sz = E) {O O0 : Tags} {w0 : World} (hO0 : OkO O0 w0) (hB : Base A O0 w0 O w) {B : Nat → Prop} (hAB : OkB A w0 B) {xs ys : List α} {u p v : Value} {m : Int} {vx : α} {dd z by_} (hT : Ty P X dd z E by_) (hx : a.eval x = p) (hp : EltOf u (m.toNat * E) p) (hO : OwnL k r X B O w u xs) (hy : a.eval y = v) (hv : r.v O w v vx) {n : Nat} (hupd : (upd xs m vx).run n = some ys) (hk : k ≠ 0)
  (hK : ∀ w', OwnL k r X B O w' u ys → Base A O0 w0 O w' → KX (some k) O w O w' → wpList P ops Q rest a w') : wpList P ops Q (⟨none, .store X x y, T, pos, aft, none⟩ :: rest) a w := by
 obtain ⟨hm, hys⟩ := run_upd hupd
 have hge := hO.ge
 have htag := hO.tagged
 obtain ⟨vs, h1, h2, h3⟩ := hO
 have hlen := h2.len
 rw [hE] at h1
 refine t_storeElt hT hx hp h1 hy (by rw [r.cells_size hr hv, hE]) (r.cells_one hr hv) (by omega) fun w' h4 h5 => ?_
 have hkx : KX (some k) O w O w' := ⟨h5.by_.size, fun b hb hbk => ⟨rfl, h5.by_.block b hb (fun e => hbk (by rw [htag b e.symm]))⟩⟩
 have k0 := hkx.keep (k := 0) (by simpa using hk.symm)
 have hs := hB.size
 have hs2 := h5.by_.size
 refine hK w' ⟨vs.set m.toNat v, by rw [hE]; exact h4, by rw [← hys]; exact (h2.mono k0).set _ (r.v_mono hv k0), h3⟩ ?_ hkx
 exact ⟨h5.by_.os.trans hB.os, h5.by_.tape.trans hB.tape, h5.by_.output.trans hB.output, by omega, fun b hb hnA => (h5.by_.block b (by omega) (fun e => hnA (hAB.sub b (hge b e.symm).1))).trans (hB.block b hb hnA),
  fun b hb' => hB.ok b (by omega), hB.old, fun b _ ho => by
   by_cases hlt : b < w.heap.size
   ·exact hB.zero b hlt ho
   ·exact hO0 b (by omega), hB.new⟩
theorem l_store1 {x y : Operand} {X T' b off k : Nat} {O O0 : Tags} {w0 : World} (hO0 : OkO O0 w0) (hB : Base A O0 w0 O w) {B : Nat → Prop} (hAB : OkB A w0 B) {cs cs' : Array Value} {v : Value} {dd z by_} (hT : Ty P X dd z 1 by_) (hx : a.eval x = .pointer (some ⟨b, off, none⟩)) (hy : a.eval y = v) (hv : v.cells = #[v]) (h1 : v.oneCell' = true)
  (hO : OwnB k B O w b cs T') (ho : off < cs.size) (he : cs.setIfInBounds off v = cs')
  (hK : ∀ w', OwnB k B O w' b cs' T' → Base A O0 w0 O w' → KX (some k) O w O w' → wpList P ops Q rest a w') : wpList P ops Q (⟨none, .store X x y, T, pos, aft, none⟩ :: rest) a w :=
 t_store1 hT hx hy hv h1 hO.own ho fun w' h2 h3 => hK w' ⟨he ▸ h3, hO.ge, hO.tag⟩ (hB.but (hAB.sub _ hO.ge) h2 hO0) (KX.but h2 hO.tag)
theorem l_ok {o : Oper} {φ : SP} {O O0 : Tags} {w0 : World} (hO0 : OkO O0 w0) (hB : Base A O0 w0 O w) (h : Ok P o a w φ.holds) (hg : o.guard = none) (hK : ∀ v w', Ext w w' → Base A O0 w0 O w' → φ.holds w' v → wpList P ops Q rest (a.put o.dst v) w') : wpList P ops Q (o :: rest) a w :=
 t_ok h hg fun v w' hE hv => hK v w' hE (hB.step hE hO0) hv
end tails
end Go.Lift
end
section
set_option linter.unusedVariables false
set_option linter.unusedSimpArgs false
namespace Go.Lift
open Go Go.RowKit Go.Eng
variable {α β γ δ ε : Type}
theorem rel_ofF {r : GR α} {O w u x} (h : r.v O w u x) (ha : r.agg = false) (hs : r.sz = 1) : r.rel O w [u] x := by
 obtain ⟨cs, h1, h2⟩ := h
 have hl := r.len h1
 rw [ha] at h2
 match cs, hl.trans hs with
 | [c], _ => simp [packV] at h2; subst h2; exact h1
theorem GR.kx (r : GR α) {j : Option Nat} {O w O' w' v x} (h : r.v O w v x) (hx : KX j O w O' w') (h0 : some 0 ≠ j) : r.v O' w' v x := r.v_mono h (hx.keep h0)
theorem OwnR.nil (r : GR α) (T B : Nat) (O : Tags) (w : World) : OwnR r T B O w (.slice none 0 0) [] := ⟨[], OwnS.nil _ _ _ _, trivial⟩
section
variable {A : Nat → Prop}
theorem ownNew {O0 O : Tags} {w0 w w' : World} (hO0 : OkO O0 w0) (hB : Base A O0 w0 O w) (hE : Ext w w') {r : GR α} {T B : Nat} {u : Value} {xs : List α} (h : OwnR r T B O w' u xs) (hb : B = w.heap.size) (k : Nat) (hk : k ≠ 0) :
  ∃ O', Base A O0 w0 O' w' ∧ KX none O w O' w' ∧ OwnL k r T (Fr w0) O' w' u xs := by
 subst hb
 have hs := hB.size
 refine ⟨tag O u.ownBlock k, (hB.step hE hO0).tag hk fun g hg => ?_, KX.tag hE fun g hg => (h.ge g hg).1, h.own k hk fun g hg => by unfold Fr; omega⟩
 have := h.ge g hg
 exact ⟨hB.new g (by omega), by omega⟩
theorem boxNew {O0 O : Tags} {w0 w w' : World} (hO0 : OkO O0 w0) (hB : Base A O0 w0 O w) (hE : Ext w w') {cs : Array Value} {T : Nat} {u : Value} (h : (SP.box w.heap.size cs T).holds w' u) (k : Nat) (hk : k ≠ 0) :
  ∃ O' b, Base A O0 w0 O' w' ∧ KX none O w O' w' ∧ u = .pointer (some ⟨b, 0, none⟩) ∧ OwnB k (Fr w0) O' w' b cs T := by
 obtain ⟨b, h1, h2, h3⟩ := h
 have hs := hB.size
 refine ⟨tag O (some b) k, b, (hB.step hE hO0).tag hk fun g hg => ?_, KX.tag hE fun g hg => ?_, h2, h3, by unfold Fr; omega, tag_same _ _ _⟩
 ·cases hg; exact ⟨hB.new _ (by omega), h3.lt⟩
 ·cases hg; exact h1
theorem freezeL {O0 O : Tags} {w0 w : World} (hO0 : OkO O0 w0) (hB : Base A O0 w0 O w) {k : Nat} {r : GR α} {T : Nat} {u : Value} {xs : List α} (h : OwnL k r T (Fr w0) O w u xs) (hk : k ≠ 0) :
  ∃ O', Base A O0 w0 O' w ∧ KX (some k) O w O' w ∧ (rSl r).v O' w u xs :=
 ⟨_, hB.untag hO0 (fun g hg => hB.new g (h.ge g hg).1) (fun g hg hlt => absurd (h.ge g hg).1 (by unfold Fr; omega)), KX.free h.tagged, h.freeze hk⟩
theorem retagL {O0 O : Tags} {w0 w : World} {B : Nat → Prop} (hAB : OkB A w0 B) (hB : Base A O0 w0 O w) {k : Nat} {r : GR α} {T : Nat} {u : Value} {xs : List α} (h : OwnL k r T B O w u xs) (k' : Nat) (hk : k ≠ 0) (hk' : k' ≠ 0) :
  ∃ O', Base A O0 w0 O' w ∧ KX (some k) O w O' w ∧ OwnL k' r T B O' w u xs := by
 have hge := h.ge
 have htag := h.tagged
 obtain ⟨vs, h1, h2, h3⟩ := h
 have hx : KX (some k) O w (tag O u.ownBlock k') w := ⟨Nat.le_refl _, fun b _ hb => ⟨tag_ne (fun e => hb (by rw [htag b e])), rfl⟩⟩
 exact ⟨tag O u.ownBlock k', hB.tag hk' fun g hg => ⟨hAB.sub g (hge g hg).1, (hge g hg).2⟩, hx, vs, h1, h2.mono (hx.keep (by simpa using hk.symm)), fun g hg => ⟨by rw [hg]; exact tag_same _ _ _, (hge g hg).1⟩⟩
theorem freezeB {O0 O : Tags} {w0 w : World} (hO0 : OkO O0 w0) (hB : Base A O0 w0 O w) {k : Nat} {b : Nat} {cs : List Value} {T : TypeId} (h : OwnB k (Fr w0) O w b cs.toArray T) (hk : k ≠ 0) {r : GR α} {x : α} (hr : r.rel O w cs x) :
  ∃ O', Base A O0 w0 O' w ∧ KX (some k) O w O' w ∧ (rBox r).v O' w (.pointer (some ⟨b, 0, none⟩)) x :=
 ⟨_, hB.untag hO0 (fun g hg => hB.new g (h.ge' g hg)) (fun g hg hlt => absurd (h.ge' g hg) (by unfold Fr; omega)), KX.free h.tagged, h.freeze hk hr⟩
end
theorem ptr_of_box {r : GR α} (hr : r.fits) {O w u x} (h : (rBox r).v O w u x) : (SP.ptr r O x).holds w u := by
 obtain ⟨cs, ⟨b, cs', T, h1, h2, h3, h4⟩, hu⟩ := h
 rw [h1] at hu
 simp [rBox, packV] at hu
 have hv : r.v O w (packV r.agg cs') x := ⟨cs', h4, rfl⟩
 have hc : (packV r.agg cs').cells = cs'.toArray := cells_pack (fun ha => by rw [r.len h4, hr ha]) (r.one h4)
 exact ⟨_, ⟨b, 0, hu, fun j hj => by rw [hc] at hj ⊢; rw [h2.cell]; simp⟩, hv⟩
theorem retPure3 {P : Program} {fn : Func} {φ : World → Value → Prop} {a : Act} {w0 w : World} {t u x N : Nat} {v v' v'' : Value} (hr : fn.results = #[.tmp t, .tmp u, .tmp x]) (hA : a.fit N) (ht : a.get t = v) (hu : a.get u = v') (hx : a.get x = v'') (hB : Ext w0 w) (h : φ w (.tuple #[v, v', v''])) :
  bodyPost P fn (fun e w' => ∃ v, e = .returned v ∧ Ext w0 w' ∧ φ w' v) .ret a w :=
 ⟨hA.defers, .tuple #[v, v', v''], by
  have e1 : a.tmps.getD t undef = v := ht
  have e2 : a.tmps.getD u undef = v' := hu
  have e3 : a.tmps.getD x undef = v'' := hx
  simp only [Array.getD_eq_getD_getElem?] at e1 e2 e3
  simp [results, hr, e1, e2, e3], _, rfl, hB, h⟩
instance : Inhabited (Comp α) := ⟨Comp.fail⟩
theorem run_gdb {g : Bool} {c : Comp α} {d : α} {n : Nat} {a : α} (h : (Comp.gd g c d).run n = some a) (hg : g = true) : c.run n = some a := Comp.run_gd h hg
def splice (cs : List Value) (off : Nat) (vs : List Value) : List Value := cs.take off ++ (vs ++ cs.drop (off + vs.length))
theorem splice_get {cs vs : List Value} {off : Nat} (h : off + vs.length ≤ cs.length) (j : Nat) : (splice cs off vs)[j]? = if off ≤ j ∧ j < off + vs.length then vs[j - off]? else cs[j]? := by
 unfold splice
 have e : (cs.take off).length = off := by rw [List.length_take]; omega
 by_cases h1 : j < off
 ·rw [List.getElem?_append_left (by omega), List.getElem?_take, if_pos h1, if_neg (by omega)]
 ·rw [List.getElem?_append_right (by omega), e]
  by_cases h2 : j < off + vs.length
  ·rw [List.getElem?_append_left (by omega), if_pos (by omega)]
  ·rw [List.getElem?_append_right (by omega), List.getElem?_drop, if_neg (by omega)]
   congr 1; omega
theorem splice_foldl (off : Nat) (vs : List Value) (cs : Array Value) (h : off + vs.length ≤ cs.size) :
  (vs.zipIdx.foldl (fun cs (p : Value × Nat) => cs.setIfInBounds (off + p.2) p.1) cs).toList = splice cs.toList off vs := by
 apply List.ext_getElem?
 intro j
 have hl : cs.toList.length = cs.size := Array.length_toList
 rw [splice_get (by rw [hl]; exact h)]
 have := splice_at off vs 0 cs (by omega) j
 simp only [Nat.add_zero] at this
 simp only [Array.getElem?_toList]
 exact this
inductive Fill (pl : Nat → Option (Nat × Nat)) : List Value → List (Nat × Value) → List Value → Prop
 | nil {cs} : Fill pl cs [] cs
 | cons {i v vs off n cs rest out} (hp : pl i = some (off, n)) (hc : v.cells = vs.toArray) (hn : vs.length = n) (ho : off + n ≤ cs.length) (h : Fill pl (splice cs off vs) rest out) : Fill pl cs ((i, v) :: rest) out
theorem Fill.run {pl : Nat → Option (Nat × Nat)} : ∀ {cs : List Value} {ps : List (Nat × Value)} {out : List Value}, Fill pl cs ps out → ∀ ca : Array Value, ca.toList = cs → Instr.fill pl ca ps = some out.toArray := by
 intro cs ps out h
 induction h with
 | nil => intro ca hca; simp [Instr.fill, ← hca]
 | @cons i v vs off n cs rest out hp hc hn ho h ih =>
  intro ca hca
  have hs : ca.size = cs.length := by rw [← hca]; simp
  simp only [Instr.fill, hp]
  rw [if_neg (by simp [hc, hn]; omega)]
  refine ih _ ?_
  have := splice_foldl off vs ca (by omega)
  rw [hca] at this
  rw [← this, hc]
  simp
structure Plc (P : Program) (X : TypeId) (ps : Array (Nat × Nat)) : Prop where
 u : P.underlying X = some (.struct (P.fieldsOf X))
 h : ∀ w : World, ((P.fieldsOf X).mapM fun f => (do pure (f.offset, ← sizeOf f.type) : Sem (Nat × Nat))).run P w = .ok ps w
theorem sl_cells {r : GR α} {O w u} {x : α} (h : r.v O w u x) (ha : r.agg = false) (hs : r.sz = 1) : u.cells = [u].toArray := by
 obtain ⟨cs, h1, _, h3⟩ := r.cells (fun _ => hs) h
 obtain ⟨cs', h4, h5⟩ := h
 have hl := r.len h1
 rw [hs] at hl
 match cs, hl with
 | [c], _ =>
  have hl' := r.len h4
  rw [hs] at hl'
  match cs', hl' with
  | [c'], _ =>
   rw [ha] at h5; simp [packV] at h5; subst h5
   have := r.one h4 u (by simp)
   cases u <;> first | rfl | (simp [Value.oneCell'] at this)
theorem own_cells {k : Nat} {r : GR α} {T B O w u xs} (h : OwnL k r T B O w u xs) : u.cells = [u].toArray := by
 obtain ⟨vs, h1, _⟩ := h
 obtain ⟨a, cap, h2, _⟩ := h1.slv
 rw [h2]; rfl
section ops
variable {P : Program} {a : Act} {w : World} {d : Option Tmp} {T : TypeId} {pos : String} {aft : Array Edge} {g : Option (Nat × Bool)}
theorem okl_buildSliceV {X e E n : Nat} {r : GR α} (hr : r.fits) (hE : r.sz = E + 1) {O : Tags} (hO : OkO O w) {vs : List Value} {xs : List α} {parts : Array (Nat × Operand)} {z sz by_ dd z' by_'} (hT : Ty P X (.slice e) z sz by_) (he : Ty P e dd z' (E + 1) by_')
  (hp : Parts a 0 parts.toList vs) (hv : RelL r O w vs xs) (hn : vs.length = n) (hs : n * (E + 1) ≤ 16777216) :
  Ok P ⟨d, .buildSlice X n parts, T, pos, aft, g⟩ a w (SP.vl (rSl r) O xs).holds :=
 ok_weak (okl_buildSlice (B := w.heap.size) hr hE hO hT he (Nat.le_refl _) hp hv hn hs) fun _ _ _ h => OwnR.val h fun g hg => hO g (h.ge g hg).1
theorem okl_boxV {x : Operand} {X : TypeId} {r : GR α} (hr : r.fits) {O : Tags} (hO : OkO O w) {v : Value} {y : α} (hx : a.eval x = v) (hv : r.v O w v y) : Ok P ⟨d, .box X x, T, pos, aft, g⟩ a w (SP.vl (rBox r) O y).holds := by
 obtain ⟨cs, h1, h2, h3⟩ := r.cells hr hv
 intro K Q hK
 refine ok_box (L := w.heap.size) (Nat.le_refl _) hx K Q fun u w' hE hu => hK u w' hE ?_
 obtain ⟨b, h4, h5, h6⟩ := hu
 rw [h3] at h6
 exact ⟨_, ⟨b, cs, X, rfl, h6, hO b h4, r.mono (Keep.ext hE) h1⟩, by rw [h5]; rfl⟩
theorem okl_fldB {x : Operand} {X f ft off sz : Nat} {S : GR γ} (hSf : S.fits) (hS : S.agg = true) {r : GR α} (hr : r.fits) {p : γ → α} {O : Tags} {y : γ} (hsub : SubR S off r p) (hF : Fld P X f ft off sz) {u : Value} (hu : a.eval x = u) (hx : (rBox S).v O w u y) :
  Ok P ⟨d, .fieldAddr X x f, T, pos, aft, g⟩ a w (SP.ptr r O (p y)).holds := okl_fld hS hr hsub hF hu (ptr_of_box hSf hx)
theorem ok_nilChk {x : Operand} {ad : Addr} (hx : a.eval x = .pointer (some ad)) : Ok P ⟨d, .nilCheck x, T, pos, aft, g⟩ a w (SP.isv (.pointer (some ad))).holds := ok_pure (by
 simp [execOp, hx, Instr.sureAddr])
theorem okl_build {X : TypeId} {ps : Array (Nat × Nat)} (hP : Plc P X ps) {dd z sz by_} (hT : Ty P X dd z sz by_) {parts : Array (Nat × Operand)} {vals : List (Nat × Value)} (hv : parts.toList.map (fun p => (p.1, a.eval p.2)) = vals) {zc out : List Value} (hz : z.cells = zc.toArray) (hf : Fill (ps[·]?) zc vals out) {v : Value} (he : .agg out.toArray = v) :
  Ok P ⟨d, .build X parts, T, pos, aft, g⟩ a w (SP.isv v).holds := by
 have h1 := hP.u
 have h2 := hP.h
 subst he
 refine ok_pure ?_
 have e1 : (parts.map fun (i, x) => (i, a.eval x)).toList = vals := by rw [← hv]; simp
 have hu : (underlying X).run P w = .ok (.struct (P.fieldsOf X)) w := by simp [underlying, h1]
 simp only [execOp, Instr.build, Sem.run_bind, hT.run_zero, hu, Result.andThen, h2, e1, hf.run z.cells (by rw [hz])]
 simp
end ops
theorem run_storeCells3 {P : Program} {T b off : Nat} : ∀ (l : List Value) (i : Nat) (w : World) (cs : Array Value), (∀ v ∈ l, v.oneCell' = true) → Own w b cs T → off + i + l.length ≤ cs.size →
  ∃ w' cs', (storeCells ⟨b, off, none⟩ l i).run P w = .ok () w' ∧ Own w' b cs' T ∧ cs'.size = cs.size ∧ (∀ j, cs'[j]? = if off + i ≤ j ∧ j < off + i + l.length then l[j - (off + i)]? else cs[j]?) ∧
   w'.os = w.os ∧ w'.tape = w.tape ∧ w'.output = w.output ∧ w'.heap.size = w.heap.size ∧ ∀ k, k ≠ b → w'.heap[k]? = w.heap[k]?
 | [], i, w, cs, _, hO, _ => ⟨w, cs, rfl, hO, rfl, fun j => by rw [if_neg (by simp)], rfl, rfl, rfl, rfl, fun _ _ => rfl⟩
 | v :: l, i, w, cs, h1, hO, hs => by
   simp only [List.length_cons] at hs
   have hi : off + i < cs.size := by omega
   have hc : w.cell? ⟨b, off + i, none⟩ = some cs[off + i] := by rw [hO.cell, Array.getElem?_eq_getElem hi]
   obtain ⟨w', cs', h2, h3, h4, h5, h6, h7, h8, h9, h10⟩ := run_storeCells3 (P := P) (off := off) l (i + 1) (w.setCell ⟨b, off + i, none⟩ v) _ (fun x hx => h1 x (by simp [hx])) (hO.set (off + i) v) (by simp; omega)
   refine ⟨w', cs', ?_, h3, by rw [h4]; simp, fun j => ?_, h6, h7, h8, by rw [h9]; simp [World.setCell], fun k hk => ?_⟩
   ·have e : (⟨b, off, none⟩ : Addr).add i = ⟨b, off + i, none⟩ := by rw [addr_add]
    simp only [storeCells, Sem.run_bind, e, run_store _ _ _ _ _ (h1 v (by simp)), hc, hO.frozen (off + i) hi]
    exact h2
   ·rw [h5 j, List.length_cons]
    by_cases hj : j = off + i
    ·subst hj
     rw [if_neg (by omega), if_pos (by omega)]; simp [hi]
    ·rw [Array.getElem?_setIfInBounds_ne (Ne.symm hj)]
     by_cases h : off + (i + 1) ≤ j ∧ j < off + (i + 1) + l.length
     ·rw [if_pos h, if_pos (by omega)]
      have e : j - (off + i) = (j - (off + (i + 1))) + 1 := by omega
      rw [e]; simp
     ·rw [if_neg h, if_neg (by omega)]
   ·rw [h10 k hk]
    unfold World.setCell; simp [Array.getElem?_modify, Ne.symm hk]
section tails
variable {P : Program} {a : Act} {w : World} {T : TypeId} {pos : String} {aft : Array Edge} {ops : Array Oper} {Q : Exit → Act → World → Prop} {rest : List Oper}
theorem l_storeSub {x y : Operand} {X T' b off k : Nat} {O O0 : Tags} {w0 : World} {A B : Nat → Prop} (hO0 : OkO O0 w0) (hB : Base A O0 w0 O w) (hAB : OkB A w0 B) {vs : List Value} {cs cs' : Array Value} {v : Value} {dd z by_} (hT : Ty P X dd z vs.length by_) (hx : a.eval x = .pointer (some ⟨b, off, none⟩)) (hy : a.eval y = v) (hv : v.cells = vs.toArray) (h1 : ∀ v ∈ vs, v.oneCell' = true)
  (hO : OwnB k B O w b cs T') (ho : off + vs.length ≤ cs.size) (he : (splice cs.toList off vs).toArray = cs')
  (hK : ∀ w', OwnB k B O w' b cs' T' → Base A O0 w0 O w' → KX (some k) O w O w' → wpList P ops Q rest a w') : wpList P ops Q (⟨none, .store X x y, T, pos, aft, none⟩ :: rest) a w := by
 obtain ⟨w', cs2, h2, h3, h4, h5, h6, h7, h8, h9, h10⟩ := run_storeCells3 (P := P) (off := off) vs 0 w cs h1 hO.own (by omega)
 have e : cs2 = cs' := by
  rw [← he]
  apply Array.ext_getElem?
  intro j
  have hl : cs.toList.length = cs.size := Array.length_toList
  have e2 := splice_get (vs := vs) (cs := cs.toList) (off := off) (by rw [hl]; exact ho) j
  rw [h5 j]
  simp only [List.getElem?_toArray, e2, Array.getElem?_toList, Nat.add_zero]
 subst e
 have hb : But b w w' := ⟨h6, h7, h8, by omega, fun k _ hk => h10 k hk⟩
 refine t_skip (w' := w') ?_ rfl rfl (hK w' ⟨h3, hO.ge, hO.tag⟩ (hB.but (hAB.sub _ hO.ge) hb hO0) (KX.but hb hO.tag))
 simp [execOp, Instr.storeAt, Instr.sureAddr, hx, hy, storeVar, hv, hT.run_size, h2]
end tails
end Go.Lift
end
section
set_option linter.unusedVariables false
set_option linter.unusedSimpArgs false
namespace Go.Lift
open Go Go.RowKit Go.Eng
variable {α β γ δ ε : Type}
theorem idx_lt {xs : List α} {i : Int} {n : Nat} {x : α} (h : (idx xs i).run n = some x) : 0 ≤ i ∧ i < xs.length := by
 obtain ⟨h1, h2⟩ := run_idx h
 have := (List.getElem?_eq_some_iff.1 h2).1
 exact ⟨h1, by omega⟩
theorem own_one {k : Nat} {r : GR α} {T B O w u xs} (h : OwnL k r T B O w u xs) : u.oneCell' = true := by
 obtain ⟨vs, h1, _⟩ := h
 obtain ⟨a, cap, h2, _⟩ := h1.slv
 rw [h2]; rfl
theorem sl_one {r : GR α} {O w u} {x : α} (h : r.v O w u x) (ha : r.agg = false) (hs : r.sz = 1) : u.oneCell' = true := by
 obtain ⟨cs, h4, h5⟩ := h
 have hl := r.len h4
 rw [hs] at hl
 match cs, hl with
 | [c], _ =>
  rw [ha] at h5; simp [packV] at h5; subst h5
  exact r.one h4 u (by simp)
theorem pk_nil {a : Act} : ([] : List (Nat × Operand)).map (fun p => (p.1, a.eval p.2)) = [] := rfl
theorem pk_cons {a : Act} {i : Nat} {x : Operand} {v : Value} {ps : List (Nat × Operand)} {vs : List (Nat × Value)} (h : a.eval x = v) (hs : ps.map (fun p => (p.1, a.eval p.2)) = vs) : ((i, x) :: ps).map (fun p => (p.1, a.eval p.2)) = (i, v) :: vs := by
 simp [h, hs]
theorem kspS {os : List Oper} {Φ : List SP} {a : Act} {n t j : Nat} {w : World} {v : Value} {φ : SP} (h : KnowS os Φ a n t w v) (e : lw os (fun j => Nat.blt j n) t = some j) (hΦ : Φ.getD j (.isv undef) = φ) (hg : act os (Φ.map SP.boolOf) j = true) : φ.holds w v := by
 unfold KnowS at h; rw [e] at h
 have := h.1 hg
 rw [hΦ] at this; exact this
theorem regionT {D : List Deferred} {P : Program} {Q : Exit → Act → World → Prop} {N id : Nat} {os tail : List Oper} {a : Act} {w : World} (Φ : List SP)
  (hA : a.fitD N D) (hobl : OblsS P os Φ a w 0 os Φ tail) (hok : okRegion N os = true) (hg : guardsOk os Φ = true)
  (hQ : ∀ a' w', a'.fitD N D → Ext w w' → (∀ t, KnowS os Φ a Φ.length t w' (a'.get t)) → wpList P os.toArray Q tail a' w') : (Code.region id os.toArray false).wp P Q a w := by
 obtain ⟨hl, hdrop⟩ := hobl.drop
 have hgood : Go.Eng.Good Ext os (Φ.map SP.holds) (Φ.map SP.boolOf) := by
  refine ⟨?_, ?_⟩
  ·intro i w w' v hE hp
   by_cases hi : i < Φ.length
   ·rw [pred_map Φ i hi] at hp ⊢; exact SP.stable _ hE hp
   ·simp [pred, hi]
  ·intro i o g want ho hgd w v hp
   unfold guardsOk at hg
   rw [List.all_eq_true] at hg
   have := hg o (List.mem_of_getElem? ho)
   rw [hgd] at this
   by_cases hi : g < Φ.length
   ·rw [pred_map Φ g hi] at hp
    have := SP.bool_of this w v hp
    rw [this]; simp [hi]
   ·simp [hi, SP.isBool, undef] at this
 have hQ' : ∀ a' w', Inv Ext N D os (Φ.map SP.holds) (Φ.map SP.boolOf) a w (fun j => Nat.blt j Φ.length) a' w' → wpOps P os.toArray Q (List.range' Φ.length (os.length - Φ.length)) a' w' := fun a' w' h => by
  have := hQ a' w' h.fit h.ext (fun t => (know_iff (Nat.le_refl _)).1 (h.know t))
  rw [← wpOps_eq_wpList tail Φ.length (fun j => by rw [← hdrop]; simp)] at this
  rwa [← hdrop, List.length_drop] at this
 refine wp_region ?_
 rw [List.range_eq_range']
 have := text_step Ext.refl (fun _ _ _ => Ext.trans) (Q := Q) hl hok hgood (fun i o hi ho => by simpa using oblsS_obls hobl (by simp) (by simp) i o hi (by simpa using ho)) hQ' Φ.length 0 (by simp) _ _ (inv_start (w' := w) (by intro j _; rw [blt_dec]; simp) hA (Ext.refl w))
 simpa using this
section ops
variable {P : Program} {a : Act} {w : World} {d : Option Tmp} {T : TypeId} {pos : String} {aft : Array Edge} {g : Option (Nat × Bool)}
theorem okl_ldr {x : Operand} {X : TypeId} (r : GR α) (hr : r.fits) {O : Tags} {y : α} {dd z sz by_} (hT : Ty P X dd z sz by_) (hd : isAggD dd = r.agg) (hs : r.sz = sz) {u : Value} (hu : a.eval x = u) (hx : (SP.ptr r O y).holds w u) {v : Value} (hv : ∀ O w u, r.v O w u y → u = v) :
  Ok P ⟨d, .load X x, T, pos, aft, g⟩ a w (SP.isv v).holds := fun K Q hK =>
 okl_ld (r := r) hr hT hd hs hu hx K Q fun v' w' hE h => hK v' w' hE (hv _ _ _ h)
end ops
end Go.Lift
end
section
set_option linter.unusedVariables false
set_option linter.unusedSimpArgs false
namespace Go.Eng
open Go Go.RowKit
variable {D : List Deferred}
structure InvJ (E : World → World → Prop) (J : (Nat → Bool) → Act → World → Prop) (N : Nat) (D : List Deferred) (os : List Oper) (Φ : Preds) (cs : List Bool) (a : Act) (w : World) (S : Nat → Bool) (a' : Act) (w' : World) : Prop where
 fit : a'.fitD N D
 ext : E w w'
 know : ∀ t, Know os Φ cs a S t w' (a'.get t)
 inv : J S a' w'
def addS (S : Nat → Bool) (i : Nat) : Nat → Bool := fun j => S j || Nat.beq j i
def OblJ (E : World → World → Prop) (J : (Nat → Bool) → Act → World → Prop) (P : Program) (os : List Oper) (Φ : Preds) (cs : List Bool) (a : Act) (w : World) (i : Nat) (o : Oper) : Prop :=
 ∀ S a' w', E w w' → J S a' w' → S i = false → (∀ k, ((bitsOf os).getD k 0).testBit i = true → S k = false) → (∀ e ∈ o.after, Region.binds .any e = true → S e.on = true) →
  (∀ t, readsT o t = true → Know os Φ cs a (fun j => Nat.blt j i) t w' (a'.get t)) → act os cs i = true →
  ∀ (K : Act → World → Prop) (Q : Exit → Act → World → Prop), (∀ v w'', E w' w'' → J (addS S i) (a'.put o.dst v) w'' → pred Φ i w'' v → K (a'.put o.dst v) w'') → o.wp P a' w' K Q
theorem invJ_put {E : World → World → Prop} {J : (Nat → Bool) → Act → World → Prop} (ht : ∀ a b c, E a b → E b c → E a c) {N : Nat} {os : List Oper} {Φ : Preds} {cs : List Bool} {a : Act} {w : World} {S : Nat → Bool} {a' : Act} {w' w'' : World}
  (hok : okRegion N os = true) (hgood : Go.Eng.Good E os Φ cs) (hI : InvJ E J N D os Φ cs a w S a' w') (hd : DownClosed os S) {i : Nat} {o : Oper} (ho : os[i]? = some o) (hi : S i = false)
  (hE : E w' w'') {v : Value} (hv : Left os Φ cs i w'' v) (hJ : J (addS S i) (a'.put o.dst v) w'') : InvJ E J N D os Φ cs a w (addS S i) (a'.put o.dst v) w'' := by
 refine ⟨fit_put hI.fit _ _, ht _ _ _ hI.ext hE, fun t => ?_, hJ⟩
 by_cases hdst : o.dst = some t
 ·have hlw : lw os (addS S i) t = some i := by
   refine lwGo_put os 0 none (Nat.zero_le _) ⟨o, by simpa using ho, by simp [writes, hdst]⟩ fun j oj hj hoj hw => ?_
   simp at hoj
   have hdj : oj.dst = some t := by
    unfold writes at hw
    cases hd : oj.dst with
    | none => simp [hd] at hw
    | some d => rw [hd] at hw; exact congrArg some (Nat.eq_of_beq_eq_true hw)
   have hp := ((okRegion_spec hok hoj).2.1 t hdj).2 i o ho (by omega) (.inr hdst)
   unfold okPair at hp
   rw [Nat.max_eq_left (by omega), Nat.min_eq_right (by omega)] at hp
   cases hSj : S j with
   | false => rfl
   | true => have := before_closed hd hp hSj; rw [hi] at this; cases this
  unfold Know
  rw [hlw, hdst]
  simp only []
  rw [get_put_same hI.fit ((okRegion_spec hok ho).2.1 t hdst).1]
  exact hv
 ·have hlw : lw os (addS S i) t = lw os S t := by
   refine lw_congr fun j oj hoj hw => ?_
   by_cases hji : j = i
   ·subst hji
    rw [ho] at hoj; cases hoj
    unfold writes at hw
    cases hd : o.dst with
    | none => simp [hd] at hw
    | some d => rw [hd] at hw; exact absurd (by rw [hd, Nat.eq_of_beq_eq_true hw]) hdst
   ·simp [addS, beq_dec, hji]
  have hget : (a'.put o.dst v).get t = a'.get t := by
   cases hd : o.dst with
   | none => rfl
   | some d => exact get_put_ne (fun e => hdst (by rw [hd, e])) v
  have hk := hI.know t
  unfold Know at hk ⊢
  rw [hlw, hget]
  cases hl : lw os S t with
  | none => rw [hl] at hk; exact hk
  | some j =>
   rw [hl] at hk
   exact ⟨fun h => hgood.stable _ _ _ _ hE (hk.on h), hk.off⟩
theorem invJ_step {E : World → World → Prop} {J : (Nat → Bool) → Act → World → Prop} (hr : ∀ w, E w w) (ht : ∀ a b c, E a b → E b c → E a c) {P : Program} {Q : Exit → Act → World → Prop} {N : Nat} {os : List Oper} {Φ : Preds} {cs : List Bool} {a : Act} {w : World} {S : Nat → Bool} {a' : Act} {w' : World}
  (hskip : ∀ (i : Nat) (o : Oper) S a' w', os[i]? = some o → o.guard ≠ none → act os cs i = false → S i = false → (∀ e ∈ o.after, Region.binds .any e = true → S e.on = true) → J S a' w' → J (addS S i) (a'.put o.dst undef) w')
  (hok : okRegion N os = true) (hgood : Go.Eng.Good E os Φ cs) (hI : InvJ E J N D os Φ cs a w S a' w') (hd : DownClosed os S) {i : Nat} {o : Oper} (ho : os[i]? = some o) (hi : S i = false)
  (hpre : ∀ e ∈ o.after, Region.binds .any e = true → S e.on = true) (hobl : OblJ E J P os Φ cs a w i o)
  (K : Act → World → Prop) (hK : ∀ a'' w'', InvJ E J N D os Φ cs a w (addS S i) a'' w'' → K a'' w'') :
  if Region.wanted o (yielded os.toArray a'.tmps) then o.wp P a' w' K Q else K (a'.put o.dst undef) w' := by
 have hdc : DownClosed os (addS S i) := by
  intro j oj e hoj he hb hj
  simp only [addS, Bool.or_eq_true] at hj ⊢
  rcases hj with hj | hj
  ·exact .inl (hd j oj e hoj he hb hj)
  ·obtain rfl := Nat.eq_of_beq_eq_true hj
   rw [ho] at hoj; cases hoj
   exact .inl (hpre e he hb)
 have hrun : act os cs i = true → o.wp P a' w' K Q := fun hact =>
  hobl S a' w' hI.ext hI.inv hi
   (fun k hk => by
    cases hS : S k with
    | false => rfl
    | true => have := before_closed hd hk hS; rw [hi] at this; cases this)
   hpre
   (fun t ht => by
    have := hI.know t
    unfold Know at this ⊢
    rwa [lw_at hok hd ho hi hpre (names_of_reads ht)] at this) hact K Q
   (fun v w'' hE hJ hv => hK _ _ (invJ_put ht hok hgood hI hd ho hi hE ⟨fun _ => hv, fun h => by rw [hact] at h; cases h⟩ hJ))
 have hsk : act os cs i = false → o.guard ≠ none → K (a'.put o.dst undef) w' := fun hact hg =>
  hK _ _ (invJ_put ht hok hgood hI hd ho hi (hr _) ⟨(fun h => by rw [hact] at h; cases h), fun _ => rfl⟩ (hskip i o S a' w' ho hg hact hi hpre hI.inv))
 cases hg : o.guard with
 | none =>
  have : Region.wanted o (yielded os.toArray a'.tmps) = true := by simp [Region.wanted, hg]
  rw [if_pos this]
  exact hrun (act_none ho hg)
 | some p =>
  obtain ⟨g, want⟩ := p
  obtain ⟨_, _, h3⟩ := okRegion_spec hok ho
  obtain ⟨_, og, d, hog, hdst, hlw⟩ := h3 g want hg
  have hkd := hI.know d
  unfold Know at hkd
  have hnm : d ∈ names os o := by
   unfold names
   rw [hg]
   exact List.mem_append_right _ (by simp [hog, hdst])
  rw [lw_at hok hd ho hi hpre hnm, hlw] at hkd
  simp only [] at hkd
  have hact := act_some (cs := cs) (ok_guard_lt hok) ho hg
  have hdN : d < a'.tmps.size := by rw [hI.fit.size]; exact ((okRegion_spec hok hog).2.1 d hdst).1
  have hget : a'.tmps[d]? = some (a'.get d) := by
   simp [Act.get, Array.getD_eq_getD_getElem?, Array.getElem?_eq_getElem hdN]
  have hy : yielded os.toArray a'.tmps g = (match a'.get d with | .bool b => some b | _ => none) := by
   unfold yielded
   simp only [List.getElem?_toArray, hog, Option.bind_some, hdst, hget]
   cases a'.get d <;> rfl
  cases hag : act os cs g with
  | false =>
   have h := hkd.off hag
   rw [hag] at hact
   have hw : Region.wanted o (yielded os.toArray a'.tmps) = false := by
    simp only [Region.wanted, hg, hy, h, undef]; rfl
   rw [if_neg (by rw [hw]; exact Bool.false_ne_true)]
   exact hsk (by simpa using hact) (by rw [hg]; simp)
  | true =>
   have h := hgood.guards i o g want ho hg _ _ (hkd.on hag)
   rw [hag, Bool.true_and] at hact
   have hw : Region.wanted o (yielded os.toArray a'.tmps) = act os cs i := by
    simp only [Region.wanted, hg, hy, h, hact]
    cases cs.getD g false <;> cases want <;> rfl
   rw [hw]
   cases hb : act os cs i with
   | true => rw [if_pos rfl]; exact hrun hb
   | false => rw [if_neg Bool.false_ne_true]; exact hsk hb (by rw [hg]; simp)
theorem anyJ {E : World → World → Prop} {J : (Nat → Bool) → Act → World → Prop} (hr : ∀ w, E w w) (ht : ∀ a b c, E a b → E b c → E a c) {P : Program} {Q : Exit → Act → World → Prop} {N : Nat} {os : List Oper} {Φ : Preds} {cs : List Bool} {a : Act} {w : World}
  (hskip : ∀ (i : Nat) (o : Oper) S a' w', os[i]? = some o → o.guard ≠ none → act os cs i = false → S i = false → (∀ e ∈ o.after, Region.binds .any e = true → S e.on = true) → J S a' w' → J (addS S i) (a'.put o.dst undef) w')
  (hok : okRegion N os = true) (hgood : Go.Eng.Good E os Φ cs) (hobl : ∀ i o, os[i]? = some o → OblJ E J P os Φ cs a w i o)
  (hQ : ∀ a' w', InvJ E J N D os Φ cs a w (fun j => Nat.blt j os.length) a' w' → Q .normal a' w') :
  ∀ (fuel : Nat) (listed : Array Bool), listed.size = os.length → os.length ≤ fuel + (listed.toList.countP (· = true)) → DownClosed os (fun j => listed.getD j false) → ∀ a' w', InvJ E J N D os Φ cs a w (fun j => listed.getD j false) a' w' →
   wpAny P .any os.toArray Q fuel listed a' w' := by
 have full : ∀ (fuel : Nat) (listed : Array Bool), listed.size = os.length → (∀ i, i < os.length → listed.getD i false = true) → ∀ a' w', InvJ E J N D os Φ cs a w (fun j => listed.getD j false) a' w' → wpAny P .any os.toArray Q fuel listed a' w' := by
  intro fuel listed hs hall a' w' hI
  have hnil : Region.ready .any os.toArray listed = [] := by
   unfold Region.ready
   rw [List.filter_eq_nil_iff]
   intro i hi
   have hi' : i < listed.size := by simp at hi; omega
   have hli := hall i (by omega)
   have : listed.getD i true = true := by
    simp [Array.getD_eq_getD_getElem?, hi'] at hli ⊢; exact hli
   simp [this]
  have hfun : (fun j => listed.getD j false) = (fun j => Nat.blt j os.length) := by
   funext j
   rw [blt_dec]
   by_cases h : j < os.length
   ·simp only [h, decide_true]; exact hall j h
   ·simp only [h, decide_false]
    rw [Array.getD_eq_getD_getElem?, Array.getElem?_eq_none (by omega)]; rfl
  have hQ' : Q .normal a' w' := hQ a' w' (by rw [hfun] at hI; exact hI)
  cases fuel with
  | zero => exact ⟨hnil, hQ'⟩
  | succ fuel => exact ⟨fun _ => hQ', fun i hi => by rw [hnil] at hi; cases hi⟩
 intro fuel
 induction fuel with
 | zero =>
  intro listed hs hc hd a' w' hI
  have hc' : listed.toList.countP (· = true) = listed.toList.length := by
   have := List.countP_le_length (p := (fun b => decide (b = true))) (l := listed.toList)
   simp only [Array.length_toList] at this ⊢; omega
  rw [List.countP_eq_length] at hc'
  refine full 0 listed hs (fun i hi => ?_) a' w' hI
  have hi' : i < listed.size := by omega
  have hli := hc' listed[i] (by simp)
  simp [Array.getD_eq_getD_getElem?, hi']; simpa using hli
 | succ fuel ih =>
  intro listed hs hc hd a' w' hI
  by_cases hall : ∀ i, i < os.length → listed.getD i false = true
  ·exact full (fuel + 1) listed hs hall a' w' hI
  ·have hex : ∃ i, i < os.length ∧ listed.getD i false = false ∧ ∀ j, j < i → listed.getD j false = true := by
    have key : ∀ n, (∀ j, j < n → listed.getD j false = true) ∨ ∃ i, i < n ∧ listed.getD i false = false ∧ ∀ j, j < i → listed.getD j false = true := by
     intro n
     induction n with
     | zero => exact .inl (by intro j hj; omega)
     | succ n ihn =>
      rcases ihn with h | ⟨i, h1, h2⟩
      ·cases hn : listed.getD n false with
       | true =>
            refine .inl fun j hj => ?_
            rcases Nat.lt_or_ge j n with h' | h'
            ·exact h j h'
            ·obtain rfl : j = n := by omega
             exact hn
       | false => exact .inr ⟨n, by omega, hn, h⟩
      ·exact .inr ⟨i, by omega, h2⟩
    rcases key os.length with h | h
    ·exact absurd h hall
    ·exact h
   refine ⟨fun hnil => ?_, fun i hi => ?_⟩
   ·exfalso
    obtain ⟨i, hlt, hif, hj⟩ := hex
    have hrm : i ∈ Region.ready .any os.toArray listed := by
     unfold Region.ready
     rw [List.mem_filter]
     refine ⟨by simpa using hlt, ?_⟩
     have hl' : listed.getD i true = false := by
      have : i < listed.size := by omega
      simp [Array.getD_eq_getD_getElem?, this] at hif ⊢; exact hif
     have ho : os[i]? = some os[i] := List.getElem?_eq_getElem hlt
     simp only [hl', Bool.not_false, Bool.true_and, List.getElem?_toArray, ho, Option.map_some, Option.getD_some]
     rw [Array.all_eq_true']
     intro e he
     cases hb : Region.binds .any e with
     | false => rfl
     | true => simp [hj e.on ((okRegion_spec hok ho).1 e he hb)]
    rw [hnil] at hrm; cases hrm
   ·unfold Region.ready at hi
    rw [List.mem_filter] at hi
    obtain ⟨hlt, hi⟩ := hi
    have hlt : i < os.length := by simpa using hlt
    have ho : os[i]? = some os[i] := List.getElem?_eq_getElem hlt
    simp only [Bool.and_eq_true, Bool.not_eq_true', List.getElem?_toArray, ho, Option.map_some, Option.getD_some] at hi
    obtain ⟨hnl, hpre⟩ := hi
    have hi' : i < listed.size := by omega
    have hli : listed.getD i false = false := by
     simp [Array.getD_eq_getD_getElem?, hi'] at hnl ⊢; exact hnl
    have hpre' : ∀ e ∈ os[i].after, Region.binds .any e = true → listed.getD e.on false = true := by
     rw [Array.all_eq_true'] at hpre
     intro e he hb
     have := hpre e he
     simpa [hb] using this
    have hstep := invJ_step (Q := Q) hr ht hskip hok hgood hI hd ho hli hpre' (hobl i _ ho) (wpAny P .any os.toArray Q fuel (listed.setIfInBounds i true)) (fun a'' w'' hI' => by
     refine ih _ (by simp [hs]) ?_ ?_ a'' w'' ?_
     ·have hc2 : (listed.setIfInBounds i true).toList.countP (· = true) = listed.toList.countP (· = true) + 1 := by
       rw [Array.toList_setIfInBounds, List.countP_set (by simpa using hi')]
       have : listed[i] = false := by simpa [Array.getD_eq_getD_getElem?, hi'] using hli
       simp [this]
      omega
     ·intro j oj e hoj he hb hj
      simp only [getD_set_true _ _ _ hi'] at hj ⊢
      simp only [Bool.or_eq_true] at hj ⊢
      rcases hj with hj | hj
      ·exact .inl (hd j oj e hoj he hb hj)
      ·obtain rfl := Nat.eq_of_beq_eq_true hj
       rw [ho] at hoj; cases hoj
       exact .inl (hpre' e he hb)
     ·have : (fun j => (listed.setIfInBounds i true).getD j false) = addS (fun j => listed.getD j false) i := funext fun j => getD_set_true _ _ _ hi'
      rw [this]; exact hI')
    unfold wpOp
    simp only [List.getElem?_toArray, ho]
    split at hstep
    ·rename_i hw; rw [if_pos hw]; exact .inl hstep
    ·rename_i hw; rw [if_neg hw]; exact hstep
inductive OblsJ (E : World → World → Prop) (J : (Nat → Bool) → Act → World → Prop) (P : Program) (all : List Oper) (Φ : List SP) (a : Act) (w : World) : Nat → List Oper → List SP → Prop
 | nil {i} : OblsJ E J P all Φ a w i [] []
 | cons {i o os φ φs} (h : ∀ S a' w', E w w' → J S a' w' → S i = false → (∀ k, ((bitsOf all).getD k 0).testBit i = true → S k = false) → (∀ e ∈ o.after, Region.binds .any e = true → S e.on = true) →
   (∀ t, readsT o t = true → KnowS all Φ a i t w' (a'.get t)) → act all (Φ.map SP.boolOf) i = true →
   ∀ (K : Act → World → Prop) (Q : Exit → Act → World → Prop), (∀ v w'', E w' w'' → J (addS S i) (a'.put o.dst v) w'' → φ.holds w'' v → K (a'.put o.dst v) w'') → o.wp P a' w' K Q)
   (hs : OblsJ E J P all Φ a w (i + 1) os φs) : OblsJ E J P all Φ a w i (o :: os) (φ :: φs)
theorem oblsJ_len {E J P all Φ a w i os φs} (h : OblsJ E J P all Φ a w i os φs) : φs.length = os.length := by
 induction h with
 | nil => rfl
 | cons _ _ ih => simp [ih]
theorem oblsJ_obls {E J P all a w} {Φ : List SP} : ∀ {i os φs}, OblsJ E J P all Φ a w i os φs → (∀ j, φs[j]? = Φ[i + j]?) → (∀ j, os[j]? = all[i + j]?) →
  ∀ j o, j < φs.length → all[i + j]? = some o → OblJ E J P all (Φ.map SP.holds) (Φ.map SP.boolOf) a w (i + j) o
 | _, _, _, .nil, _, _ => by intro j o h; simp at h
 | i, _, _, .cons (φ := φ) h hs, hφ, hos => by
   intro j o hj ho
   cases j with
   | zero =>
    have h1 := hos 0
    simp only [List.getElem?_cons_zero, Nat.add_zero] at h1 ho
    rw [ho] at h1; cases h1
    have h0 := hφ 0
    simp only [List.getElem?_cons_zero, Nat.add_zero] at h0
    have hi : i < Φ.length := (List.getElem?_eq_some_iff.1 h0.symm).1
    have hp : pred (Φ.map SP.holds) i = φ.holds := by
     rw [pred_map Φ i hi]; simp [← h0]
    intro S a' w' hE hJ hSi hafter hpre hK hact K Q hcont
    refine h S a' w' hE hJ hSi hafter hpre (fun t ht => (know_iff (by omega)).1 (hK t ht)) hact K Q fun v w'' h1 h2 h3 => hcont v w'' h1 h2 ?_
    show pred (Φ.map SP.holds) i w'' v
    rw [hp]; exact h3
   | succ j =>
    have e : i + (j + 1) = i + 1 + j := by omega
    rw [e] at ho ⊢
    refine oblsJ_obls hs (fun j => ?_) (fun j => ?_) j o (by simpa using hj) ho
    ·have := hφ (j + 1)
     simp only [List.getElem?_cons_succ] at this
     rw [this]; congr 1; omega
    ·have := hos (j + 1)
     simp only [List.getElem?_cons_succ] at this
     rw [this]; congr 1; omega
theorem regionJ {E : World → World → Prop} (J : (Nat → Bool) → Act → World → Prop) (hr : ∀ w, E w w) (ht : ∀ a b c, E a b → E b c → E a c) (hdr : ∀ w, E w { w with drawn := w.drawn + 1 }) {P : Program} {Q : Exit → Act → World → Prop} {N id : Nat} {os : List Oper} {a : Act} {w : World} (Φ : List SP) (hm : P.follows .mixedOrders = true)
  (hA : a.fitD N D) (hst : AllSt E Φ) (hobl : OblsJ E J P os Φ a w 0 os Φ)
  (hskip : ∀ (i : Nat) (o : Oper) S a' w', os[i]? = some o → o.guard ≠ none → act os (Φ.map SP.boolOf) i = false → S i = false → (∀ e ∈ o.after, Region.binds .any e = true → S e.on = true) → J S a' w' → J (addS S i) (a'.put o.dst undef) w')
  (hstart : J (fun _ => false) a { w with drawn := w.drawn + 1 }) (hok : okRegion N os = true) (hg : guardsOk os Φ = true)
  (hQ : ∀ a' w', a'.fitD N D → E w w' → (∀ t, KnowS os Φ a Φ.length t w' (a'.get t)) → J (fun j => Nat.blt j os.length) a' w' → Q .normal a' w') : (Code.region id os.toArray true).wp P Q a w := by
 have hlen := oblsJ_len hobl
 have hgood : Go.Eng.Good E os (Φ.map SP.holds) (Φ.map SP.boolOf) := by
  refine ⟨?_, ?_⟩
  ·intro i w w' v hE hp
   by_cases hi : i < Φ.length
   ·rw [pred_map Φ i hi] at hp ⊢; exact hst.at i w w' v hE hp
   ·simp [pred, hi]
  ·intro i o g want ho hgd w v hp
   unfold guardsOk at hg
   rw [List.all_eq_true] at hg
   have := hg o (List.mem_of_getElem? ho)
   rw [hgd] at this
   by_cases hi : g < Φ.length
   ·rw [pred_map Φ g hi] at hp
    have := SP.bool_of this w v hp
    rw [this]; simp [hi]
   ·simp [hi, SP.isBool, undef] at this
 refine wp_region_any hm ?_
 have hfalse : (fun j => (Array.replicate os.toArray.size false).getD j false) = fun _ => false := by
  funext j
  simp [Array.getD_eq_getD_getElem?]
  by_cases hi : j < os.length <;> simp [hi]
 refine anyJ (D := D) (N := N) (a := a) (w := w) hr ht hskip hok hgood (fun i o ho => ?_) (fun a' w' hI => ?_) _ _ (by simp) ?_ ?_ _ _ ?_
 ·have hi : i < os.length := (List.getElem?_eq_some_iff.1 ho).1
  have := oblsJ_obls hobl (by simp) (by simp) i o (by omega) (by simpa using ho)
  simpa using this
 ·refine hQ a' w' hI.fit hI.ext (fun t => ?_) hI.inv
  have := hI.know t
  rw [← hlen] at this
  exact (know_iff (Nat.le_refl _)).1 this
 ·simp
 ·intro i o e _ _ _ h
  simp [Array.getD_eq_getD_getElem?] at h
  by_cases hi : i < os.length <;> simp [hi] at h
 ·have h0 := inv_start (E := E) (N := N) (D := D) (os := os) (Φ := Φ.map SP.holds) (cs := Φ.map SP.boolOf) (S := fun _ => false) (fun _ _ => rfl) hA (hdr w)
  refine ⟨h0.fit, ?_, ?_, ?_⟩
  ·exact h0.ext
  ·rw [hfalse]; exact h0.know
  ·rw [hfalse]; exact hstart
end Go.Eng
end
section
set_option linter.unusedVariables false
set_option linter.unusedSimpArgs false
namespace Go.Lift
open Go Go.RowKit Go.Eng
variable {α β γ δ ε : Type}
structure ET (T : Nat → Prop) (B : Nat) (w w' : World) : Prop where
 os : w'.os = w.os
 tape : w'.tape = w.tape
 output : w'.output = w.output
 size : w.heap.size ≤ w'.heap.size
 block : ∀ b, b < w.heap.size → b < B → ¬ T b → w'.heap[b]? = w.heap[b]?
theorem ET.refl (T : Nat → Prop) (B : Nat) (w : World) : ET T B w w := ⟨rfl, rfl, rfl, Nat.le_refl _, fun _ _ _ _ => rfl⟩
theorem ET.trans {T : Nat → Prop} {B : Nat} {a b c : World} (h : ET T B a b) (k : ET T B b c) : ET T B a c :=
 ⟨k.os.trans h.os, k.tape.trans h.tape, k.output.trans h.output, Nat.le_trans h.size k.size, fun x hx hB hT => (k.block x (Nat.lt_of_lt_of_le hx h.size) hB hT).trans (h.block x hx hB hT)⟩
def cap (O : Tags) (B : Nat) : Tags := fun b => if b < B then O b else 1
theorem keep_cap {O : Tags} {w : World} : Keep 0 O w (cap O w.heap.size) w := ⟨Nat.le_refl _, fun b hb ho => ⟨by unfold cap; rw [if_pos hb]; exact ho, rfl⟩⟩
theorem GR.cap (r : GR α) {O : Tags} {w : World} {v : Value} {x : α} (h : r.v O w v x) : r.v (Go.Lift.cap O w.heap.size) w v x := r.v_mono h keep_cap
def PtrZ (r : GR α) (O : Tags) (w : World) (p : Value) (x : α) : Prop := ∃ b off v, p = .pointer (some ⟨b, off, none⟩) ∧ O b = 0 ∧ r.v O w v x ∧ ∀ j, j < v.cells.size → w.cell? ⟨b, off + j, none⟩ = v.cells[j]?
theorem PtrZ.keep {r : GR α} {O O' : Tags} {w w' : World} {p : Value} {x : α} (h : PtrZ r O w p x) (hk : Keep 0 O w O' w') (hs : 0 < r.sz) (hr : r.fits) : PtrZ r O' w' p x := by
 obtain ⟨b, off, v, h1, h2, h3, h4⟩ := h
 have hsz := r.cells_size hr h3
 have hb : b < w.heap.size := by
  have := h4 0 (by omega)
  rw [Array.getElem?_eq_getElem (by omega)] at this
  unfold World.cell? at this
  cases hh : w.heap[b]? with
  | none => simp [hh] at this
  | some o => exact (Array.getElem?_eq_some_iff.1 hh).1
 refine ⟨b, off, v, h1, (hk.2 b hb h2).1, r.v_mono h3 hk, fun j hj => ?_⟩
 have := h4 j hj
 rw [Array.getElem?_eq_getElem hj] at this ⊢
 exact cell_keep hk h2 this
abbrev SP.ptrz (r : GR α) (O : Tags) (x : α) (hs : 0 < r.sz) (hr : r.fits) : SP := .pr (fun w p => PtrZ r O w p x) (fun _ _ _ hE h => h.keep (Keep.ext hE) hs hr)
theorem PtrZ.ptr {r : GR α} {O : Tags} {w : World} {p : Value} {x : α} (h : PtrZ r O w p x) : (SP.ptr r O x).holds w p := by
 obtain ⟨b, off, v, h1, h2, h3, h4⟩ := h
 exact ⟨v, ⟨b, off, h1, h4⟩, h3⟩
def setIf (b : Bool) (off : Nat) (v : Value) (cs : Array Value) : Array Value := bif b then cs.setIfInBounds off v else cs
def applyS (S : Nat → Bool) : List (Nat × Nat × Value) → Array Value → Array Value
 | [], cs => cs
 | (i, off, v) :: l, cs => applyS S l (setIf (S i) off v cs)
theorem applyS_get {S : Nat → Bool} {j : Nat} : ∀ {l : List (Nat × Nat × Value)} {cs : Array Value}, (∀ p ∈ l, p.2.1 = j → S p.1 = false) → (applyS S l cs)[j]? = cs[j]?
 | [], _, _ => rfl
 | (i, off, v) :: l, cs, h => by
   simp only [applyS]
   rw [applyS_get fun p hp => h p (by simp [hp])]
   unfold setIf
   cases hS : S i with
   | false => rfl
   | true =>
    have : off ≠ j := fun e => by have := h (i, off, v) (by simp) e; rw [hS] at this; cases this
    simp [Array.getElem?_setIfInBounds_ne this]
def JBox (k : Nat) (B : Nat → Prop) (O : Tags) (b : Nat) (T : TypeId) (cs : Array Value) (l : List (Nat × Nat × Value)) (S : Nat → Bool) (w : World) : Prop := OwnB k B O w b (applyS S l cs) T
theorem JBox.own {k : Nat} {B : Nat → Prop} {O : Tags} {b : Nat} {T : TypeId} {cs : Array Value} {l : List (Nat × Nat × Value)} {S : Nat → Bool} {w : World} (h : JBox k B O b T cs l S w) {j : Nat} {v : Value} (hj : ∀ p ∈ l, p.2.1 = j → S p.1 = false) (hc : cs[j]? = some v) : w.cell? ⟨b, j, none⟩ = some v := by
 rw [OwnB.own h |>.cell, applyS_get hj]; exact hc
section ops
variable {P : Program} {a : Act} {w : World} {d : Option Tmp} {T : TypeId} {pos : String} {aft : Array Edge} {g : Option (Nat × Bool)}
end ops
section ops
variable {P : Program} {a : Act} {w : World} {d : Option Tmp} {T : TypeId} {pos : String} {aft : Array Edge} {g : Option (Nat × Bool)}
theorem ptrz_of_box {r : GR α} (hr : r.fits) {O w u x} (h : (rBox r).v O w u x) : PtrZ r O w u x := by
 obtain ⟨cs, ⟨b, cs', T, h1, h2, h3, h4⟩, hu⟩ := h
 rw [h1] at hu
 simp [rBox, packV] at hu
 have hv : r.v O w (packV r.agg cs') x := ⟨cs', h4, rfl⟩
 have hc : (packV r.agg cs').cells = cs'.toArray := cells_pack (fun ha => by rw [r.len h4, hr ha]) (r.one h4)
 exact ⟨b, 0, _, hu, h3, hv, fun j hj => by rw [hc] at hj ⊢; rw [h2.cell]; simp⟩
theorem okl_idxZ {x i : Operand} {X e : TypeId} {r : GR α} (hs : 0 < r.sz) (hr : r.fits) {O : Tags} {xs : List α} {y : α} {k : IntKind} {m : Int} {n : Nat} {z sz by_ dd z' E by_'} (hT : Ty P X (.slice e) z sz by_) (he : Ty P e dd z' E by_') (hE : r.sz = E) {u : Value} (hu : a.eval x = u) (hx : (rSl r).v O w u xs) (hi : a.eval i = .int k m) (h : (idx xs m).run n = some y) :
  Ok P ⟨d, .indexAddr X x i, T, pos, aft, g⟩ a w (SP.ptrz r O y hs hr).holds := by
 obtain ⟨h0, h1⟩ := run_idx h
 obtain ⟨vs, h2, h3, h4⟩ := rSl_v.1 hx
 obtain ⟨v, h5, h6⟩ := h3.get _ _ h1
 have hlt : m.toNat < vs.length := (List.getElem?_eq_some_iff.1 h5).1
 have hne : vs ≠ [] := fun e => by rw [e] at hlt; simp at hlt
 subst hE
 obtain ⟨p, cap, e1, e2, e3, e4⟩ := h2
 rcases e4 with e4 | ⟨b, off, hp, hc⟩
 ·exact absurd e4 hne
 have hEs := e3 v (List.mem_of_getElem? h5)
 have hb := h4 hne b (by rw [e1, hp]; rfl)
 refine ok_run (v := .pointer (some ⟨b, off + m.toNat * r.sz, none⟩)) (w' := w) ?_ (Ext.refl w) ⟨b, off + m.toNat * r.sz, v, rfl, hb.2, h6, fun j hj => ?_⟩
 ·have hlt' : m < (vs.length : Int) := by omega
  rw [e1, hp] at hu
  simp [execOp, Instr.indexAt, asIntOf, hi, hu, hT.run_u, he.run_size, h0, hlt', addr_add]
 ·rw [Nat.add_assoc]; exact hc _ v h5 j (by rw [hEs] at hj; exact hj)
theorem okl_fldZ {x : Operand} {X f ft off sz : Nat} {S : GR γ} (hS : S.agg = true) {r : GR α} (hs : 0 < r.sz) (hr : r.fits) {p : γ → α} {O : Tags} {y : γ} (hsub : SubR S off r p) (hF : Fld P X f ft off sz) {u : Value} (hu : a.eval x = u) (hx : PtrZ S O w u y) :
  Ok P ⟨d, .fieldAddr X x f, T, pos, aft, g⟩ a w (SP.ptrz r O (p y) hs hr).holds := by
 obtain ⟨b, o, v, h1, hb, ⟨cs, h2, h3⟩, h4⟩ := hx
 obtain ⟨c1, c2, c3, e4, e5, e6⟩ := hsub h2
 rw [hS] at h3
 simp only [packV] at h3
 subst h3
 have hc2 : (packV r.agg c2).cells = c2.toArray := cells_pack (fun ha => by rw [r.len e6, hr ha]) (r.one e6)
 intro K Q hK
 refine ok_fieldAddr hF (hu.trans h1) K Q fun v' w' hE hv => hK v' w' hE ⟨b, o + off, packV r.agg c2, hv, hb, r.v_ext ⟨c2, e6, rfl⟩ hE, fun j hj => ?_⟩
 rw [hc2] at hj ⊢
 simp only [List.size_toArray] at hj
 have h5 := h4 (off + j) (by subst e4; simp only [Value.cells, List.size_toArray, List.length_append]; omega)
 subst e4
 simp only [Value.cells, List.getElem?_toArray] at h5 ⊢
 rw [List.getElem?_append_right (by omega), List.getElem?_append_left (by omega), show off + j - c1.length = j by omega] at h5
 rw [List.getElem?_eq_getElem hj] at h5 ⊢
 rw [Nat.add_assoc]
 exact hE.cell h5
end ops
end Go.Lift
end
section
set_option linter.unusedVariables false
set_option linter.unusedSimpArgs false
namespace Go.Lift
open Go Go.RowKit Go.Eng
variable {α β γ δ ε : Type}
def IoPost (r : GR α) (T : Nat) (O : Tags) (w : World) (u : Value) (ys : List α) (ψ : Value → Value → Prop) : Ending → World → Prop :=
 fun e w' => ∃ v u', e = .returned v ∧ Appd w w' u u' ∧ OwnR r T 0 O w' u' ys ∧ ψ v u'
theorem OwnL.arg {k : Nat} {r : GR α} {T B O w u xs} (h : OwnL k r T B O w u xs) (hk : k ≠ 0) : OwnR r T 0 O w u xs := by
 obtain ⟨vs, h1, h2, h3⟩ := h
 exact ⟨vs, h1, h2.mono ⟨Nat.le_refl _, fun b _ hb => ⟨by rw [tag_ne (fun e => by rw [(h3 b e).1] at hb; exact hk hb)]; exact hb, rfl⟩⟩⟩
theorem map1 {a : Act} {x : Operand} {v : Value} (h : a.eval x = v) : #[x].map a.eval = #[v] := by simp [h]
theorem map2 {a : Act} {x y : Operand} {v u : Value} (h : a.eval x = v) (h2 : a.eval y = u) : #[x, y].map a.eval = #[v, u] := by simp [h, h2]
theorem map3 {a : Act} {x y z : Operand} {v u t : Value} (h : a.eval x = v) (h2 : a.eval y = u) (h3 : a.eval z = t) : #[x, y, z].map a.eval = #[v, u, t] := by simp [h, h2, h3]
section tails
variable {P : Program} {a : Act} {w : World} {T : TypeId} {pos : String} {aft : Array Edge} {ops : Array Oper} {Q : Exit → Act → World → Prop} {rest : List Oper} {A : Nat → Prop}
theorem t_calls {f : FuncId} {xs : Array Operand} {ts : Array TypeId} {args : Array Value} {R : Ending → World → Prop} {d : Option Tmp} (hf : FnOk P f) (ha : xs.map a.eval = args) (h : Calls P f args w R)
  (hK : ∀ e w', R e w' → ∃ v, e = .returned v ∧ wpList P ops Q rest (a.put d v) w') : wpList P ops Q (⟨d, .call ⟨.value (.func f), xs, ts⟩, T, pos, aft, none⟩ :: rest) a w := by
 have hw : Region.wanted (⟨d, .call ⟨.value (.func f), xs, ts⟩, T, pos, aft, none⟩ : Oper) (yielded ops a.tmps) = true := by simp [Region.wanted]
 simp only [wpList, hw, if_true]
 left
 obtain ⟨fn, h1, h2, h3⟩ := hf.h
 have hr : (execOp a.eval ⟨d, .call ⟨.value (.func f), xs, ts⟩, T, pos, aft, none⟩).run P w = .ok (.enter f args) w := by
  simp only [execOp, resolve, Act.eval, Deferred.ofValue, ha, Sem.run_bind, Sem.run_pure, Result.andThen, invoke, callFunc, run_program, h1]
  simp [h2, h3]
 unfold Oper.wp
 rw [hr]
 refine Calls.mono h fun e w' he => ?_
 obtain ⟨v, rfl, hv⟩ := hK e w' he
 exact hv
theorem l_io {f : FuncId} {xs : Array Operand} {ts : Array TypeId} {args : Array Value} {d : Option Tmp} {r : GR α} {E k : Nat} {B : Nat → Prop} {O O0 : Tags} {w0 : World} {u : Value} {xs0 ys : List α} {ψ : Value → Value → Prop} (hO0 : OkO O0 w0) (hB : Base A O0 w0 O w) (hAB : OkB A w0 B) (hf : FnOk P f) (ha : xs.map a.eval = args)
  (h : Calls P f args w (IoPost r E O w u ys ψ)) (hO : OwnL k r E B O w u xs0) (hk : k ≠ 0)
  (hK : ∀ v u2 w2 O2, OwnL k r E B O2 w2 u2 ys → Base A O0 w0 O2 w2 → KX (some k) O w O2 w2 → ψ v u2 → wpList P ops Q rest (a.put d v) w2) : wpList P ops Q (⟨d, .call ⟨.value (.func f), xs, ts⟩, T, pos, aft, none⟩ :: rest) a w := by
 refine t_calls hf ha h fun e w2 he => ?_
 obtain ⟨v, u2, he, h1, ⟨vs, h2, h3⟩, h4⟩ := he
 refine ⟨v, he, ?_⟩
 have hge := hO.ge
 obtain ⟨hB2, hkx⟩ := base_appd hB hO0 h1 (fun g hg => hAB.sub g (hge g hg).1) hk (fun g hg => h2.block_lt g hg) hO.tagged
 refine hK v u2 w2 (tag O u2.ownBlock k) ⟨vs, h2, h3.mono ⟨Nat.le_refl _, fun b _ hb => ⟨?_, rfl⟩⟩, fun g hg => ⟨by rw [hg]; exact tag_same _ _ _, ?_⟩⟩ hB2 hkx h4
 ·by_cases hg : u2.ownBlock = some b
  ·rw [hg, tag_same] at hb; cases hb
  ·rw [tag_ne hg] at hb ⊢; exact hb
 ·rcases h1.at_ with h8 | h8
  ·exact (hge g (h8 ▸ hg)).1
  ·exact hAB.new g (by have := h8 g hg; have := hB.size; omega)
end tails
theorem relL_int {k : IntKind} {O w vs xs} (h : RelL (rInt k) O w vs xs) : vs = xs.map (Value.int k) := RelL.closed.1 h
theorem relL_int' {k : IntKind} {O w} (xs : List Int) : RelL (rInt k) O w (xs.map (Value.int k)) xs := RelL.closed.2 rfl
theorem flat_int (k : IntKind) (xs : List Int) : flat (xs.map (Value.int k)) = xs.map (Value.int k) := by
 unfold flat; rw [List.flatMap_map]
 induction xs with
 | nil => rfl
 | cons x xs ih => simp [Value.cells] at ih ⊢; exact ih
theorem ownS_int {w : World} {T : Nat} {v : Value} {xs : List Int} (h : w.ownsRow 0 T 1 v xs.length (xs.map (Value.int .i64))) : OwnS w 0 T 1 v (xs.map (Value.int .i64)) :=
 ⟨fun x hx => by obtain ⟨y, _, rfl⟩ := List.mem_map.1 hx; rfl, by rw [flat_int, List.length_map]; exact h⟩
theorem appd_self {w w' : World} {u : Value} (h : w.grownBy w' u.ownBlock) : Appd w w' u u := ⟨h, .inl rfl⟩
theorem io_sort {P : Program} {f : FuncId} {T : Nat} {O : Tags} {w : World} {u : Value} {xs : List Int}
  (hs : ∀ (blk off cap : Nat) (zs : List Int) (w : World), Sort.Holds (Value.int .i64) w blk off zs.toArray → blk < w.heap.size → zs.length < 4611686018427387904 →
   Calls P f #[.slice (some ⟨blk, off, none⟩) zs.length cap] w fun e w' => e = .returned (.tuple #[]) ∧ ∃ n os, w' = Sort.grow (Sort.putRow (Value.int .i64) (Sort.ahead w n) blk off (zs.mergeSort fun x y => decide (x ≤ y)).toArray) os)
  (hn : ∀ (p : Option Addr) (cap : Nat) (w : World), Calls P f #[.slice p 0 cap] w fun e w' => e = .returned (.tuple #[]) ∧ w' = w)
  (h : OwnR (rInt .i64) T 0 O w u xs) (hl : xs.length ≤ LIM) : Calls P f #[u] w (IoPost (rInt .i64) T O w u (xs.mergeSort fun x y => decide (x ≤ y)) fun _ u' => u' = u) := by
 obtain ⟨vs, h1, h2⟩ := h
 have hv := relL_int h2
 subst hv
 have hlen : (xs.map (Value.int .i64)).length = xs.length := List.length_map _
 rcases h1.row.2 with ⟨e1, e2⟩ | ⟨b, cap, cur, e1, e2, e3, e4, e5, e6, e7⟩
 ·have hx : xs = [] := List.eq_nil_of_length_eq_zero (by omega)
  subst hx
  subst e1
  refine Calls.mono (hn none 0 w) ?_
  rintro e w' ⟨he, rfl⟩
  exact ⟨_, _, he, appd_self ⟨rfl, rfl, rfl, Nat.le_refl _, fun _ _ _ => rfl⟩, ⟨[], OwnS.nil _ _ _ _, by simp [RelL]⟩, rfl⟩
 ·unfold LIM at hl
  subst e1
  rw [hlen] at e4 e7 ⊢
  rw [flat_int] at e7
  have hsz : (rInt .i64).sz = 1 := rfl
  rw [hsz, Nat.mul_one] at e6
  rw [hsz, Nat.mul_one] at e7
  have hb : b < w.heap.size := (Array.getElem?_eq_some_iff.1 e3).1
  refine Calls.mono (hs b 0 cap xs w (holds_of_blockI e3 e7) hb (by omega)) ?_
  rintro e w' ⟨he, n, os, rfl⟩
  refine ⟨_, _, he, appd_self (grownBy_sortedI _), ⟨_, ownS_int (xs := xs.mergeSort fun x y => decide (x ≤ y)) ?_, relL_int' _⟩, rfl⟩
  have := ownsRow_sortedI (base := 0) (n := n) (os := os) (ts := xs.mergeSort fun x y => decide (x ≤ y)) (ss := xs) (by simp [List.length_mergeSort]) (Nat.zero_le _) e3 e4 e5 (by omega)
  rw [List.length_mergeSort]
  exact this
theorem compactUpTo_len (d : Array Int) : ∀ m, (Lib.compactUpTo d m).length ≤ m
 | 0 => by simp [Lib.compactUpTo]
 | m + 1 => by
   rw [Lib.compactUpTo_succ, List.length_append]
   have := compactUpTo_len d m
   split <;> simp <;> omega
theorem compact_len (zs : List Int) : (Lib.compact zs).length ≤ zs.length := by
 unfold Lib.compact; exact compactUpTo_len _ _
theorem io_compact {P : Program} {f : FuncId} {T : Nat} {O : Tags} {w : World} {u : Value} {xs : List Int}
  (hs : ∀ (blk off cap : Nat) (zs : List Int) (w : World), Sort.Holds (Value.int .i64) w blk off zs.toArray → zs.length ≤ 9223372036854775807 → zs.length ≤ cap →
   Calls P f #[.slice (some ⟨blk, off, none⟩) zs.length cap] w fun e w' => e = .returned (.slice (some ⟨blk, off, none⟩) (Lib.compact zs).length cap) ∧ ∃ q, w' = Sort.putRow (Value.int .i64) (Sort.ahead w q) blk off (Lib.compact zs ++ List.replicate (zs.length - (Lib.compact zs).length) 0).toArray)
  (hn : ∀ (p : Option Addr) (cap : Nat) (w : World), Calls P f #[.slice p 0 cap] w fun e w' => e = .returned (.slice p 0 cap) ∧ w' = w)
  (h : OwnR (rInt .i64) T 0 O w u xs) (hl : xs.length ≤ LIM) : Calls P f #[u] w (IoPost (rInt .i64) T O w u (Lib.compact xs) fun v u' => v = u') := by
 obtain ⟨vs, h1, h2⟩ := h
 have hv := relL_int h2
 subst hv
 have hlen : (xs.map (Value.int .i64)).length = xs.length := List.length_map _
 have hc := compact_len xs
 rcases h1.row.2 with ⟨e1, e2⟩ | ⟨b, cap, cur, e1, e2, e3, e4, e5, e6, e7⟩
 ·have hx : xs = [] := List.eq_nil_of_length_eq_zero (by omega)
  subst hx
  subst e1
  refine Calls.mono (hn none 0 w) ?_
  rintro e w' ⟨he, rfl⟩
  have hnil : Lib.compact ([] : List Int) = [] := List.eq_nil_of_length_eq_zero (by simpa using hc)
  exact ⟨_, _, he, appd_self ⟨rfl, rfl, rfl, Nat.le_refl _, fun _ _ _ => rfl⟩, ⟨[], OwnS.nil _ _ _ _, by rw [hnil]; simp [RelL]⟩, rfl⟩
 ·unfold LIM at hl
  subst e1
  rw [hlen] at e4 e7 ⊢
  rw [flat_int] at e7
  have hsz : (rInt .i64).sz = 1 := rfl
  rw [hsz, Nat.mul_one] at e6
  rw [hsz, Nat.mul_one] at e7
  refine Calls.mono (hs b 0 cap xs w (holds_of_blockI e3 e7) (by omega) e4) ?_
  rintro e w' ⟨he, q, rfl⟩
  have hg : Sort.putRow (Value.int .i64) (Sort.ahead w q) b 0 (Lib.compact xs ++ List.replicate (xs.length - (Lib.compact xs).length) 0).toArray = Sort.grow (Sort.putRow (Value.int .i64) (Sort.ahead w q) b 0 (Lib.compact xs ++ List.replicate (xs.length - (Lib.compact xs).length) 0).toArray) #[] := by simp
  have hts : (Lib.compact xs ++ List.replicate (xs.length - (Lib.compact xs).length) 0).length = xs.length := by simp; omega
  rw [hg]
  refine ⟨_, .slice (some ⟨b, 0, none⟩) (Lib.compact xs).length cap, he, ⟨grownBy_sortedI _, .inl rfl⟩, ⟨_, ownS_int (xs := Lib.compact xs) ?_, relL_int' _⟩, rfl⟩
  have := ownsRow_sortedI (base := 0) (n := q) (os := #[]) (ts := Lib.compact xs ++ List.replicate (xs.length - (Lib.compact xs).length) 0) (ss := xs) hts (Nat.zero_le _) e3 e4 e5 (by omega)
  rcases this.2 with ⟨g1, _⟩ | ⟨g', cap', cur', g1, g2, g3, g4, g5, g6, g7⟩
  ·cases g1
  ·cases g1
   refine ⟨by simp, .inr ⟨b, cap, cur', rfl, Nat.zero_le _, g3, by omega, g5, g6, ?_⟩⟩
   rw [Nat.mul_one] at g7 ⊢
   have := congrArg (List.take (Lib.compact xs).length) g7
   rw [List.take_take, Nat.min_eq_left hc] at this
   rw [this]; simp
end Go.Lift
end
section
set_option linter.unusedVariables false
set_option linter.unusedSimpArgs false
namespace Go.Lift
open Go Go.RowKit Go.Eng
variable {α β γ δ ε : Type}
def isNilV : Value → Bool
 | .slice p _ _ => p.isNone
 | _ => false
theorem isNil_nil {r : GR α} {O w u xs} (hc : isNilV u = true) (h : Rd r O w u xs) : xs = [] := by
 obtain ⟨vs, ⟨p, c, h1, h2, h3, h4⟩, h5⟩ := h
 rw [h1] at hc
 cases p with
 | none =>
  have hv : vs = [] := by
   rcases h4 with h4 | ⟨b, off, h4, _⟩
   ·exact h4
   ·cases h4
  subst hv
  cases xs with
  | nil => rfl
  | cons x xs => simp [RelL] at h5
 | some p => simp [isNilV] at hc
theorem clone_nil {n : Nat} {y : List α} (h : ((app [] ([] : List α)).bind fun x => Comp.pure x).run n = some y) : (Comp.pure ([] : List α)).run n = some y := by
 have e : (app [] ([] : List α)) = Comp.pure [] := by simp [app, LIM]
 rw [e] at h
 exact h
variable {P : Program} {a : Act} {w : World} {T : TypeId} {pos : String} {aft : Array Edge} {g : Option (Nat × Bool)} {d : Option Tmp}
theorem okl_eqlNil {x : Operand} {X E Y : TypeId} {r : GR α} {O : Tags} {xs : List α} {z sz by_} {u : Value} (hT : Ty P X (.slice E) z sz by_) (hx : a.eval x = u) (h : Rd r O w u xs) :
  Ok P ⟨d, .binOp .eql X x (.const (.slice none 0 0)) Y, T, pos, aft, g⟩ a w (SP.isv (.bool (isNilV u))).holds := by
 obtain ⟨vs, ⟨p, c, h1, _⟩, _⟩ := h
 subst h1
 refine ok_pure ?_
 have := _root_.Go.run_eql_slice_nil (P := P) w X E p vs.length c hT.u
 have h2 : a.eval (.const (.slice none 0 0)) = .slice none 0 0 := rfl
 simp [execOp, eqGuard, hx, h2, isNilV, this]
theorem rt_sc {Q : Exit → Act → World → Prop} {a : Act} {w : World} (h : Q .ret a w) : Exit.noGoto Q .ret a w := h
theorem map0 {f : Operand → Value} : #[].map f = #[] := by simp
def ins (x : Int) : List Int → List Int
 | [] => [x]
 | y :: ys => if x ≤ y then x :: y :: ys else y :: ins x ys
def isort : List Int → List Int
 | [] => []
 | x :: xs => ins x (isort xs)
theorem ins_perm (x : Int) : ∀ ys, (ins x ys).Perm (x :: ys)
 | [] => .refl _
 | y :: ys => by
   unfold ins; split
   ·exact .refl _
   ·exact ((ins_perm x ys).cons y).trans (.swap x y ys)
theorem isort_perm : ∀ xs, (isort xs).Perm xs
 | [] => .refl _
 | x :: xs => (ins_perm x _).trans ((isort_perm xs).cons x)
theorem ins_sorted (x : Int) : ∀ ys, ys.Pairwise (· ≤ ·) → (ins x ys).Pairwise (· ≤ ·)
 | [], _ => by simp [ins]
 | y :: ys, h => by
   have h1 := List.pairwise_cons.1 h
   unfold ins; split
   ·refine List.pairwise_cons.2 ⟨fun z hz => ?_, h⟩
    rcases List.mem_cons.1 hz with rfl | hz
    ·assumption
    ·have := h1.1 z hz; omega
   ·refine List.pairwise_cons.2 ⟨fun z hz => ?_, ins_sorted x ys h1.2⟩
    rcases List.mem_cons.1 ((ins_perm x ys).mem_iff.1 hz) with rfl | hz
    ·omega
    ·exact h1.1 z hz
theorem isort_sorted : ∀ xs, (isort xs).Pairwise (· ≤ ·)
 | [] => .nil
 | x :: xs => ins_sorted x _ (isort_sorted xs)
theorem isort_eq (xs : List Int) : (xs.mergeSort fun x y => decide (x ≤ y)) = isort xs := by
 refine List.Perm.eq_of_pairwise (le := fun x y : Int => x ≤ y) (fun a b _ _ h1 h2 => by omega) ?_ (isort_sorted xs) ((List.mergeSort_perm xs _).trans (isort_perm xs).symm)
 have := List.pairwise_mergeSort (le := fun x y : Int => decide (x ≤ y)) (by intro a b c; simp; omega) (by intro a b; simp; omega) xs
 exact this.imp (by intro a b; simp)
def sortI (xs : List Int) : Comp (List Int) := if xs.length ≤ LIM then Comp.pure (isort xs) else Comp.fail
def compactI (xs : List Int) : Comp (List Int) := if xs.length ≤ LIM then Comp.pure (Lib.compact xs) else Comp.fail
theorem m_sort {f : FuncId} {T : Nat} {O : Tags} {w : World} {u : Value} {xs ys : List Int} {n : Nat}
  (hs : ∀ (blk off cap : Nat) (zs : List Int) (w : World), Sort.Holds (Value.int .i64) w blk off zs.toArray → blk < w.heap.size → zs.length < 4611686018427387904 →
   Calls P f #[.slice (some ⟨blk, off, none⟩) zs.length cap] w fun e w' => e = .returned (.tuple #[]) ∧ ∃ n os, w' = Sort.grow (Sort.putRow (Value.int .i64) (Sort.ahead w n) blk off (zs.mergeSort fun x y => decide (x ≤ y)).toArray) os)
  (hn : ∀ (p : Option Addr) (cap : Nat) (w : World), Calls P f #[.slice p 0 cap] w fun e w' => e = .returned (.tuple #[]) ∧ w' = w)
  (_ : OkO O w) (h : OwnR (rInt .i64) T 0 O w u xs) (hy : (sortI xs).run n = some ys) : Calls P f #[u] w (IoPost (rInt .i64) T O w u ys fun _ u' => u' = u) := by
 unfold sortI at hy; split at hy
 ·have := Comp.run_pure hy; subst this; rw [← isort_eq]; exact io_sort hs hn h ‹_›
 ·cases hy
theorem m_compact {f : FuncId} {T : Nat} {O : Tags} {w : World} {u : Value} {xs ys : List Int} {n : Nat}
  (hs : ∀ (blk off cap : Nat) (zs : List Int) (w : World), Sort.Holds (Value.int .i64) w blk off zs.toArray → zs.length ≤ 9223372036854775807 → zs.length ≤ cap →
   Calls P f #[.slice (some ⟨blk, off, none⟩) zs.length cap] w fun e w' => e = .returned (.slice (some ⟨blk, off, none⟩) (Lib.compact zs).length cap) ∧ ∃ q, w' = Sort.putRow (Value.int .i64) (Sort.ahead w q) blk off (Lib.compact zs ++ List.replicate (zs.length - (Lib.compact zs).length) 0).toArray)
  (hn : ∀ (p : Option Addr) (cap : Nat) (w : World), Calls P f #[.slice p 0 cap] w fun e w' => e = .returned (.slice p 0 cap) ∧ w' = w)
  (_ : OkO O w) (h : OwnR (rInt .i64) T 0 O w u xs) (hy : (compactI xs).run n = some ys) : Calls P f #[u] w (IoPost (rInt .i64) T O w u ys fun v u' => v = u') := by
 unfold compactI at hy; split at hy
 ·have := Comp.run_pure hy; subst this; exact io_compact hs hn h ‹_›
 ·cases hy
end Go.Lift
end
section
set_option linter.unusedVariables false
set_option linter.unusedSimpArgs false
namespace Go.Eng
open Go Go.RowKit
variable {D : List Deferred}
abbrev SP.tt : SP := .pr (fun _ _ => True) (fun _ _ _ _ h => h)
theorem stE_tt (E : World → World → Prop) : StE E SP.tt := fun _ _ _ _ h => h
theorem down_add {os : List Oper} {S : Nat → Bool} (hd : DownClosed os S) {i : Nat} {o : Oper} (ho : os[i]? = some o) (hpre : ∀ e ∈ o.after, Region.binds .any e = true → S e.on = true) : DownClosed os (addS S i) := by
 intro j oj e hoj he hb hj
 simp only [addS, Bool.or_eq_true] at hj ⊢
 rcases hj with hj | hj
 ·exact .inl (hd j oj e hoj he hb hj)
 ·obtain rfl := Nat.eq_of_beq_eq_true hj
  rw [ho] at hoj; cases hoj
  exact .inl (hpre e he hb)
theorem textJ {E : World → World → Prop} {J : (Nat → Bool) → Act → World → Prop} (hr : ∀ w, E w w) (ht : ∀ a b c, E a b → E b c → E a c) {P : Program} {Q : Exit → Act → World → Prop} {N : Nat} {os : List Oper} {Φ : Preds} {cs : List Bool} {a : Act} {w : World}
  (hskip : ∀ (i : Nat) (o : Oper) S a' w', os[i]? = some o → o.guard ≠ none → act os cs i = false → S i = false → (∀ e ∈ o.after, Region.binds .any e = true → S e.on = true) → J S a' w' → J (addS S i) (a'.put o.dst undef) w')
  (hok : okRegion N os = true) (hgood : Go.Eng.Good E os Φ cs) (hobl : ∀ i o, os[i]? = some o → OblJ E J P os Φ cs a w i o)
  (hQ : ∀ a' w', InvJ E J N D os Φ cs a w (fun j => Nat.blt j os.length) a' w' → Q .normal a' w') :
  ∀ (n i : Nat), i + n = os.length → ∀ a' w', InvJ E J N D os Φ cs a w (fun j => Nat.blt j i) a' w' → wpOps P os.toArray Q (List.range' i n) a' w' := by
 intro n
 induction n with
 | zero =>
  intro i hi a' w' hI
  obtain rfl : i = os.length := by omega
  exact hQ a' w' hI
 | succ n ih =>
  intro i hi a' w' hI
  have hlt : i < os.length := by omega
  have ho : os[i]? = some os[i] := List.getElem?_eq_getElem hlt
  have hdc : DownClosed os (fun j => Nat.blt j i) := by
   intro j oj e hoj he hb hj
   simp only [blt_dec, decide_eq_true_eq] at hj ⊢
   have := (okRegion_spec hok hoj).1 e he hb
   omega
  have hstep := invJ_step (Q := Q) hr ht hskip hok hgood hI hdc ho (by rw [blt_dec]; simp) (fun e he hb => by
   simp only [blt_dec, decide_eq_true_eq]; exact (okRegion_spec hok ho).1 e he hb) (hobl i _ ho) (wpOps P os.toArray Q (List.range' (i + 1) n)) (fun a'' w'' hI' => by
   refine ih (i + 1) (by omega) a'' w'' ?_
   have : (fun j => Nat.blt j (i + 1)) = addS (fun j => Nat.blt j i) i := funext fun j => by
    show Nat.blt j (i + 1) = (Nat.blt j i || Nat.beq j i)
    rw [blt_dec, blt_dec, beq_dec]
    by_cases h : j < i + 1 <;> by_cases h2 : j < i <;> by_cases h3 : j = i <;> simp [h, h2, h3] <;> omega
   rw [this]; exact hI')
  rw [List.range'_succ, wpOps]
  simp only [List.getElem?_toArray, ho]
  split at hstep
  ·rename_i hw; rw [if_pos hw]; exact .inl hstep
  ·rename_i hw; rw [if_neg hw]; exact hstep
def TrueE : World → World → Prop := fun _ _ => True
inductive OblsX (J : (Nat → Bool) → Act → World → Prop) (P : Program) (N : Nat) (D : List Deferred) (all : List Oper) (Φ : List SP) (a : Act) : Nat → List Oper → List SP → Prop
 | nil {i} : OblsX J P N D all Φ a i [] []
 | cons {i o os φ φs} (h : ∀ S a' w', a'.fitD N D → J S a' w' → S i = false → (∀ k, ((bitsOf all).getD k 0).testBit i = true → S k = false) → (∀ k, ((bitsOf all).getD i 0).testBit k = true → addS S i k = true) →
   (∀ t, readsT o t = true → KnowS all Φ a i t w' (a'.get t)) → act all (Φ.map SP.boolOf) i = true →
   ∀ (K : Act → World → Prop) (Q : Exit → Act → World → Prop), (∀ v w'', J (addS S i) (a'.put o.dst v) w'' → φ.holds w'' v → K (a'.put o.dst v) w'') → o.wp P a' w' K Q)
   (hs : OblsX J P N D all Φ a (i + 1) os φs) : OblsX J P N D all Φ a i (o :: os) (φ :: φs)
theorem oblsX_len {J P N a} {all : List Oper} {Φ : List SP} {i os φs} (h : OblsX J P N D all Φ a i os φs) : φs.length = os.length := by
 induction h with
 | nil => rfl
 | cons _ _ ih => simp [ih]
def JX (J : (Nat → Bool) → Act → World → Prop) (N : Nat) (D : List Deferred) (os : List Oper) : (Nat → Bool) → Act → World → Prop := fun S a w => a.fitD N D ∧ DownClosed os S ∧ J S a w
theorem oblsX_J {J : (Nat → Bool) → Act → World → Prop} {P : Program} {N : Nat} {all : List Oper} {Φ : List SP} {a : Act} {w : World} : ∀ {i os φs}, OblsX J P N D all Φ a i os φs → (∀ j, os[j]? = all[i + j]?) → OblsJ TrueE (JX J N D all) P all Φ a w i os φs
 | _, _, _, .nil, _ => .nil
 | i, o :: os, φ :: φs, .cons h hs, hos => by
   refine .cons (fun S a' w' _ hJ hSi hafter hpre hK hact K Q hcont => ?_) (oblsX_J hs fun j => ?_)
   ·have ho : all[i]? = some o := by have := hos 0; simpa using this.symm
    have hd := down_add hJ.2.1 ho hpre
    refine h S a' w' hJ.1 hJ.2.2 hSi hafter (fun k hk => before_closed hd hk (by simp [addS, beq_dec])) hK hact K Q fun v w'' h1 h2 => hcont v w'' trivial ⟨fit_put hJ.1 _ _, hd, h1⟩ h2
   ·have := hos (j + 1)
    simp only [List.getElem?_cons_succ] at this
    rw [this]; congr 1; omega
theorem regionX (J : (Nat → Bool) → Act → World → Prop) {P : Program} {Q : Exit → Act → World → Prop} {N id : Nat} {os : List Oper} {a : Act} {w : World} {draw : Bool} (Φ : List SP) (hm : P.follows .mixedOrders = true)
  (hA : a.fitD N D) (hst : AllSt TrueE Φ) (hobl : OblsX J P N D os Φ a 0 os Φ)
  (hskip : ∀ (i : Nat) (o : Oper) S a' w', os[i]? = some o → act os (Φ.map SP.boolOf) i = false → a'.fitD N D → S i = false → (∀ k, ((bitsOf os).getD i 0).testBit k = true → addS S i k = true) → J S a' w' → J (addS S i) (a'.put o.dst undef) w')
  (hstart : ∀ w1, Ext w w1 → J (fun _ => false) a w1) (hok : okRegion N os = true) (hg : guardsOk os Φ = true)
  (hQ : ∀ a' w', a'.fitD N D → (∀ t, KnowS os Φ a Φ.length t w' (a'.get t)) → J (fun j => Nat.blt j os.length) a' w' → Q .normal a' w') : (Code.region id os.toArray draw).wp P Q a w := by
 have hskip' : ∀ (i : Nat) (o : Oper) S a' w', os[i]? = some o → o.guard ≠ none → act os (Φ.map SP.boolOf) i = false → S i = false → (∀ e ∈ o.after, Region.binds .any e = true → S e.on = true) → JX J N D os S a' w' → JX J N D os (addS S i) (a'.put o.dst undef) w' :=
  fun i o S a' w' ho _ hact hSi hpre hJ => by
   have hd := down_add hJ.2.1 ho hpre
   exact ⟨fit_put hJ.1 _ _, hd, hskip i o S a' w' ho hact hJ.1 hSi (fun k hk => before_closed hd hk (by simp [addS, beq_dec])) hJ.2.2⟩
 have hJ := oblsX_J (w := w) hobl (by simp)
 have hd0 : DownClosed os (fun _ => false) := fun _ _ _ _ _ _ h => by cases h
 cases draw with
 | true =>
  exact regionJ (E := TrueE) (JX J N D os) (fun _ => trivial) (fun _ _ _ _ _ => trivial) (fun _ => trivial) Φ hm hA hst hJ hskip' ⟨hA, hd0, hstart _ (Ext.drawn w)⟩ hok hg
   (fun a' w' h1 _ h2 h3 => hQ a' w' h1 h2 h3.2.2)
 | false =>
  have hlen := oblsX_len hobl
  have hgood : Go.Eng.Good TrueE os (Φ.map SP.holds) (Φ.map SP.boolOf) := by
   refine ⟨?_, ?_⟩
   ·intro i w w' v hE hp
    by_cases hi : i < Φ.length
    ·rw [pred_map Φ i hi] at hp ⊢; exact hst.at i w w' v hE hp
    ·simp [pred, hi]
   ·intro i o g want ho hgd w v hp
    unfold guardsOk at hg
    rw [List.all_eq_true] at hg
    have := hg o (List.mem_of_getElem? ho)
    rw [hgd] at this
    by_cases hi : g < Φ.length
    ·rw [pred_map Φ g hi] at hp
     have := SP.bool_of this w v hp
     rw [this]; simp [hi]
    ·simp [hi, SP.isBool, undef] at this
  refine wp_region ?_
  have hsz : os.toArray.size = os.length := by simp
  rw [List.range_eq_range']
  have h0 := inv_start (E := TrueE) (N := N) (D := D) (os := os) (Φ := Φ.map SP.holds) (cs := Φ.map SP.boolOf) (S := fun j => Nat.blt j 0) (a := a) (w := w) (w' := w) (by intro j _; rw [blt_dec]; simp) hA trivial
  have hfun : (fun j => Nat.blt j 0) = fun _ : Nat => false := funext fun j => by rw [blt_dec]; simp
  have := textJ (E := TrueE) (J := JX J N D os) (D := D) (N := N) (a := a) (w := w) (Q := Q) (fun _ => trivial) (fun _ _ _ _ _ => trivial) hskip' hok hgood (fun i o ho => by
   have hi : i < os.length := (List.getElem?_eq_some_iff.1 ho).1
   have := oblsJ_obls hJ (by simp) (by simp) i o (by omega) (by simpa using ho)
   simpa using this) (fun a' w' hI => hQ a' w' hI.fit (fun t => by
    have := hI.know t
    rw [← hlen] at this
    exact (know_iff (Nat.le_refl _)).1 this) hI.inv.2.2) os.length 0 (by simp) a w ⟨h0.fit, h0.ext, h0.know, by rw [hfun]; exact ⟨hA, hd0, hstart w (Ext.refl w)⟩⟩
  simpa using this
theorem addS_off {S : Nat → Bool} {i j : Nat} (h : Nat.beq j i = false) (hj : addS S i j = true) : S j = true := by simpa [addS, h] using hj
theorem addS_no {S : Nat → Bool} {i j : Nat} (hj : addS S i j = false) : S j = false := by
 unfold addS at hj; rw [Bool.or_eq_false_iff] at hj; exact hj.1
theorem addS_me {S : Nat → Bool} {i : Nat} (h : addS S i i = false) {p : Prop} : p := by simp [addS, beq_dec] at h
end Go.Eng
end
section
set_option linter.unusedVariables false
set_option linter.unusedSimpArgs false
namespace Go.Lift
open Go Go.RowKit Go.Eng
variable {α β γ δ ε : Type}
section tails
variable {P : Program} {a : Act} {w : World} {T : TypeId} {pos : String} {aft : Array Edge} {g0 : Option (Nat × Bool)} {K : Act → World → Prop} {Q : Exit → Act → World → Prop} {A : Nat → Prop}
theorem x_run {o : Oper} {v : Value} {w' : World} (h : (execOp a.eval o).run P w = .ok (.value v) w') (hK : K (a.put o.dst v) w') : o.wp P a w K Q := by
 unfold Oper.wp; rw [h]; exact hK
theorem x_skip {o : Oper} {w' : World} (h : (execOp a.eval o).run P w = .ok .skip w') (hK : K (a.put o.dst undef) w') : o.wp P a w K Q := by
 unfold Oper.wp; rw [h]; exact hK
theorem x_ok {o : Oper} {φ : SP} (h : Ok P o a w φ.holds) (hK : ∀ v w', Ext w w' → φ.holds w' v → K (a.put o.dst v) w') : o.wp P a w K Q := h K Q hK
theorem x_append {x y : Operand} {t e E bytes k : Nat} {d0 : Option Tmp} {dd : TypeDesc} {z z' : Value} {sz by_ : Nat} {r : GR α} (hr : r.fits) (hE : r.sz = E + 1) (hT : Ty P t (.slice e) z sz by_) (he : Ty P e dd z' (E + 1) bytes) (hz : z'.cells.size = E + 1) (hby : bytes ≤ 131072)
  {O O0 : Tags} {w0 : World} (hO0 : OkO O0 w0) (hB : Base A O0 w0 O w) {u : Value} {xs : List α} {B : Nat → Prop} (hAB : OkB A w0 B) (hx : a.eval x = u) (hO : OwnL k r e B O w u xs) {u' : Value} {ys zs : List α} (hy : a.eval y = u') (hN : Rd r O w u' ys) {n : Nat} (happ : (app xs ys).run n = some zs) (hk : k ≠ 0)
  (hK : ∀ u2 w2 O2, OwnL k r e B O2 w2 u2 zs → Base A O0 w0 O2 w2 → KX (some k) O w O2 w2 → K (a.put d0 u2) w2) : Oper.wp P ⟨d0, .call ⟨.builtin .append, #[x, y], #[t, t]⟩, T, pos, aft, g0⟩ a w K Q := by
 obtain ⟨hl, hzs⟩ := run_app happ
 unfold LIM at hl
 have htag := hO.tagged
 have hge := hO.ge
 obtain ⟨vs, h1, h2, h3⟩ := hO
 obtain ⟨us, h4, h5⟩ := hN
 have hlen1 := h2.len
 have hlen2 := h5.len
 have hb : (vs.length + us.length) * bytes ≤ 1073741824 * 131072 := Nat.mul_le_mul (by omega) hby
 rw [hE] at h1 h4
 obtain ⟨u2, w2, hrun, h6, h7⟩ := run_append_full (ty := T) hT he hz h1 h4 (h5.one hr) (by omega) (by omega) (Nat.zero_le _)
 refine x_run (v := u2) (w' := w2) (by simp [execOp, resolve, invoke, builtin, hx, hy, hrun]) ?_
 obtain ⟨hB2, hkx⟩ := base_appd hB hO0 h7 (fun g hg => hAB.sub g (hge g hg).1) hk (fun g hg => h6.block_lt g hg) htag
 refine hK u2 w2 (tag O u2.ownBlock k) ⟨vs ++ us, by rw [hE]; exact h6, ?_, fun g hg => ⟨by rw [hg]; exact tag_same _ _ _, ?_⟩⟩ hB2 hkx
 ·rw [← hzs]
  have k0 := hkx.keep (k := 0) (by simpa using hk.symm)
  exact (h2.mono k0).append (h5.mono k0)
 ·rcases h7.at_ with h8 | h8
  ·exact (hge g (h8 ▸ hg)).1
  ·exact hAB.new g (by have := h8 g hg; have := hB.size; omega)
theorem x_store1 {x y : Operand} {X T' b off k : Nat} {O O0 : Tags} {w0 : World} (hO0 : OkO O0 w0) (hB : Base A O0 w0 O w) {B : Nat → Prop} (hAB : OkB A w0 B) {cs cs' : Array Value} {v : Value} {dd z by_} (hT : Ty P X dd z 1 by_) (hx : a.eval x = .pointer (some ⟨b, off, none⟩)) (hy : a.eval y = v) (hv : v.cells = #[v]) (h1 : v.oneCell' = true)
  (hO : OwnB k B O w b cs T') (ho : off < cs.size) (he : cs.setIfInBounds off v = cs')
  (hK : ∀ w', OwnB k B O w' b cs' T' → Base A O0 w0 O w' → KX (some k) O w O w' → K a w') : Oper.wp P ⟨none, .store X x y, T, pos, aft, g0⟩ a w K Q := by
 have hc : w.cell? ⟨b, off, none⟩ = some cs[off] := by rw [hO.own.cell, Array.getElem?_eq_getElem ho]
 have hb := But.setCell w b off v
 refine x_skip (w' := w.setCell ⟨b, off, none⟩ v) ?_ (hK _ ⟨he ▸ hO.own.set off v, hO.ge, hO.tag⟩ (hB.but (hAB.sub _ hO.ge) hb hO0) (KX.but hb hO.tag))
 simp [execOp, Instr.storeAt, Instr.sureAddr, hx, hy, storeVar, hv, hT.run_size, storeCells, run_store _ _ _ _ _ h1, Addr.add, hc, hO.own.frozen off ho]
theorem x_storeSub {x y : Operand} {X T' b off k : Nat} {O O0 : Tags} {w0 : World} {A B : Nat → Prop} (hO0 : OkO O0 w0) (hB : Base A O0 w0 O w) (hAB : OkB A w0 B) {vs : List Value} {cs cs' : Array Value} {v : Value} {dd z by_} (hT : Ty P X dd z vs.length by_) (hx : a.eval x = .pointer (some ⟨b, off, none⟩)) (hy : a.eval y = v) (hv : v.cells = vs.toArray) (h1 : ∀ v ∈ vs, v.oneCell' = true)
  (hO : OwnB k B O w b cs T') (ho : off + vs.length ≤ cs.size) (he : (splice cs.toList off vs).toArray = cs')
  (hK : ∀ w', OwnB k B O w' b cs' T' → Base A O0 w0 O w' → KX (some k) O w O w' → K a w') : Oper.wp P ⟨none, .store X x y, T, pos, aft, g0⟩ a w K Q := by
 obtain ⟨w', cs2, h2, h3, h4, h5, h6, h7, h8, h9, h10⟩ := run_storeCells3 (P := P) (off := off) vs 0 w cs h1 hO.own (by omega)
 have e : cs2 = cs' := by
  rw [← he]
  apply Array.ext_getElem?
  intro j
  have hl : cs.toList.length = cs.size := Array.length_toList
  have e2 := splice_get (vs := vs) (cs := cs.toList) (off := off) (by rw [hl]; exact ho) j
  rw [h5 j]
  simp only [List.getElem?_toArray, e2, Array.getElem?_toList, Nat.add_zero]
 subst e
 have hb : But b w w' := ⟨h6, h7, h8, by omega, fun k _ hk => h10 k hk⟩
 refine x_skip (w' := w') ?_ (hK w' ⟨h3, hO.ge, hO.tag⟩ (hB.but (hAB.sub _ hO.ge) hb hO0) (KX.but hb hO.tag))
 simp [execOp, Instr.storeAt, Instr.sureAddr, hx, hy, storeVar, hv, hT.run_size, h2]
theorem x_calls {f : FuncId} {xs : Array Operand} {ts : Array TypeId} {args : Array Value} {R : Ending → World → Prop} {d : Option Tmp} (hf : FnOk P f) (ha : xs.map a.eval = args) (h : Calls P f args w R)
  (hK : ∀ e w', R e w' → ∃ v, e = .returned v ∧ K (a.put d v) w') : Oper.wp P ⟨d, .call ⟨.value (.func f), xs, ts⟩, T, pos, aft, g0⟩ a w K Q := by
 obtain ⟨fn, h1, h2, h3⟩ := hf.h
 have hr : (execOp a.eval ⟨d, .call ⟨.value (.func f), xs, ts⟩, T, pos, aft, g0⟩).run P w = .ok (.enter f args) w := by
  simp only [execOp, resolve, Act.eval, Deferred.ofValue, ha, Sem.run_bind, Sem.run_pure, Result.andThen, invoke, callFunc, run_program, h1]
  simp [h2, h3]
 unfold Oper.wp
 rw [hr]
 refine Calls.mono h fun e w' he => ?_
 obtain ⟨v, rfl, hv⟩ := hK e w' he
 exact hv
theorem x_io {f : FuncId} {xs : Array Operand} {ts : Array TypeId} {args : Array Value} {d : Option Tmp} {r : GR α} {E k : Nat} {B : Nat → Prop} {O O0 : Tags} {w0 : World} {u : Value} {xs0 ys : List α} {ψ : Value → Value → Prop} (hO0 : OkO O0 w0) (hB : Base A O0 w0 O w) (hAB : OkB A w0 B) (hf : FnOk P f) (ha : xs.map a.eval = args)
  (h : Calls P f args w (IoPost r E O w u ys ψ)) (hO : OwnL k r E B O w u xs0) (hk : k ≠ 0)
  (hK : ∀ v u2 w2 O2, OwnL k r E B O2 w2 u2 ys → Base A O0 w0 O2 w2 → KX (some k) O w O2 w2 → ψ v u2 → K (a.put d v) w2) : Oper.wp P ⟨d, .call ⟨.value (.func f), xs, ts⟩, T, pos, aft, g0⟩ a w K Q := by
 refine x_calls hf ha h fun e w2 he => ?_
 obtain ⟨v, u2, he, h1, ⟨vs, h2, h3⟩, h4⟩ := he
 refine ⟨v, he, ?_⟩
 have hge := hO.ge
 obtain ⟨hB2, hkx⟩ := base_appd hB hO0 h1 (fun g hg => hAB.sub g (hge g hg).1) hk (fun g hg => h2.block_lt g hg) hO.tagged
 refine hK v u2 w2 (tag O u2.ownBlock k) ⟨vs, h2, h3.mono ⟨Nat.le_refl _, fun b _ hb => ⟨?_, rfl⟩⟩, fun g hg => ⟨by rw [hg]; exact tag_same _ _ _, ?_⟩⟩ hB2 hkx h4
 ·by_cases hg : u2.ownBlock = some b
  ·rw [hg, tag_same] at hb; cases hb
  ·rw [tag_ne hg] at hb ⊢; exact hb
 ·rcases h1.at_ with h8 | h8
  ·exact (hge g (h8 ▸ hg)).1
  ·exact hAB.new g (by have := h8 g hg; have := hB.size; omega)
end tails
theorem put_other {a : Act} {d : Option Tmp} {t : Nat} {v : Value} {φ : Value → Prop} (h : φ (a.get t)) (hd : d ≠ some t) : φ ((a.put d v).get t) := by
 cases d with
 | none => exact h
 | some d => rw [get_put_ne (fun e => hd (by rw [e]))]; exact h
theorem put_me {D : List Deferred} {N d : Nat} {a : Act} {v : Value} {φ : Value → Prop} (hA : a.fitD N D) (hd : d < N) (h : φ v) : φ ((a.put (some d) v).get d) := by
 rw [get_put_same hA hd]; exact h
def uniqDst (os : List Oper) (d j : Nat) : Bool := os.zipIdx.all fun p => !(p.1.dst == some d) || Nat.beq p.2 j
theorem uniqDst_ne {os : List Oper} {d j i : Nat} {o : Oper} (h : uniqDst os d j = true) (ho : os[i]? = some o) (hne : i ≠ j) : o.dst ≠ some d := by
 intro hd
 unfold uniqDst at h
 rw [List.all_eq_true] at h
 have := h (o, i) (by
  rw [List.mem_iff_getElem?]
  exact ⟨i, by rw [List.getElem?_zipIdx, ho]; simp⟩)
 simp [hd, beq_dec] at this
 exact hne this
theorem skip_off {os : List Oper} {cs : List Bool} {S : Nat → Bool} {i j : Nat} (hact : act os cs i = false) (hG : act os cs j = true) (hj : addS S i j = true) : S j = true ∧ i ≠ j := by
 have hne : i ≠ j := fun e => by rw [e, hG] at hact; cases hact
 refine ⟨addS_off ?_ hj, hne⟩
 rw [beq_dec]; simp; exact fun e => hne e.symm
end Go.Lift
end
section
set_option linter.unusedVariables false
set_option linter.unusedSimpArgs false
namespace Go.Lift
open Go Go.RowKit Go.Eng
variable {α β γ δ ε : Type}
structure EqR (P : Program) (T : TypeId) (r : GR α) [DecidableEq α] (D : Nat) : Prop where
 run : ∀ d w O1 w1 O2 w2 cs ds x y, r.rel O1 w1 cs x → r.rel O2 w2 ds y → (Op.equalIn (d + D) T (packV r.agg cs) (packV r.agg ds)).run P w = .ok (decide (x = y)) w
 part : ∀ w O1 w1 l1 cs l2 x, r.rel O1 w1 cs x → (part T (l1 ++ (cs ++ l2)).toArray l1.length).run P w = .ok (packV r.agg cs) w
theorem beq_eqd [BEq α] [LawfulBEq α] [DecidableEq α] (a b : α) : (a == b) = decide (a = b) := by
 by_cases h : a = b
 ·subst h; simp
 ·rw [decide_eq_false h]; simp [h]
section
variable {P : Program}
theorem get_mid (l1 : List Value) (v : Value) (l2 : List Value) : (l1 ++ ([v] ++ l2)).toArray[l1.length]? = some v := by simp
theorem eqr_int {T : TypeId} {k : IntKind} {z sz by_} (h : Ty P T (.int k) z sz by_) : EqR P T (rInt k) 1 where
 run := fun d w O1 w1 O2 w2 cs ds x y h1 h2 => by
  have e1 : cs = [.int k x] := h1
  have e2 : ds = [.int k y] := h2
  subst e1; subst e2
  show (Op.equalIn (d + 1) T (.int k x) (.int k y)).run P w = _
  rw [run_equalIn_int w d T k k x y h.u, beq_eqd]
 part := fun w O1 w1 l1 cs l2 x h1 => by
  have e1 : cs = [.int k x] := h1
  subst e1
  exact run_part_plain w (by simp [Program.plainKey, h.u]) (get_mid _ _ _)
theorem part_agg {T : TypeId} {dd z sz by_} (h : Ty P T dd z sz by_) (hd : isAggD dd = true) (w : World) (l1 cs l2 : List Value) (hl : cs.length = sz) : (part T (l1 ++ (cs ++ l2)).toArray l1.length).run P w = .ok (.agg cs.toArray) w := by
 have e : (l1 ++ (cs ++ l2)).toArray.extract l1.length (l1.length + sz) = cs.toArray := by
  apply Array.ext'
  rw [Array.toList_extract]
  simp [List.extract, ← hl]
 simp only [part, Sem.run_bind, h.run_agg, hd, Result.andThen_ok, if_true, h.run_size, e, Sem.run_pure]
inductive EqFs (P : Program) (r : GR γ) (D : Nat) : List Field → (γ → γ → Bool) → Prop
 | nil : EqFs P r D [] (fun _ _ => true)
 | cons {α : Type} [DecidableEq α] {f : Field} {fs : List Field} {ri : GR α} {p : γ → α} {b : γ → γ → Bool} {Di : Nat} (hn : f.name ≠ "_") (hs : SubR r f.offset ri p) (he : EqR P f.type ri Di) (hD : Di ≤ D) (h : EqFs P r D fs b) : EqFs P r D (f :: fs) (fun x y => decide (p x = p y) && b x y)
theorem EqFs.run {r : GR γ} {D : Nat} {fs : List Field} {b : γ → γ → Bool} (h : EqFs P r D fs b) : ∀ d w O1 w1 cs x O2 w2 ds y, r.rel O1 w1 cs x → r.rel O2 w2 ds y → (Op.eqFields (d + D) cs.toArray ds.toArray fs).run P w = .ok (b x y) w := by
 induction h with
 | nil => intro d w O1 w1 cs x O2 w2 ds y h1 h2; simp [Op.eqFields]
 | @cons α _ f fs ri p b Di hn hs he hD h ih =>
  intro d w O1 w1 cs x O2 w2 ds y h1 h2
  have hih := ih d w O1 w1 cs x O2 w2 ds y h1 h2
  obtain ⟨a1, a2, a3, ea, la, ra⟩ := hs h1
  obtain ⟨b1, b2, b3, eb, lb, rb⟩ := hs h2
  have p1 := he.part w O1 w1 a1 a2 a3 (p x) ra
  have p2 := he.part w O2 w2 b1 b2 b3 (p y) rb
  rw [la, ← ea] at p1
  rw [lb, ← eb] at p2
  have q := he.run (d + (D - Di)) w O1 w1 O2 w2 a2 b2 (p x) (p y) ra rb
  rw [show d + (D - Di) + Di = d + D by omega] at q
  simp only [Op.eqFields, hn, ne_eq, not_false_eq_true, if_true, Sem.run_bind, p1, p2, q, Result.andThen_ok, Sem.run_ite]
  by_cases hxy : p x = p y
  ·simp [hxy, hih]
  ·simp [hxy]
end
section ops
variable {P : Program} {a : Act} {w : World} {d : Option Tmp} {T : TypeId} {pos : String} {aft : Array Edge} {g : Option (Nat × Bool)}
end ops
def cellsA (f : α → List Value) {n : Nat} (x : Vector α n) : List Value := x.toList.flatMap f
theorem flatMap_len {f : α → List Value} {k : Nat} (hf : ∀ x, (f x).length = k) : ∀ l : List α, (l.flatMap f).length = l.length * k
 | [] => by simp
 | x :: l => by rw [List.flatMap_cons, List.length_append, hf, flatMap_len hf l, List.length_cons, Nat.add_mul]; omega
theorem cellsA_len {f : α → List Value} {n k : Nat} (hf : ∀ x, (f x).length = k) (x : Vector α n) : (cellsA f x).length = n * k := by
 unfold cellsA; rw [flatMap_len hf]; simp
theorem cellsA_one {f : α → List Value} {n : Nat} (hf : ∀ x, ∀ c ∈ f x, c.oneCell' = true) (x : Vector α n) : ∀ c ∈ cellsA f x, c.oneCell' = true := by
 intro c hc
 obtain ⟨y, _, hy⟩ := List.mem_flatMap.1 hc
 exact hf y c hy
def rVec (n k : Nat) (f : α → List Value) (hl : ∀ x, (f x).length = k) (ho : ∀ x, ∀ c ∈ f x, c.oneCell' = true) : GR (Vector α n) := rC true (n * k) (cellsA f) (cellsA_len hl) (cellsA_one ho)
theorem eqItems_run {P : Program} {e : TypeId} {re : GR α} [DecidableEq α] {D k : Nat} {f : α → List Value} (he : EqR P e re D) (hl : ∀ x, (f x).length = k) (hr : ∀ O w x, re.rel O w (f x) x) (d : Nat) (w : World) :
  ∀ (xs ys : List α) (p1 p2 : List Value) (m : Nat), p1.length = m * k → p2.length = m * k → xs.length = ys.length →
   (Op.eqItems (d + D) e k (p1 ++ xs.flatMap f).toArray (p2 ++ ys.flatMap f).toArray (List.range' m xs.length)).run P w = .ok (decide (xs = ys)) w
 | [], [], p1, p2, m, h1, h2, _ => by simp [Op.eqItems]
 | [], _ :: _, _, _, _, _, _, h => by simp at h
 | _ :: _, [], _, _, _, _, _, h => by simp at h
 | x :: xs, y :: ys, p1, p2, m, h1, h2, h => by
   have q1 := he.part w (fun _ => 0) w p1 (f x) (xs.flatMap f) x (hr _ _ x)
   have q2 := he.part w (fun _ => 0) w p2 (f y) (ys.flatMap f) y (hr _ _ y)
   rw [h1] at q1
   rw [h2] at q2
   have q3 := he.run d w (fun _ => 0) w (fun _ => 0) w (f x) (f y) x y (hr _ _ x) (hr _ _ y)
   have ih := eqItems_run he hl hr d w xs ys (p1 ++ f x) (p2 ++ f y) (m + 1) (by rw [List.length_append, hl, h1, Nat.add_mul]; omega) (by rw [List.length_append, hl, h2, Nat.add_mul]; omega) (by simpa using h)
   rw [List.append_assoc, List.append_assoc] at ih
   simp only [List.flatMap_cons, List.length_cons, List.range'_succ, Op.eqItems, Sem.run_bind, q1, q2, q3, Result.andThen_ok, Sem.run_ite, ih]
   by_cases hxy : x = y
   ·simp [hxy]
   ·simp [hxy]
theorem vec_eq {n : Nat} [DecidableEq α] (x y : Vector α n) : decide (x.toList = y.toList) = decide (x = y) := by
 congr 1
 exact propext ⟨fun h => Vector.toArray_inj.1 (by rw [← Array.toList_inj]; exact h), fun h => by rw [h]⟩
theorem eqr_vec {P : Program} {T e : TypeId} {n k : Nat} {re : GR α} [DecidableEq α] {D : Nat} {f : α → List Value} {hl ho} {z sz by_ z' dd' by_'} (hT : Ty P T (.array n e) z sz by_) (hTe : Ty P e dd' z' k by_') (hs : n * k = sz) (he : EqR P e re D) (hr : ∀ O w x, re.rel O w (f x) x) : EqR P T (rVec n k f hl ho) (D + 1) where
 run := fun d w O1 w1 O2 w2 cs ds x y h1 h2 => by
  have e1 : cs = cellsA f x := h1
  have e2 : ds = cellsA f y := h2
  subst e1; subst e2
  show (Op.equalIn (d + D + 1) T (.agg (cellsA f x).toArray) (.agg (cellsA f y).toArray)).run P w = _
  obtain ⟨i, hi, _, hsz, _⟩ := hTe.info
  have hc : P.cellsOf e = k := by simp [Program.cellsOf, hi, hsz]
  rw [run_equalIn_array w (d + D) _ _ hT.u hi, hc]
  have := eqItems_run he hl hr d w x.toList y.toList [] [] 0 (by simp) (by simp) (by simp)
  rw [List.nil_append, List.nil_append, vec_eq, Vector.length_toList, ← List.range_eq_range'] at this
  exact this
 part := fun w O1 w1 l1 cs l2 x h1 => by
  have e1 : cs = cellsA f x := h1
  subst e1
  exact part_agg hT rfl w l1 _ l2 (by rw [cellsA_len hl, hs])
section ops
variable {P : Program} {a : Act} {w : World} {d : Option Tmp} {T : TypeId} {pos : String} {aft : Array Edge} {g : Option (Nat × Bool)}
end ops
end Go.Lift
end
section
set_option linter.unusedVariables false
set_option linter.unusedSimpArgs false
namespace Go.Lift
open Go Go.RowKit Go.Eng
variable {α β γ δ ε : Type}
theorem _root_.Go.Eng.Ty.szr {P : Program} {T : TypeId} {dd : TypeDesc} {z : Value} {sz sz' by_ : Nat} (h : Ty P T dd z sz by_) (e : sz' = sz) : Ty P T dd z sz' by_ := by rw [e]; exact h
theorem no_ft {p : Prop} (h : false = true) : p := by cases h
theorem splice_all {cs vs : List Value} (h : cs.length = vs.length) : (splice cs 0 vs).toArray = vs.toArray := by
 unfold splice; rw [List.take_zero, Nat.zero_add, List.drop_of_length_le (by omega)]; simp
theorem no_tf {b : Bool} {p : Prop} (h : b = true) (k : b = false) : p := by rw [h] at k; cases k
theorem KX.trans {j : Option Nat} {O O' O'' : Tags} {w w' w'' : World} (h : KX j O w O' w') (k : KX j O' w' O'' w'') : KX j O w O'' w'' :=
 ⟨Nat.le_trans h.1 k.1, fun b hb ho => by
  obtain ⟨h1, h2⟩ := h.2 b hb ho
  obtain ⟨h3, h4⟩ := k.2 b (Nat.lt_of_lt_of_le hb h.1) (by rw [h1]; exact ho)
  exact ⟨h3.trans h1, h4.trans h2⟩⟩
theorem KX.trans_same {j : Option Nat} {O O' O'' : Tags} {w w' w'' : World} (h : KX j O w O' w') (k : KX j O' w' O'' w'') : KX j O w O'' w'' := h.trans k
def BoxO (k : Nat) (B : Nat → Prop) (O : Tags) (w : World) (b : Nat) (T : TypeId) (r : GR α) (x : α) : Prop := ∃ cs, OwnB k B O w b cs.toArray T ∧ r.rel O w cs x
theorem BoxO.kx {j : Option Nat} {k : Nat} {B : Nat → Prop} {O O' : Tags} {w w' : World} {b : Nat} {T : TypeId} {r : GR α} {x : α} (h : BoxO k B O w b T r x) (hX : KX j O w O' w') (h0 : some 0 ≠ j) (hk : some k ≠ j) : BoxO k B O' w' b T r x := by
 obtain ⟨cs, h1, h2⟩ := h
 exact ⟨cs, h1.kx hX hk, r.mono (hX.keep h0) h2⟩
theorem BoxO.ext {k : Nat} {B : Nat → Prop} {O : Tags} {w w' : World} {b : Nat} {T : TypeId} {r : GR α} {x : α} (h : BoxO k B O w b T r x) (hE : Ext w w') : BoxO k B O w' b T r x := by
 obtain ⟨cs, h1, h2⟩ := h
 exact ⟨cs, h1.ext hE, r.mono (Keep.ext hE) h2⟩
def BoxA (r : GR α) (T : TypeId) (O : Tags) (w : World) (b : Nat) (x : α) : Prop := ∃ cs, Own w b cs.toArray T ∧ O b ≠ 0 ∧ r.rel O w cs x
theorem BoxO.arg {k : Nat} {B : Nat → Prop} {O : Tags} {w : World} {b : Nat} {T : TypeId} {r : GR α} {x : α} (h : BoxO k B O w b T r x) (hk : k ≠ 0) : BoxA r T O w b x := by
 obtain ⟨cs, h1, h2⟩ := h
 exact ⟨cs, h1.own, by rw [h1.tag]; exact hk, h2⟩
def BioPost (r : GR α) (T : TypeId) (O : Tags) (w : World) (b : Nat) (y : α) (φ : SP) : Ending → World → Prop :=
 fun e w' => ∃ v cs, e = .returned v ∧ But b w w' ∧ Own w' b cs.toArray T ∧ r.rel O w' cs y ∧ φ.holds w' v
section
variable {P : Program} {a : Act} {w : World} {T : TypeId} {pos : String} {aft : Array Edge} {g0 : Option (Nat × Bool)} {K : Act → World → Prop} {Q : Exit → Act → World → Prop} {A : Nat → Prop} {ops : Array Oper} {rest : List Oper}
theorem pio_post {r : GR α} {k b : Nat} {T' : TypeId} {O O0 : Tags} {w0 : World} (hO0 : OkO O0 w0) (hB : Base A O0 w0 O w) {B : Nat → Prop} (hAB : OkB A w0 B) {x y : α} {φ : SP} (hOb : BoxO k B O w b T' r x) {e : Ending} {w2 : World} (h : BioPost r T' O w b y φ e w2) :
  ∃ v, e = .returned v ∧ BoxO k B O w2 b T' r y ∧ Base A O0 w0 O w2 ∧ KX (some k) O w O w2 ∧ φ.holds w2 v := by
 obtain ⟨v, cs, h1, h2, h3, h4, h5⟩ := h
 obtain ⟨cs0, h6, h7⟩ := hOb
 exact ⟨v, h1, ⟨cs, ⟨h3, h6.ge, h6.tag⟩, h4⟩, hB.but (hAB.sub _ h6.ge) h2 hO0, KX.but h2 h6.tag, h5⟩
theorem x_pio {f : FuncId} {xs : Array Operand} {ts : Array TypeId} {args : Array Value} {d : Option Tmp} {r : GR α} {k b : Nat} {T' : TypeId} {O O0 : Tags} {w0 : World} (hO0 : OkO O0 w0) (hB : Base A O0 w0 O w) {B : Nat → Prop} (hAB : OkB A w0 B) (hf : FnOk P f) (ha : xs.map a.eval = args) {x y : α} {φ : SP}
  (h : Calls P f args w (BioPost r T' O w b y φ)) (hOb : BoxO k B O w b T' r x) (hK : ∀ v w2, BoxO k B O w2 b T' r y → Base A O0 w0 O w2 → KX (some k) O w O w2 → φ.holds w2 v → K (a.put d v) w2) : Oper.wp P ⟨d, .call ⟨.value (.func f), xs, ts⟩, T, pos, aft, g0⟩ a w K Q :=
 x_calls hf ha h fun e w2 he => by
  obtain ⟨v, h1, h2, h3, h4, h5⟩ := pio_post hO0 hB hAB hOb he
  exact ⟨v, h1, hK v w2 h2 h3 h4 h5⟩
theorem l_pio {f : FuncId} {xs : Array Operand} {ts : Array TypeId} {args : Array Value} {d : Option Tmp} {r : GR α} {k b : Nat} {T' : TypeId} {O O0 : Tags} {w0 : World} (hO0 : OkO O0 w0) (hB : Base A O0 w0 O w) {B : Nat → Prop} (hAB : OkB A w0 B) (hf : FnOk P f) (ha : xs.map a.eval = args) {x y : α} {φ : SP}
  (h : Calls P f args w (BioPost r T' O w b y φ)) (hOb : BoxO k B O w b T' r x) (hK : ∀ v w2, BoxO k B O w2 b T' r y → Base A O0 w0 O w2 → KX (some k) O w O w2 → φ.holds w2 v → wpList P ops Q rest (a.put d v) w2) : wpList P ops Q (⟨d, .call ⟨.value (.func f), xs, ts⟩, T, pos, aft, none⟩ :: rest) a w :=
 t_calls hf ha h fun e w2 he => by
  obtain ⟨v, h1, h2, h3, h4, h5⟩ := pio_post hO0 hB hAB hOb he
  exact ⟨v, h1, hK v w2 h2 h3 h4 h5⟩
end
theorem bioStart {r : GR α} {T : TypeId} {O : Tags} {w : World} {b : Nat} {x : α} (hO : OkO O w) (h : BoxA r T O w b x) :
  ∃ O' cs, Base (FrB w b) O w O' w ∧ OwnB 1 (FrB w b) O' w b cs.toArray T ∧ r.rel O' w cs x ∧ Keep 0 O w O' w := by
 obtain ⟨cs, h1, h2, h3⟩ := h
 have hk : Keep 0 O w (tag O (some b) 1) w := ⟨Nat.le_refl _, fun c _ hc => ⟨by rw [tag_ne (fun e => by cases e; exact h2 hc)]; exact hc, rfl⟩⟩
 refine ⟨tag O (some b) 1, cs, ⟨rfl, rfl, rfl, Nat.le_refl _, fun _ _ _ => rfl, hO.tag fun g hg => by cases hg; exact h1.lt, fun c _ hc => tag_ne (fun e => by cases e; exact hc (.inr rfl)), fun c _ hz => ?_, fun _ h => .inl h⟩, ⟨h1, .inr rfl, tag_same _ _ _⟩, r.mono hk h3, hk⟩
 by_cases e : some b = some c
 ·cases e; rw [tag_same] at hz; cases hz
 ·rw [tag_ne e] at hz; exact hz
theorem bio_but {O O' : Tags} {w0 w : World} {b : Nat} (hB : Base (FrB w0 b) O w0 O' w) : But b w0 w :=
 ⟨hB.os, hB.tape, hB.output, hB.size, fun c hc hcb => hB.block c hc (fun e => by rcases e with e | e <;> omega)⟩
theorem Base.rel {A : Nat → Prop} {O Oc : Tags} {w0 w : World} (h : Base A O w0 Oc w) (r : GR α) {cs : List Value} {x : α} (hr : r.rel Oc w cs x) : r.rel O w cs x := r.mono ⟨Nat.le_refl _, fun b hb ho => ⟨h.zero b hb ho, rfl⟩⟩ hr
theorem bioEnd {r : GR α} {T : TypeId} {O O' : Tags} {w0 w : World} {b k : Nat} {cs : List Value} {y : α} {φ : SP} {v : Value} (hB : Base (FrB w0 b) O w0 O' w) (hb : OwnB k (FrB w0 b) O' w b cs.toArray T) (hr : r.rel O' w cs y) (hφ : φ.holds w v) : BioPost r T O w0 b y φ (.returned v) w :=
 ⟨v, cs, rfl, bio_but hB, hb.own, hB.rel r hr, hφ⟩
theorem bio_of_wp {P : Program} {f : FuncId} {fn : Func} {c : Code} {args : Array Value} {w : World} {R : Ending → World → Prop} (hf : P.funcs[f]? = some fn) (hb : fn.body = some c) (N : Nat) (hN : fn.ntmps = N) (hle : args.size ≤ N)
  (h : ∀ a, a.fit N → (∀ i v, args[i]? = some v → a.get i = v) → c.wp P (bodyPost P fn R) a w) : Calls P f args w R := by
 refine calls_of_wp hf hb ?_
 rw [hN]
 exact h _ (fit_start args N hle) fun i v hv => get_start hv
inductive ResAt (P : Program) (a : Act) (w : World) : ResultVar → Value → Prop
 | tmp {t : Nat} {v : Value} (h : a.get t = v) : ResAt P a w (.tmp t) v
 | agg {t X b X' : Nat} {cs : Array Value} {dd z sz by_} (h : a.get t = .pointer (some ⟨b, 0, none⟩)) (hT : Ty P X dd z sz by_) (hd : isAggD dd = true) (hs : cs.size = sz) (hO : Own w b cs X') : ResAt P a w (.cell t X) (.agg cs)
 | one {t X b X' : Nat} {v : Value} {dd z sz by_} (h : a.get t = .pointer (some ⟨b, 0, none⟩)) (hT : Ty P X dd z sz by_) (hd : isAggD dd = false) (hO : Own w b #[v] X') : ResAt P a w (.cell t X) v
def resRun (a : Act) : ResultVar → Sem Value
 | .tmp t => pure (a.tmps.getD t undef)
 | .cell c t => do loadVar t (← asAddr (a.tmps.getD c undef))
theorem ResAt.run {P : Program} {a : Act} {w : World} {r : ResultVar} {v : Value} (h : ResAt P a w r v) : (resRun a r).run P w = .ok v w := by
 cases h with
 | tmp h =>
  have e1 : a.tmps.getD _ undef = v := h
  simp only [Array.getD_eq_getD_getElem?] at e1
  simp [resRun, e1]
 | @agg t X b X' cs dd z sz by_ h hT hd hs hO =>
  subst hs
  have e1 : a.tmps.getD t undef = .pointer (some ⟨b, 0, none⟩) := h
  simp only [Array.getD_eq_getD_getElem?] at e1
  simp [resRun, e1, asAddr, loadVar, hT.run_agg, hd, hT.run_size, _root_.Go.Eng.run_loadCells (P := P) (w := w) (b := b) (off := 0) (cs := cs) (fun j _ => by rw [hO.cell]; simp)]
 | @one t X b X' v dd z sz by_ h hT hd hO =>
  have e1 : a.tmps.getD t undef = .pointer (some ⟨b, 0, none⟩) := h
  simp only [Array.getD_eq_getD_getElem?] at e1
  have hc : w.cell? ⟨b, 0, none⟩ = some v := by rw [hO.cell]; rfl
  simp [resRun, e1, asAddr, loadVar, hT.run_agg, hd, hc]
theorem results_eq (fn : Func) (a : Act) : results fn a.tmps = (do let vs ← fn.results.mapM (resRun a); pure (if h : vs.size = 1 then vs[0] else .tuple vs)) := by
 unfold results
 congr 1
theorem retG0n {P : Program} {fn : Func} {R : Ending → World → Prop} {a : Act} {w : World} {N : Nat} (hr : fn.results = #[]) (hA : a.fit N) (h : R (.returned (.tuple #[])) w) : bodyPost P fn R .normal a w := ⟨hA.defers, .tuple #[], by simp [results, hr], h⟩
theorem retG1 {P : Program} {fn : Func} {R : Ending → World → Prop} {a : Act} {w : World} {N : Nat} {r : ResultVar} {v : Value} (hr : fn.results = #[r]) (hA : a.fit N) (hv : ResAt P a w r v) (h : R (.returned v) w) : bodyPost P fn R .ret a w :=
 ⟨hA.defers, v, by rw [results_eq, hr]; simp [hv.run], h⟩
theorem retG2 {P : Program} {fn : Func} {R : Ending → World → Prop} {a : Act} {w : World} {N : Nat} {r1 r2 : ResultVar} {v1 v2 : Value} (hr : fn.results = #[r1, r2]) (hA : a.fit N) (h1 : ResAt P a w r1 v1) (h2 : ResAt P a w r2 v2) (h : R (.returned (.tuple #[v1, v2])) w) : bodyPost P fn R .ret a w :=
 ⟨hA.defers, .tuple #[v1, v2], by rw [results_eq, hr]; simp [h1.run, h2.run], h⟩
section
variable {P : Program} {a : Act} {w : World} {T : TypeId} {pos : String} {aft : Array Edge} {g : Option (Nat × Bool)} {d : Option Tmp}
end
theorem okl_buildArr {P : Program} {a : Act} {w : World} {d : Option Tmp} {T : TypeId} {pos : String} {aft : Array Edge} {g : Option (Nat × Bool)} {X e n k : Nat} {z sz by_ dd z' by_'} (hT : Ty P X (.array n e) z sz by_) (he : Ty P e dd z' k by_') {parts : Array (Nat × Operand)} {vals : List (Nat × Value)} (hv : parts.toList.map (fun p => (p.1, a.eval p.2)) = vals) {zc out : List Value} (hz : z.cells = zc.toArray) (hf : Fill (fun i => some (i * k, k)) zc vals out) {v : Value} (hev : .agg out.toArray = v) :
  Ok P ⟨d, .build X parts, T, pos, aft, g⟩ a w (SP.isv v).holds := by
 subst hev
 refine ok_pure ?_
 have e1 : (parts.map fun (i, x) => (i, a.eval x)).toList = vals := by rw [← hv]; simp
 simp only [execOp, Instr.build, Sem.run_bind, hT.run_zero, hT.run_u, Result.andThen, he.run_size, e1, hf.run z.cells (by rw [hz])]
 simp
theorem rel_one {r : GR α} {O : Tags} {w : World} {cs : List Value} {x : α} (h : r.rel O w cs x) (ha : r.agg = false) (hs : r.sz = 1) : ∃ u, cs = [u] ∧ r.v O w u x := by
 have hl := r.len h
 rw [hs] at hl
 match cs, hl with
 | [c], _ => exact ⟨c, rfl, [c], h, by rw [ha]; rfl⟩
end Go.Lift
end
section
set_option linter.unusedVariables false
set_option linter.unusedSimpArgs false
namespace Go.Lift
open Go Go.RowKit Go.Eng
variable {α : Type}
def preV : Value → Nat → Value
 | .slice p _ c, n => .slice p n c
 | v, _ => v
theorem preV_block (u : Value) (n : Nat) : (preV u n).ownBlock = u.ownBlock := by
 cases u <;> try rfl
 rename_i p k c
 cases p <;> rfl
theorem flat_len {E : Nat} : ∀ {vs : List Value}, (∀ x ∈ vs, x.cells.size = E) → (flat vs).length = vs.length * E
 | [], _ => by simp [flat]
 | y :: vs, h => by
   have hy := h y (by simp)
   have := flat_len (vs := vs) (fun y hy => h y (by simp [hy]))
   unfold flat at this ⊢
   rw [List.flatMap_cons, List.length_append, this, Array.length_toList, hy, List.length_cons, Nat.add_mul]; omega
theorem flat_take {E : Nat} : ∀ {vs : List Value}, (∀ x ∈ vs, x.cells.size = E) → ∀ n, (flat vs).take (n * E) = flat (vs.take n)
 | [], _, n => by simp [flat]
 | y :: vs, h, 0 => by simp [flat]
 | y :: vs, h, n + 1 => by
   have hy := h y (by simp)
   have := flat_take (vs := vs) (fun y hy => h y (by simp [hy])) n
   unfold flat at this ⊢
   rw [List.take_succ_cons, List.flatMap_cons, List.flatMap_cons, ← this, Nat.add_mul, List.take_append, Array.length_toList, hy, List.take_of_length_le (by rw [Array.length_toList, hy]; omega)]
   congr 2; omega
theorem ownS_pre {w : World} {B T E : Nat} {u : Value} {vs : List Value} (h : OwnS w B T E u vs) {n : Nat} (hn : n ≤ vs.length) : OwnS w B T E (preV u n) (vs.take n) := by
 have hs : ∀ x ∈ vs.take n, x.cells.size = E := fun x hx => h.sz x (List.mem_of_mem_take hx)
 have hl : (vs.take n).length = n := by rw [List.length_take]; omega
 refine ⟨hs, ?_, ?_⟩
 ·rw [flat_len hs]
 ·rcases h.row.2 with ⟨h1, h2⟩ | ⟨b, cap, cur, h1, h2, h3, h4, h5, h6, h7⟩
  ·left
   have hn0 : n = 0 := by omega
   subst hn0
   rw [h1]; exact ⟨rfl, by rw [hl]⟩
  ·right
   refine ⟨b, cap, cur, by rw [h1, hl]; rfl, h2, h3, by rw [hl]; omega, h5, h6, ?_⟩
   rw [hl, ← flat_take h.sz n, ← h7, List.take_take, Nat.min_eq_left (Nat.mul_le_mul_right _ hn)]
section ops
variable {P : Program} {a : Act} {w : World} {d : Option Tmp} {T : TypeId} {pos : String} {aft : Array Edge} {g : Option (Nat × Bool)}
theorem okl_slice_p {x h : Operand} {X e : TypeId} {r : GR α} {O : Tags} {xs ys : List α} {n : Int} {k : IntKind} {m : Nat} {z sz by_ dd z' E by_'} (hT : Ty P X (.slice e) z sz by_) (he : Ty P e dd z' E by_') (hE : r.sz = E) {u : Value} (hu : a.eval x = u) (hx : (rSl r).v O w u xs) (hh : a.eval h = .int k n) (hr : (sub xs 0 n).run m = some ys) :
  Ok P ⟨d, .slice X x none (some h) none, T, pos, aft, g⟩ a w (SP.isv (preV u ys.length)).holds := by
 obtain ⟨⟨h1, h2, h3⟩, h4⟩ := run_sub hr
 obtain ⟨vs, s1, s2, s3⟩ := rSl_v.1 hx
 subst hE
 have hlen := s2.len
 obtain ⟨p, c, hu', hc⟩ := s1.slice
 have e4 : ys = xs.take n.toNat := h4.symm
 have e5 : ys.length = n.toNat := by rw [e4, List.length_take]; omega
 rw [hu'] at hu
 refine ok_run (v := .slice p n.toNat c) (w' := w) ?_ (Ext.refl w) (by rw [hu', e5]; rfl)
 have h1' : n ≤ (c : Int) := by omega
 simp [execOp, Instr.sliceAt, Instr.slice, Instr.sliceBounds, hu, hh, hT.run_u, he.run_size, bound_run h2 h1']
 intro _
 cases p <;> simp [Addr.add]
end ops
def OwnBP (k : Nat) (B : Nat → Prop) (O : Tags) (w : World) (v : Value) (cs : Array Value) (T : TypeId) : Prop := ∃ b, v = .pointer (some ⟨b, 0, none⟩) ∧ OwnB k B O w b cs T
theorem OwnBP.kx {j : Option Nat} {k : Nat} {B : Nat → Prop} {O O' : Tags} {w w' : World} {v : Value} {cs : Array Value} {T : TypeId} (h : OwnBP k B O w v cs T) (hX : KX j O w O' w') (hk : some k ≠ j) : OwnBP k B O' w' v cs T := by
 obtain ⟨b, h1, h2⟩ := h; exact ⟨b, h1, h2.kx hX hk⟩
theorem skip_ne {os : List Oper} {cs : List Bool} {i j : Nat} (hact : act os cs i = false) (hG : act os cs j = true) : i ≠ j := fun e => by rw [e, hG] at hact; cases hact
end Go.Lift
namespace Go.Eng
open Go Go.RowKit
section fld
variable {P : Program} {a : Act} {w : World} {T : TypeId} {pos : String} {aft : Array Edge} {ops : Array Oper} {Q : Exit → Act → World → Prop} {rest : List Oper}
end fld
end Go.Eng
namespace Go.Lift
open Go Go.RowKit Go.Eng
section fld
variable {α : Type} {P : Program} {a : Act} {w : World} {T : TypeId} {pos : String} {aft : Array Edge} {ops : Array Oper} {Q : Exit → Act → World → Prop} {rest : List Oper} {A : Nat → Prop}
end fld
section ops
variable {P : Program} {a : Act} {w : World} {d : Option Tmp} {T : TypeId} {pos : String} {aft : Array Edge} {g : Option (Nat × Bool)}
end ops
end Go.Lift
end
section
set_option linter.unusedVariables false
set_option linter.unusedSimpArgs false
namespace Go.Lift
open Go Go.Eng
variable {α β γ δ ε σ τ : Type}
namespace Comp
def foldE (f : σ → α → Step σ ε) (fin : σ → ε) : σ → List α → ε
 | s, [] => fin s
 | s, x :: xs => match f s x with
  | .next s' => foldE f fin s' xs
  | .done e => e
def Step.map (g : σ → τ) : Step σ ε → Step τ ε
 | .next s => .next (g s)
 | .done e => .done e
theorem loop_foldE {body : τ → Comp (Step τ ε)} (st : σ → Nat → τ) (xs : List α) (f : σ → α → Step σ ε) (fin : σ → ε) (I : σ → Nat → Prop)
  (hb : ∀ s i x, xs[i]? = some x → I s i → (body (st s i)).val = some ((f s x).map fun s' => st s' (i + 1)))
  (hI : ∀ s i x s', xs[i]? = some x → I s i → f s x = .next s' → I s' (i + 1))
  (he : ∀ s, I s xs.length → (body (st s xs.length)).val = some (.done (fin s))) (s : σ) (h0 : I s 0) : (loop body (st s 0)).val = some (foldE f fin s xs) := by
 have key : ∀ (ys zs : List α) (s : σ), xs = zs ++ ys → I s zs.length → (loop body (st s zs.length)).val = some (foldE f fin s ys) := by
  intro ys
  induction ys with
  | nil =>
   intro zs s hx hs
   rw [List.append_nil] at hx; subst hx
   rw [val_loop, he s hs]; rfl
  | cons y ys ih =>
   intro zs s hx hs
   have hy : xs[zs.length]? = some y := by rw [hx]; simp
   rw [val_loop, hb s _ y hy hs]
   simp only [foldE, Option.bind_some]
   cases hf : f s y with
   | next s' =>
    simp only [Step.map]
    have := ih (zs ++ [y]) s' (by rw [hx]; simp) (by have := hI s _ y s' hy hs hf; simpa using this)
    simpa using this
   | done e => rfl
 exact key xs [] s rfl h0
theorem foldE_next {f : σ → α → σ} {fin : σ → ε} : ∀ (xs : List α) (s : σ), foldE (fun s x => .next (f s x)) fin s xs = fin (xs.foldl f s)
 | [], _ => rfl
 | x :: xs, s => by simp only [foldE, List.foldl_cons]; exact foldE_next xs (f s x)
theorem foldE_any {p : α → Bool} {c : ε} {d : ε} : ∀ (xs : List α), foldE (fun (_ : Unit) x => if p x = true then .done c else .next ()) (fun _ => d) () xs = if xs.any p then c else d
 | [] => by simp [foldE]
 | x :: xs => by
   simp only [foldE, List.any_cons]
   by_cases h : p x = true
   ·simp [h]
   ·have := foldE_any (p := p) (c := c) (d := d) xs
    rw [if_neg h]
    simp only [h, Bool.false_or]
    exact this
theorem foldl_filter {p : α → Bool} : ∀ (xs ys : List α), xs.foldl (fun acc x => if p x = true then acc ++ [x] else acc) ys = ys ++ xs.filter p
 | [], ys => by simp
 | x :: xs, ys => by
   simp only [List.foldl_cons, List.filter_cons]
   cases h : p x with
   | true => simp [foldl_filter xs]
   | false => simp [foldl_filter xs]
theorem foldl_any {p : α → Bool} : ∀ (xs : List α) (b : Bool), xs.foldl (fun b x => b || p x) b = (b || xs.any p)
 | [], b => by simp
 | x :: xs, b => by simp [List.foldl_cons, foldl_any xs, Bool.or_assoc]
theorem wrap_succ {i : Nat} (h : i < 9223372036854775807) : IntKind.wrap .i64 ((i : Int) + 1) = ((i + 1 : Nat) : Int) := by
 rw [IntWalk.i64_in _ ⟨by omega, by omega⟩]; omega
theorem loop_any {body : Int → Comp (Step Int (Sum β Unit))} (xs : List α) (p : α → Bool) (c : β)
  (hb : ∀ (i : Nat) x, xs[i]? = some x → (body i).val = some (if p x = true then .done (.inl c) else .next ((i + 1 : Nat) : Int)))
  (he : (body xs.length).val = some (.done (.inr ()))) : (loop body 0).val = some (if xs.any p then .inl c else .inr ()) := by
 have := loop_foldE (σ := Unit) (fun _ i => ((i : Nat) : Int)) xs (fun _ x => if p x = true then .done (.inl c) else .next ()) (fun _ => (.inr () : Sum β Unit)) (fun _ _ => True) (body := body)
  (fun _ i x hx _ => by rw [hb i x hx]; cases p x <;> rfl) (fun _ _ _ _ _ _ _ => trivial) (fun _ _ => he) () trivial
 rw [← foldE_any (p := p) (c := (.inl c : Sum β Unit)) (d := .inr ())]
 exact this
theorem loop_fold {body : σ × Int → Comp (Step (σ × Int) ε)} (xs : List α) (f : σ → α → σ) (fin : σ → ε) (I : σ → Nat → Prop) (s : σ)
  (hb : ∀ s (i : Nat) x, xs[i]? = some x → I s i → (body (s, i)).val = some (.next (f s x, ((i + 1 : Nat) : Int))))
  (hI : ∀ s i x, xs[i]? = some x → I s i → I (f s x) (i + 1))
  (he : ∀ s, I s xs.length → (body (s, xs.length)).val = some (.done (fin s))) (h0 : I s 0) : (loop body (s, 0)).val = some (fin (xs.foldl f s)) := by
 have := loop_foldE (fun s i => (s, ((i : Nat) : Int))) xs (fun s x => .next (f s x)) fin I (body := body)
  (fun s i x hx h => by rw [hb s i x hx h]; rfl) (fun s i x s' hx h e => by cases e; exact hI s i x hx h) he s h0
 rw [foldE_next] at this
 exact this
end Comp
theorem idx_val {xs : List α} {i : Nat} {x : α} (h : xs[i]? = some x) : (idx xs (i : Int)).val = some x := by
 unfold idx; rw [if_pos (by omega)]; simp [h]
theorem idx_val' {xs : List α} {i : Int} {x : α} (h0 : 0 ≤ i) (h : xs[i.toNat]? = some x) : (idx xs i).val = some x := by
 unfold idx; rw [if_pos h0]; simp [h]
theorem app_val {xs ys : List α} (h : xs.length + ys.length ≤ LIM) : (app xs ys).val = some (xs ++ ys) := by
 unfold app; rw [if_pos h]; simp
theorem sub_val {xs : List α} {l h : Int} (hr : 0 ≤ l ∧ l ≤ h ∧ h ≤ xs.length) : (sub xs l h).val = some ((xs.take h.toNat).drop l.toNat) := by
 unfold sub; rw [if_pos hr]; simp
theorem mk_val {n : Int} {z : α} (h : 0 ≤ n ∧ n ≤ LIM) : (mk n z).val = some (List.replicate n.toNat z) := by
 unfold mk; rw [if_pos h]; simp
theorem nonneg_val {n : Int} (h : 0 ≤ n) : (nonneg n).val = some () := by
 unfold nonneg; rw [if_pos h]; simp
theorem upd_val {xs : List α} {i : Int} {x : α} (h : 0 ≤ i ∧ i < xs.length) : (upd xs i x).val = some (xs.set i.toNat x) := by
 unfold upd; rw [if_pos h]; simp
theorem rem_val {a b : Int} (h : b ≠ 0) : (rem a b).val = some (a.tmod b) := by
 unfold rem; rw [if_neg h]; simp
theorem getElem?_len {xs : List α} {i : Nat} {x : α} (h : xs[i]? = some x) : i < xs.length := (List.getElem?_eq_some_iff.1 h).1
end Go.Lift
end
section
set_option linter.unusedVariables false
namespace Go.Lift
open Go Go.Eng
theorem leb {n m : Nat} (h : Nat.ble n m = true) : n ≤ m := Nat.le_of_ble_eq_true h
end Go.Lift
end
section
set_option linter.unusedVariables false
set_option linter.unusedSimpArgs false
namespace Go.Lift
open Go Go.RowKit Go.Eng
variable {α β : Type}
def rIf (tag : α → Nat) (sub : α → Tags → World → Value → Prop) (hm : ∀ x {O w O' w' v}, Keep 0 O w O' w' → sub x O w v → sub x O' w' v) : GR α where
 agg := false
 sz := 1
 rel := fun O w cs x => ∃ v, cs = [.iface (tag x) v] ∧ sub x O w v
 len := fun ⟨_, h, _⟩ => by rw [h]; rfl
 one := fun ⟨v, h, _⟩ c hc => by rw [h] at hc; simp at hc; subst hc; rfl
 mono := fun hk ⟨v, h, h1⟩ => ⟨v, h, hm _ hk h1⟩
theorem rIf_v {tag : α → Nat} {sub : α → Tags → World → Value → Prop} {hm O w u x} : (rIf tag sub hm).v O w u x ↔ ∃ v, u = .iface (tag x) v ∧ sub x O w v :=
 ⟨fun ⟨cs, ⟨v, h, h1⟩, hu⟩ => by rw [h] at hu; exact ⟨v, hu, h1⟩, fun ⟨v, h, h1⟩ => ⟨_, ⟨v, rfl, h1⟩, h⟩⟩
def notIface : TypeDesc → Bool
 | .interface _ => false
 | _ => true
structure Meth (P : Program) (T : TypeId) (name : String) (f : FuncId) : Prop where
 finds : ∀ v w, (method (P.types.size + Made.depth) T v name).run P w = .ok (f, v) w
section ops
variable {P : Program} {a : Act} {w : World} {d : Option Tmp} {T : TypeId} {pos : String} {aft : Array Edge} {g : Option (Nat × Bool)}
theorem okl_mkIface {x : Operand} {X : TypeId} {u : Value} {dd z sz by_} (hT : Ty P X dd z sz by_) (hd : notIface dd = true) (hx : a.eval x = u) : Ok P ⟨d, .makeInterface X x, T, pos, aft, g⟩ a w (SP.isv (.iface X u)).holds := by
 refine ok_pure ?_
 have hu : (underlying X).run P w = .ok dd w := by simp [underlying, hT.u]
 cases dd <;> first | (cases hd; done) | simp [execOp, Instr.makeInterface, hu, hx]
theorem okl_assertY {x : Operand} {I A : TypeId} {v : Value} {dd z sz by_} (hT : Ty P A dd z sz by_) (hd : notIface dd = true) (hx : a.eval x = .iface A v) : Ok P ⟨d, .typeAssert x I A true, T, pos, aft, g⟩ a w (SP.isv (.tuple #[v, .bool true])).holds := by
 refine ok_pure ?_
 have hu : (underlying A).run P w = .ok dd w := by simp [underlying, hT.u]
 cases dd <;> first | (cases hd; done) | simp [execOp, Instr.typeAssert, hu, hx]
theorem okl_assertN {x : Operand} {I A D : TypeId} {v : Value} {dd z sz by_} (hT : Ty P A dd z sz by_) (hd : notIface dd = true) (hx : a.eval x = .iface D v) (hn : D ≠ A) : Ok P ⟨d, .typeAssert x I A true, T, pos, aft, g⟩ a w (SP.isv (.tuple #[z, .bool false])).holds := by
 refine ok_pure ?_
 have hu : (underlying A).run P w = .ok dd w := by simp [underlying, hT.u]
 cases dd <;> first | (cases hd; done) | simp [execOp, Instr.typeAssert, hu, hx, hn, hT.run_zero]
end ops
section tails
variable {P : Program} {a : Act} {w : World} {T : TypeId} {pos : String} {aft : Array Edge} {ops : Array Oper} {Q : Exit → Act → World → Prop} {rest : List Oper} {A : Nat → Prop}
theorem t_invoke {f : FuncId} {x : Operand} {name : String} {D : TypeId} {v : Value} {xs : Array Operand} {ts : Array TypeId} {args : Array Value} {R : Ending → World → Prop} {d : Option Tmp} (hm : Meth P D name f) (hf : FnOk P f) (hx : a.eval x = .iface D v) (ha : xs.map a.eval = args) (h : Calls P f (#[v] ++ args) w R)
  (hK : ∀ e w', R e w' → ∃ v, e = .returned v ∧ wpList P ops Q rest (a.put d v) w') : wpList P ops Q (⟨d, .call ⟨.invoke x name, xs, ts⟩, T, pos, aft, none⟩ :: rest) a w := by
 have hw : Region.wanted (⟨d, .call ⟨.invoke x name, xs, ts⟩, T, pos, aft, none⟩ : Oper) (yielded ops a.tmps) = true := by simp [Region.wanted]
 simp only [wpList, hw, if_true]
 left
 obtain ⟨fn, h1, h2, h3⟩ := hf.h
 have hr : (execOp a.eval ⟨d, .call ⟨.invoke x name, xs, ts⟩, T, pos, aft, none⟩).run P w = .ok (.enter f (#[v] ++ args)) w := by
  have e1 : (#[Value.iface D v] ++ args).extract 1 (#[Value.iface D v] ++ args).size = args := by
   apply Array.ext'
   simp
  have e0 : (#[Value.iface D v] ++ args)[0]? = some (Value.iface D v) := by rw [Array.getElem?_append_left (by simp)]; rfl
  simp only [execOp, resolve, ha, hx, Sem.run_bind, Sem.run_pure, Result.andThen, invoke, e0, e1, callMethod, run_program, hm.finds, callFunc, h1]
  simp [h2, h3]
 unfold Oper.wp
 rw [hr]
 refine Calls.mono h fun e w' he => ?_
 obtain ⟨v, rfl, hv⟩ := hK e w' he
 exact hv
theorem l_pioI {f : FuncId} {z : Operand} {name : String} {D : TypeId} {vz : Value} {xs : Array Operand} {ts : Array TypeId} {args : Array Value} {d : Option Tmp} {r : GR α} {k b : Nat} {T' : TypeId} {O O0 : Tags} {w0 : World} (hO0 : OkO O0 w0) (hB : Base A O0 w0 O w) {B : Nat → Prop} (hAB : OkB A w0 B) (hm : Meth P D name f) (hf : FnOk P f) (hz : a.eval z = .iface D vz) (ha : xs.map a.eval = args) {x y : α} {φ : SP}
  (h : Calls P f (#[vz] ++ args) w (BioPost r T' O w b y φ)) (hOb : BoxO k B O w b T' r x) (hK : ∀ v w2, BoxO k B O w2 b T' r y → Base A O0 w0 O w2 → KX (some k) O w O w2 → φ.holds w2 v → wpList P ops Q rest (a.put d v) w2) : wpList P ops Q (⟨d, .call ⟨.invoke z name, xs, ts⟩, T, pos, aft, none⟩ :: rest) a w :=
 t_invoke hm hf hz ha h fun e w2 he => by
  obtain ⟨v, h1, h2, h3, h4, h5⟩ := pio_post hO0 hB hAB hOb he
  exact ⟨v, h1, hK v w2 h2 h3 h4 h5⟩
end tails
end Go.Lift
end
