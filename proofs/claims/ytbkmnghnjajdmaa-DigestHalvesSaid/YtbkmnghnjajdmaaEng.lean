/- The engine: one rule for a region of operations, in whatever order they are carried out, and small rules for single operations. No statement of the program stands here. -/
import Derived.Test.YtbkmnghnjajdmaaRows
import Derived.ProofKit
import Derived.WalkKit
import Derived.WalkSpells
import Derived.WalkLawsBesides
namespace Go.Eng
open Go Go.RowKit

/-- Nothing that was there has turned; there may be more. -/
def Ext (w w' : World) : Prop := Below w.heap.size w w'
theorem Ext.refl (w : World) : Ext w w := Below.refl _ _
theorem Ext.trans {a b c : World} (h : Ext a b) (k : Ext b c) : Ext a c := Below.trans h (Below.mono k (Below.size h))
theorem Ext.drew (w : World) : Ext w w.drew := (Below.refl _ _).drew
theorem Ext.drawn (w : World) : Ext w { w with drawn := w.drawn + 1 } := (Below.refl _ _).drew
theorem Ext.alloc (w : World) (o : Obj) : Ext w (w.alloc o) := (Below.refl _ _).alloc (Nat.le_refl _) o
theorem Ext.heap {w w' : World} (h : Ext w w') {b : Nat} {o : Obj} (hb : w.heap[b]? = some o) : w'.heap[b]? = some o := by
  rw [Below.block h b (Array.getElem?_eq_some_iff.1 hb).1]; exact hb
theorem Ext.cell {w w' : World} (h : Ext w w') {p : Addr} {v : Value} (hc : w.cell? p = some v) : w'.cell? p = some v := by
  unfold World.cell? at hc ⊢
  cases hb : w.heap[p.block]? with
  | none => simp [hb] at hc
  | some o => rw [Ext.heap h hb]; rw [hb] at hc; exact hc

def _root_.Go.Act.get (a : Act) (t : Nat) : Value := a.tmps.getD t undef
theorem eval_tmp (a : Act) (t : Nat) : a.eval (.tmp t) = a.get t := rfl

structure _root_.Go.Act.fitD (a : Act) (N : Nat) (D : List Deferred) : Prop where
  size : a.tmps.size = N
  defers : a.defers = D
abbrev _root_.Go.Act.fit (a : Act) (N : Nat) : Prop := a.fitD N []
variable {D : List Deferred}

theorem fit_put {a : Act} {N : Nat} (h : a.fitD N D) (d : Option Tmp) (v : Value) : (a.put d v).fitD N D := by
  cases d with
  | none => exact h
  | some d => exact ⟨by simp [Act.put, h.size], h.defers⟩
theorem get_put_same {a : Act} {N d : Nat} (h : a.fitD N D) (hd : d < N) (v : Value) : (a.put (some d) v).get d = v := by
  have := h.size
  simp [Act.put, Act.get, Array.getD_eq_getD_getElem?, this, hd]
theorem get_put_ne {a : Act} {d t : Nat} (hd : d ≠ t) (v : Value) : (a.put (some d) v).get t = a.get t := by
  simp [Act.put, Act.get, Array.getD_eq_getD_getElem?, Array.getElem?_setIfInBounds_ne hd]

/-! ### The region rule -/
def writes (o : Oper) (t : Nat) : Bool := match o.dst with | some d => Nat.beq d t | none => false
def names (os : List Oper) (o : Oper) : List Nat :=
  (o.op.operands.toList.filterMap fun | .tmp t => some t | _ => none) ++
  (match o.guard with
   | some (g, _) => ((os[g]?).bind (·.dst)).toList
   | none => [])
def readsT (o : Oper) (t : Nat) : Bool := o.op.operands.toList.any fun | .tmp u => Nat.beq u t | _ => false

/-- The last of the operations of S that writes slot t. -/
def lwGo (S : Nat → Bool) (t : Nat) : Nat → List Oper → Option Nat → Option Nat
  | _, [], acc => acc
  | i, o :: os, acc => lwGo S t (i + 1) os (bif S i && writes o t then some i else acc)
def lw (os : List Oper) (S : Nat → Bool) (t : Nat) : Option Nat := lwGo S t 0 os none

/-- Is operation i carried out? By the guards, whose Bools are cs. -/
def actN (os : List Oper) (cs : List Bool) : Nat → Nat → Bool
  | 0, _ => true
  | n + 1, i => match (os[i]?).bind (·.guard) with
    | none => true
    | some (g, w) => actN os cs n g && (cs.getD g false == w)
def act (os : List Oper) (cs : List Bool) (i : Nat) : Bool := actN os cs (i + 1) i

abbrev Preds := List (World → Value → Prop)
def pred (Φ : Preds) (i : Nat) : World → Value → Prop := Φ.getD i (fun _ _ => True)

/-- What operation i has left in its slot. -/
structure Left (os : List Oper) (Φ : Preds) (cs : List Bool) (i : Nat) (w : World) (v : Value) : Prop where
  on : act os cs i = true → pred Φ i w v
  off : act os cs i = false → v = undef

def Know (os : List Oper) (Φ : Preds) (cs : List Bool) (a : Act) (S : Nat → Bool) (t : Nat) (w : World) (v : Value) : Prop :=
  match lw os S t with
  | none => v = a.get t
  | some i => Left os Φ cs i w v

/-- The operation is carried out; its value is as φ says; the world has gone on by E. -/
def OkE (E : World → World → Prop) (P : Program) (o : Oper) (a : Act) (w : World) (φ : World → Value → Prop) : Prop :=
  ∀ (K : Act → World → Prop) (Q : Exit → Act → World → Prop), (∀ v w', E w w' → φ w' v → K (a.put o.dst v) w') → o.wp P a w K Q
abbrev Ok := OkE Ext

def Obl (E : World → World → Prop) (P : Program) (os : List Oper) (Φ : Preds) (cs : List Bool) (a : Act) (w : World) (i : Nat) (o : Oper) : Prop :=
  ∀ a' w', E w w' → (∀ t, readsT o t = true → Know os Φ cs a (fun j => Nat.blt j i) t w' (a'.get t)) → act os cs i = true → OkE E P o a' w' (pred Φ i)

/-- what binds in every order -/
def bitsOf (os : List Oper) : Array Nat := Region.before os.toArray

def okPair (b : Array Nat) (i j : Nat) : Bool := (b.getD (max i j) 0).testBit (min i j)
def okRegion (N : Nat) (os : List Oper) : Bool :=
  let b := bitsOf os
  let z := os.zipIdx
  (z.all fun (o, i) =>
    (o.after.all fun e => !Region.binds .any e || decide (e.on < i)) &&
    (match o.dst with | some d => decide (d < N) && z.all (fun (o', j) => !(decide (i ≠ j) && ((names os o').contains d || o'.dst == some d)) || okPair b i j) | none => true) &&
    (match o.guard with
     | none => true
     | some (g, _) => (b.getD i 0).testBit g && (((os[g]?).bind (·.dst)).any fun d => lw os (fun j => Nat.blt j i) d == some g)))

theorem lwGo_congr {S S' : Nat → Bool} {t : Nat} : ∀ (os : List Oper) (k : Nat) (acc : Option Nat), (∀ j, k ≤ j → ∀ o, os[j - k]? = some o → writes o t = true → S j = S' j) →
    lwGo S t k os acc = lwGo S' t k os acc
  | [], _, _, _ => rfl
  | o :: os, k, acc, h => by
      simp only [lwGo]
      have h0 : (S k && writes o t) = (S' k && writes o t) := by
        cases hw : writes o t with
        | false => simp
        | true => simp [h k (Nat.le_refl _) o (by simp) hw]
      rw [h0]
      exact lwGo_congr os (k + 1) _ fun j hj o' ho' hw' => h j (by omega) o' (by
        have e : j - k = (j - (k + 1)) + 1 := by omega
        rw [e]; simpa using ho') hw'
theorem lw_congr {S S' : Nat → Bool} {t : Nat} {os : List Oper} (h : ∀ j o, os[j]? = some o → writes o t = true → S j = S' j) : lw os S t = lw os S' t :=
  lwGo_congr os 0 none fun j _ o ho hw => h j o (by simpa using ho) hw

theorem lwGo_some {S : Nat → Bool} {t i : Nat} : ∀ (os : List Oper) (k : Nat) (acc : Option Nat), lwGo S t k os acc = some i →
    acc = some i ∨ (k ≤ i ∧ S i = true ∧ ∃ o, os[i - k]? = some o ∧ writes o t = true)
  | [], _, _, h => .inl h
  | o :: os, k, acc, h => by
      simp only [lwGo] at h
      rcases lwGo_some os (k + 1) _ h with h1 | ⟨h1, h2, o', h3, h4⟩
      · cases hb : (S k && writes o t) with
        | false => rw [hb] at h1; exact .inl h1
        | true =>
          rw [hb] at h1
          obtain rfl : k = i := by simpa using h1
          simp only [Bool.and_eq_true] at hb
          exact .inr ⟨Nat.le_refl _, hb.1, o, by simp, hb.2⟩
      · refine .inr ⟨by omega, h2, o', ?_, h4⟩
        have e : i - k = (i - (k + 1)) + 1 := by omega
        rw [e]; simpa using h3
theorem lw_some {S : Nat → Bool} {t i : Nat} {os : List Oper} (h : lw os S t = some i) : S i = true ∧ ∃ o, os[i]? = some o ∧ writes o t = true := by
  rcases lwGo_some os 0 none h with h | ⟨_, h2, h3⟩
  · simp at h
  · exact ⟨h2, by simpa using h3⟩

/-- putting i in: of a slot that i writes, i is the last writer, if it comes behind all writers in S -/
theorem lwGo_put {S : Nat → Bool} {t i : Nat} : ∀ (os : List Oper) (k : Nat) (acc : Option Nat), k ≤ i → (∃ o, os[i - k]? = some o ∧ writes o t = true) →
    (∀ j o, i < j → os[j - k]? = some o → writes o t = true → S j = false) →
    lwGo (fun j => S j || Nat.beq j i) t k os acc = some i
  | [], k, acc, hk, ⟨o, ho, _⟩, _ => by simp at ho
  | o :: os, k, acc, hk, ⟨o', ho', hw'⟩, hS => by
      simp only [lwGo]
      by_cases hki : k = i
      · subst hki
        simp at ho'
        subst ho'
        have hb : ((S k || Nat.beq k k) && writes o t) = true := by simp [hw']
        rw [hb]
        have : lwGo (fun j => S j || Nat.beq j k) t (k + 1) os (some k) = lwGo (fun _ => false) t (k + 1) os (some k) := by
          refine lwGo_congr os (k + 1) _ fun j hj o' ho' hw' => ?_
          have h1 := hS j o' (by omega) (by
            have e : j - k = (j - (k + 1)) + 1 := by omega
            rw [e]; simpa using ho') hw'
          have h2 : Nat.beq j k = false := by
            cases hb : Nat.beq j k with
            | false => rfl
            | true => have := Nat.eq_of_beq_eq_true hb; omega
          simp [h1, h2]
        rw [show (bif true then some k else acc) = some k from rfl, this]
        have hz : ∀ (os : List Oper) (k' : Nat) (acc : Option Nat), lwGo (fun _ => false) t k' os acc = acc := by
          intro os
          induction os with
          | nil => intro _ _; rfl
          | cons _ _ ih => intro k' acc; simp [lwGo, ih]
        rw [hz]
      · refine lwGo_put os (k + 1) _ (by omega) ⟨o', ?_, hw'⟩ fun j o'' hj ho'' hw'' => hS j o'' hj ?_ hw''
        · have e : i - k = (i - (k + 1)) + 1 := by omega
          rw [e] at ho'; simpa using ho'
        · have e : j - k = (j - (k + 1)) + 1 := by omega
          rw [e]; simpa using ho''

/-! ### what comes before -/
def DownClosed (os : List Oper) (S : Nat → Bool) : Prop := ∀ i o e, os[i]? = some o → e ∈ o.after → Region.binds .any e = true → S i = true → S e.on = true

theorem foldEdge_testBit (acc : Array Nat) (k : Nat) : ∀ (es : List Edge) (s : Nat),
    (es.foldl (fun s e => if Region.binds .any e then s ||| 2 ^ e.on ||| acc.getD e.on 0 else s) s).testBit k = true →
    s.testBit k = true ∨ ∃ e ∈ es, Region.binds .any e = true ∧ (e.on = k ∨ (acc.getD e.on 0).testBit k = true)
  | [], s, h => .inl h
  | e :: es, s, h => by
      rw [List.foldl_cons] at h
      rcases foldEdge_testBit acc k es _ h with h | ⟨e', he', hb, hk⟩
      · cases hb : Region.binds .any e with
        | false => rw [hb] at h; exact .inl h
        | true =>
          rw [hb] at h
          simp only [if_true, Nat.testBit_or, Bool.or_eq_true, Nat.testBit_two_pow, decide_eq_true_eq] at h
          rcases h with (h | h) | h
          · exact .inl h
          · exact .inr ⟨e, by simp, hb, .inl h⟩
          · exact .inr ⟨e, by simp, hb, .inr h⟩
      · exact .inr ⟨e', by simp [he'], hb, hk⟩

theorem before_aux (os : List Oper) (S : Nat → Bool) (hd : DownClosed os S) : ∀ (l : List Oper) (acc : Array Nat), (∀ j, l[j]? = os[acc.size + j]?) →
    (∀ i k, (acc.getD i 0).testBit k = true → S i = true → S k = true) →
    ∀ i k, ((l.foldl (fun (acc : Array Nat) o => acc.push (o.after.foldl (fun s e => if Region.binds .any e then s ||| 2 ^ e.on ||| acc.getD e.on 0 else s) 0)) acc).getD i 0).testBit k = true → S i = true → S k = true
  | [], acc, _, ha, i, k, h, hi => ha i k h hi
  | o :: l, acc, hl, ha, i, k, h, hi => by
      rw [List.foldl_cons] at h
      refine before_aux os S hd l _ (fun j => ?_) (fun i k h hi => ?_) i k h hi
      · have := hl (j + 1)
        simp only [List.getElem?_cons_succ] at this
        rw [this]; simp; congr 1; omega
      · by_cases hlt : i < acc.size
        · refine ha i k ?_ hi
          rw [Array.getD_eq_getD_getElem?, Array.getElem?_push_lt hlt] at h
          rw [Array.getD_eq_getD_getElem?, Array.getElem?_eq_getElem hlt]; exact h
        · by_cases he : i = acc.size
          · subst he
            rw [Array.getD_eq_getD_getElem?, Array.getElem?_push_size, Option.getD_some, ← Array.foldl_toList] at h
            rcases foldEdge_testBit acc k _ _ h with h | ⟨e, he, hb, hk⟩
            · simp at h
            · have hS : S e.on = true := hd acc.size o e (by have := hl 0; simpa using this.symm) (by simpa using he) hb hi
              rcases hk with rfl | hk
              · exact hS
              · exact ha _ _ hk hS
          · rw [Array.getD_eq_getD_getElem?, Array.getElem?_eq_none (by simp; omega)] at h
            simp at h
theorem before_closed {os : List Oper} {S : Nat → Bool} (hd : DownClosed os S) {i k : Nat} (h : ((bitsOf os).getD i 0).testBit k = true) (hi : S i = true) : S k = true := by
  unfold bitsOf Region.before at h
  rw [← Array.foldl_toList] at h
  exact before_aux os S hd os #[] (by simp) (by simp) i k h hi

/-! ### the invariant of a region under way -/
structure Inv (E : World → World → Prop) (N : Nat) (D : List Deferred) (os : List Oper) (Φ : Preds) (cs : List Bool) (a : Act) (w : World) (S : Nat → Bool) (a' : Act) (w' : World) : Prop where
  fit : a'.fitD N D
  ext : E w w'
  know : ∀ t, Know os Φ cs a S t w' (a'.get t)
  done : ∀ (i : Nat) (o : Oper), os[i]? = some o → o.dst = none → S i = true → act os cs i = true → ∃ v, pred Φ i w' v

theorem names_of_reads {os : List Oper} {o : Oper} {t : Nat} (h : readsT o t = true) : t ∈ names os o := by
  unfold readsT at h
  rw [List.any_eq_true] at h
  obtain ⟨x, hx, h⟩ := h
  cases x <;> simp at h
  rename_i u
  subst h
  exact List.mem_append_left _ (List.mem_filterMap.2 ⟨_, hx, rfl⟩)

theorem okRegion_spec {N : Nat} {os : List Oper} (h : okRegion N os = true) {i : Nat} {o : Oper} (ho : os[i]? = some o) :
    (∀ e ∈ o.after, Region.binds .any e = true → e.on < i) ∧
    (∀ d, o.dst = some d → d < N ∧ ∀ j o', os[j]? = some o' → i ≠ j → (d ∈ names os o' ∨ o'.dst = some d) → okPair (bitsOf os) i j = true) ∧
    (∀ g want, o.guard = some (g, want) → ((bitsOf os).getD i 0).testBit g = true ∧ ∃ og d, os[g]? = some og ∧ og.dst = some d ∧ lw os (fun j => Nat.blt j i) d = some g) := by
  unfold okRegion at h
  rw [List.all_eq_true] at h
  have hm : (o, i) ∈ os.zipIdx := by
    rw [List.mem_zipIdx_iff_getElem?]; simpa using ho
  have h1 := h _ hm
  simp only [Bool.and_eq_true] at h1
  obtain ⟨⟨h1, h2⟩, h3⟩ := h1
  refine ⟨?_, ?_, ?_⟩
  · intro e he hb
    rw [Array.all_eq_true'] at h1
    have := h1 e he
    simpa [hb] using this
  · intro d hd
    rw [hd] at h2
    simp only [Bool.and_eq_true, decide_eq_true_eq] at h2
    refine ⟨h2.1, fun j o' ho' hij hor => ?_⟩
    have h4 := h2.2
    rw [List.all_eq_true] at h4
    have hm' : (o', j) ∈ os.zipIdx := by
      rw [List.mem_zipIdx_iff_getElem?]; simpa using ho'
    have h5 := h4 _ hm'
    have h6 : (decide (i ≠ j) && ((names os o').contains d || o'.dst == some d)) = true := by
      simp [hij]
      rcases hor with h | h
      · exact .inl h
      · exact .inr h
    rw [h6] at h5
    simpa using h5
  · intro g want hg
    rw [hg] at h3
    simp only [Bool.and_eq_true, Option.any_eq_true, beq_iff_eq] at h3
    obtain ⟨h3, d, hd, hlw⟩ := h3
    rw [Option.bind_eq_some_iff] at hd
    obtain ⟨og, hog, hd⟩ := hd
    exact ⟨h3, og, d, hog, hd, hlw⟩

theorem lw_at {N : Nat} {os : List Oper} (hok : okRegion N os = true) {S : Nat → Bool} (hd : DownClosed os S) {i : Nat} {o : Oper} (ho : os[i]? = some o) (hi : S i = false)
    (hpre : ∀ e ∈ o.after, Region.binds .any e = true → S e.on = true) {t : Nat} (ht : t ∈ names os o) :
    lw os S t = lw os (fun j => Nat.blt j i) t := by
  refine lw_congr fun j oj hoj hw => ?_
  have hdst : oj.dst = some t := by
    unfold writes at hw
    cases hd : oj.dst with
    | none => simp [hd] at hw
    | some d => rw [hd] at hw; exact congrArg some (Nat.eq_of_beq_eq_true hw)
  have hS' : DownClosed os (fun j => S j || Nat.beq j i) := by
    intro j oj e hoj he hb hj
    simp only [Bool.or_eq_true] at hj ⊢
    rcases hj with hj | hj
    · exact .inl (hd j oj e hoj he hb hj)
    · obtain rfl := Nat.eq_of_beq_eq_true hj
      rw [ho] at hoj; cases hoj
      exact .inl (hpre e he hb)
  have hb : ∀ a b : Nat, Nat.blt a b = decide (a < b) := fun a b => by
    cases h : Nat.blt a b with
    | true => simp [Nat.blt_eq] at h; simp [h]
    | false => symm; simp; have h' : ¬ (Nat.blt a b = true) := by simp [h]
               rw [Nat.blt_eq] at h'; omega
  rw [hb]
  by_cases hji : j = i
  · subst hji; simp [hi]
  have hp := ((okRegion_spec hok hoj).2.1 t hdst).2 i o ho hji (.inl ht)
  unfold okPair at hp
  by_cases hlt : j < i
  · rw [Nat.max_eq_right (by omega), Nat.min_eq_left (by omega)] at hp
    have := before_closed hS' hp (by simp)
    simp only [Bool.or_eq_true] at this
    rcases this with h | h
    · simp [h, hlt]
    · have := Nat.eq_of_beq_eq_true h; omega
  · rw [Nat.max_eq_left (by omega), Nat.min_eq_right (by omega)] at hp
    cases hSj : S j with
    | false => simp; omega
    | true => have := before_closed hd hp hSj; rw [hi] at this; cases this

theorem actN_fuel {os : List Oper} {cs : List Bool} (hdec : ∀ (i : Nat) (o : Oper) (g : Nat) (w : Bool), os[i]? = some o → o.guard = some (g, w) → g < i) : ∀ (i n m : Nat), i < n → i < m → actN os cs n i = actN os cs m i := by
  intro i
  induction i using Nat.strongRecOn with
  | _ i ih =>
    intro n m hn hm
    obtain ⟨n, rfl⟩ : ∃ k, n = k + 1 := ⟨n - 1, by omega⟩
    obtain ⟨m, rfl⟩ : ∃ k, m = k + 1 := ⟨m - 1, by omega⟩
    simp only [actN]
    cases ho : os[i]? with
    | none => rfl
    | some o =>
      cases hg : o.guard with
      | none => simp [hg]
      | some p =>
        obtain ⟨g, w⟩ := p
        have hlt := hdec i o g w ho hg
        simp only [Option.bind_some, hg]
        rw [ih g hlt n m (by omega) (by omega)]
theorem act_none {os : List Oper} {cs : List Bool} {i : Nat} {o : Oper} (ho : os[i]? = some o) (hg : o.guard = none) : act os cs i = true := by
  simp [act, actN, ho, hg]
theorem act_some {os : List Oper} {cs : List Bool} (hdec : ∀ (i : Nat) (o : Oper) (g : Nat) (w : Bool), os[i]? = some o → o.guard = some (g, w) → g < i) {i g : Nat} {w : Bool} {o : Oper} (ho : os[i]? = some o) (hg : o.guard = some (g, w)) :
    act os cs i = (act os cs g && (cs.getD g false == w)) := by
  have := hdec i o g w ho hg
  simp only [act, actN, ho, Option.bind_some, hg]
  rw [actN_fuel hdec g i (g + 1) this (by omega)]
  rfl

theorem ok_guard_lt {N : Nat} {os : List Oper} (hok : okRegion N os = true) : ∀ (i : Nat) (o : Oper) (g : Nat) (w : Bool), os[i]? = some o → o.guard = some (g, w) → g < i := by
  intro i o g w ho hg
  obtain ⟨_, _, h3⟩ := okRegion_spec hok ho
  obtain ⟨_, og, d, hog, hd, hlw⟩ := h3 g w hg
  have := (lw_some hlw).1
  rw [Nat.blt_eq] at this; exact this

/-- What is asked of the predicates. -/
structure Good (E : World → World → Prop) (os : List Oper) (Φ : Preds) (cs : List Bool) : Prop where
  stable : ∀ i w w' v, E w w' → pred Φ i w v → pred Φ i w' v
  guards : ∀ (i : Nat) (o : Oper) (g : Nat) (want : Bool), os[i]? = some o → o.guard = some (g, want) → ∀ w v, pred Φ g w v → v = .bool (cs.getD g false)

theorem blt_dec (a b : Nat) : Nat.blt a b = decide (a < b) := by
  cases h : Nat.blt a b with
  | true => simp [Nat.blt_eq] at h; simp [h]
  | false =>
    symm; simp
    have h' : ¬ (Nat.blt a b = true) := by simp [h]
    rw [Nat.blt_eq] at h'; omega
theorem beq_dec (a b : Nat) : Nat.beq a b = decide (a = b) := by
  cases h : Nat.beq a b with
  | true => simp [Nat.eq_of_beq_eq_true h]
  | false => symm; simp; intro e; subst e; simp at h

theorem inv_put {E : World → World → Prop} (ht : ∀ a b c, E a b → E b c → E a c) {N : Nat} {os : List Oper} {Φ : Preds} {cs : List Bool} {a : Act} {w : World} {S : Nat → Bool} {a' : Act} {w' w'' : World}
    (hok : okRegion N os = true) (hgood : Good E os Φ cs) (hI : Inv E N D os Φ cs a w S a' w') (hd : DownClosed os S) {i : Nat} {o : Oper} (ho : os[i]? = some o) (hi : S i = false)
    (hE : E w' w'') {v : Value} (hv : Left os Φ cs i w'' v) : Inv E N D os Φ cs a w (fun j => S j || Nat.beq j i) (a'.put o.dst v) w'' := by
  refine ⟨fit_put hI.fit _ _, ht _ _ _ hI.ext hE, fun t => ?_, fun j oj hoj hdj hSj hact => ?_⟩
  rotate_left
  · simp only [Bool.or_eq_true] at hSj
    rcases hSj with hSj | hSj
    · obtain ⟨u, hu⟩ := hI.done j oj hoj hdj hSj hact
      exact ⟨u, hgood.stable _ _ _ _ hE hu⟩
    · obtain rfl := Nat.eq_of_beq_eq_true hSj
      exact ⟨v, hv.on hact⟩
  by_cases hdst : o.dst = some t
  · have hlw : lw os (fun j => S j || Nat.beq j i) t = some i := by
      refine lwGo_put os 0 none (Nat.zero_le _) ⟨o, by simpa using ho, by simp [writes, hdst]⟩ fun j oj hj hoj hw => ?_
      simp at hoj
      have hdj : oj.dst = some t := by
        unfold writes at hw
        cases hd : oj.dst with
        | none => simp [hd] at hw
        | some d => rw [hd] at hw; exact congrArg some (Nat.eq_of_beq_eq_true hw)
      have hp := ((okRegion_spec hok hoj).2.1 t hdj).2 i o ho (by omega) (.inr hdst)
      unfold okPair at hp
      rw [Nat.max_eq_left (by omega), Nat.min_eq_right (by omega)] at hp
      cases hSj : S j with
      | false => rfl
      | true => have := before_closed hd hp hSj; rw [hi] at this; cases this
    unfold Know
    rw [hlw, hdst]
    simp only []
    rw [get_put_same hI.fit ((okRegion_spec hok ho).2.1 t hdst).1]
    exact hv
  · have hlw : lw os (fun j => S j || Nat.beq j i) t = lw os S t := by
      refine lw_congr fun j oj hoj hw => ?_
      by_cases hji : j = i
      · subst hji
        rw [ho] at hoj; cases hoj
        unfold writes at hw
        cases hd : o.dst with
        | none => simp [hd] at hw
        | some d => rw [hd] at hw; exact absurd (by rw [hd, Nat.eq_of_beq_eq_true hw]) hdst
      · simp [beq_dec, hji]
    have hget : (a'.put o.dst v).get t = a'.get t := by
      cases hd : o.dst with
      | none => rfl
      | some d => exact get_put_ne (fun e => hdst (by rw [hd, e])) v
    have hk := hI.know t
    unfold Know at hk ⊢
    rw [hlw, hget]
    cases hl : lw os S t with
    | none => rw [hl] at hk; exact hk
    | some j =>
      rw [hl] at hk
      exact ⟨fun h => hgood.stable _ _ _ _ hE (hk.on h), hk.off⟩

theorem inv_step {E : World → World → Prop} (hr : ∀ w, E w w) (ht : ∀ a b c, E a b → E b c → E a c) {P : Program} {Q : Exit → Act → World → Prop} {N : Nat} {os : List Oper} {Φ : Preds} {cs : List Bool} {a : Act} {w : World} {S : Nat → Bool} {a' : Act} {w' : World}
    (hok : okRegion N os = true) (hgood : Good E os Φ cs) (hI : Inv E N D os Φ cs a w S a' w') (hd : DownClosed os S) {i : Nat} {o : Oper} (ho : os[i]? = some o) (hi : S i = false)
    (hpre : ∀ e ∈ o.after, Region.binds .any e = true → S e.on = true) (hobl : Obl E P os Φ cs a w i o)
    (K : Act → World → Prop) (hK : ∀ a'' w'', Inv E N D os Φ cs a w (fun j => S j || Nat.beq j i) a'' w'' → K a'' w'') :
    if Region.wanted o (yielded os.toArray a'.tmps) then o.wp P a' w' K Q else K (a'.put o.dst undef) w' := by
  have hrun : act os cs i = true → o.wp P a' w' K Q := fun hact =>
    hobl a' w' hI.ext (fun t ht => by
      have := hI.know t
      unfold Know at this ⊢
      rwa [lw_at hok hd ho hi hpre (names_of_reads ht)] at this) hact K Q
      (fun v w'' hE hv => hK _ _ (inv_put ht hok hgood hI hd ho hi hE ⟨fun _ => hv, fun h => by rw [hact] at h; cases h⟩))
  have hskip : act os cs i = false → K (a'.put o.dst undef) w' := fun hact =>
    hK _ _ (inv_put ht hok hgood hI hd ho hi (hr _) ⟨(fun h => by rw [hact] at h; cases h), fun _ => rfl⟩)
  cases hg : o.guard with
  | none =>
    have : Region.wanted o (yielded os.toArray a'.tmps) = true := by simp [Region.wanted, hg]
    rw [if_pos this]
    exact hrun (act_none ho hg)
  | some p =>
    obtain ⟨g, want⟩ := p
    obtain ⟨_, _, h3⟩ := okRegion_spec hok ho
    obtain ⟨_, og, d, hog, hdst, hlw⟩ := h3 g want hg
    have hkd := hI.know d
    unfold Know at hkd
    have hnm : d ∈ names os o := by
      unfold names
      rw [hg]
      exact List.mem_append_right _ (by simp [hog, hdst])
    rw [lw_at hok hd ho hi hpre hnm, hlw] at hkd
    simp only [] at hkd
    have hact := act_some (cs := cs) (ok_guard_lt hok) ho hg
    have hdN : d < a'.tmps.size := by rw [hI.fit.size]; exact ((okRegion_spec hok hog).2.1 d hdst).1
    have hget : a'.tmps[d]? = some (a'.get d) := by
      simp [Act.get, Array.getD_eq_getD_getElem?, Array.getElem?_eq_getElem hdN]
    have hy : yielded os.toArray a'.tmps g = (match a'.get d with | .bool b => some b | _ => none) := by
      unfold yielded
      simp only [List.getElem?_toArray, hog, Option.bind_some, hdst, hget]
      cases a'.get d <;> rfl
    cases hag : act os cs g with
    | false =>
      have h := hkd.off hag
      rw [hag] at hact
      have hw : Region.wanted o (yielded os.toArray a'.tmps) = false := by
        simp only [Region.wanted, hg, hy, h, undef]; rfl
      rw [if_neg (by rw [hw]; exact Bool.false_ne_true)]
      exact hskip (by simpa using hact)
    | true =>
      have h := hgood.guards i o g want ho hg _ _ (hkd.on hag)
      rw [hag, Bool.true_and] at hact
      have hw : Region.wanted o (yielded os.toArray a'.tmps) = act os cs i := by
        simp only [Region.wanted, hg, hy, h, hact]
        cases cs.getD g false <;> cases want <;> rfl
      rw [hw]
      cases hb : act os cs i with
      | true => rw [if_pos rfl]; exact hrun hb
      | false => rw [if_neg Bool.false_ne_true]; exact hskip hb

theorem getD_set_true (l : Array Bool) (i j : Nat) (hi : i < l.size) : (l.setIfInBounds i true).getD j false = (l.getD j false || Nat.beq j i) := by
  rw [beq_dec]
  by_cases h : j = i
  · subst h; simp [Array.getD_eq_getD_getElem?, hi]
  · simp [Array.getD_eq_getD_getElem?, Array.getElem?_setIfInBounds_ne (Ne.symm h), h]

/-- The operations from m on come in the order of the text, each behind all before it. -/
def tailOk (os : List Oper) (m : Nat) : Bool :=
  let b := bitsOf os
  (List.range os.length).all fun k => !Nat.ble m k || (List.range k).all fun j => (b.getD k 0).testBit j
theorem tailOk_spec {os : List Oper} {m : Nat} (h : tailOk os m = true) {j k : Nat} (hk : k < os.length) (hm : m ≤ k) (hj : j < k) : ((bitsOf os).getD k 0).testBit j = true := by
  unfold tailOk at h
  simp only [List.all_eq_true, List.mem_range] at h
  have := h k hk
  have hb : Nat.ble m k = true := by rw [Nat.ble_eq]; exact hm
  simp only [hb, Bool.not_true, Bool.false_or, List.all_eq_true, List.mem_range] at this
  exact this j hj

theorem any_tail {P : Program} {Q : Exit → Act → World → Prop} {N : Nat} {os : List Oper} {m : Nat} (hok : okRegion N os = true) (ht : tailOk os m = true) :
    ∀ (n k fuel : Nat) (listed : Array Bool) (a : Act) (w : World), k + n = os.length → m ≤ k → n ≤ fuel → listed.size = os.length → (∀ j, listed.getD j false = Nat.blt j k) →
      wpOps P os.toArray Q (List.range' k n) a w → wpAny P .any os.toArray Q fuel listed a w := by
  intro n
  induction n with
  | zero =>
    intro k fuel listed a w hk hm hf hs hl h
    have hnil : Region.ready .any os.toArray listed = [] := by
      unfold Region.ready
      rw [List.filter_eq_nil_iff]
      intro i hi
      have hi' : i < listed.size := by simp at hi; omega
      have hli := hl i
      rw [blt_dec] at hli
      have : listed.getD i true = true := by
        simp [Array.getD_eq_getD_getElem?, hi'] at hli ⊢
        rw [hli, decide_eq_true_eq]; omega
      simp [this]
    have hQ : Q .normal a w := by simpa [wpOps] using h
    cases fuel with
    | zero => exact ⟨hnil, hQ⟩
    | succ fuel => exact ⟨fun _ => hQ, fun i hi => by rw [hnil] at hi; cases hi⟩
  | succ n ih =>
    intro k fuel listed a w hk hm hf hs hl h
    obtain ⟨fuel, rfl⟩ : ∃ f, fuel = f + 1 := ⟨fuel - 1, by omega⟩
    have hk' : k < os.length := by omega
    have ho : os[k]? = some os[k] := List.getElem?_eq_getElem hk'
    have hkl : k < listed.size := by omega
    have hready : k ∈ Region.ready .any os.toArray listed := by
      unfold Region.ready
      rw [List.mem_filter]
      refine ⟨by simpa using hk', ?_⟩
      have hlk := hl k
      rw [blt_dec] at hlk
      have hlt : listed.getD k true = false := by
        simp [Array.getD_eq_getD_getElem?, hkl] at hlk ⊢; exact hlk
      simp only [hlt, Bool.not_false, Bool.true_and, List.getElem?_toArray, ho, Option.map_some, Option.getD_some]
      rw [Array.all_eq_true']
      intro e he
      cases hb : Region.binds .any e with
      | false => rfl
      | true => simp only [Bool.not_true, Bool.false_or]; rw [hl, blt_dec]; simpa using (okRegion_spec hok ho).1 e he hb
    refine ⟨fun hnil => (by rw [hnil] at hready; cases hready), fun i hi => ?_⟩
    have hik : i = k := by
      unfold Region.ready at hi
      rw [List.mem_filter] at hi
      obtain ⟨hlt, hi⟩ := hi
      have hlt : i < os.length := by simpa using hlt
      have hoi : os[i]? = some os[i] := List.getElem?_eq_getElem hlt
      simp only [Bool.and_eq_true, Bool.not_eq_true', List.getElem?_toArray, hoi, Option.map_some, Option.getD_some] at hi
      obtain ⟨hnl, hpre⟩ := hi
      have hi' : i < listed.size := by omega
      have hli : listed.getD i false = false := by
        simp [Array.getD_eq_getD_getElem?, hi'] at hnl ⊢; exact hnl
      have hge : k ≤ i := by
        rw [hl, blt_dec] at hli; simpa using hli
      rcases Nat.lt_or_ge k i with hgt | hle
      · exfalso
        have hbit := tailOk_spec ht hlt (by omega) hgt
        have hdc : DownClosed os (fun j => listed.getD j false || Nat.beq j i) := by
          intro j oj e hoj he hb hj
          simp only [Bool.or_eq_true] at hj ⊢
          rcases hj with hj | hj
          · left
            rw [hl, blt_dec, decide_eq_true_eq] at hj ⊢
            have := (okRegion_spec hok hoj).1 e he hb
            omega
          · obtain rfl := Nat.eq_of_beq_eq_true hj
            rw [hoi] at hoj; cases hoj
            left
            rw [Array.all_eq_true'] at hpre
            have := hpre e he
            simpa [hb] using this
        have := before_closed hdc hbit (by simp)
        simp only [Bool.or_eq_true] at this
        rcases this with h | h
        · rw [hl, blt_dec] at h; simp at h
        · have := Nat.eq_of_beq_eq_true h; omega
      · omega
    subst hik
    rw [List.range'_succ, wpOps_cons] at h
    refine wpOp_mono (fun a w h => ?_) h
    refine ih (i + 1) fuel _ a w (by omega) (by omega) (by omega) (by simp [hs]) (fun j => ?_) h
    rw [getD_set_true _ _ _ hkl, hl, blt_dec, blt_dec, beq_dec]
    by_cases h : j < i + 1 <;> by_cases h2 : j < i <;> by_cases h3 : j = i <;> simp [h, h2, h3] <;> omega

theorem any_step {E : World → World → Prop} (hr : ∀ w, E w w) (ht : ∀ a b c, E a b → E b c → E a c) {P : Program} {Q : Exit → Act → World → Prop} {N : Nat} {os : List Oper} {Φ : Preds} {cs : List Bool} {a : Act} {w : World}
    {m : Nat} (hmle : m ≤ os.length) (htl : tailOk os m = true)
    (hok : okRegion N os = true) (hgood : Good E os Φ cs) (hobl : ∀ i o, i < m → os[i]? = some o → Obl E P os Φ cs a w i o)
    (hQ : ∀ a' w', Inv E N D os Φ cs a w (fun j => Nat.blt j m) a' w' → wpOps P os.toArray Q (List.range' m (os.length - m)) a' w') :
    ∀ (fuel : Nat) (listed : Array Bool), listed.size = os.length → os.length ≤ fuel + (listed.toList.countP (· = true)) → (∀ j, listed.getD j false = true → j < m) → DownClosed os (fun j => listed.getD j false) → ∀ a' w', Inv E N D os Φ cs a w (fun j => listed.getD j false) a' w' →
      wpAny P .any os.toArray Q fuel listed a' w' := by
  have full : ∀ (fuel : Nat) (listed : Array Bool), listed.size = os.length → os.length ≤ fuel + (listed.toList.countP (· = true)) → (∀ j, listed.getD j false = Nat.blt j m) →
      ∀ a' w', Inv E N D os Φ cs a w (fun j => listed.getD j false) a' w' → wpAny P .any os.toArray Q fuel listed a' w' := by
    intro fuel listed hs hc hl a' w' hI
    have hcount : listed.toList.countP (· = true) ≤ m := by
      have h1 : listed.toList = (List.range listed.size).map (fun j => Nat.blt j m) := by
        apply List.ext_getElem
        · simp
        · intro i h1 h2
          have := hl i
          have hi : i < listed.size := by simpa using h1
          simp [Array.getD_eq_getD_getElem?, hi] at this
          simp [this]
      rw [h1, List.countP_map]
      have : ∀ n : Nat, (List.range n).countP ((fun b => decide (b = true)) ∘ fun j => Nat.blt j m) ≤ m := by
        intro n
        have h2 : ∀ n : Nat, (List.range n).countP ((fun b => decide (b = true)) ∘ fun j => Nat.blt j m) = min n m := by
          intro n
          induction n with
          | zero => simp
          | succ n ih =>
            rw [List.range_succ, List.countP_append, ih]
            simp only [List.countP_cons, List.countP_nil, Function.comp, blt_dec]
            by_cases h : n < m <;> simp [h] <;> omega
        rw [h2]; omega
      exact this _
    refine any_tail hok htl (os.length - m) m fuel listed a' w' (by omega) (Nat.le_refl _) (by omega) hs hl (hQ a' w' ?_)
    have : (fun j => listed.getD j false) = (fun j => Nat.blt j m) := funext hl
    rwa [this] at hI
  have pre_full : ∀ (listed : Array Bool), (∀ j, listed.getD j false = true → j < m) → (∀ i, i < m → listed.getD i false = true) → ∀ j, listed.getD j false = Nat.blt j m := by
    intro listed h1 h2 j
    rw [blt_dec]
    by_cases h : j < m
    · simp [h, h2 j h]
    · cases hl : listed.getD j false with
      | false => simp [h]
      | true => exact absurd (h1 j hl) h
  intro fuel
  induction fuel with
  | zero =>
    intro listed hs hc hm hd a' w' hI
    have hc' : listed.toList.countP (· = true) = listed.toList.length := by
      have := List.countP_le_length (p := (fun b => decide (b = true))) (l := listed.toList)
      simp only [Array.length_toList] at this ⊢; omega
    rw [List.countP_eq_length] at hc'
    refine full 0 listed hs hc (pre_full listed hm fun i hi => ?_) a' w' hI
    have hi' : i < listed.size := by omega
    have hli := hc' listed[i] (by simp)
    simp [Array.getD_eq_getD_getElem?, hi']; simpa using hli
  | succ fuel ih =>
    intro listed hs hc hm hd a' w' hI
    by_cases hall : ∀ i, i < m → listed.getD i false = true
    · exact full (fuel + 1) listed hs hc (pre_full listed hm hall) a' w' hI
    · have hex : ∃ i, i < m ∧ listed.getD i false = false ∧ ∀ j, j < i → listed.getD j false = true := by
        have key : ∀ n, (∀ j, j < n → listed.getD j false = true) ∨ ∃ i, i < n ∧ listed.getD i false = false ∧ ∀ j, j < i → listed.getD j false = true := by
          intro n
          induction n with
          | zero => exact .inl (by intro j hj; omega)
          | succ n ihn =>
            rcases ihn with h | ⟨i, h1, h2⟩
            · cases hn : listed.getD n false with
              | true => refine .inl fun j hj => ?_
                        rcases Nat.lt_or_ge j n with h' | h'
                        · exact h j h'
                        · obtain rfl : j = n := by omega
                          exact hn
              | false => exact .inr ⟨n, by omega, hn, h⟩
            · exact .inr ⟨i, by omega, h2⟩
        rcases key m with h | h
        · exact absurd h hall
        · exact h
      refine ⟨fun hnil => ?_, fun i hi => ?_⟩
      · exfalso
        obtain ⟨i, him, hif, hj⟩ := hex
        have hlt : i < os.length := by omega
        have hrm : i ∈ Region.ready .any os.toArray listed := by
          unfold Region.ready
          rw [List.mem_filter]
          refine ⟨by simpa using hlt, ?_⟩
          have hl' : listed.getD i true = false := by
            have : i < listed.size := by omega
            simp [Array.getD_eq_getD_getElem?, this] at hif ⊢; exact hif
          have ho : os[i]? = some os[i] := List.getElem?_eq_getElem hlt
          simp only [hl', Bool.not_false, Bool.true_and, List.getElem?_toArray, ho, Option.map_some, Option.getD_some]
          rw [Array.all_eq_true']
          intro e he
          cases hb : Region.binds .any e with
          | false => rfl
          | true => simp [hj e.on ((okRegion_spec hok ho).1 e he hb)]
        rw [hnil] at hrm; cases hrm
      · unfold Region.ready at hi
        rw [List.mem_filter] at hi
        obtain ⟨hlt, hi⟩ := hi
        have hlt : i < os.length := by simpa using hlt
        have ho : os[i]? = some os[i] := List.getElem?_eq_getElem hlt
        simp only [Bool.and_eq_true, Bool.not_eq_true', List.getElem?_toArray, ho, Option.map_some, Option.getD_some] at hi
        obtain ⟨hnl, hpre⟩ := hi
        have hi' : i < listed.size := by omega
        have hli : listed.getD i false = false := by
          simp [Array.getD_eq_getD_getElem?, hi'] at hnl ⊢; exact hnl
        have hpre' : ∀ e ∈ os[i].after, Region.binds .any e = true → listed.getD e.on false = true := by
          rw [Array.all_eq_true'] at hpre
          intro e he hb
          have := hpre e he
          simpa [hb] using this
        have him : i < m := by
          rcases Nat.lt_or_ge i m with h | h
          · exact h
          · exfalso
            refine hall fun j hj => ?_
            have hbit := tailOk_spec htl hlt h (show j < i by omega)
            have hdc : DownClosed os (fun j => listed.getD j false || Nat.beq j i) := by
              intro j oj e hoj he hb hj
              simp only [Bool.or_eq_true] at hj ⊢
              rcases hj with hj | hj
              · exact .inl (hd j oj e hoj he hb hj)
              · obtain rfl := Nat.eq_of_beq_eq_true hj
                rw [ho] at hoj; cases hoj
                exact .inl (hpre' e he hb)
            have := before_closed hdc hbit (by simp)
            simp only [Bool.or_eq_true] at this
            rcases this with h' | h'
            · exact h'
            · have := Nat.eq_of_beq_eq_true h'; omega
        have hstep := inv_step (Q := Q) hr ht hok hgood hI hd ho hli hpre' (hobl i _ him ho) (wpAny P .any os.toArray Q fuel (listed.setIfInBounds i true)) (fun a'' w'' hI' => by
          refine ih _ (by simp [hs]) ?_ ?_ ?_ a'' w'' ?_
          · have hc2 : (listed.setIfInBounds i true).toList.countP (· = true) = listed.toList.countP (· = true) + 1 := by
              rw [Array.toList_setIfInBounds, List.countP_set (by simpa using hi')]
              have : listed[i] = false := by simpa [Array.getD_eq_getD_getElem?, hi'] using hli
              simp [this]
            omega
          · intro j hj
            rw [getD_set_true _ _ _ hi', Bool.or_eq_true] at hj
            rcases hj with hj | hj
            · exact hm j hj
            · have := Nat.eq_of_beq_eq_true hj; omega
          · intro j oj e hoj he hb hj
            simp only [getD_set_true _ _ _ hi'] at hj ⊢
            simp only [Bool.or_eq_true] at hj ⊢
            rcases hj with hj | hj
            · exact .inl (hd j oj e hoj he hb hj)
            · obtain rfl := Nat.eq_of_beq_eq_true hj
              rw [ho] at hoj; cases hoj
              exact .inl (hpre' e he hb)
          · have : (fun j => (listed.setIfInBounds i true).getD j false) = (fun j => listed.getD j false || Nat.beq j i) := funext fun j => getD_set_true _ _ _ hi'
            rw [this]; exact hI')
        unfold wpOp
        simp only [List.getElem?_toArray, ho]
        split at hstep
        · rename_i hw; rw [if_pos hw]; exact .inl hstep
        · rename_i hw; rw [if_neg hw]; exact hstep

theorem text_step {E : World → World → Prop} (hr : ∀ w, E w w) (ht : ∀ a b c, E a b → E b c → E a c) {P : Program} {Q : Exit → Act → World → Prop} {N : Nat} {os : List Oper} {Φ : Preds} {cs : List Bool} {a : Act} {w : World}
    {m : Nat} (hmle : m ≤ os.length)
    (hok : okRegion N os = true) (hgood : Good E os Φ cs) (hobl : ∀ i o, i < m → os[i]? = some o → Obl E P os Φ cs a w i o)
    (hQ : ∀ a' w', Inv E N D os Φ cs a w (fun j => Nat.blt j m) a' w' → wpOps P os.toArray Q (List.range' m (os.length - m)) a' w') :
    ∀ (n i : Nat), i + n = m → ∀ a' w', Inv E N D os Φ cs a w (fun j => Nat.blt j i) a' w' → wpOps P os.toArray Q (List.range' i (os.length - i)) a' w' := by
  intro n
  induction n with
  | zero =>
    intro i hi a' w' hI
    obtain rfl : i = m := by omega
    exact hQ a' w' hI
  | succ n ih =>
    intro i hi a' w' hI
    have hlt : i < os.length := by omega
    have ho : os[i]? = some os[i] := List.getElem?_eq_getElem hlt
    have hdc : DownClosed os (fun j => Nat.blt j i) := by
      intro j oj e hoj he hb hj
      simp only [blt_dec, decide_eq_true_eq] at hj ⊢
      have := (okRegion_spec hok hoj).1 e he hb
      omega
    have hstep := inv_step (Q := Q) hr ht hok hgood hI hdc ho (by rw [blt_dec]; simp) (fun e he hb => by
      simp only [blt_dec, decide_eq_true_eq]; exact (okRegion_spec hok ho).1 e he hb) (hobl i _ (by omega) ho) (wpOps P os.toArray Q (List.range' (i + 1) (os.length - (i + 1)))) (fun a'' w'' hI' => by
      refine ih (i + 1) (by omega) a'' w'' ?_
      have : (fun j => Nat.blt j (i + 1)) = (fun j => Nat.blt j i || Nat.beq j i) := funext fun j => by
        rw [blt_dec, blt_dec, beq_dec]
        by_cases h : j < i + 1 <;> by_cases h2 : j < i <;> by_cases h3 : j = i <;> simp [h, h2, h3] <;> omega
      rw [this]; exact hI')
    rw [show os.length - i = (os.length - (i + 1)) + 1 by omega, List.range'_succ, wpOps]
    simp only [List.getElem?_toArray, ho]
    split at hstep
    · rename_i hw; rw [if_pos hw]; exact .inl hstep
    · rename_i hw; rw [if_neg hw]; exact hstep

theorem inv_start {E : World → World → Prop} {N : Nat} {os : List Oper} {Φ : Preds} {cs : List Bool} {a : Act} {w w' : World} {S : Nat → Bool} (hS : ∀ j, j < os.length → S j = false) (hA : a.fitD N D) (hE : E w w') : Inv E N D os Φ cs a w S a w' := by
  refine ⟨hA, hE, fun t => ?_, fun i o ho _ hSi _ => by rw [hS i (List.getElem?_eq_some_iff.1 ho).1] at hSi; cases hSi⟩
  have : lw os S t = none := by
    rw [lw_congr (S' := fun _ => false) fun j o ho _ => hS j (List.getElem?_eq_some_iff.1 ho).1]
    cases h : lw os (fun _ => false) t with
    | none => rfl
    | some i => exact absurd (lw_some h).1 (by simp)
  unfold Know
  rw [this]

/-- **THE REGION RULE**, over a relation E of worlds; the operations from m on are left as a list. -/
theorem region_E {E : World → World → Prop} (hr : ∀ w, E w w) (ht : ∀ a b c, E a b → E b c → E a c) (hdr : ∀ w, E w { w with drawn := w.drawn + 1 })
    {P : Program} {Q : Exit → Act → World → Prop} {N id m : Nat} {os tail : List Oper} {draw : Bool} {Φ : Preds} {cs : List Bool} {a : Act} {w : World} (hm : P.follows .mixedOrders = true)
    (hA : a.fitD N D) (hok : okRegion N os = true) (htl : tailOk os m = true) (hmle : m ≤ os.length) (htail : os.drop m = tail) (hgood : Good E os Φ cs) (hobl : ∀ i o, i < m → os[i]? = some o → Obl E P os Φ cs a w i o)
    (hQ : ∀ a' w', a'.fitD N D → E w w' → (∀ t, Know os Φ cs a (fun j => Nat.blt j m) t w' (a'.get t)) → (∀ (i : Nat) (o : Oper), os[i]? = some o → o.dst = none → i < m → act os cs i = true → ∃ v, pred Φ i w' v) → wpList P os.toArray Q tail a' w') : (Code.region id os.toArray draw).wp P Q a w := by
  have hQ' : ∀ a' w', Inv E N D os Φ cs a w (fun j => Nat.blt j m) a' w' → wpOps P os.toArray Q (List.range' m (os.length - m)) a' w' := fun a' w' h => by
    have := hQ a' w' h.fit h.ext h.know (fun i o ho hd hi hact => h.done i o ho hd (by rw [blt_dec]; simp [hi]) hact)
    rw [← wpOps_eq_wpList tail m (fun j => by rw [← htail]; simp)] at this
    rwa [← htail, List.length_drop] at this
  cases draw with
  | true =>
    refine wp_region_any hm ?_
    refine any_step hr ht hmle htl hok hgood hobl hQ' _ _ (by simp) ?_ ?_ ?_ _ _ (inv_start ?_ hA (hdr w))
    · simp
    · intro j h
      simp [Array.getD_eq_getD_getElem?] at h
      by_cases hi : j < os.length <;> simp [hi] at h
    · intro i o e _ _ _ h
      simp [Array.getD_eq_getD_getElem?] at h
      by_cases hi : i < os.length <;> simp [hi] at h
    · intro j hj; simp [Array.getD_eq_getD_getElem?, hj]
  | false =>
    refine wp_region ?_
    rw [List.range_eq_range']
    have := text_step hr ht (Q := Q) hmle hok hgood hobl hQ' m 0 (by simp) _ _ (inv_start (w' := w) (by intro j _; rw [blt_dec]; simp) hA (hr w))
    simpa using this
end Go.Eng
