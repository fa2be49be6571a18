/- Lifting: equality of what is told by its cells alone; arrays. No statement of the program stands here. -/
import Derived.Test.YtbkmnghnjajdmaaLiy
import Derived.Laws.StructEq
import Derived.ChangeKeysEq
set_option linter.unusedVariables false
set_option linter.unusedSimpArgs false
namespace Go.Lift
open Go Go.RowKit Go.Eng
variable {α β γ δ ε : Type}
/-! ### equality -/
/-- values of a type are equal if what they read as is -/
structure EqR (P : Program) (T : TypeId) (r : GR α) [DecidableEq α] (D : Nat) : Prop where
  run : ∀ d w O1 w1 O2 w2 cs ds x y, r.rel O1 w1 cs x → r.rel O2 w2 ds y → (Op.equalIn (d + D) T (packV r.agg cs) (packV r.agg ds)).run P w = .ok (decide (x = y)) w
  part : ∀ w O1 w1 l1 cs l2 x, r.rel O1 w1 cs x → (part T (l1 ++ (cs ++ l2)).toArray l1.length).run P w = .ok (packV r.agg cs) w
theorem beq_eqd [BEq α] [LawfulBEq α] [DecidableEq α] (a b : α) : (a == b) = decide (a = b) := by
  by_cases h : a = b
  · subst h; simp
  · rw [decide_eq_false h]; simp [h]
section
variable {P : Program}
theorem get_mid (l1 : List Value) (v : Value) (l2 : List Value) : (l1 ++ ([v] ++ l2)).toArray[l1.length]? = some v := by simp
theorem eqr_int {T : TypeId} {k : IntKind} {z sz by_} (h : Ty P T (.int k) z sz by_) : EqR P T (rInt k) 1 where
  run := fun d w O1 w1 O2 w2 cs ds x y h1 h2 => by
    have e1 : cs = [.int k x] := h1
    have e2 : ds = [.int k y] := h2
    subst e1; subst e2
    show (Op.equalIn (d + 1) T (.int k x) (.int k y)).run P w = _
    rw [run_equalIn_int w d T k k x y h.u, beq_eqd]
  part := fun w O1 w1 l1 cs l2 x h1 => by
    have e1 : cs = [.int k x] := h1
    subst e1
    exact run_part_plain w (by simp [Program.plainKey, h.u]) (get_mid _ _ _)
theorem eqr_bool {T : TypeId} {z sz by_} (h : Ty P T .bool z sz by_) : EqR P T rBool 1 where
  run := fun d w O1 w1 O2 w2 cs ds x y h1 h2 => by
    have e1 : cs = [.bool x] := h1
    have e2 : ds = [.bool y] := h2
    subst e1; subst e2
    show (Op.equalIn (d + 1) T (.bool x) (.bool y)).run P w = _
    rw [run_equalIn_bool' w d T x y h.u, beq_eqd]
  part := fun w O1 w1 l1 cs l2 x h1 => by
    have e1 : cs = [.bool x] := h1
    subst e1
    exact run_part_plain w (by simp [Program.plainKey, h.u]) (get_mid _ _ _)
theorem str_toList (x : Bytes) : (str x).toList = x := by rw [ByteArray.toList_eq]; simp [str]
theorem eqr_str {T : TypeId} {z sz by_} (h : Ty P T .string z sz by_) : EqR P T rStr 1 where
  run := fun d w O1 w1 O2 w2 cs ds x y h1 h2 => by
    have e1 : cs = [.string (str x)] := h1
    have e2 : ds = [.string (str y)] := h2
    subst e1; subst e2
    show (Op.equalIn (d + 1) T (.string (str x)) (.string (str y))).run P w = _
    rw [run_equalIn_string w d T _ _ h.u, str_toList, str_toList, beq_eqd]
  part := fun w O1 w1 l1 cs l2 x h1 => by
    have e1 : cs = [.string (str x)] := h1
    subst e1
    exact run_part_plain w (by simp [Program.plainKey, h.u]) (get_mid _ _ _)
theorem part_agg {T : TypeId} {dd z sz by_} (h : Ty P T dd z sz by_) (hd : isAggD dd = true) (w : World) (l1 cs l2 : List Value) (hl : cs.length = sz) : (part T (l1 ++ (cs ++ l2)).toArray l1.length).run P w = .ok (.agg cs.toArray) w := by
  have e : (l1 ++ (cs ++ l2)).toArray.extract l1.length (l1.length + sz) = cs.toArray := by
    apply Array.ext'
    rw [Array.toList_extract]
    simp [List.extract, ← hl]
  simp only [part, Sem.run_bind, h.run_agg, hd, Result.andThen_ok, if_true, h.run_size, e, Sem.run_pure]
inductive EqFs (P : Program) (r : GR γ) (D : Nat) : List Field → (γ → γ → Bool) → Prop
  | nil : EqFs P r D [] (fun _ _ => true)
  | cons {α : Type} [DecidableEq α] {f : Field} {fs : List Field} {ri : GR α} {p : γ → α} {b : γ → γ → Bool} {Di : Nat} (hn : f.name ≠ "_") (hs : SubR r f.offset ri p) (he : EqR P f.type ri Di) (hD : Di ≤ D) (h : EqFs P r D fs b) : EqFs P r D (f :: fs) (fun x y => decide (p x = p y) && b x y)
theorem EqFs.run {r : GR γ} {D : Nat} {fs : List Field} {b : γ → γ → Bool} (h : EqFs P r D fs b) : ∀ d w O1 w1 cs x O2 w2 ds y, r.rel O1 w1 cs x → r.rel O2 w2 ds y → (Op.eqFields (d + D) cs.toArray ds.toArray fs).run P w = .ok (b x y) w := by
  induction h with
  | nil => intro d w O1 w1 cs x O2 w2 ds y h1 h2; simp [Op.eqFields]
  | @cons α _ f fs ri p b Di hn hs he hD h ih =>
    intro d w O1 w1 cs x O2 w2 ds y h1 h2
    have hih := ih d w O1 w1 cs x O2 w2 ds y h1 h2
    obtain ⟨a1, a2, a3, ea, la, ra⟩ := hs h1
    obtain ⟨b1, b2, b3, eb, lb, rb⟩ := hs h2
    have p1 := he.part w O1 w1 a1 a2 a3 (p x) ra
    have p2 := he.part w O2 w2 b1 b2 b3 (p y) rb
    rw [la, ← ea] at p1
    rw [lb, ← eb] at p2
    have q := he.run (d + (D - Di)) w O1 w1 O2 w2 a2 b2 (p x) (p y) ra rb
    rw [show d + (D - Di) + Di = d + D by omega] at q
    simp only [Op.eqFields, hn, ne_eq, not_false_eq_true, if_true, Sem.run_bind, p1, p2, q, Result.andThen_ok, Sem.run_ite]
    by_cases hxy : p x = p y
    · simp [hxy, hih]
    · simp [hxy]
theorem eqr_struct {T : TypeId} {r : GR γ} [DecidableEq γ] {D : Nat} {dd z sz by_} {fs : List Field} {b : γ → γ → Bool} (hT : Ty P T dd z sz by_) (hd : isAggD dd = true) (ha : r.agg = true) (hs : r.sz = sz) (ht : P.underlying T = some (.struct (P.fieldsOf T))) (hp : P.stoodInHeld T = false) (hf : (P.fieldsOf T).toList = fs)
    (h : EqFs P r D fs b) (hb : ∀ x y, b x y = decide (x = y)) : EqR P T r (D + 1) where
  run := fun d w O1 w1 O2 w2 cs ds x y h1 h2 => by
    rw [ha]
    show (Op.equalIn (d + D + 1) T (.agg cs.toArray) (.agg ds.toArray)).run P w = _
    rw [run_equalIn_struct w (d + D) T _ _ ht hp, hf, h.run d w O1 w1 cs x O2 w2 ds y h1 h2, hb]
  part := fun w O1 w1 l1 cs l2 x h1 => by
    rw [ha]
    exact part_agg hT hd w l1 cs l2 (by rw [r.len h1, hs])
end
section ops
variable {P : Program} {a : Act} {w : World} {d : Option Tmp} {T : TypeId} {pos : String} {aft : Array Edge} {g : Option (Nat × Bool)}
theorem okl_eqlR {x y : Operand} {X Y : TypeId} {r : GR α} [DecidableEq α] {Dp : Nat} (hE : EqR P X r Dp) (ha : r.agg = true) (hD : Dp ≤ 10000) (hg : P.eqGuardType P.depth X = false) {O1 O2 : Tags} {w1 w2 : World} {u v : Value} {s t : α} (hx : a.eval x = u) (hy : a.eval y = v) (h1 : r.v O1 w1 u s) (h2 : r.v O2 w2 v t) :
    Ok P ⟨d, .binOp .eql X x y Y, T, pos, aft, g⟩ a w (SP.isv (.bool (decide (s = t)))).holds := by
  obtain ⟨cs, h3, rfl⟩ := h1
  obtain ⟨ds, h4, rfl⟩ := h2
  have e := hE.run (10000 - Dp) w _ _ _ _ cs ds s t h3 h4
  rw [show 10000 - Dp + Dp = 10000 by omega, ha] at e
  rw [ha] at hx hy
  refine ok_pure ?_
  simp only [packV] at e hx hy
  simp only [execOp, hx, hy, Sem.run_bind, run_eqGuard_agg _ _ _ _ _ _ _ hg, Result.andThen_ok, run_eql_struct, e]
  rfl
theorem okl_neqR {x y : Operand} {X Y : TypeId} {r : GR α} [DecidableEq α] {Dp : Nat} (hE : EqR P X r Dp) (ha : r.agg = true) (hD : Dp ≤ 10000) (hg : P.eqGuardType P.depth X = false) {O1 O2 : Tags} {w1 w2 : World} {u v : Value} {s t : α} (hx : a.eval x = u) (hy : a.eval y = v) (h1 : r.v O1 w1 u s) (h2 : r.v O2 w2 v t) :
    Ok P ⟨d, .binOp .neq X x y Y, T, pos, aft, g⟩ a w (SP.isv (.bool (decide (s ≠ t)))).holds := by
  obtain ⟨cs, h3, rfl⟩ := h1
  obtain ⟨ds, h4, rfl⟩ := h2
  have e := hE.run (10000 - Dp) w _ _ _ _ cs ds s t h3 h4
  rw [show 10000 - Dp + Dp = 10000 by omega, ha] at e
  rw [ha] at hx hy
  have hn : decide (s ≠ t) = !decide (s = t) := by simp
  rw [hn]
  refine ok_pure ?_
  simp only [packV] at e hx hy
  simp only [execOp, hx, hy, Sem.run_bind, run_eqGuard_agg _ _ _ _ _ _ _ hg, Result.andThen_ok, run_neq_struct, e]
  rfl
end ops
/-! ### arrays -/
def cellsA (f : α → List Value) {n : Nat} (x : Vector α n) : List Value := x.toList.flatMap f
theorem flatMap_len {f : α → List Value} {k : Nat} (hf : ∀ x, (f x).length = k) : ∀ l : List α, (l.flatMap f).length = l.length * k
  | [] => by simp
  | x :: l => by rw [List.flatMap_cons, List.length_append, hf, flatMap_len hf l, List.length_cons, Nat.add_mul]; omega
theorem cellsA_len {f : α → List Value} {n k : Nat} (hf : ∀ x, (f x).length = k) (x : Vector α n) : (cellsA f x).length = n * k := by
  unfold cellsA; rw [flatMap_len hf]; simp
theorem cellsA_one {f : α → List Value} {n : Nat} (hf : ∀ x, ∀ c ∈ f x, c.oneCell' = true) (x : Vector α n) : ∀ c ∈ cellsA f x, c.oneCell' = true := by
  intro c hc
  obtain ⟨y, _, hy⟩ := List.mem_flatMap.1 hc
  exact hf y c hy
theorem one_app {l m : List Value} (h : ∀ c ∈ l, c.oneCell' = true) (k : ∀ c ∈ m, c.oneCell' = true) : ∀ c ∈ l ++ m, c.oneCell' = true := fun c hc => (List.mem_append.1 hc).elim (h c) (k c)
def rVec (n k : Nat) (f : α → List Value) (hl : ∀ x, (f x).length = k) (ho : ∀ x, ∀ c ∈ f x, c.oneCell' = true) : GR (Vector α n) := rC true (n * k) (cellsA f) (cellsA_len hl) (cellsA_one ho)
theorem eqItems_run {P : Program} {e : TypeId} {re : GR α} [DecidableEq α] {D k : Nat} {f : α → List Value} (he : EqR P e re D) (hl : ∀ x, (f x).length = k) (hr : ∀ O w x, re.rel O w (f x) x) (d : Nat) (w : World) :
    ∀ (xs ys : List α) (p1 p2 : List Value) (m : Nat), p1.length = m * k → p2.length = m * k → xs.length = ys.length →
      (Op.eqItems (d + D) e k (p1 ++ xs.flatMap f).toArray (p2 ++ ys.flatMap f).toArray (List.range' m xs.length)).run P w = .ok (decide (xs = ys)) w
  | [], [], p1, p2, m, h1, h2, _ => by simp [Op.eqItems]
  | [], _ :: _, _, _, _, _, _, h => by simp at h
  | _ :: _, [], _, _, _, _, _, h => by simp at h
  | x :: xs, y :: ys, p1, p2, m, h1, h2, h => by
      have q1 := he.part w (fun _ => 0) w p1 (f x) (xs.flatMap f) x (hr _ _ x)
      have q2 := he.part w (fun _ => 0) w p2 (f y) (ys.flatMap f) y (hr _ _ y)
      rw [h1] at q1
      rw [h2] at q2
      have q3 := he.run d w (fun _ => 0) w (fun _ => 0) w (f x) (f y) x y (hr _ _ x) (hr _ _ y)
      have ih := eqItems_run he hl hr d w xs ys (p1 ++ f x) (p2 ++ f y) (m + 1) (by rw [List.length_append, hl, h1, Nat.add_mul]; omega) (by rw [List.length_append, hl, h2, Nat.add_mul]; omega) (by simpa using h)
      rw [List.append_assoc, List.append_assoc] at ih
      simp only [List.flatMap_cons, List.length_cons, List.range'_succ, Op.eqItems, Sem.run_bind, q1, q2, q3, Result.andThen_ok, Sem.run_ite, ih]
      by_cases hxy : x = y
      · simp [hxy]
      · simp [hxy]
theorem vec_eq {n : Nat} [DecidableEq α] (x y : Vector α n) : decide (x.toList = y.toList) = decide (x = y) := by
  congr 1
  exact propext ⟨fun h => Vector.toArray_inj.1 (by rw [← Array.toList_inj]; exact h), fun h => by rw [h]⟩
theorem eqr_vec {P : Program} {T e : TypeId} {n k : Nat} {re : GR α} [DecidableEq α] {D : Nat} {f : α → List Value} {hl ho} {z sz by_ z' dd' by_'} (hT : Ty P T (.array n e) z sz by_) (hTe : Ty P e dd' z' k by_') (hs : n * k = sz) (he : EqR P e re D) (hr : ∀ O w x, re.rel O w (f x) x) : EqR P T (rVec n k f hl ho) (D + 1) where
  run := fun d w O1 w1 O2 w2 cs ds x y h1 h2 => by
    have e1 : cs = cellsA f x := h1
    have e2 : ds = cellsA f y := h2
    subst e1; subst e2
    show (Op.equalIn (d + D + 1) T (.agg (cellsA f x).toArray) (.agg (cellsA f y).toArray)).run P w = _
    obtain ⟨i, hi, _, hsz, _⟩ := hTe.info
    have hc : P.cellsOf e = k := by simp [Program.cellsOf, hi, hsz]
    rw [run_equalIn_array w (d + D) _ _ hT.u hi, hc]
    have := eqItems_run he hl hr d w x.toList y.toList [] [] 0 (by simp) (by simp) (by simp)
    rw [List.nil_append, List.nil_append, vec_eq, Vector.length_toList, ← List.range_eq_range'] at this
    exact this
  part := fun w O1 w1 l1 cs l2 x h1 => by
    have e1 : cs = cellsA f x := h1
    subst e1
    exact part_agg hT rfl w l1 _ l2 (by rw [cellsA_len hl, hs])
/-- the cells of element i -/
theorem flatMap_split {f : α → List Value} {k : Nat} (hf : ∀ x, (f x).length = k) : ∀ (l : List α) (i : Nat) (x : α), l[i]? = some x → ∃ c1 c2, l.flatMap f = c1 ++ (f x ++ c2) ∧ c1.length = i * k ∧ ∀ y, (l.set i y).flatMap f = c1 ++ (f y ++ c2)
  | [], i, x, h => by simp at h
  | z :: l, 0, x, h => by simp at h; subst h; exact ⟨[], l.flatMap f, by simp, by simp, by simp⟩
  | z :: l, i + 1, x, h => by
      obtain ⟨c1, c2, h1, h2, h3⟩ := flatMap_split hf l i x (by simpa using h)
      exact ⟨f z ++ c1, c2, by simp [h1], by rw [List.length_append, hf, h2, Nat.add_mul]; omega, fun y => by simp [h3]⟩
def vupd {n : Nat} (x : Vector α n) (i : Int) (y : α) : Comp (Vector α n) := if 0 ≤ i ∧ i < n then Comp.pure (x.setIfInBounds i.toNat y) else Comp.fail
theorem run_vupd {n : Nat} {x z : Vector α n} {i : Int} {y : α} {m : Nat} (h : (vupd x i y).run m = some z) : (0 ≤ i ∧ i < n) ∧ z = x.setIfInBounds i.toNat y := by
  unfold vupd at h; split at h
  · exact ⟨‹_›, (Comp.run_pure h).symm⟩
  · cases h
theorem vset_toList {n : Nat} (x : Vector α n) (i : Nat) (y : α) : (x.setIfInBounds i y).toList = x.toList.set i y := by
  simp [Vector.toList]
def toVec (n : Nat) (xs : List α) : Comp (Vector α n) := if h : n ≤ xs.length then Comp.pure ⟨(xs.take n).toArray, by simp [Nat.min_eq_left h]⟩ else Comp.fail
theorem run_toVec {n m : Nat} {xs : List α} {y : Vector α n} (h : (toVec n xs).run m = some y) : n ≤ xs.length ∧ y.toList = xs.take n := by
  unfold toVec at h; split at h
  · have := Comp.run_pure h; subst this; exact ⟨‹_›, by simp [Vector.toList]⟩
  · cases h
theorem splice_arr {f : α → List Value} {n k : Nat} (hf : ∀ x, (f x).length = k) {l1 l2 : List Value} {x z : Vector α n} {i : Int} {y : α} {m : Nat} (h : (vupd x i y).run m = some z) {off : Nat} (ho : l1.length = off) :
    splice (l1 ++ (cellsA f x ++ l2)) (off + i.toNat * k) (f y) = l1 ++ (cellsA f z ++ l2) := by
  obtain ⟨⟨h0, h1⟩, rfl⟩ := run_vupd h
  have hi : i.toNat < x.toList.length := by simp; omega
  obtain ⟨c1, c2, h2, h3, h4⟩ := flatMap_split hf x.toList i.toNat _ (List.getElem?_eq_getElem hi)
  unfold cellsA
  rw [vset_toList, h4, h2]
  unfold splice
  have e1 : off + i.toNat * k = (l1 ++ c1).length := by rw [List.length_append, ho, h3]
  have e2 : l1 ++ (c1 ++ (f (x.toList[i.toNat]) ++ c2) ++ l2) = (l1 ++ c1) ++ (f (x.toList[i.toNat]) ++ (c2 ++ l2)) := by simp
  rw [e1, e2, List.take_left', List.drop_append, List.drop_of_length_le (by omega)]
  · have : (l1 ++ c1).length + (f y).length - (l1 ++ c1).length = (f (x.toList[i.toNat])).length := by rw [hf, hf]; omega
    rw [this, List.drop_left']
    · simp
    · rfl
  · rfl
theorem arr_bound {f : α → List Value} {n k : Nat} (hf : ∀ x, (f x).length = k) {l1 l2 : List Value} {x : Vector α n} {i : Int} (h : 0 ≤ i ∧ i < n) {off : Nat} (ho : l1.length = off) {y : α} : off + i.toNat * k + (f y).length ≤ (l1 ++ (cellsA f x ++ l2)).toArray.size := by
  have h1 : (i.toNat + 1) * k ≤ n * k := Nat.mul_le_mul_right _ (by omega)
  rw [Nat.add_mul] at h1
  simp only [List.size_toArray, List.length_append, cellsA_len hf, hf, ho]
  omega
section ops
variable {P : Program} {a : Act} {w : World} {d : Option Tmp} {T : TypeId} {pos : String} {aft : Array Edge} {g : Option (Nat × Bool)}
/-- the address of an element of an array of the call's own -/
theorem ok_idxOwnArr {x i : Operand} {X e n b off E : Nat} {k : IntKind} {m : Int} {z sz by_ dd z' by_'} (hT : Ty P X (.array n e) z sz by_) (he : Ty P e dd z' E by_') (hx : a.eval x = .pointer (some ⟨b, off, none⟩)) (hi : a.eval i = .int k m) (hm : 0 ≤ m ∧ m < n) :
    Ok P ⟨d, .indexAddr X x i, T, pos, aft, g⟩ a w (SP.isv (.pointer (some ⟨b, off + m.toNat * E, none⟩))).holds := ok_pure (by
  simp [execOp, Instr.indexAt, asIntOf, hi, hx, Instr.sureAddr, hT.run_u, he.run_size, hm.1, hm.2, addr_add])
theorem vidx_lt {n nf : Nat} {x : Vector α n} {i : Int} {y : α} (h : (idx x.toList i).run nf = some y) : 0 ≤ i ∧ i < n := by
  obtain ⟨h0, h1⟩ := run_idx h
  have := (List.getElem?_eq_some_iff.1 h1).1
  simp at this
  omega
theorem okl_loadArr {x : Operand} {X X' b off n k : Nat} {dd z by_} {f : α → List Value} (hf : ∀ x, (f x).length = k) (h1 : ∀ x, ∀ c ∈ f x, c.oneCell' = true) {agg : Bool} (hagg : agg = false → k = 1) {l1 l2 : List Value} {cs : Array Value} {xs : Vector α n} {m : Int} {y : α} {nf : Nat} (hT : Ty P X dd z k by_) (hd : isAggD dd = agg)
    (hx : a.eval x = .pointer (some ⟨b, off + m.toNat * k, none⟩)) (hO : Own w b cs X') (hc : cs.toList = l1 ++ (cellsA f xs ++ l2)) (ho : l1.length = off) (h : (idx xs.toList m).run nf = some y) :
    Ok P ⟨d, .load X x, T, pos, aft, g⟩ a w (SP.isv (packV agg (f y))).holds := by
  obtain ⟨h0, h2⟩ := run_idx h
  obtain ⟨c1, c2, e1, e2, _⟩ := flatMap_split hf xs.toList m.toNat y h2
  have e3 : cs.toList = (l1 ++ c1) ++ (f y ++ (c2 ++ l2)) := by rw [hc]; unfold cellsA; rw [e1]; simp
  have e4 : (l1 ++ c1).length = off + m.toNat * k := by rw [List.length_append, ho, e2]
  cases agg with
  | true => exact okl_loadSub hT hd hx hO e3 e4 (hf y)
  | false =>
    have hk := hagg rfl
    have hl := hf y
    rw [hk] at hl
    match hfy : f y, hl with
    | [c], _ =>
      refine ok_loadOwn hT hd hx hO ?_
      rw [hfy] at e3
      rw [← Array.getElem?_toList, e3, ← e4]
      simp [packV]
theorem okl_idxArrZ {x i : Operand} {X e n k : Nat} {r : GR α} (hs : 0 < r.sz) (hr : r.fits) {f : α → List Value} {hl ho} {O : Tags} {xs : Vector α n} {y : α} (hrf : ∀ O w x, r.rel O w (f x) x) {kk : IntKind} {m : Int} {nf : Nat} {z sz by_ dd z' by_'} (hT : Ty P X (.array n e) z sz by_) (he : Ty P e dd z' k by_') {u : Value} (hu : a.eval x = u) (hx : PtrZ (rVec n k f hl ho) O w u xs) (hi : a.eval i = .int kk m) (h : (idx xs.toList m).run nf = some y) :
    Ok P ⟨d, .indexAddr X x i, T, pos, aft, g⟩ a w (SP.ptrz r O y hs hr).holds := by
  obtain ⟨h0, h2⟩ := run_idx h
  have hm := vidx_lt h
  obtain ⟨b, off, v, h1, hb, hv, hc⟩ := hx
  obtain ⟨cs, e0, rfl⟩ := hv
  have e0 : cs = cellsA f xs := e0
  subst e0
  obtain ⟨c1, c2, e1, e2, _⟩ := flatMap_split hl xs.toList m.toNat y h2
  refine ok_run (v := .pointer (some ⟨b, off + m.toNat * k, none⟩)) (w' := w) ?_ (Ext.refl w) ⟨b, off + m.toNat * k, packV r.agg (f y), rfl, hb, ⟨f y, hrf _ _ _, rfl⟩, fun j hj => ?_⟩
  · subst h1
    simp [execOp, Instr.indexAt, asIntOf, hi, hu, Instr.sureAddr, hT.run_u, he.run_size, hm.1, hm.2, addr_add]
  · have hcp : (packV r.agg (f y)).cells = (f y).toArray := cells_pack (fun ha => by rw [r.len (hrf (fun _ => 0) w y), hr ha]) (r.one (hrf (fun _ => 0) w y))
    rw [hcp] at hj ⊢
    simp only [List.size_toArray, List.getElem?_toArray] at hj ⊢
    have := hc (m.toNat * k + j) (by
      simp only [packV, rVec, rC, Value.cells, List.size_toArray]
      unfold cellsA; rw [e1, List.length_append, List.length_append, e2]; omega)
    simp only [packV, rVec, rC, Value.cells, List.getElem?_toArray] at this
    rw [Nat.add_assoc, this]
    unfold cellsA
    rw [e1, List.getElem?_append_right (by omega), e2, show m.toNat * k + j - m.toNat * k = j by omega, List.getElem?_append_left hj]
theorem okl_indexA {x i : Operand} {X e n k : Nat} {re : GR α} [DecidableEq α] {D : Nat} {f : α → List Value} {hl : ∀ x, (f x).length = k} {xs : Vector α n} {y : α} (hre : EqR P e re D) (hrf : ∀ O w x, re.rel O w (f x) x) {kk : IntKind} {m : Int} {nf : Nat} {z sz by_ dd z' by_'} (hT : Ty P X (.array n e) z sz by_) (he : Ty P e dd z' k by_') (hx : a.eval x = .agg (cellsA f xs).toArray) (hi : a.eval i = .int kk m) (h : (idx xs.toList m).run nf = some y) :
    Ok P ⟨d, .index X x i, T, pos, aft, g⟩ a w (SP.isv (packV re.agg (f y))).holds := by
  obtain ⟨h0, h2⟩ := run_idx h
  have hm := vidx_lt h
  obtain ⟨c1, c2, e1, e2, _⟩ := flatMap_split hl xs.toList m.toNat y h2
  have q := hre.part w (fun _ => 0) w c1 (f y) c2 y (hrf _ _ _)
  rw [e2, ← e1] at q
  refine ok_pure ?_
  have q' : (part e (cellsA f xs).toArray (m.toNat * k)).run P w = .ok (packV re.agg (f y)) w := q
  simp [execOp, Instr.index, asIntOf, hi, hx, hT.run_u, he.run_size, hm.1, hm.2, q']
/-- a whole array, as a slice -/
theorem okl_sliceArr {x : Operand} {X e n k : Nat} {r : GR α} (hr : r.fits) (hsz : r.sz = k) {f : α → List Value} {hl ho} {O : Tags} {xs : Vector α n} (hrf : ∀ O w x, r.rel O w (f x) x) {z sz by_ dd z' by_'} (hT : Ty P X (.array n e) z sz by_) (he : Ty P e dd z' k by_') {u : Value} (hu : a.eval x = u) (hx : (rBox (rVec n k f hl ho)).v O w u xs) :
    Ok P ⟨d, .slice X x none none none, T, pos, aft, g⟩ a w (SP.vl (rSl r) O xs.toList).holds := by
  obtain ⟨cs0, ⟨b, cs', T', h1, h2, h3, h4⟩, hu'⟩ := hx
  rw [h1] at hu'
  simp [rBox, packV] at hu'
  have h4 : cs' = cellsA f xs := h4
  subst h4
  have hn : n ≤ n := Nat.le_refl _
  refine ok_run (v := .slice (some ⟨b, 0, none⟩) n n) (w' := w) ?_ (Ext.refl w) ?_
  · rw [hu'] at hu
    simp [execOp, Instr.sliceAt, hu, Instr.sureAddr, hT.run_u, he.run_size, Instr.sliceBounds, addr_add]
  · refine rSl_v.2 ⟨xs.toList.map fun y => packV r.agg (f y), ⟨some ⟨b, 0, none⟩, n, by simp, by simp, fun v hv => ?_, .inr ⟨b, 0, rfl, fun i v hv j hj => ?_⟩⟩, ?_, fun _ g hg => ?_⟩
    · obtain ⟨y, _, rfl⟩ := List.mem_map.1 hv
      exact r.cells_size hr (O := O) (w := w) ⟨f y, hrf _ _ _, rfl⟩
    · rw [List.getElem?_map] at hv
      cases hy : xs.toList[i]? with
      | none => rw [hy] at hv; cases hv
      | some y =>
        rw [hy] at hv; cases hv
        obtain ⟨c1, c2, e1, e2, _⟩ := flatMap_split hl xs.toList i y hy
        have hcp : (packV r.agg (f y)).cells = (f y).toArray := cells_pack (fun ha => by rw [r.len (hrf (fun _ => 0) w y), hr ha]) (r.one (hrf (fun _ => 0) w y))
        have hlf : (f y).length = r.sz := by rw [hl, hsz]
        rw [h2.cell, hcp, hsz, List.getElem?_toArray, List.getElem?_toArray]
        unfold cellsA
        rw [e1, List.getElem?_append_right (by omega), e2, show 0 + (i * k + j) - i * k = j by omega, List.getElem?_append_left (by omega)]
    · have : ∀ l : List α, RelL r O w (l.map fun y => packV r.agg (f y)) l := by
        intro l
        induction l with
        | nil => trivial
        | cons y l ih => exact ⟨⟨f y, hrf _ _ _, rfl⟩, ih⟩
      exact this _
    · simp only [Value.ownBlock, Option.some.injEq] at hg
      subst hg
      exact ⟨h2.lt, h3⟩
end ops
end Go.Lift
