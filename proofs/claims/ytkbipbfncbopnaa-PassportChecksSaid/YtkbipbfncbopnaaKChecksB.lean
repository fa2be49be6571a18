/- Lemmas behind a claim of this seat. No statement of the program stands here. -/
import Derived.Test.YtkbipbfncbopnaaKChecksA
import Derived.Laws.StructEq
import Derived.ChangeKeysEq
import Derived.Shelf.Strings.BuilderK
set_option linter.unusedSimpArgs false
set_option linter.unusedVariables false
section
set_option linter.unusedVariables false
set_option linter.unusedSimpArgs false
namespace Go.Lift
open Go Go.RowKit Go.Eng
variable {α β γ δ ε : Type}
structure EqR (P : Program) (T : TypeId) (r : GR α) [DecidableEq α] (D : Nat) : Prop where
  run : ∀ d w O1 w1 O2 w2 cs ds x y, r.rel O1 w1 cs x → r.rel O2 w2 ds y → (Op.equalIn (d + D) T (packV r.agg cs) (packV r.agg ds)).run P w = .ok (decide (x = y)) w
  part : ∀ w O1 w1 l1 cs l2 x, r.rel O1 w1 cs x → (part T (l1 ++ (cs ++ l2)).toArray l1.length).run P w = .ok (packV r.agg cs) w
theorem beq_eqd [BEq α] [LawfulBEq α] [DecidableEq α] (a b : α) : (a == b) = decide (a = b) := by
  by_cases h : a = b
  · subst h; simp
  · rw [decide_eq_false h]; simp [h]
section
variable {P : Program}
theorem get_mid (l1 : List Value) (v : Value) (l2 : List Value) : (l1 ++ ([v] ++ l2)).toArray[l1.length]? = some v := by simp
theorem eqr_int {T : TypeId} {k : IntKind} {z sz by_} (h : Ty P T (.int k) z sz by_) : EqR P T (rInt k) 1 where
  run := fun d w O1 w1 O2 w2 cs ds x y h1 h2 => by
    have e1 : cs = [.int k x] := h1
    have e2 : ds = [.int k y] := h2
    subst e1; subst e2
    show (Op.equalIn (d + 1) T (.int k x) (.int k y)).run P w = _
    rw [run_equalIn_int w d T k k x y h.u, beq_eqd]
  part := fun w O1 w1 l1 cs l2 x h1 => by
    have e1 : cs = [.int k x] := h1
    subst e1
    exact run_part_plain w (by simp [Program.plainKey, h.u]) (get_mid _ _ _)
theorem str_toList (x : Bytes) : (str x).toList = x := by rw [ByteArray.toList_eq]; simp [str]
theorem eqr_str {T : TypeId} {z sz by_} (h : Ty P T .string z sz by_) : EqR P T rStr 1 where
  run := fun d w O1 w1 O2 w2 cs ds x y h1 h2 => by
    have e1 : cs = [.string (str x)] := h1
    have e2 : ds = [.string (str y)] := h2
    subst e1; subst e2
    show (Op.equalIn (d + 1) T (.string (str x)) (.string (str y))).run P w = _
    rw [run_equalIn_string w d T _ _ h.u, str_toList, str_toList, beq_eqd]
  part := fun w O1 w1 l1 cs l2 x h1 => by
    have e1 : cs = [.string (str x)] := h1
    subst e1
    exact run_part_plain w (by simp [Program.plainKey, h.u]) (get_mid _ _ _)
theorem part_agg {T : TypeId} {dd z sz by_} (h : Ty P T dd z sz by_) (hd : isAggD dd = true) (w : World) (l1 cs l2 : List Value) (hl : cs.length = sz) : (part T (l1 ++ (cs ++ l2)).toArray l1.length).run P w = .ok (.agg cs.toArray) w := by
  have e : (l1 ++ (cs ++ l2)).toArray.extract l1.length (l1.length + sz) = cs.toArray := by
    apply Array.ext'
    rw [Array.toList_extract]
    simp [List.extract, ← hl]
  simp only [part, Sem.run_bind, h.run_agg, hd, Result.andThen_ok, if_true, h.run_size, e, Sem.run_pure]
inductive EqFs (P : Program) (r : GR γ) (D : Nat) : List Field → (γ → γ → Bool) → Prop
  | nil : EqFs P r D [] (fun _ _ => true)
  | cons {α : Type} [DecidableEq α] {f : Field} {fs : List Field} {ri : GR α} {p : γ → α} {b : γ → γ → Bool} {Di : Nat} (hn : f.name ≠ "_") (hs : SubR r f.offset ri p) (he : EqR P f.type ri Di) (hD : Di ≤ D) (h : EqFs P r D fs b) : EqFs P r D (f :: fs) (fun x y => decide (p x = p y) && b x y)
theorem EqFs.run {r : GR γ} {D : Nat} {fs : List Field} {b : γ → γ → Bool} (h : EqFs P r D fs b) : ∀ d w O1 w1 cs x O2 w2 ds y, r.rel O1 w1 cs x → r.rel O2 w2 ds y → (Op.eqFields (d + D) cs.toArray ds.toArray fs).run P w = .ok (b x y) w := by
  induction h with
  | nil => intro d w O1 w1 cs x O2 w2 ds y h1 h2; simp [Op.eqFields]
  | @cons α _ f fs ri p b Di hn hs he hD h ih =>
    intro d w O1 w1 cs x O2 w2 ds y h1 h2
    have hih := ih d w O1 w1 cs x O2 w2 ds y h1 h2
    obtain ⟨a1, a2, a3, ea, la, ra⟩ := hs h1
    obtain ⟨b1, b2, b3, eb, lb, rb⟩ := hs h2
    have p1 := he.part w O1 w1 a1 a2 a3 (p x) ra
    have p2 := he.part w O2 w2 b1 b2 b3 (p y) rb
    rw [la, ← ea] at p1
    rw [lb, ← eb] at p2
    have q := he.run (d + (D - Di)) w O1 w1 O2 w2 a2 b2 (p x) (p y) ra rb
    rw [show d + (D - Di) + Di = d + D by omega] at q
    simp only [Op.eqFields, hn, ne_eq, not_false_eq_true, if_true, Sem.run_bind, p1, p2, q, Result.andThen_ok, Sem.run_ite]
    by_cases hxy : p x = p y
    · simp [hxy, hih]
    · simp [hxy]
theorem eqr_struct {T : TypeId} {r : GR γ} [DecidableEq γ] {D : Nat} {dd z sz by_} {fs : List Field} {b : γ → γ → Bool} (hT : Ty P T dd z sz by_) (hd : isAggD dd = true) (ha : r.agg = true) (hs : r.sz = sz) (ht : P.underlying T = some (.struct (P.fieldsOf T))) (hp : P.stoodInHeld T = false) (hf : (P.fieldsOf T).toList = fs)
    (h : EqFs P r D fs b) (hb : ∀ x y, b x y = decide (x = y)) : EqR P T r (D + 1) where
  run := fun d w O1 w1 O2 w2 cs ds x y h1 h2 => by
    rw [ha]
    show (Op.equalIn (d + D + 1) T (.agg cs.toArray) (.agg ds.toArray)).run P w = _
    rw [run_equalIn_struct w (d + D) T _ _ ht hp, hf, h.run d w O1 w1 cs x O2 w2 ds y h1 h2, hb]
  part := fun w O1 w1 l1 cs l2 x h1 => by
    rw [ha]
    exact part_agg hT hd w l1 cs l2 (by rw [r.len h1, hs])
end
section ops
variable {P : Program} {a : Act} {w : World} {d : Option Tmp} {T : TypeId} {pos : String} {aft : Array Edge} {g : Option (Nat × Bool)}
theorem okl_eqlR {x y : Operand} {X Y : TypeId} {r : GR α} [DecidableEq α] {Dp : Nat} (hE : EqR P X r Dp) (ha : r.agg = true) (hD : Dp ≤ 10000) (hg : P.eqGuardType P.depth X = false) {O1 O2 : Tags} {w1 w2 : World} {u v : Value} {s t : α} (hx : a.eval x = u) (hy : a.eval y = v) (h1 : r.v O1 w1 u s) (h2 : r.v O2 w2 v t) :
    Ok P ⟨d, .binOp .eql X x y Y, T, pos, aft, g⟩ a w (SP.isv (.bool (decide (s = t)))).holds := by
  obtain ⟨cs, h3, rfl⟩ := h1
  obtain ⟨ds, h4, rfl⟩ := h2
  have e := hE.run (10000 - Dp) w _ _ _ _ cs ds s t h3 h4
  rw [show 10000 - Dp + Dp = 10000 by omega, ha] at e
  rw [ha] at hx hy
  refine ok_pure ?_
  simp only [packV] at e hx hy
  simp only [execOp, hx, hy, Sem.run_bind, run_eqGuard_agg _ _ _ _ _ _ _ hg, Result.andThen_ok, run_eql_struct, e]
  rfl
theorem okl_neqR {x y : Operand} {X Y : TypeId} {r : GR α} [DecidableEq α] {Dp : Nat} (hE : EqR P X r Dp) (ha : r.agg = true) (hD : Dp ≤ 10000) (hg : P.eqGuardType P.depth X = false) {O1 O2 : Tags} {w1 w2 : World} {u v : Value} {s t : α} (hx : a.eval x = u) (hy : a.eval y = v) (h1 : r.v O1 w1 u s) (h2 : r.v O2 w2 v t) :
    Ok P ⟨d, .binOp .neq X x y Y, T, pos, aft, g⟩ a w (SP.isv (.bool (decide (s ≠ t)))).holds := by
  obtain ⟨cs, h3, rfl⟩ := h1
  obtain ⟨ds, h4, rfl⟩ := h2
  have e := hE.run (10000 - Dp) w _ _ _ _ cs ds s t h3 h4
  rw [show 10000 - Dp + Dp = 10000 by omega, ha] at e
  rw [ha] at hx hy
  have hn : decide (s ≠ t) = !decide (s = t) := by simp
  rw [hn]
  refine ok_pure ?_
  simp only [packV] at e hx hy
  simp only [execOp, hx, hy, Sem.run_bind, run_eqGuard_agg _ _ _ _ _ _ _ hg, Result.andThen_ok, run_neq_struct, e]
  rfl
end ops
def cellsA (f : α → List Value) {n : Nat} (x : Vector α n) : List Value := x.toList.flatMap f
theorem flatMap_len {f : α → List Value} {k : Nat} (hf : ∀ x, (f x).length = k) : ∀ l : List α, (l.flatMap f).length = l.length * k
  | [] => by simp
  | x :: l => by rw [List.flatMap_cons, List.length_append, hf, flatMap_len hf l, List.length_cons, Nat.add_mul]; omega
theorem cellsA_len {f : α → List Value} {n k : Nat} (hf : ∀ x, (f x).length = k) (x : Vector α n) : (cellsA f x).length = n * k := by
  unfold cellsA; rw [flatMap_len hf]; simp
theorem cellsA_one {f : α → List Value} {n : Nat} (hf : ∀ x, ∀ c ∈ f x, c.oneCell' = true) (x : Vector α n) : ∀ c ∈ cellsA f x, c.oneCell' = true := by
  intro c hc
  obtain ⟨y, _, hy⟩ := List.mem_flatMap.1 hc
  exact hf y c hy
def rVec (n k : Nat) (f : α → List Value) (hl : ∀ x, (f x).length = k) (ho : ∀ x, ∀ c ∈ f x, c.oneCell' = true) : GR (Vector α n) := rC true (n * k) (cellsA f) (cellsA_len hl) (cellsA_one ho)
theorem eqItems_run {P : Program} {e : TypeId} {re : GR α} [DecidableEq α] {D k : Nat} {f : α → List Value} (he : EqR P e re D) (hl : ∀ x, (f x).length = k) (hr : ∀ O w x, re.rel O w (f x) x) (d : Nat) (w : World) :
    ∀ (xs ys : List α) (p1 p2 : List Value) (m : Nat), p1.length = m * k → p2.length = m * k → xs.length = ys.length →
      (Op.eqItems (d + D) e k (p1 ++ xs.flatMap f).toArray (p2 ++ ys.flatMap f).toArray (List.range' m xs.length)).run P w = .ok (decide (xs = ys)) w
  | [], [], p1, p2, m, h1, h2, _ => by simp [Op.eqItems]
  | [], _ :: _, _, _, _, _, _, h => by simp at h
  | _ :: _, [], _, _, _, _, _, h => by simp at h
  | x :: xs, y :: ys, p1, p2, m, h1, h2, h => by
      have q1 := he.part w (fun _ => 0) w p1 (f x) (xs.flatMap f) x (hr _ _ x)
      have q2 := he.part w (fun _ => 0) w p2 (f y) (ys.flatMap f) y (hr _ _ y)
      rw [h1] at q1
      rw [h2] at q2
      have q3 := he.run d w (fun _ => 0) w (fun _ => 0) w (f x) (f y) x y (hr _ _ x) (hr _ _ y)
      have ih := eqItems_run he hl hr d w xs ys (p1 ++ f x) (p2 ++ f y) (m + 1) (by rw [List.length_append, hl, h1, Nat.add_mul]; omega) (by rw [List.length_append, hl, h2, Nat.add_mul]; omega) (by simpa using h)
      rw [List.append_assoc, List.append_assoc] at ih
      simp only [List.flatMap_cons, List.length_cons, List.range'_succ, Op.eqItems, Sem.run_bind, q1, q2, q3, Result.andThen_ok, Sem.run_ite, ih]
      by_cases hxy : x = y
      · simp [hxy]
      · simp [hxy]
theorem vec_eq {n : Nat} [DecidableEq α] (x y : Vector α n) : decide (x.toList = y.toList) = decide (x = y) := by
  congr 1
  exact propext ⟨fun h => Vector.toArray_inj.1 (by rw [← Array.toList_inj]; exact h), fun h => by rw [h]⟩
theorem eqr_vec {P : Program} {T e : TypeId} {n k : Nat} {re : GR α} [DecidableEq α] {D : Nat} {f : α → List Value} {hl ho} {z sz by_ z' dd' by_'} (hT : Ty P T (.array n e) z sz by_) (hTe : Ty P e dd' z' k by_') (hs : n * k = sz) (he : EqR P e re D) (hr : ∀ O w x, re.rel O w (f x) x) : EqR P T (rVec n k f hl ho) (D + 1) where
  run := fun d w O1 w1 O2 w2 cs ds x y h1 h2 => by
    have e1 : cs = cellsA f x := h1
    have e2 : ds = cellsA f y := h2
    subst e1; subst e2
    show (Op.equalIn (d + D + 1) T (.agg (cellsA f x).toArray) (.agg (cellsA f y).toArray)).run P w = _
    obtain ⟨i, hi, _, hsz, _⟩ := hTe.info
    have hc : P.cellsOf e = k := by simp [Program.cellsOf, hi, hsz]
    rw [run_equalIn_array w (d + D) _ _ hT.u hi, hc]
    have := eqItems_run he hl hr d w x.toList y.toList [] [] 0 (by simp) (by simp) (by simp)
    rw [List.nil_append, List.nil_append, vec_eq, Vector.length_toList, ← List.range_eq_range'] at this
    exact this
  part := fun w O1 w1 l1 cs l2 x h1 => by
    have e1 : cs = cellsA f x := h1
    subst e1
    exact part_agg hT rfl w l1 _ l2 (by rw [cellsA_len hl, hs])
theorem flatMap_split {f : α → List Value} {k : Nat} (hf : ∀ x, (f x).length = k) : ∀ (l : List α) (i : Nat) (x : α), l[i]? = some x → ∃ c1 c2, l.flatMap f = c1 ++ (f x ++ c2) ∧ c1.length = i * k ∧ ∀ y, (l.set i y).flatMap f = c1 ++ (f y ++ c2)
  | [], i, x, h => by simp at h
  | z :: l, 0, x, h => by simp at h; subst h; exact ⟨[], l.flatMap f, by simp, by simp, by simp⟩
  | z :: l, i + 1, x, h => by
      obtain ⟨c1, c2, h1, h2, h3⟩ := flatMap_split hf l i x (by simpa using h)
      exact ⟨f z ++ c1, c2, by simp [h1], by rw [List.length_append, hf, h2, Nat.add_mul]; omega, fun y => by simp [h3]⟩
def vupd {n : Nat} (x : Vector α n) (i : Int) (y : α) : Comp (Vector α n) := if 0 ≤ i ∧ i < n then Comp.pure (x.setIfInBounds i.toNat y) else Comp.fail
theorem run_vupd {n : Nat} {x z : Vector α n} {i : Int} {y : α} {m : Nat} (h : (vupd x i y).run m = some z) : (0 ≤ i ∧ i < n) ∧ z = x.setIfInBounds i.toNat y := by
  unfold vupd at h; split at h
  · exact ⟨‹_›, (Comp.run_pure h).symm⟩
  · cases h
theorem vset_toList {n : Nat} (x : Vector α n) (i : Nat) (y : α) : (x.setIfInBounds i y).toList = x.toList.set i y := by
  simp [Vector.toList]
def toVec (n : Nat) (xs : List α) : Comp (Vector α n) := if h : n ≤ xs.length then Comp.pure ⟨(xs.take n).toArray, by simp [Nat.min_eq_left h]⟩ else Comp.fail
theorem run_toVec {n m : Nat} {xs : List α} {y : Vector α n} (h : (toVec n xs).run m = some y) : n ≤ xs.length ∧ y.toList = xs.take n := by
  unfold toVec at h; split at h
  · have := Comp.run_pure h; subst this; exact ⟨‹_›, by simp [Vector.toList]⟩
  · cases h
theorem splice_arr {f : α → List Value} {n k : Nat} (hf : ∀ x, (f x).length = k) {l1 l2 : List Value} {x z : Vector α n} {i : Int} {y : α} {m : Nat} (h : (vupd x i y).run m = some z) {off : Nat} (ho : l1.length = off) :
    splice (l1 ++ (cellsA f x ++ l2)) (off + i.toNat * k) (f y) = l1 ++ (cellsA f z ++ l2) := by
  obtain ⟨⟨h0, h1⟩, rfl⟩ := run_vupd h
  have hi : i.toNat < x.toList.length := by simp; omega
  obtain ⟨c1, c2, h2, h3, h4⟩ := flatMap_split hf x.toList i.toNat _ (List.getElem?_eq_getElem hi)
  unfold cellsA
  rw [vset_toList, h4, h2]
  unfold splice
  have e1 : off + i.toNat * k = (l1 ++ c1).length := by rw [List.length_append, ho, h3]
  have e2 : l1 ++ (c1 ++ (f (x.toList[i.toNat]) ++ c2) ++ l2) = (l1 ++ c1) ++ (f (x.toList[i.toNat]) ++ (c2 ++ l2)) := by simp
  rw [e1, e2, List.take_left', List.drop_append, List.drop_of_length_le (by omega)]
  · have : (l1 ++ c1).length + (f y).length - (l1 ++ c1).length = (f (x.toList[i.toNat])).length := by rw [hf, hf]; omega
    rw [this, List.drop_left']
    · simp
    · rfl
  · rfl
theorem arr_bound {f : α → List Value} {n k : Nat} (hf : ∀ x, (f x).length = k) {l1 l2 : List Value} {x : Vector α n} {i : Int} (h : 0 ≤ i ∧ i < n) {off : Nat} (ho : l1.length = off) {y : α} : off + i.toNat * k + (f y).length ≤ (l1 ++ (cellsA f x ++ l2)).toArray.size := by
  have h1 : (i.toNat + 1) * k ≤ n * k := Nat.mul_le_mul_right _ (by omega)
  rw [Nat.add_mul] at h1
  simp only [List.size_toArray, List.length_append, cellsA_len hf, hf, ho]
  omega
section ops
variable {P : Program} {a : Act} {w : World} {d : Option Tmp} {T : TypeId} {pos : String} {aft : Array Edge} {g : Option (Nat × Bool)}
theorem ok_idxOwnArr {x i : Operand} {X e n b off E : Nat} {k : IntKind} {m : Int} {z sz by_ dd z' by_'} (hT : Ty P X (.array n e) z sz by_) (he : Ty P e dd z' E by_') (hx : a.eval x = .pointer (some ⟨b, off, none⟩)) (hi : a.eval i = .int k m) (hm : 0 ≤ m ∧ m < n) :
    Ok P ⟨d, .indexAddr X x i, T, pos, aft, g⟩ a w (SP.isv (.pointer (some ⟨b, off + m.toNat * E, none⟩))).holds := ok_pure (by
  simp [execOp, Instr.indexAt, asIntOf, hi, hx, Instr.sureAddr, hT.run_u, he.run_size, hm.1, hm.2, addr_add])
theorem vidx_lt {n nf : Nat} {x : Vector α n} {i : Int} {y : α} (h : (idx x.toList i).run nf = some y) : 0 ≤ i ∧ i < n := by
  obtain ⟨h0, h1⟩ := run_idx h
  have := (List.getElem?_eq_some_iff.1 h1).1
  simp at this
  omega
theorem okl_idxArrZ {x i : Operand} {X e n k : Nat} {r : GR α} (hs : 0 < r.sz) (hr : r.fits) {f : α → List Value} {hl ho} {O : Tags} {xs : Vector α n} {y : α} (hrf : ∀ O w x, r.rel O w (f x) x) {kk : IntKind} {m : Int} {nf : Nat} {z sz by_ dd z' by_'} (hT : Ty P X (.array n e) z sz by_) (he : Ty P e dd z' k by_') {u : Value} (hu : a.eval x = u) (hx : PtrZ (rVec n k f hl ho) O w u xs) (hi : a.eval i = .int kk m) (h : (idx xs.toList m).run nf = some y) :
    Ok P ⟨d, .indexAddr X x i, T, pos, aft, g⟩ a w (SP.ptrz r O y hs hr).holds := by
  obtain ⟨h0, h2⟩ := run_idx h
  have hm := vidx_lt h
  obtain ⟨b, off, v, h1, hb, hv, hc⟩ := hx
  obtain ⟨cs, e0, rfl⟩ := hv
  have e0 : cs = cellsA f xs := e0
  subst e0
  obtain ⟨c1, c2, e1, e2, _⟩ := flatMap_split hl xs.toList m.toNat y h2
  refine ok_run (v := .pointer (some ⟨b, off + m.toNat * k, none⟩)) (w' := w) ?_ (Ext.refl w) ⟨b, off + m.toNat * k, packV r.agg (f y), rfl, hb, ⟨f y, hrf _ _ _, rfl⟩, fun j hj => ?_⟩
  · subst h1
    simp [execOp, Instr.indexAt, asIntOf, hi, hu, Instr.sureAddr, hT.run_u, he.run_size, hm.1, hm.2, addr_add]
  · have hcp : (packV r.agg (f y)).cells = (f y).toArray := cells_pack (fun ha => by rw [r.len (hrf (fun _ => 0) w y), hr ha]) (r.one (hrf (fun _ => 0) w y))
    rw [hcp] at hj ⊢
    simp only [List.size_toArray, List.getElem?_toArray] at hj ⊢
    have := hc (m.toNat * k + j) (by
      simp only [packV, rVec, rC, Value.cells, List.size_toArray]
      unfold cellsA; rw [e1, List.length_append, List.length_append, e2]; omega)
    simp only [packV, rVec, rC, Value.cells, List.getElem?_toArray] at this
    rw [Nat.add_assoc, this]
    unfold cellsA
    rw [e1, List.getElem?_append_right (by omega), e2, show m.toNat * k + j - m.toNat * k = j by omega, List.getElem?_append_left hj]
theorem okl_indexA {x i : Operand} {X e n k : Nat} {re : GR α} [DecidableEq α] {D : Nat} {f : α → List Value} {hl : ∀ x, (f x).length = k} {xs : Vector α n} {y : α} (hre : EqR P e re D) (hrf : ∀ O w x, re.rel O w (f x) x) {kk : IntKind} {m : Int} {nf : Nat} {z sz by_ dd z' by_'} (hT : Ty P X (.array n e) z sz by_) (he : Ty P e dd z' k by_') (hx : a.eval x = .agg (cellsA f xs).toArray) (hi : a.eval i = .int kk m) (h : (idx xs.toList m).run nf = some y) :
    Ok P ⟨d, .index X x i, T, pos, aft, g⟩ a w (SP.isv (packV re.agg (f y))).holds := by
  obtain ⟨h0, h2⟩ := run_idx h
  have hm := vidx_lt h
  obtain ⟨c1, c2, e1, e2, _⟩ := flatMap_split hl xs.toList m.toNat y h2
  have q := hre.part w (fun _ => 0) w c1 (f y) c2 y (hrf _ _ _)
  rw [e2, ← e1] at q
  refine ok_pure ?_
  have q' : (part e (cellsA f xs).toArray (m.toNat * k)).run P w = .ok (packV re.agg (f y)) w := q
  simp [execOp, Instr.index, asIntOf, hi, hx, hT.run_u, he.run_size, hm.1, hm.2, q']
theorem okl_sliceArr {x : Operand} {X e n k : Nat} {r : GR α} (hr : r.fits) (hsz : r.sz = k) {f : α → List Value} {hl ho} {O : Tags} {xs : Vector α n} (hrf : ∀ O w x, r.rel O w (f x) x) {z sz by_ dd z' by_'} (hT : Ty P X (.array n e) z sz by_) (he : Ty P e dd z' k by_') {u : Value} (hu : a.eval x = u) (hx : (rBox (rVec n k f hl ho)).v O w u xs) :
    Ok P ⟨d, .slice X x none none none, T, pos, aft, g⟩ a w (SP.vl (rSl r) O xs.toList).holds := by
  obtain ⟨cs0, ⟨b, cs', T', h1, h2, h3, h4⟩, hu'⟩ := hx
  rw [h1] at hu'
  simp [rBox, packV] at hu'
  have h4 : cs' = cellsA f xs := h4
  subst h4
  have hn : n ≤ n := Nat.le_refl _
  refine ok_run (v := .slice (some ⟨b, 0, none⟩) n n) (w' := w) ?_ (Ext.refl w) ?_
  · rw [hu'] at hu
    simp [execOp, Instr.sliceAt, hu, Instr.sureAddr, hT.run_u, he.run_size, Instr.sliceBounds, addr_add]
  · refine rSl_v.2 ⟨xs.toList.map fun y => packV r.agg (f y), ⟨some ⟨b, 0, none⟩, n, by simp, by simp, fun v hv => ?_, .inr ⟨b, 0, rfl, fun i v hv j hj => ?_⟩⟩, ?_, fun _ g hg => ?_⟩
    · obtain ⟨y, _, rfl⟩ := List.mem_map.1 hv
      exact r.cells_size hr (O := O) (w := w) ⟨f y, hrf _ _ _, rfl⟩
    · rw [List.getElem?_map] at hv
      cases hy : xs.toList[i]? with
      | none => rw [hy] at hv; cases hv
      | some y =>
        rw [hy] at hv; cases hv
        obtain ⟨c1, c2, e1, e2, _⟩ := flatMap_split hl xs.toList i y hy
        have hcp : (packV r.agg (f y)).cells = (f y).toArray := cells_pack (fun ha => by rw [r.len (hrf (fun _ => 0) w y), hr ha]) (r.one (hrf (fun _ => 0) w y))
        have hlf : (f y).length = r.sz := by rw [hl, hsz]
        rw [h2.cell, hcp, hsz, List.getElem?_toArray, List.getElem?_toArray]
        unfold cellsA
        rw [e1, List.getElem?_append_right (by omega), e2, show 0 + (i * k + j) - i * k = j by omega, List.getElem?_append_left (by omega)]
    · have : ∀ l : List α, RelL r O w (l.map fun y => packV r.agg (f y)) l := by
        intro l
        induction l with
        | nil => trivial
        | cons y l ih => exact ⟨⟨f y, hrf _ _ _, rfl⟩, ih⟩
      exact this _
    · simp only [Value.ownBlock, Option.some.injEq] at hg
      subst hg
      exact ⟨h2.lt, h3⟩
end ops
end Go.Lift
end
section
set_option linter.unusedVariables false
set_option linter.unusedSimpArgs false
namespace Go.Lift
open Go Go.RowKit Go.Eng
variable {α β γ δ ε : Type}
theorem _root_.Go.Eng.Ty.szr {P : Program} {T : TypeId} {dd : TypeDesc} {z : Value} {sz sz' by_ : Nat} (h : Ty P T dd z sz by_) (e : sz' = sz) : Ty P T dd z sz' by_ := by rw [e]; exact h
def cloneS (s : Bytes) : Comp Bytes := if s.length ≤ LIM then Comp.pure s else Comp.fail
theorem m_clone {P : Program} {f : FuncId} (hs : ∀ (s : ByteArray) (w : World), s.size ≤ 281474976710656 → Calls P f #[.string s] w fun e w' => e = .returned (.string s) ∧ Below w.heap.size w w') {O : Tags} {w : World} (_ : OkO O w) {s y : Bytes} {n : Nat} (h : (cloneS s).run n = some y) : Pure P f #[.string (str s)] w (SP.isv (.string (str y))).holds := by
  unfold cloneS at h; split at h
  · rename_i hl
    have := Comp.run_pure h; subst this
    refine Calls.mono (hs (str s) w (by rw [str_size]; unfold LIM at hl; omega)) ?_
    rintro e w' ⟨he, hb⟩
    exact ⟨_, he, hb, rfl⟩
  · cases h
theorem no_ft {p : Prop} (h : false = true) : p := by cases h
theorem splice_all {cs vs : List Value} (h : cs.length = vs.length) : (splice cs 0 vs).toArray = vs.toArray := by
  unfold splice; rw [List.take_zero, Nat.zero_add, List.drop_of_length_le (by omega)]; simp
theorem no_tf {b : Bool} {p : Prop} (h : b = true) (k : b = false) : p := by rw [h] at k; cases k
theorem KX.trans {j : Option Nat} {O O' O'' : Tags} {w w' w'' : World} (h : KX j O w O' w') (k : KX j O' w' O'' w'') : KX j O w O'' w'' :=
  ⟨Nat.le_trans h.1 k.1, fun b hb ho => by
    obtain ⟨h1, h2⟩ := h.2 b hb ho
    obtain ⟨h3, h4⟩ := k.2 b (Nat.lt_of_lt_of_le hb h.1) (by rw [h1]; exact ho)
    exact ⟨h3.trans h1, h4.trans h2⟩⟩
theorem KX.trans_same {j : Option Nat} {O O' O'' : Tags} {w w' w'' : World} (h : KX j O w O' w') (k : KX j O' w' O'' w'') : KX j O w O'' w'' := h.trans k
def BoxO (k : Nat) (B : Nat → Prop) (O : Tags) (w : World) (b : Nat) (T : TypeId) (r : GR α) (x : α) : Prop := ∃ cs, OwnB k B O w b cs.toArray T ∧ r.rel O w cs x
theorem BoxO.kx {j : Option Nat} {k : Nat} {B : Nat → Prop} {O O' : Tags} {w w' : World} {b : Nat} {T : TypeId} {r : GR α} {x : α} (h : BoxO k B O w b T r x) (hX : KX j O w O' w') (h0 : some 0 ≠ j) (hk : some k ≠ j) : BoxO k B O' w' b T r x := by
  obtain ⟨cs, h1, h2⟩ := h
  exact ⟨cs, h1.kx hX hk, r.mono (hX.keep h0) h2⟩
theorem BoxO.ext {k : Nat} {B : Nat → Prop} {O : Tags} {w w' : World} {b : Nat} {T : TypeId} {r : GR α} {x : α} (h : BoxO k B O w b T r x) (hE : Ext w w') : BoxO k B O w' b T r x := by
  obtain ⟨cs, h1, h2⟩ := h
  exact ⟨cs, h1.ext hE, r.mono (Keep.ext hE) h2⟩
def BoxA (r : GR α) (T : TypeId) (O : Tags) (w : World) (b : Nat) (x : α) : Prop := ∃ cs, Own w b cs.toArray T ∧ O b ≠ 0 ∧ r.rel O w cs x
theorem BoxO.arg {k : Nat} {B : Nat → Prop} {O : Tags} {w : World} {b : Nat} {T : TypeId} {r : GR α} {x : α} (h : BoxO k B O w b T r x) (hk : k ≠ 0) : BoxA r T O w b x := by
  obtain ⟨cs, h1, h2⟩ := h
  exact ⟨cs, h1.own, by rw [h1.tag]; exact hk, h2⟩
def BioPost (r : GR α) (T : TypeId) (O : Tags) (w : World) (b : Nat) (y : α) (φ : SP) : Ending → World → Prop :=
  fun e w' => ∃ v cs, e = .returned v ∧ But b w w' ∧ Own w' b cs.toArray T ∧ r.rel O w' cs y ∧ φ.holds w' v
section
variable {P : Program} {a : Act} {w : World} {T : TypeId} {pos : String} {aft : Array Edge} {g0 : Option (Nat × Bool)} {K : Act → World → Prop} {Q : Exit → Act → World → Prop} {A : Nat → Prop} {ops : Array Oper} {rest : List Oper}
theorem pio_post {r : GR α} {k b : Nat} {T' : TypeId} {O O0 : Tags} {w0 : World} (hO0 : OkO O0 w0) (hB : Base A O0 w0 O w) {B : Nat → Prop} (hAB : OkB A w0 B) {x y : α} {φ : SP} (hOb : BoxO k B O w b T' r x) {e : Ending} {w2 : World} (h : BioPost r T' O w b y φ e w2) :
    ∃ v, e = .returned v ∧ BoxO k B O w2 b T' r y ∧ Base A O0 w0 O w2 ∧ KX (some k) O w O w2 ∧ φ.holds w2 v := by
  obtain ⟨v, cs, h1, h2, h3, h4, h5⟩ := h
  obtain ⟨cs0, h6, h7⟩ := hOb
  exact ⟨v, h1, ⟨cs, ⟨h3, h6.ge, h6.tag⟩, h4⟩, hB.but (hAB.sub _ h6.ge) h2 hO0, KX.but h2 h6.tag, h5⟩
theorem l_pio {f : FuncId} {xs : Array Operand} {ts : Array TypeId} {args : Array Value} {d : Option Tmp} {r : GR α} {k b : Nat} {T' : TypeId} {O O0 : Tags} {w0 : World} (hO0 : OkO O0 w0) (hB : Base A O0 w0 O w) {B : Nat → Prop} (hAB : OkB A w0 B) (hf : FnOk P f) (ha : xs.map a.eval = args) {x y : α} {φ : SP}
    (h : Calls P f args w (BioPost r T' O w b y φ)) (hOb : BoxO k B O w b T' r x) (hK : ∀ v w2, BoxO k B O w2 b T' r y → Base A O0 w0 O w2 → KX (some k) O w O w2 → φ.holds w2 v → wpList P ops Q rest (a.put d v) w2) : wpList P ops Q (⟨d, .call ⟨.value (.func f), xs, ts⟩, T, pos, aft, none⟩ :: rest) a w :=
  t_calls hf ha h fun e w2 he => by
    obtain ⟨v, h1, h2, h3, h4, h5⟩ := pio_post hO0 hB hAB hOb he
    exact ⟨v, h1, hK v w2 h2 h3 h4 h5⟩
end
theorem bioStart {r : GR α} {T : TypeId} {O : Tags} {w : World} {b : Nat} {x : α} (hO : OkO O w) (h : BoxA r T O w b x) :
    ∃ O' cs, Base (FrB w b) O w O' w ∧ OwnB 1 (FrB w b) O' w b cs.toArray T ∧ r.rel O' w cs x ∧ Keep 0 O w O' w := by
  obtain ⟨cs, h1, h2, h3⟩ := h
  have hk : Keep 0 O w (tag O (some b) 1) w := ⟨Nat.le_refl _, fun c _ hc => ⟨by rw [tag_ne (fun e => by cases e; exact h2 hc)]; exact hc, rfl⟩⟩
  refine ⟨tag O (some b) 1, cs, ⟨rfl, rfl, rfl, Nat.le_refl _, fun _ _ _ => rfl, hO.tag fun g hg => by cases hg; exact h1.lt, fun c _ hc => tag_ne (fun e => by cases e; exact hc (.inr rfl)), fun c _ hz => ?_, fun _ h => .inl h⟩, ⟨h1, .inr rfl, tag_same _ _ _⟩, r.mono hk h3, hk⟩
  by_cases e : some b = some c
  · cases e; rw [tag_same] at hz; cases hz
  · rw [tag_ne e] at hz; exact hz
theorem bio_but {O O' : Tags} {w0 w : World} {b : Nat} (hB : Base (FrB w0 b) O w0 O' w) : But b w0 w :=
  ⟨hB.os, hB.tape, hB.output, hB.size, fun c hc hcb => hB.block c hc (fun e => by rcases e with e | e <;> omega)⟩
theorem Base.rel {A : Nat → Prop} {O Oc : Tags} {w0 w : World} (h : Base A O w0 Oc w) (r : GR α) {cs : List Value} {x : α} (hr : r.rel Oc w cs x) : r.rel O w cs x := r.mono ⟨Nat.le_refl _, fun b hb ho => ⟨h.zero b hb ho, rfl⟩⟩ hr
theorem bioEnd {r : GR α} {T : TypeId} {O O' : Tags} {w0 w : World} {b k : Nat} {cs : List Value} {y : α} {φ : SP} {v : Value} (hB : Base (FrB w0 b) O w0 O' w) (hb : OwnB k (FrB w0 b) O' w b cs.toArray T) (hr : r.rel O' w cs y) (hφ : φ.holds w v) : BioPost r T O w0 b y φ (.returned v) w :=
  ⟨v, cs, rfl, bio_but hB, hb.own, hB.rel r hr, hφ⟩
theorem bio_of_wp {P : Program} {f : FuncId} {fn : Func} {c : Code} {args : Array Value} {w : World} {R : Ending → World → Prop} (hf : P.funcs[f]? = some fn) (hb : fn.body = some c) (N : Nat) (hN : fn.ntmps = N) (hle : args.size ≤ N)
    (h : ∀ a, a.fit N → (∀ i v, args[i]? = some v → a.get i = v) → c.wp P (bodyPost P fn R) a w) : Calls P f args w R := by
  refine calls_of_wp hf hb ?_
  rw [hN]
  exact h _ (fit_start args N hle) fun i v hv => get_start hv
inductive ResAt (P : Program) (a : Act) (w : World) : ResultVar → Value → Prop
  | tmp {t : Nat} {v : Value} (h : a.get t = v) : ResAt P a w (.tmp t) v
  | agg {t X b X' : Nat} {cs : Array Value} {dd z sz by_} (h : a.get t = .pointer (some ⟨b, 0, none⟩)) (hT : Ty P X dd z sz by_) (hd : isAggD dd = true) (hs : cs.size = sz) (hO : Own w b cs X') : ResAt P a w (.cell t X) (.agg cs)
  | one {t X b X' : Nat} {v : Value} {dd z sz by_} (h : a.get t = .pointer (some ⟨b, 0, none⟩)) (hT : Ty P X dd z sz by_) (hd : isAggD dd = false) (hO : Own w b #[v] X') : ResAt P a w (.cell t X) v
def resRun (a : Act) : ResultVar → Sem Value
  | .tmp t => pure (a.tmps.getD t undef)
  | .cell c t => do loadVar t (← asAddr (a.tmps.getD c undef))
theorem ResAt.run {P : Program} {a : Act} {w : World} {r : ResultVar} {v : Value} (h : ResAt P a w r v) : (resRun a r).run P w = .ok v w := by
  cases h with
  | tmp h =>
    have e1 : a.tmps.getD _ undef = v := h
    simp only [Array.getD_eq_getD_getElem?] at e1
    simp [resRun, e1]
  | @agg t X b X' cs dd z sz by_ h hT hd hs hO =>
    subst hs
    have e1 : a.tmps.getD t undef = .pointer (some ⟨b, 0, none⟩) := h
    simp only [Array.getD_eq_getD_getElem?] at e1
    simp [resRun, e1, asAddr, loadVar, hT.run_agg, hd, hT.run_size, _root_.Go.Eng.run_loadCells (P := P) (w := w) (b := b) (off := 0) (cs := cs) (fun j _ => by rw [hO.cell]; simp)]
  | @one t X b X' v dd z sz by_ h hT hd hO =>
    have e1 : a.tmps.getD t undef = .pointer (some ⟨b, 0, none⟩) := h
    simp only [Array.getD_eq_getD_getElem?] at e1
    have hc : w.cell? ⟨b, 0, none⟩ = some v := by rw [hO.cell]; rfl
    simp [resRun, e1, asAddr, loadVar, hT.run_agg, hd, hc]
theorem results_eq (fn : Func) (a : Act) : results fn a.tmps = (do let vs ← fn.results.mapM (resRun a); pure (if h : vs.size = 1 then vs[0] else .tuple vs)) := by
  unfold results
  congr 1
theorem retG1 {P : Program} {fn : Func} {R : Ending → World → Prop} {a : Act} {w : World} {N : Nat} {r : ResultVar} {v : Value} (hr : fn.results = #[r]) (hA : a.fit N) (hv : ResAt P a w r v) (h : R (.returned v) w) : bodyPost P fn R .ret a w :=
  ⟨hA.defers, v, by rw [results_eq, hr]; simp [hv.run], h⟩
theorem retG2 {P : Program} {fn : Func} {R : Ending → World → Prop} {a : Act} {w : World} {N : Nat} {r1 r2 : ResultVar} {v1 v2 : Value} (hr : fn.results = #[r1, r2]) (hA : a.fit N) (h1 : ResAt P a w r1 v1) (h2 : ResAt P a w r2 v2) (h : R (.returned (.tuple #[v1, v2])) w) : bodyPost P fn R .ret a w :=
  ⟨hA.defers, .tuple #[v1, v2], by rw [results_eq, hr]; simp [h1.run, h2.run], h⟩
theorem fieldsOf_eq {P : Program} {T : TypeId} {fs : Array Field} (h : P.underlying T = some (.struct fs)) : P.fieldsOf T = fs := by unfold Program.fieldsOf; rw [h]
theorem eqr_structT {P : Program} {T : TypeId} {r : GR γ} [DecidableEq γ] {D : Nat} {z sz by_} {fs : Array Field} {b : γ → γ → Bool} (hT : Ty P T (.struct fs) z sz by_) (ha : r.agg = true) (hs : r.sz = sz) (hp : P.stoodInHeld T = false) (h : EqFs P r D fs.toList b) (hb : ∀ x y, b x y = decide (x = y)) : EqR P T r (D + 1) :=
  eqr_struct hT rfl ha hs (by rw [fieldsOf_eq hT.u]; exact hT.u) hp (by rw [fieldsOf_eq hT.u]) h hb
theorem okl_arrAt {P : Program} {a : Act} {w : World} {d : Option Tmp} {T : TypeId} {pos : String} {aft : Array Edge} {g : Option (Nat × Bool)} {x : Operand} {X e n k : Nat} {r : GR α} (hr : r.fits) (hsz : r.sz = k) {f : α → List Value} {hl ho} {O : Tags} {ys : List α} {xs : Vector α n} (hrf : ∀ O w y x, r.v O w y x → y = packV r.agg (f x)) (hrf' : ∀ O w x, r.rel O w (f x) x) (hn : 0 < n) (hs' : 0 < (rVec n k f hl ho).sz) {nf : Nat} {z sz by_} (hT : Ty P X (.array n e) z sz by_) {u : Value} (hu : a.eval x = u) (hx : (rSl r).v O w u ys) (h : (toVec n ys).run nf = some xs) :
    Ok P ⟨d, .sliceToArrayPointer X x, T, pos, aft, g⟩ a w (SP.ptrz (rVec n k f hl ho) O xs hs' (fun h => by cases h)).holds := by
  obtain ⟨hle, hxs⟩ := run_toVec h
  obtain ⟨vs, ⟨p, cap, h1, h2, h3, h4⟩, h5, h6⟩ := rSl_v.1 hx
  have hlen := h5.len
  have hne : vs ≠ [] := fun e => by rw [e] at hlen; simp at hlen; omega
  rcases h4 with h4 | ⟨b, off, hp, hc⟩
  · exact absurd h4 hne
  have hb := h6 hne b (by rw [h1, hp]; rfl)
  refine ok_run (v := .pointer (some ⟨b, off, none⟩)) (w' := w) ?_ (Ext.refl w) ⟨b, off, .agg (cellsA f xs).toArray, rfl, hb.2, ⟨_, rfl, rfl⟩, fun j hj => ?_⟩
  · have : ¬ vs.length < n := by omega
    rw [h1, hp] at hu
    simp [execOp, Instr.arrayAt, hu, hT.run_u, this]
  · have hk : 0 < k := by
      rcases Nat.eq_zero_or_pos k with hk | hk
      · subst hk
        simp only [Value.cells, List.size_toArray, cellsA_len hl] at hj
        omega
      · exact hk
    simp only [Value.cells, List.size_toArray, cellsA_len hl, List.getElem?_toArray] at hj ⊢
    have hi : j / k < n := Nat.div_lt_of_lt_mul (by rw [Nat.mul_comm]; exact hj)
    have hj' : j = j / k * k + j % k := by rw [Nat.mul_comm]; exact (Nat.div_add_mod j k).symm
    have hm : j % k < k := Nat.mod_lt _ hk
    obtain ⟨y, hy⟩ : ∃ y, ys[j / k]? = some y := ⟨_, List.getElem?_eq_getElem (by omega)⟩
    obtain ⟨v, hv, hvr⟩ := h5.get _ _ hy
    have hvf := hrf _ _ _ _ hvr
    have hcp : (packV r.agg (f y)).cells = (f y).toArray := cells_pack (fun ha => by rw [r.len (hrf' (fun _ => 0) w y), hr ha]) (r.one (hrf' (fun _ => 0) w y))
    have hcell := hc (j / k) v hv (j % k) (by rw [hsz]; exact hm)
    rw [hsz, ← hj', hvf, hcp, List.getElem?_toArray] at hcell
    rw [hcell]
    have hxy : xs.toList[j / k]? = some y := by rw [hxs, List.getElem?_take, if_pos hi]; exact hy
    obtain ⟨c1, c2, e1, e2, _⟩ := flatMap_split hl xs.toList (j / k) y hxy
    unfold cellsA
    rw [e1]
    conv => rhs; rw [hj']
    rw [List.getElem?_append_right (by omega), e2, show j / k * k + j % k - j / k * k = j % k by omega, List.getElem?_append_left (by rw [hl]; exact hm)]
theorem arr_spl {f : α → List Value} {n k : Nat} {l1 l2 : List Value} {x z : Vector α n} {i : Int} {y : α} {m : Nat} (hf : ∀ x, (f x).length = k) (h : (vupd x i y).run m = some z) {off : Nat} (ho : l1.length = off) {cs : List Value} {cs' : Array Value} (h1 : cs = l1 ++ (cellsA f x ++ l2)) (h2 : cs' = (l1 ++ (cellsA f z ++ l2)).toArray) :
    (splice cs (off + i.toNat * k) (f y)).toArray = cs' := by rw [h1, h2, splice_arr hf h ho]
theorem arr_bnd {f : α → List Value} {n k : Nat} {l1 l2 : List Value} {x : Vector α n} {i : Int} {y : α} (hf : ∀ x, (f x).length = k) (h : 0 ≤ i ∧ i < n) {off : Nat} (ho : l1.length = off) {cs : Array Value} (h1 : cs.toList = l1 ++ (cellsA f x ++ l2)) : off + i.toNat * k + (f y).length ≤ cs.size := by
  have := arr_bound (l2 := l2) hf (x := x) h ho (y := y)
  rw [← h1] at this
  simpa using this
section
variable {P : Program} {a : Act} {w : World} {T : TypeId} {pos : String} {aft : Array Edge} {g : Option (Nat × Bool)} {d : Option Tmp}
end
theorem okl_buildArr {P : Program} {a : Act} {w : World} {d : Option Tmp} {T : TypeId} {pos : String} {aft : Array Edge} {g : Option (Nat × Bool)} {X e n k : Nat} {z sz by_ dd z' by_'} (hT : Ty P X (.array n e) z sz by_) (he : Ty P e dd z' k by_') {parts : Array (Nat × Operand)} {vals : List (Nat × Value)} (hv : parts.toList.map (fun p => (p.1, a.eval p.2)) = vals) {zc out : List Value} (hz : z.cells = zc.toArray) (hf : Fill (fun i => some (i * k, k)) zc vals out) {v : Value} (hev : .agg out.toArray = v) :
    Ok P ⟨d, .build X parts, T, pos, aft, g⟩ a w (SP.isv v).holds := by
  subst hev
  refine ok_pure ?_
  have e1 : (parts.map fun (i, x) => (i, a.eval x)).toList = vals := by rw [← hv]; simp
  simp only [execOp, Instr.build, Sem.run_bind, hT.run_zero, hT.run_u, Result.andThen, he.run_size, e1, hf.run z.cells (by rw [hz])]
  simp
theorem rel_one {r : GR α} {O : Tags} {w : World} {cs : List Value} {x : α} (h : r.rel O w cs x) (ha : r.agg = false) (hs : r.sz = 1) : ∃ u, cs = [u] ∧ r.v O w u x := by
  have hl := r.len h
  rw [hs] at hl
  match cs, hl with
  | [c], _ => exact ⟨c, rfl, [c], h, by rw [ha]; rfl⟩
end Go.Lift
end
section
set_option linter.unusedVariables false
set_option linter.unusedSimpArgs false
namespace Go.Lift
open Go Go.RowKit Go.Eng
variable {α : Type}
def preV : Value → Nat → Value
  | .slice p _ c, n => .slice p n c
  | v, _ => v
theorem preV_block (u : Value) (n : Nat) : (preV u n).ownBlock = u.ownBlock := by
  cases u <;> try rfl
  rename_i p k c
  cases p <;> rfl
theorem flat_len {E : Nat} : ∀ {vs : List Value}, (∀ x ∈ vs, x.cells.size = E) → (flat vs).length = vs.length * E
  | [], _ => by simp [flat]
  | y :: vs, h => by
      have hy := h y (by simp)
      have := flat_len (vs := vs) (fun y hy => h y (by simp [hy]))
      unfold flat at this ⊢
      rw [List.flatMap_cons, List.length_append, this, Array.length_toList, hy, List.length_cons, Nat.add_mul]; omega
theorem flat_take {E : Nat} : ∀ {vs : List Value}, (∀ x ∈ vs, x.cells.size = E) → ∀ n, (flat vs).take (n * E) = flat (vs.take n)
  | [], _, n => by simp [flat]
  | y :: vs, h, 0 => by simp [flat]
  | y :: vs, h, n + 1 => by
      have hy := h y (by simp)
      have := flat_take (vs := vs) (fun y hy => h y (by simp [hy])) n
      unfold flat at this ⊢
      rw [List.take_succ_cons, List.flatMap_cons, List.flatMap_cons, ← this, Nat.add_mul, List.take_append, Array.length_toList, hy, List.take_of_length_le (by rw [Array.length_toList, hy]; omega)]
      congr 2; omega
theorem ownS_pre {w : World} {B T E : Nat} {u : Value} {vs : List Value} (h : OwnS w B T E u vs) {n : Nat} (hn : n ≤ vs.length) : OwnS w B T E (preV u n) (vs.take n) := by
  have hs : ∀ x ∈ vs.take n, x.cells.size = E := fun x hx => h.sz x (List.mem_of_mem_take hx)
  have hl : (vs.take n).length = n := by rw [List.length_take]; omega
  refine ⟨hs, ?_, ?_⟩
  · rw [flat_len hs]
  · rcases h.row.2 with ⟨h1, h2⟩ | ⟨b, cap, cur, h1, h2, h3, h4, h5, h6, h7⟩
    · left
      have hn0 : n = 0 := by omega
      subst hn0
      rw [h1]; exact ⟨rfl, by rw [hl]⟩
    · right
      refine ⟨b, cap, cur, by rw [h1, hl]; rfl, h2, h3, by rw [hl]; omega, h5, h6, ?_⟩
      rw [hl, ← flat_take h.sz n, ← h7, List.take_take, Nat.min_eq_left (Nat.mul_le_mul_right _ hn)]
section ops
variable {P : Program} {a : Act} {w : World} {d : Option Tmp} {T : TypeId} {pos : String} {aft : Array Edge} {g : Option (Nat × Bool)}
theorem okl_slice_p {x h : Operand} {X e : TypeId} {r : GR α} {O : Tags} {xs ys : List α} {n : Int} {k : IntKind} {m : Nat} {z sz by_ dd z' E by_'} (hT : Ty P X (.slice e) z sz by_) (he : Ty P e dd z' E by_') (hE : r.sz = E) {u : Value} (hu : a.eval x = u) (hx : (rSl r).v O w u xs) (hh : a.eval h = .int k n) (hr : (sub xs 0 n).run m = some ys) :
    Ok P ⟨d, .slice X x none (some h) none, T, pos, aft, g⟩ a w (SP.isv (preV u ys.length)).holds := by
  obtain ⟨⟨h1, h2, h3⟩, h4⟩ := run_sub hr
  obtain ⟨vs, s1, s2, s3⟩ := rSl_v.1 hx
  subst hE
  have hlen := s2.len
  obtain ⟨p, c, hu', hc⟩ := s1.slice
  have e4 : ys = xs.take n.toNat := h4.symm
  have e5 : ys.length = n.toNat := by rw [e4, List.length_take]; omega
  rw [hu'] at hu
  refine ok_run (v := .slice p n.toNat c) (w' := w) ?_ (Ext.refl w) (by rw [hu', e5]; rfl)
  have h1' : n ≤ (c : Int) := by omega
  simp [execOp, Instr.sliceAt, Instr.slice, Instr.sliceBounds, hu, hh, hT.run_u, he.run_size, bound_run h2 h1']
  intro _
  cases p <;> simp [Addr.add]
theorem okl_ldrv {x : Operand} {X : TypeId} {v : Value} (r : GR α) (hr : r.fits) {O : Tags} {y : α} {dd z sz by_} (hT : Ty P X dd z sz by_) (hd : isAggD dd = r.agg) (hs : r.sz = sz) {u : Value} (hu : a.eval x = u) (hx : (SP.ptr r O y).holds w u) (hv : ∀ O w u, r.v O w u y → u = v) :
    Ok P ⟨d, .load X x, T, pos, aft, g⟩ a w (SP.isv v).holds := okl_ldr r hr hT hd hs hu hx hv
end ops
def OwnBP (k : Nat) (B : Nat → Prop) (O : Tags) (w : World) (v : Value) (cs : Array Value) (T : TypeId) : Prop := ∃ b, v = .pointer (some ⟨b, 0, none⟩) ∧ OwnB k B O w b cs T
theorem OwnBP.kx {j : Option Nat} {k : Nat} {B : Nat → Prop} {O O' : Tags} {w w' : World} {v : Value} {cs : Array Value} {T : TypeId} (h : OwnBP k B O w v cs T) (hX : KX j O w O' w') (hk : some k ≠ j) : OwnBP k B O' w' v cs T := by
  obtain ⟨b, h1, h2⟩ := h; exact ⟨b, h1, h2.kx hX hk⟩
theorem skip_ne {os : List Oper} {cs : List Bool} {i j : Nat} (hact : act os cs i = false) (hG : act os cs j = true) : i ≠ j := fun e => by rw [e, hG] at hact; cases hact
theorem io_pre {P : Program} {f : FuncId} {T : Nat} {r : GR α} {O : Tags} {w : World} {u : Value} {xs ys : List α}
    (h : OwnR r T 0 O w u xs) (hy : ys = xs.take ys.length) (hp : Pure P f #[u] w (SP.isv (preV u ys.length)).holds) : Calls P f #[u] w (IoPost r T O w u ys fun v u' => v = u') := by
  refine Calls.mono hp fun e w' ⟨v, h1, hE, h3⟩ => ?_
  have h3 : v = preV u ys.length := h3
  subst h3
  refine ⟨_, _, h1, ⟨?_, .inl (preV_block _ _)⟩, ?_, rfl⟩
  · exact ⟨hE.os, hE.tape, hE.output, hE.size, fun k hk _ => hE.block k hk⟩
  · obtain ⟨vs, g1, g2⟩ := h.ext hE
    have hl := g2.len
    have hle : ys.length ≤ xs.length := by rw [hy, List.length_take]; exact Nat.min_le_right _ _
    refine ⟨vs.take ys.length, ownS_pre g1 (by omega), ?_⟩
    rw [preV_block]
    conv => rhs; rw [hy]
    exact g2.take _
theorem OwnR.lend {r : GR α} {T B O w u xs} (h : OwnR r T B O w u xs) : (rSl r).v (fun _ => 0) w u xs := by
  obtain ⟨vs, h1, h2⟩ := h
  exact rSl_v.2 ⟨vs, h1.slv, h2.mono ⟨Nat.le_refl _, fun _ _ _ => ⟨rfl, rfl⟩⟩, fun _ g hg => ⟨h1.block_lt g hg, rfl⟩⟩
end Go.Lift
namespace Go.Eng
open Go Go.RowKit
section fld
variable {P : Program} {a : Act} {w : World} {T : TypeId} {pos : String} {aft : Array Edge} {ops : Array Oper} {Q : Exit → Act → World → Prop} {rest : List Oper}
theorem t_storeFld {x y : Operand} {X Xe E B n j sz : Nat} {vs : List Value} {u p v v' : Value} {dd z by_} (hT : Ty P X dd z sz by_) (hx : a.eval x = p) (hp : EltOf u (n * E + j) p) (hO : OwnS w B Xe E u vs) (hy : a.eval y = v) (hv : v.cells.size = sz) (h1 : ∀ c ∈ v.cells.toList, c.oneCell' = true) (hj : j + sz ≤ E) (hn : n < vs.length)
    (hv' : v'.cells.size = E) (hc : ∀ i, i < E → v'.cells[i]? = if j ≤ i ∧ i < j + sz then v.cells[i - j]? else (vs.getD n undef).cells[i]?)
    (hK : ∀ w', OwnS w' B Xe E u (vs.set n v') → Appd w w' u u → wpList P ops Q rest a w') : wpList P ops Q (⟨none, .store X x y, T, pos, aft, none⟩ :: rest) a w := by
  obtain ⟨b, hb, rfl⟩ := hp
  rcases hO.row.2 with ⟨_, h2⟩ | ⟨g, cap, cur, hu, hBg, hg, hnc, hcm, hcs, htk⟩
  · omega
  · rw [hu] at hb
    simp only [Value.ownBlock, Option.some.injEq] at hb
    subst hb
    have hnE : n * E + E ≤ vs.length * E := by
      have : (n + 1) * E ≤ vs.length * E := Nat.mul_le_mul_right _ hn
      rw [Nat.add_mul] at this; omega
    have hvc : vs.length * E ≤ cap * E := Nat.mul_le_mul_right _ hnc
    obtain ⟨w', cs', h2, h3, h4, h5, h6, h7, h8, h9, h10⟩ := run_storeCells2 (P := P) (off := n * E + j) v.cells.toList 0 w cur h1 hg (by rw [Array.length_toList, hv, hcs]; omega)
    have hs' : ∀ c ∈ vs.set n v', c.cells.size = E := by
      intro c hc
      rcases List.mem_or_eq_of_mem_set hc with h | h
      · exact hO.sz c h
      · rw [h]; exact hv'
    refine t_skip (w' := w') ?_ rfl rfl (hK w' ⟨hs', ?_, .inr ⟨g, cap, cs', by rw [hu, List.length_set], hBg, h3, by rw [List.length_set]; exact hnc, hcm, by rw [h4, hcs], ?_⟩⟩ ⟨⟨h6, h7, h8, by omega, fun k _ hk => h10 k (fun e => hk (by rw [hu, e]; rfl))⟩, .inl rfl⟩)
    · simp [execOp, Instr.storeAt, Instr.sureAddr, hx, hy, storeVar, hv, hT.run_size, h2]
    · rw [flat_length hs']
    · apply List.ext_getElem?
      intro i
      rw [flat_set vs n v' hO.sz hv' hn i, List.length_set, List.getElem?_take]
      have hfl : ∀ i, i < vs.length * E → (flat vs)[i]? = cur[i]? := by
        intro i hi
        rw [← htk, List.getElem?_take, if_pos hi]; simp
      by_cases hi : i < vs.length * E
      · rw [if_pos hi, Array.getElem?_toList, h5 i]
        simp only [Nat.add_zero, Array.length_toList, hv, Array.getElem?_toList]
        by_cases h : n * E ≤ i ∧ i < n * E + E
        · rw [if_pos h]
          have := hc (i - n * E) (by omega)
          by_cases hk : n * E + j ≤ i ∧ i < n * E + j + sz
          · rw [if_pos hk]
            rw [if_pos (by omega)] at this
            rw [show i - n * E - j = i - (n * E + j) by omega] at this
            simpa using this.symm
          · rw [if_neg hk]
            rw [if_neg (by omega)] at this
            have hgn : vs[n]? = some (vs.getD n undef) := by rw [List.getD_eq_getElem?_getD, List.getElem?_eq_getElem hn]; rfl
            have hat := flat_at hO.sz n _ hgn (i - n * E) (by omega)
            rw [show n * E + (i - n * E) = i by omega, hfl i hi] at hat
            rw [hat]; simpa using this.symm
        · rw [if_neg h, if_neg (by omega), hfl i hi]
      · rw [if_neg hi, if_neg (by omega)]
        symm
        rw [List.getElem?_eq_none]
        rw [flat_length hO.sz]; omega
end fld
end Go.Eng
namespace Go.Lift
open Go Go.RowKit Go.Eng
section fld
variable {α : Type} {P : Program} {a : Act} {w : World} {T : TypeId} {pos : String} {aft : Array Edge} {ops : Array Oper} {Q : Exit → Act → World → Prop} {rest : List Oper} {A : Nat → Prop}
theorem l_storeFld {x y : Operand} {X Xe E k j : Nat} {f : α → List Value} {hl : ∀ x, (f x).length = E} {ho : ∀ x, ∀ c ∈ f x, c.oneCell' = true} {O O0 : Tags} {w0 : World} (hO0 : OkO O0 w0) (hB : Base A O0 w0 O w) {B : Nat → Prop} (hAB : OkB A w0 B) {xs ys : List α} {u p v : Value} {m : Int} {x0 x1 : α} {dd z by_}
    (hT : Ty P X dd z 1 by_) (hx : a.eval x = p) (hp : EltOf u (m.toNat * E + j) p) (hO : OwnL k (rC true E f hl ho) Xe B O w u xs) (hy : a.eval y = v) (hv : v.cells = #[v]) (h1 : v.oneCell' = true) (hj : j < E) {n n' : Nat} (hx0 : (idx xs m).run n = some x0) (hupd : (upd xs m x1).run n' = some ys) (hc : f x1 = (f x0).set j v) (hk : k ≠ 0)
    (hK : ∀ w', OwnL k (rC true E f hl ho) Xe B O w' u ys → Base A O0 w0 O w' → KX (some k) O w O w' → wpList P ops Q rest a w') : wpList P ops Q (⟨none, .store X x y, T, pos, aft, none⟩ :: rest) a w := by
  obtain ⟨hm, hys⟩ := run_upd hupd
  have hge := hO.ge
  have htag := hO.tagged
  obtain ⟨vs, g1, h2, h3⟩ := hO
  have hlen := h2.len
  have g1 : OwnS w 0 Xe E u vs := g1
  have hi0 : xs[m.toNat]? = some x0 := by
    unfold idx at hx0
    rw [if_pos hm.1] at hx0
    exact Comp.run_ofOpt hx0
  obtain ⟨v0, hv0, hr0⟩ := h2.get _ _ hi0
  have hr0 : v0 = .agg (f x0).toArray := rC_v.1 hr0
  have hD : vs.getD m.toNat undef = .agg (f x0).toArray := by rw [List.getD_eq_getElem?_getD, hv0, hr0]; rfl
  refine t_storeFld (v' := .agg (f x1).toArray) hT hx hp g1 hy (by rw [hv]; rfl) (by rw [hv]; simpa using h1) (by omega) (by omega) (by show (f x1).toArray.size = E; simp [hl]) (fun i hi => ?_) fun w' h4 h5 => ?_
  · rw [hD]
    show (f x1).toArray[i]? = if j ≤ i ∧ i < j + 1 then v.cells[i - j]? else (f x0).toArray[i]?
    rw [hv, hc]
    simp only [List.getElem?_toArray]
    by_cases hij : i = j
    · subst hij
      rw [List.getElem?_set_self (by rw [hl]; exact hj), if_pos (by omega), Nat.sub_self]; rfl
    · rw [List.getElem?_set_ne (fun e => hij e.symm), if_neg (by omega)]
  have hkx : KX (some k) O w O w' := ⟨h5.by_.size, fun b hb hbk => ⟨rfl, h5.by_.block b hb (fun e => hbk (by rw [htag b e.symm]))⟩⟩
  have k0 := hkx.keep (k := 0) (by simpa using hk.symm)
  have hs := hB.size
  have hs2 := h5.by_.size
  refine hK w' ⟨vs.set m.toNat (.agg (f x1).toArray), h4, by rw [← hys]; exact (h2.mono k0).set _ (rC_v.2 rfl), h3⟩ ?_ hkx
  exact ⟨h5.by_.os.trans hB.os, h5.by_.tape.trans hB.tape, h5.by_.output.trans hB.output, by omega, fun b hb hnA => (h5.by_.block b (by omega) (fun e => hnA (hAB.sub b (hge b e.symm).1))).trans (hB.block b hb hnA),
    fun b hb' => hB.ok b (by omega), hB.old, fun b _ ho => by
      by_cases hlt : b < w.heap.size
      · exact hB.zero b hlt ho
      · exact hO0 b (by omega), hB.new⟩
end fld
section ops
variable {P : Program} {a : Act} {w : World} {d : Option Tmp} {T : TypeId} {pos : String} {aft : Array Edge} {g : Option (Nat × Bool)}
theorem okl_fldElt {x : Operand} {X i ft o c : Nat} {u p : Value} {off : Nat} (hF : Fld P X i ft o c) (hx : a.eval x = p) (hp : EltOf u off p) : Ok P ⟨d, .fieldAddr X x i, T, pos, aft, g⟩ a w (SP.elt u (off + o)).holds := by
  obtain ⟨b, h1, h2⟩ := hp
  exact fun K Q hK => ok_fieldAddr hF (hx.trans h2) K Q fun v' w' hE hv => hK v' w' hE ⟨b, h1, hv⟩
end ops
end Go.Lift
end
section
set_option linter.unusedVariables false
set_option linter.unusedSimpArgs false
namespace Go.Lift
open Go Go.Eng
variable {α β γ δ ε σ τ : Type}
namespace Comp
def Step.map (g : σ → τ) : Step σ ε → Step τ ε
  | .next s => .next (g s)
  | .done e => .done e
theorem loop_seq {body : τ → Comp (Step τ ε)} (st : Nat → τ) (N : Nat) (e : ε) (hb : ∀ i, i < N → (body (st i)).val = some (.next (st (i + 1)))) (he : (body (st N)).val = some (.done e)) : (loop body (st 0)).val = some e := by
  have key : ∀ k i, i + k = N → (loop body (st i)).val = some e := by
    intro k
    induction k with
    | zero =>
      intro i hi
      have : i = N := by omega
      subst this
      rw [val_loop, he]; rfl
    | succ k ih =>
      intro i hi
      rw [val_loop, hb i (by omega)]
      exact ih (i + 1) (by omega)
  exact key N 0 (by omega)
theorem wrap_succ {i : Nat} (h : i < 9223372036854775807) : IntKind.wrap .i64 ((i : Int) + 1) = ((i + 1 : Nat) : Int) := by
  rw [IntWalk.i64_in _ ⟨by omega, by omega⟩]; omega
end Comp
theorem idx_val {xs : List α} {i : Nat} {x : α} (h : xs[i]? = some x) : (idx xs (i : Int)).val = some x := by
  unfold idx; rw [if_pos (by omega)]; simp [h]
theorem idx_val' {xs : List α} {i : Int} {x : α} (h0 : 0 ≤ i) (h : xs[i.toNat]? = some x) : (idx xs i).val = some x := by
  unfold idx; rw [if_pos h0]; simp [h]
theorem app_val {xs ys : List α} (h : xs.length + ys.length ≤ LIM) : (app xs ys).val = some (xs ++ ys) := by
  unfold app; rw [if_pos h]; simp
theorem sub_val {xs : List α} {l h : Int} (hr : 0 ≤ l ∧ l ≤ h ∧ h ≤ xs.length) : (sub xs l h).val = some ((xs.take h.toNat).drop l.toNat) := by
  unfold sub; rw [if_pos hr]; simp
theorem mk_val {n : Int} {z : α} (h : 0 ≤ n ∧ n ≤ LIM) : (mk n z).val = some (List.replicate n.toNat z) := by
  unfold mk; rw [if_pos h]; simp
theorem nonneg_val {n : Int} (h : 0 ≤ n) : (nonneg n).val = some () := by
  unfold nonneg; rw [if_pos h]; simp
theorem upd_val {xs : List α} {i : Int} {x : α} (h : 0 ≤ i ∧ i < xs.length) : (upd xs i x).val = some (xs.set i.toNat x) := by
  unfold upd; rw [if_pos h]; simp
theorem rem_val {a b : Int} (h : b ≠ 0) : (rem a b).val = some (a.tmod b) := by
  unfold rem; rw [if_neg h]; simp
end Go.Lift
end
section
set_option linter.unusedVariables false
set_option linter.unusedSimpArgs false
namespace Go.Bld
open Go Go.Shelf Go.RowKit Go.Proofs
set_option maxHeartbeats 1000000 in
set_option maxRecDepth 100000 in
theorem check_used (b : Nat) (w : World) (h0 : w.cell? ⟨b, 0, none⟩ = some (.pointer (some ⟨b, 0, none⟩))) :
    Calls Try.prog 138 #[.pointer (some ⟨b, 0, none⟩)] w fun e w' => e = .returned (.tuple #[]) ∧ w' = w := by
  obtain ⟨j, hj, _⟩ := Option.map_eq_some_iff.1 Try.Builder_Extra_169.sizeBuilder
  have mixed : Try.prog.follows .mixedOrders = true := by kernel_rfl
  have t72 := Try.underlying138; have a72 := Try.isAgg138; have z72 := Try.sizeOf138; have v72 := Try.zeroValue138; have u72 := run_underlying Try.underlying138
  have t70 := Try.underlying136; have a70 := Try.isAgg136; have z70 := Try.sizeOf136; have v70 := Try.zeroValue136; have u70 := run_underlying Try.underlying136
  have t4 := Try.underlying4; have a4 := Try.isAgg4; have z4 := Try.sizeOf4; have v4 := Try.zeroValue4; have u4 := run_underlying Try.underlying4
  go_enter Try.func138, Try.ntmps138
  go_wp2
  rw [Lib.run_neq_ptr_same w _ Try.underlying136 hj]
  go_wp2
  go_end0
  exact ⟨rfl, rfl⟩
set_option maxHeartbeats 1000000 in
set_option maxRecDepth 100000 in
theorem check_fresh (b : Nat) (w : World) (h0 : w.cell? ⟨b, 0, none⟩ = some (.pointer none)) (hsh : w.shape? b = some (138, 2)) (hfz : w.frozen? ⟨b, 0, none⟩ = false) :
    Calls Try.prog 138 #[.pointer (some ⟨b, 0, none⟩)] w fun e w' => e = .returned (.tuple #[]) ∧ w' = w.setCell ⟨b, 0, none⟩ (.pointer (some ⟨b, 0, none⟩)) := by
  obtain ⟨j, hj, hjs⟩ := Option.map_eq_some_iff.1 Try.Builder_Extra_169.sizeBuilder
  have mixed : Try.prog.follows .mixedOrders = true := by kernel_rfl
  have t72 := Try.underlying138; have a72 := Try.isAgg138; have z72 := Try.sizeOf138; have v72 := Try.zeroValue138; have u72 := run_underlying Try.underlying138
  have t70 := Try.underlying136; have a70 := Try.isAgg136; have z70 := Try.sizeOf136; have v70 := Try.zeroValue136; have u70 := run_underlying Try.underlying136
  have t4 := Try.underlying4; have a4 := Try.isAgg4; have z4 := Try.sizeOf4; have v4 := Try.zeroValue4; have u4 := run_underlying Try.underlying4
  go_enter Try.func138, Try.ntmps138
  go_wp2
  rw [Lib.run_to_unsafe w ⟨b, 0, none⟩ Try.underlying136 Try.underlying158 hj (by rw [hjs]; decide) hsh (Nat.zero_lt_succ 1)]
  simp only [Result.andThen]
  rw [Oper.upon_value]
  go_wp2
  rw [run_callFunc_extern Try.func146 (by kernel_rfl) (by kernel_rfl) (by kernel_rfl) (e := Extern.AbiNoEscape.same) (by kernel_rfl)]
  rw [Lib.run_noEscape]
  simp only [Result.andThen]
  rw [Oper.upon_value]
  go_wp2
  rw [Lib.run_from_unsafe w ⟨b, 0, none⟩ Try.underlying158 Try.underlying136 hj hsh Try.Builder_Extra_169.liesBuilder]
  simp only [Result.andThen]
  rw [Oper.upon_value]
  go_wp2
  go_end0
  exact ⟨rfl, rfl⟩
theorem check (B b : Nat) (bs : List Value) (w : World) (h : Lib.IsBuilderF 138 5 B b bs w) :
    Calls Try.prog 138 #[.pointer (some ⟨b, 0, none⟩)] w fun e w' => e = .returned (.tuple #[]) ∧ (Lib.BuilderAtF 138 5 B b (.pointer (some ⟨b, 0, none⟩)) bs w' ∧ Below B w w') := by
  rcases h with h | h
  · refine (check_fresh b w h.cell0 h.shape h.frozen0).mono ?_
    rintro e w' ⟨rfl, rfl⟩
    exact ⟨rfl, h.used _, (Below.refl B w).setCell (p := ⟨b, 0, none⟩) h.1 _⟩
  · refine (check_used b w h.cell0).mono ?_
    rintro e w' ⟨rfl, rfl⟩
    exact ⟨rfl, h, Below.refl B _⟩
set_option maxHeartbeats 2000000 in
set_option maxRecDepth 100000 in
theorem write (B b : Nat) (bs : List Value) (s : ByteArray) (w : World) (h : Lib.IsBuilderF 138 5 B b bs w) (hlen : bs.length + s.size ≤ 140737488355328) (hBw : B ≤ w.heap.size) :
    Calls Try.prog 125 #[.pointer (some ⟨b, 0, none⟩), .string s] w fun e w' => e = .returned (.tuple #[.int .i64 s.size, .nilIface]) ∧ (Lib.IsBuilderF 138 5 B b (bs ++ Lib.strCells s) w' ∧ Below B w w') := by
  obtain ⟨i0, hi, hz0, hz1, hz2⟩ := info_parts Try.Builder_Extra_169.infoByte
  have mixed : Try.prog.follows .mixedOrders = true := by kernel_rfl
  have t72 := Try.underlying138; have a72 := Try.isAgg138; have z72 := Try.sizeOf138; have v72 := Try.zeroValue138; have u72 := run_underlying Try.underlying138
  have t70 := Try.underlying136; have a70 := Try.isAgg136; have z70 := Try.sizeOf136; have v70 := Try.zeroValue136; have u70 := run_underlying Try.underlying136
  have t37 := Try.underlying104; have a37 := Try.isAgg104; have z37 := Try.sizeOf104; have v37 := Try.zeroValue104; have u37 := run_underlying Try.underlying104
  have t3 := Try.underlying3; have a3 := Try.isAgg3; have z3 := Try.sizeOf3; have v3 := Try.zeroValue3; have u3 := run_underlying Try.underlying3
  have t9 := Try.underlying9; have a9 := Try.isAgg9; have z9 := Try.sizeOf9; have v9 := Try.zeroValue9; have u9 := run_underlying Try.underlying9
  have t4 := Try.underlying4; have a4 := Try.isAgg4; have z4 := Try.sizeOf4; have v4 := Try.zeroValue4; have u4 := run_underlying Try.underlying4
  have t5 := Try.underlying5; have a5 := Try.isAgg5; have z5 := Try.sizeOf5; have v5 := Try.zeroValue5; have u5 := run_underlying Try.underlying5
  have e240 : ∀ args w, (callFunc 138 args).run Try.prog w = .ok (.enter 138 args) w := enters_of Try.func138 (by kernel_rfl) rfl
  go_enter Try.func125, Try.ntmps125
  go_wp2_with (go_at_fn 138; refine (check B b bs _ h).mono ?_)
  rintro e w1 ⟨rfl, h1, hb1⟩
  obtain ⟨hB, v, hbk, hown, hne⟩ := h1
  have c0 : w1.cell? ⟨b, 0, none⟩ = some (.pointer (some ⟨b, 0, none⟩)) := by rw [Lib.cell_of_heap hbk]; rfl
  have c1 : w1.cell? ⟨b, 1, none⟩ = some v := by rw [Lib.cell_of_heap hbk]; rfl
  go_wp2_with (at_builtin; refine Lib.wpList_append_own_stringF _ rfl _ _ 104 9 rfl B 5 i0 Try.underlying104 Try.underlying9 hi hz0 hz1 hz2 _ _ _ rfl hown s rfl ?c3 ?c4 ?c5 ?_)
  case c3 => unfold maxLen; omega
  case c4 => omega
  case c5 => have := hb1.size; omega
  intro v' w2 hown' hgrow _
  have hlt : b < w1.heap.size := by
    rcases Nat.lt_or_ge b w1.heap.size with h' | h'
    · exact h'
    · simp [Array.getElem?_eq_none h'] at hbk
  have hb2 : w2.heap[b]? = some (.cells #[.pointer (some ⟨b, 0, none⟩), v] 138 (0, 0)) := by
    rw [hgrow.block b hlt (fun e => hne e.symm)]
    exact hbk
  have d0 : w2.cell? ⟨b, 0, none⟩ = some (.pointer (some ⟨b, 0, none⟩)) := by rw [Lib.cell_of_heap hb2]; rfl
  have d1 : w2.cell? ⟨b, 1, none⟩ = some v := by rw [Lib.cell_of_heap hb2]; rfl
  have f1 : w2.frozen? ⟨b, 1, none⟩ = false := Lib.frozen_of_heap hb2 1
  obtain ⟨ao, n', cap, rfl⟩ : ∃ ao n' cap, v' = .slice ao n' cap := by
    rcases hown'.2 with ⟨hv, _⟩ | ⟨g, cap, cur, fz, hv, _⟩
    · exact ⟨_, _, _, hv⟩
    · exact ⟨_, _, _, hv⟩
  go_wp2
  go_ret2
  refine ⟨rfl, ?_, ?_⟩
  · exact .inr (Lib.BuilderAtF.put (T := 138) (e := 5) hB hb2 (bs' := bs ++ Lib.strCells s) (by simpa [Lib.strCells_length] using hown') Try.Builder_Extra_169.neB5)
  · exact (hb1.grown hgrow (by have := hb1.size; omega) (fun k hk => (hown.lt k hk).1)).setCell (p := ⟨b, 1, none⟩) hB _
end Go.Bld
namespace Go.Bld
open Go Go.RowKit Go.Eng Go.Lift Go.Proofs
theorem bld_ext {B b : Nat} {bs : List Value} {w w' : World} (h : Lib.IsBuilderF 138 5 B b bs w) (hE : Ext w w') : Lib.IsBuilderF 138 5 B b bs w' := by
  rcases h with ⟨hB, v, hbk, hown, hne⟩ | ⟨hB, v, hbk, hown, hne⟩
  · exact .inl ⟨hB, v, hE.heap hbk, ⟨hown.1, hown.2.imp id fun ⟨g, cap, cur, fz, h1, h2, h3, h4⟩ => ⟨g, cap, cur, fz, h1, h2, hE.heap h3, h4⟩⟩, hne⟩
  · exact .inr ⟨hB, v, hE.heap hbk, ⟨hown.1, hown.2.imp id fun ⟨g, cap, cur, fz, h1, h2, h3, h4⟩ => ⟨g, cap, cur, fz, h1, h2, hE.heap h3, h4⟩⟩, hne⟩
theorem ext_below {w0 w w' : World} (h : Ext w0 w) (hb : Below w0.heap.size w w') : Ext w0 w' :=
  ⟨hb.os.trans h.os, hb.tape.trans h.tape, hb.output.trans h.output, Nat.le_trans h.size hb.size, fun k hk => (hb.block k hk).trans (h.block k hk)⟩
abbrev SPnew (L : Nat) : SP := .pr (fun w u => ∃ b, L ≤ b ∧ u = .pointer (some ⟨b, 0, none⟩) ∧ w.heap[b]? = some (.cells #[.pointer none, .slice none 0 0] 138 (0, 0))) (fun _ _ _ hE ⟨b, h0, h1, h2⟩ => ⟨b, h0, h1, hE.heap h2⟩)
theorem ty138 : Ty Try.prog 138 (.struct (Try.prog.fieldsOf 138)) (.agg #[.pointer none, .slice none 0 0]) 2 32 := ⟨by kernel_rfl, by kernel_rfl⟩
theorem ty58 : Ty Try.prog 58 (.slice 3) (.slice none 0 0) 1 24 := ⟨by kernel_rfl, by kernel_rfl⟩
theorem ty3 : Ty Try.prog 3 (.int .i64) (.int .i64 0) 1 8 := ⟨by kernel_rfl, by kernel_rfl⟩
theorem fn95 : FnOk Try.prog 95 := ⟨_, Try.func95, rfl, by kernel_rfl⟩
theorem fn125 : FnOk Try.prog 125 := ⟨_, Try.func125, rfl, by kernel_rfl⟩
theorem fn126 : FnOk Try.prog 126 := ⟨_, Try.func126, rfl, by kernel_rfl⟩
theorem mixed : Try.prog.follows .mixedOrders = true := by kernel_rfl
set_option maxRecDepth 100000 in
theorem ok_new {a : Act} {w : World} {d : Option Tmp} {T : TypeId} {pos : String} {aft : Array Edge} {g : Option (Nat × Bool)} {L : Nat} (hL : L ≤ w.heap.size) : Ok Try.prog ⟨d, .alloc 138, T, pos, aft, g⟩ a w (SPnew L).holds :=
  ok_run (v := .pointer (some ⟨w.heap.size, 0, none⟩)) (w' := w.alloc (.cells (Value.agg #[.pointer none, .slice none 0 0]).cells 138)) (by simp [execOp, Instr.alloc, ty138.run_zero, newVar, newRow]) (Ext.alloc _ _) ⟨_, hL, rfl, heap_alloc_new _ _⟩
def allF {α : Type} (f : α → Comp Bytes) : List α → Bytes → Comp Bytes
  | [], acc => Comp.pure acc
  | x :: xs, acc => (f x).bind fun y => (cat acc y).bind fun z => allF f xs z
def allC {α : Type} (g : Int → Comp Bytes) (l : List α) (f : α → Comp Bytes) : Comp Bytes := if l.length ≤ LIM then (g (l.length : Int)).bind fun s => (cat [] s).bind fun z => allF f l z else Comp.fail
theorem run_cat {s t u : Bytes} {n : Nat} (h : (cat s t).run n = some u) : s.length + t.length ≤ 1099511627776 ∧ u = s ++ t := by
  unfold cat at h; split at h
  · exact ⟨‹_›, (Comp.run_pure h).symm⟩
  · cases h
theorem cells_app (l m : Bytes) : Lib.byteCells l ++ Lib.strCells (str m) = Lib.byteCells (l ++ m) := by
  simp [Lib.byteCells, Lib.strCells, str]
set_option maxRecDepth 100000 in
theorem m_all {g : Int → Comp Bytes} (hg : ∀ {O : Tags} {w0 : World} (_ : OkO O w0) {x : Int} {n : Nat} {y : Bytes} (_ : (g x).run n = some y), Pure Try.prog 95 #[.int .i64 x] w0 (SP.isv (.string (str y))).holds)
    {O : Tags} {w0 : World} (hO : OkO O w0) {v_0 : Value} {x_0 : List Int} (h_0 : (rSl (rInt .i64)).v O w0 v_0 x_0) {v_1 : Value} {x_1 : Int → Comp Bytes} (h_1 : (rF1 Try.prog (rInt .i64) (RS.c (fun x => .string (str x)))).v O w0 v_1 x_1)
    {n : Nat} {y : Bytes} (h : (allC g x_0 x_1).run n = some y) : Pure Try.prog 94 #[v_0, v_1] w0 (SP.isv (.string (str y))).holds := by
  unfold allC at h
  split at h
  case isFalse => cases h
  rename_i hlim
  obtain ⟨s, hs, h⟩ := Comp.run_bind h
  obtain ⟨z, hz, h⟩ := Comp.run_bind h
  obtain ⟨hz1, hz2⟩ := run_cat hz
  rw [show z = s from hz2] at h; clear hz2 hz
  refine pure_of_wp Try.func94 rfl 24 Try.ntmps94 (by simp) fun a0 hA hs0 => ?_
  have q0 : a0.get 0 = v_0 := hs0 0 _ rfl
  have q1 : a0.get 1 = v_1 := hs0 1 _ rfl
  clear hs0
  refine wp_seq ?_
  refine' region [_] mixed hA (.cons ?z1_0 .nil) ?zok1 ?zgd1 ?zk1
  case z1_0 => intro a' w' hE hK hg; exact ok_assign rfl
  case zok1 => kernel_rfl
  case zgd1 => kernel_rfl
  intro a1 w1 hA' hE HF
  replace q0 := kn (HF 0) rfl q0
  replace q1 := kn (HF 1) rfl q1
  clear hA HF; have hA := hA'; clear hA'
  have e1 : Ext w0 w1 := hE; clear hE
  refine (li_nil ?_)
  refine (nx_then ?_)
  refine wp_seq ?_
  refine' region [SPnew w1.heap.size] mixed hA (.cons ?z2_0 .nil) ?zok2 ?zgd2 ?zk2
  case z2_0 => intro a' w' hE hK hg; exact ok_new hE.size
  case zok2 => kernel_rfl
  case zgd2 => kernel_rfl
  intro a2 w2 hA' hE HF
  replace q0 := kn (HF 0) rfl q0
  replace q1 := kn (HF 1) rfl q1
  have f5 := ksp (HF 5) rfl rfl rfl
  obtain ⟨b, hLb, q5, hbk⟩ := f5
  clear hA HF; have hA := hA'; clear hA'
  have e2 : Ext w0 w2 := e1.trans hE
  have hb : Lib.IsBuilderF 138 5 w0.heap.size b (Lib.byteCells []) w2 := .inl ⟨Nat.le_trans e1.size hLb, _, hbk, ⟨rfl, .inl ⟨rfl, rfl⟩⟩, by simp [Value.ownBlock]⟩
  clear hE e1
  refine (li_nil ?_)
  refine (nx_then ?_)
  refine wp_seq ?_
  refine' regionT [_, _, SP.isv (.string (str s))] hA (.cons ?z3_0 (.cons ?z3_1 (.cons ?z3_2 .nil))) ?zok3 ?zgd3 ?zk3
  case z3_0 => intro a' w' hE hK hg; exact ok_move (kn (hK 0 rfl) rfl q0)
  case z3_1 => intro a' w' hE hK hg; exact okl_len (r := (rInt .i64)) ty58 (ksv (j := 0) (hK 8 rfl) rfl rfl rfl) (rd_of (GR.v_ext _ h_0 (e2.trans hE)))
  case z3_2 => intro a' w' hE hK hg_; have c_ := hg (OkO.ext hO (e2.trans hE)) hs; exact ok_call1 fn95 (ksv (j := 1) (hK 9 rfl) rfl rfl rfl) c_
  case zok3 => kernel_rfl
  case zgd3 => kernel_rfl
  intro a3 w3 hA' hE HF
  replace q0 := kn (HF 0) rfl q0
  replace q1 := kn (HF 1) rfl q1
  replace q5 := kn (HF 5) rfl q5
  have q10 := ksv (HF 10) rfl rfl rfl
  clear hA HF; have hA := hA'; clear hA'
  replace e2 := e2.trans hE
  replace hb := bld_ext hb hE
  clear hE
  refine t_calls fn125 (map2 q5 q10) (write w0.heap.size b _ (str s) w3 hb (by rw [str_size, Lib.byteCells_length]; simp only [List.length_nil] at hz1 ⊢; omega) e2.size) fun e w' he => ?_
  obtain ⟨rfl, hb', hbel⟩ := he
  refine ⟨_, rfl, ?_⟩
  rw [cells_app] at hb'
  have e3 := ext_below e2 hbel
  clear hb hbel e2
  refine put_cont hA (by decide) fun a4 hA' q_ hfr => ?_
  clear hA; have hA := hA'; clear hA'
  replace q0 := (hfr 0 rfl).trans q0
  replace q1 := (hfr 1 rfl).trans q1
  replace q5 := (hfr 5 rfl).trans q5
  clear q10 q_ hfr
  refine (li_nil ?_)
  refine (nx_then ?_)
  refine wp_seq ?_
  refine wp_seq ?_
  refine' region [_, _, _] mixed hA (.cons ?z4_0 (.cons ?z4_1 (.cons ?z4_2 .nil))) ?zok4 ?zgd4 ?zk4
  case z4_0 => intro a' w' hE hK hg; exact ok_move (kn (hK 0 rfl) rfl q0)
  case z4_1 => intro a' w' hE hK hg; exact okl_len (r := (rInt .i64)) ty58 (ksv (j := 0) (hK 12 rfl) rfl rfl rfl) (rd_of (GR.v_ext _ h_0 (e3.trans hE)))
  case z4_2 => intro a' w' hE hK hg; exact ok_move rfl
  case zok4 => kernel_rfl
  case zgd4 => kernel_rfl
  intro a5 w5 hA' hE HF
  replace q1 := kn (HF 1) rfl q1
  replace q5 := kn (HF 5) rfl q5
  have q12 := ksv (HF 12) rfl rfl rfl
  have q13 := ksv (HF 13) rfl rfl rfl
  have q14 := ksv (HF 14) rfl rfl rfl
  clear hA HF; have hA := hA'; clear hA'
  replace e3 := e3.trans hE
  replace hb' := bld_ext hb' hE
  clear hE
  refine (li_nil ?_)
  refine (nx_then ?_)
  refine wp_block ?_
  refine loop_m (fun m a w => ∃ (i : Nat) (acc : Bytes), m = x_0.length - i ∧ i ≤ x_0.length ∧ a.fit 24 ∧ Ext w0 w ∧ Lib.IsBuilderF 138 5 w0.heap.size b (Lib.byteCells acc) w ∧ a.get 1 = v_1 ∧ a.get 5 = .pointer (some ⟨b, 0, none⟩) ∧ a.get 12 = v_0 ∧ a.get 13 = .int .i64 (x_0.length : Int) ∧ a.get 14 = .int .i64 (i : Int) ∧ (allF x_1 (x_0.drop i) acc).run n = some y) (m := x_0.length) ?st ?_
  case st => exact ⟨0, s, by simp, Nat.zero_le _, hA, e3, hb', q1, q5, q12, q13, q14, h⟩
  intro m_ a6 w6 hI
  clear hA e3 hb' q0 q1 q5 q12 q13 q14 h
  obtain ⟨i, acc, hm, hi, hA, e4, hb, q1, q5, q12, q13, q14, h⟩ := hI
  refine wp_seq ?_
  refine' region [_] mixed hA (.cons ?z5_0 .nil) ?zok5 ?zgd5 ?zk5
  case z5_0 => intro a' w' hE hK hg; exact ok_lss (kn (hK 14 rfl) rfl q14) (kn (hK 13 rfl) rfl q13)
  case zok5 => kernel_rfl
  case zgd5 => kernel_rfl
  intro a7 w7 hA' hE HF
  replace q1 := kn (HF 1) rfl q1
  replace q5 := kn (HF 5) rfl q5
  replace q12 := kn (HF 12) rfl q12
  replace q13 := kn (HF 13) rfl q13
  replace q14 := kn (HF 14) rfl q14
  have q15 := ksv (HF 15) rfl rfl rfl
  clear hA HF; have hA := hA'; clear hA'
  replace e4 := e4.trans hE
  replace hb := bld_ext hb hE
  clear hE
  refine (li_nil ?_)
  refine (nx_then ?_)
  refine wp_seq ?_
  refine wp_cond_b q15 (fun hc => ?_) (fun hc => ?_)
  · have hlt : i < x_0.length := by have := of_decide_eq_true hc; omega
    refine wp_skip ?_
    refine (nx_then ?_)
    refine wp_seq ?_
    refine wp_block ?_
    refine wp_seq ?_
    have hx : (idx x_0 (i : Int)).run n = some x_0[i] := by unfold idx; rw [if_pos (by omega), Int.toNat_natCast, List.getElem?_eq_getElem hlt]; rfl
    rw [List.drop_eq_getElem_cons hlt] at h
    unfold allF at h
    obtain ⟨yx, hyx, h⟩ := Comp.run_bind h
    obtain ⟨zx, hzx, h⟩ := Comp.run_bind h
    obtain ⟨hz2, hz3⟩ := run_cat hzx
    subst hz3
    refine' region [SP.ptr (rInt .i64) O x_0[i], SP.isv (.int .i64 x_0[i]), SP.isv (.int .i64 x_0[i])] mixed hA (.cons ?z6_0 (.cons ?z6_1 (.cons ?z6_2 .nil))) ?zok6 ?zgd6 ?zk6
    case z6_0 => intro a' w' hE hK hg; exact okl_idx (r := (rInt .i64)) (O := O) ty58 ty3 rfl (kn (hK 12 rfl) rfl q12) (rd_of (GR.v_ext _ h_0 (e4.trans hE))) (kn (hK 14 rfl) rfl q14) hx
    case z6_1 => intro a' w' hE hK hg; exact okl_ldr (rInt .i64) (fun _ => rfl) ty3 rfl rfl rfl (kspS (φ := SP.ptr (rInt .i64) O x_0[i]) (j := 0) (hK 16 rfl) rfl rfl rfl) (fun _ _ _ h => rInt_v.1 h)
    case z6_2 => intro a' w' hE hK hg; exact ok_assign (ksv (j := 1) (hK 17 rfl) rfl rfl rfl)
    case zok6 => kernel_rfl
    case zgd6 => kernel_rfl
    intro a8 w8 hA' hE HF
    replace q1 := kn (HF 1) rfl q1
    replace q5 := kn (HF 5) rfl q5
    replace q12 := kn (HF 12) rfl q12
    replace q13 := kn (HF 13) rfl q13
    replace q14 := kn (HF 14) rfl q14
    have q7 := ksv (HF 7) rfl rfl rfl
    clear hA HF; have hA := hA'; clear hA'
    replace e4 := e4.trans hE
    replace hb := bld_ext hb hE
    clear hE
    refine (li_nil ?_)
    refine (nx_then ?_)
    refine' regionT [_, _, SP.isv (.string (str yx))] hA (.cons ?z7_0 (.cons ?z7_1 (.cons ?z7_2 .nil))) ?zok7 ?zgd7 ?zk7
    case z7_0 => intro a' w' hE hK hg; exact ok_move (kn (hK 1 rfl) rfl q1)
    case z7_1 => intro a' w' hE hK hg; exact ok_move (kn (hK 7 rfl) rfl q7)
    case z7_2 => intro a' w' hE hK hg; exact okl_callv1 (R := (RS.c (fun x => .string (str x)))) (ksv (j := 0) (hK 18 rfl) rfl rfl rfl) (show ((rF1 Try.prog (rInt .i64) (RS.c (fun x => .string (str x))))).v O _ _ _ from (GR.v_ext _ h_1 (e4.trans hE))) (OkO.ext hO (e4.trans hE)) (ksv (j := 1) (hK 19 rfl) rfl rfl rfl) (rInt_v.2 rfl) hyx
    case zok7 => kernel_rfl
    case zgd7 => kernel_rfl
    intro a9 w9 hA' hE HF
    replace q1 := kn (HF 1) rfl q1
    replace q5 := kn (HF 5) rfl q5
    replace q12 := kn (HF 12) rfl q12
    replace q13 := kn (HF 13) rfl q13
    replace q14 := kn (HF 14) rfl q14
    have q20 := ksv (HF 20) rfl rfl rfl
    clear hA HF; have hA := hA'; clear hA'
    replace e4 := e4.trans hE
    replace hb := bld_ext hb hE
    clear hE
    refine t_calls fn125 (map2 q5 q20) (write w0.heap.size b _ (str yx) w9 hb (by rw [str_size, Lib.byteCells_length]; omega) e4.size) fun e w' he => ?_
    obtain ⟨rfl, hb', hbel⟩ := he
    refine ⟨_, rfl, ?_⟩
    rw [cells_app] at hb'
    have e5 := ext_below e4 hbel
    refine put_cont hA (by decide) fun a10 hA' q_ hfr => ?_
    clear hA; have hA := hA'; clear hA'
    replace q1 := (hfr 1 rfl).trans q1
    replace q5 := (hfr 5 rfl).trans q5
    replace q12 := (hfr 12 rfl).trans q12
    replace q13 := (hfr 13 rfl).trans q13
    replace q14 := (hfr 14 rfl).trans q14
    refine (li_nil ?_)
    refine (nx_blk (nx_then ?_))
    refine' region [_, _] mixed hA (.cons ?z8_0 (.cons ?z8_1 .nil)) ?zok8 ?zgd8 ?zk8
    case z8_0 => intro a' w' hE hK hg; exact ok_add (kn (hK 14 rfl) rfl q14) rfl
    case z8_1 => intro a' w' hE hK hg; exact ok_move (ksv (j := 0) (hK 22 rfl) rfl rfl rfl)
    case zok8 => kernel_rfl
    case zgd8 => kernel_rfl
    intro a11 w11 hA' hE HF
    replace q1 := kn (HF 1) rfl q1
    replace q5 := kn (HF 5) rfl q5
    replace q12 := kn (HF 12) rfl q12
    replace q13 := kn (HF 13) rfl q13
    have q14' := ksv (HF 14) rfl rfl rfl
    have hL : LIM = 1073741824 := rfl
    rw [Comp.wrap_succ (by omega)] at q14'
    clear hA HF; have hA := hA'; clear hA'
    refine (li_nil ?_)
    refine (nx_then ?_)
    exact ⟨x_0.length - (i + 1), by omega, i + 1, acc ++ yx, rfl, by omega, hA, e5.trans hE, bld_ext hb' hE, q1, q5, q12, q13, q14', h⟩
  · have hie : i = x_0.length := by have := of_decide_eq_false hc; omega
    refine wp_exit ?_
    refine (ex_then (ex_then (ex_same ?_)))
    refine (nx_then ?_)
    rw [hie, List.drop_of_length_le (Nat.le_refl _)] at h
    have hy : acc = y := Comp.run_pure h
    subst hy
    refine wp_seq ?_
    refine' regionT [] hA .nil ?zok9 ?zgd9 ?zk9
    case zok9 => kernel_rfl
    case zgd9 => kernel_rfl
    intro a12 w12 hA' hE HF
    replace q5 := kn (HF 5) rfl q5
    clear hA HF; have hA := hA'; clear hA'
    replace e4 := e4.trans hE
    replace hb := bld_ext hb hE
    clear hE
    refine t_calls fn126 (map1 q5) (Try.Builder_String_any_f w0.heap.size b acc w12 hb e4.size) fun e w' he => ?_
    obtain ⟨rfl, hb', hbel⟩ := he
    refine ⟨_, rfl, ?_⟩
    have e5 := ext_below e4 hbel
    refine put_cont hA (by decide) fun a13 hA' q_ hfr => ?_
    clear hA; have hA := hA'; clear hA'
    have q23 := q_; clear q_ hfr
    have hB : Base (Fr w0) O w0 O w' := Base.step (Base.start hO) e5 hO
    refine l_ok (φ := SP.isv (.string (str acc))) hO hB (by exact ok_assign q23) rfl fun u_ w14 hE hB' hv_ => ?_
    replace hv_ := Eq.symm hv_; subst hv_
    refine put_cont hA (by decide) fun a15 hA' q_ hfr => ?_
    refine (li_nil ?_)
    refine (nx_then ?_)
    refine (wp_ret ?_)
    exact retPure Try.results94 hA' q_ (e5.trans hE) rfl
end Go.Bld
end
section
set_option linter.unusedVariables false
namespace Go.Lift
open Go Go.Eng
theorem leb {n m : Nat} (h : Nat.ble n m = true) : n ≤ m := Nat.le_of_ble_eq_true h
end Go.Lift
end
section
namespace Go.F
open Go Go.Lift
set_option linter.unusedVariables false
structure aEn where
  Seq : Int
  Shop : Int
  Kind : Int
  Day : Int
  N : Int
  Before : Bytes
  After : Bytes
  Prev : Bytes
  Mark : Bytes
  deriving DecidableEq
instance : Inhabited aEn := ⟨⟨default, default, default, default, default, default, default, default, default⟩⟩
structure passport_place where
  at_ : Int
  writer_ : Int
  day_ : Int
  prev_ : Bytes
  before_ : Bytes
  deriving DecidableEq
instance : Inhabited passport_place := ⟨⟨default, default, default, default, default⟩⟩
structure passport_condition where
  err_ : Int
  holds_ : Comp Bool
instance : Inhabited passport_condition := ⟨⟨default, default⟩⟩
structure api_Finding where
  Entry : Int
  Why : Int
  deriving DecidableEq
instance : Inhabited api_Finding := ⟨⟨default, default⟩⟩
structure api_Num where
  Neg : Bool
  D : List Int
instance : Inhabited api_Num := ⟨⟨default, default⟩⟩
structure c7_Case where
  L : List (List Int)
  Shops : Int
instance : Inhabited c7_Case := ⟨⟨default, default⟩⟩
structure r1_Draw where
  L : List Int
  At : Int
instance : Inhabited r1_Draw := ⟨⟨default, default⟩⟩
def wire_Int_l2 (x2 : Int) (x3 : List Int) : Comp (Comp.Step (Int × (List Int)) (Int × (List Int))) :=
   if (decide (x2 ≥ 128)) = true then
    ( (app x3 [(orB .u8 (IntKind.wrap .u8 x2) 128)]).bind fun x9 =>  Comp.pure (.next ((shrF .u64 x2 7), x9)))
    else
    (Comp.pure (.done (x2, x3)))
def wire_Int_j1 (x17 : Int) (x18 : List Int) : Comp Bytes :=
   (app x18 [(IntKind.wrap .u8 x17)]).bind fun x24 => (toStr x24).bind fun x28 => Comp.pure x28
def wire_Int (x_0 : Int) : Comp Bytes :=
    (Comp.pure ((xorB .u64 (shlF .u64 (IntKind.wrap .u64 x_0) 1) (IntKind.wrap .u64 (shrF .i64 x_0 63))))).bind fun x1 =>  (Comp.loop (fun s => wire_Int_l2 s.1 s.2) (x1, [])).bind (fun (x15, x16) => wire_Int_j1 x15 x16)
def wire_Ints (x_0 : List Int) : Comp Bytes :=
   (Bld.allC wire_Int x_0 wire_Int).bind fun x1 => Comp.pure x1
def wire_Text (x_0 : Bytes) : Comp Bytes :=
   (wire_Int (x_0.length : Int)).bind fun x1 => (cat x1 x_0).bind fun x2 => Comp.pure x2
def passport_Bytes (x_0 : aEn) : Comp Bytes :=
   (wire_Ints [x_0.Seq, x_0.Shop, x_0.Kind, x_0.Day, x_0.N]).bind fun x3 => (wire_Text x_0.Before).bind fun x4 => (cat x3 x4).bind fun x5 => (wire_Text x_0.After).bind fun x6 => (cat x5 x6).bind fun x7 => (wire_Text x_0.Prev).bind fun x8 => (cat x7 x8).bind fun x9 => Comp.pure x9
def digest_length (x_0 : Bytes) : Comp Bytes :=
    (toStr [(IntKind.wrap .u8 (x_0.length : Int)), (IntKind.wrap .u8 (shrF .i64 (x_0.length : Int) 8)), (IntKind.wrap .u8 (shrF .i64 (x_0.length : Int) 16)), (IntKind.wrap .u8 (shrF .i64 (x_0.length : Int) 24))]).bind fun x1 => Comp.pure x1
def digest_of_l3 (x10 : Bytes) (x13 : Int) (x14 : Int) (x15 : Int) : Comp (Comp.Step (Int × Int × Int) (Int × Int)) :=
   (Comp.pure ((decide (x15 < ((ofStr x10).length : Int))))).bind fun x17 => if x17 = true then
    ((idx (ofStr x10) x15).bind fun x18 =>  (Comp.pure ((Int.tmod (IntKind.wrap .u64 ((IntKind.wrap .u64 ((IntKind.wrap .u64 (48271 * x13)) + (IntKind.wrap .u64 x18))) + 1)) 2147483629))).bind fun x19 =>  (Comp.pure ((Int.tmod (IntKind.wrap .u64 ((IntKind.wrap .u64 ((IntKind.wrap .u64 (69621 * x14)) + (IntKind.wrap .u64 x18))) + 1)) 2147483587))).bind fun x20 =>  Comp.pure (.next (x19, x20, (IntKind.wrap .i64 (x15 + 1)))))
    else
    (Comp.pure (.done (x13, x14)))
def digest_of_l2 (x_0 : List Bytes) (x6 : Int) (x7 : Int) (x8 : Int) : Comp (Comp.Step (Int × Int × Int) (Int × Int)) :=
   if (decide (x8 < (x_0.length : Int))) = true then
    ((idx x_0 x8).bind fun x10 =>  (Comp.loop (fun s => digest_of_l3 x10 s.1 s.2.1 s.2.2) (x6, x7, 0)).bind (fun (x23, x24) =>  Comp.pure (.next (x23, x24, (IntKind.wrap .i64 (x8 + 1))))))
    else
    (Comp.pure (.done (x6, x7)))
def digest_of_l5 (x29 : Int) (x30 : Int) (x37 : Int) (x38 : Vector Int 8) : Comp (Comp.Step (Int × (Vector Int 8)) (Vector Int 8)) :=
   if (decide (x37 < 4)) = true then
    ( (nonneg (IntKind.wrap .i64 (24 - (IntKind.wrap .i64 (8 * x37))))).bind fun x40 => (nonneg (IntKind.wrap .i64 (24 - (IntKind.wrap .i64 (8 * x37))))).bind fun x41 => (idx x38.toList x37).bind fun x42 => (vupd x38 x37 (IntKind.wrap .u8 (shrF .u64 x29 (IntKind.wrap .i64 (24 - (IntKind.wrap .i64 (8 * x37))))))).bind fun x43 => (idx x43.toList (IntKind.wrap .i64 (4 + x37))).bind fun x44 => (vupd x43 (IntKind.wrap .i64 (4 + x37)) (IntKind.wrap .u8 (shrF .u64 x30 (IntKind.wrap .i64 (24 - (IntKind.wrap .i64 (8 * x37))))))).bind fun x45 =>  Comp.pure (.next ((IntKind.wrap .i64 (x37 + 1)), x45)))
    else
    (Comp.pure (.done x38))
def digest_of_j4 (x49 : Vector Int 8) : Comp (Vector Int 8) :=
   Comp.pure x49
def digest_of_j1 (x29 : Int) (x30 : Int) : Comp (Vector Int 8) :=
    (Comp.loop (fun s => digest_of_l5 x29 x30 s.1 s.2) (0, (Vector.replicate 8 0))).bind (fun x48 => digest_of_j4 x48)
def digest_of (x_0 : List Bytes) : Comp (Vector Int 8) :=
     (Comp.loop (fun s => digest_of_l2 x_0 s.1 s.2.1 s.2.2) (17, 29, 0)).bind (fun (x27, x28) => digest_of_j1 x27 x28)
def strings_Clone (x_0 : Bytes) : Comp Bytes :=
   (cloneS x_0).bind fun x1 => Comp.pure x1
def digest_digest_text (x_0 : Vector Int 8) : Comp Bytes :=
   (toStr x_0.toList).bind fun x3 => (strings_Clone x3).bind fun x4 => Comp.pure x4
def digest_Chain (x_0 : Bytes) (x_1 : Bytes) : Comp Bytes :=
   (digest_length x_0).bind fun x1 => (digest_of [[4], x1, x_0, x_1]).bind fun x2 => (digest_digest_text x2).bind fun x3 => Comp.pure x3
def passport_link (x_0 : aEn) : Comp Bytes :=
   (passport_Bytes x_0).bind fun x3 => (digest_Chain x3 x_0.Mark).bind fun x4 => Comp.pure x4
def passport_Next_j1 (x18 : Int) (x19 : Int) (x20 : Int) (x21 : Int) (x22 : Int) (x23 : Bytes) (x24 : Bytes) (x25 : Bytes) (x26 : Bytes) : Comp aEn :=
   Comp.pure (aEn.mk x18 x19 x20 x21 x22 x23 x24 x25 x26)
def passport_Next (x_0 : List aEn) (x_1 : aEn) : Comp aEn :=
      if (decide ((x_0.length : Int) > 0)) = true then
    ((idx x_0 (IntKind.wrap .i64 ((x_0.length : Int) - 1))).bind fun x14 => (passport_link x14).bind fun x15 => (idx x_0 (IntKind.wrap .i64 ((x_0.length : Int) - 1))).bind fun x16 => passport_Next_j1 (x_0.length : Int) x_1.Shop x_1.Kind x_1.Day x_1.N x16.After x_1.After x15 ([] : Bytes))
    else
    (passport_Next_j1 (x_0.length : Int) x_1.Shop x_1.Kind x_1.Day x_1.N x_1.Before x_1.After ([] : Bytes) ([] : Bytes))
def digest_marked (x_0 : Bytes) (x_1 : Bytes) : Comp (Vector Int 8) :=
   (digest_length x_0).bind fun x6 => (digest_length x_1).bind fun x7 => (digest_of [[5], x6, x_0, x7, x_1, x_0]).bind fun x8 => Comp.pure x8
def digest_Mark (x_0 : Bytes) (x_1 : Bytes) : Comp Bytes :=
   (digest_marked x_0 x_1).bind fun x1 => (digest_digest_text x1).bind fun x2 => Comp.pure x2
def passport_Sign (x_0 : Bytes) (x_1 : aEn) : Comp aEn :=
   (passport_Bytes x_1).bind fun x11 => (digest_Mark x_0 x11).bind fun x12 =>  Comp.pure (aEn.mk x_1.Seq x_1.Shop x_1.Kind x_1.Day x_1.N x_1.Before x_1.After x_1.Prev x12)
def c7_after (x_0 : List Bytes) (x_1 : List aEn) (x_2 : aEn) : Comp (List aEn) :=
   (app [] x_1).bind fun x3 => (idx x_0 x_2.Shop).bind fun x4 => (passport_Next x_1 x_2).bind fun x5 => (passport_Sign x4 x5).bind fun x6 => (app x3 [x6]).bind fun x7 => Comp.pure x7
def passport_conditions_f1 (x_0 : aEn) (x_1 : passport_place) : Comp Bool :=
    Comp.pure (decide (x_0.Seq = x_1.at_))
def passport_known (x_0 : List Bytes) (x_1 : Int) : Comp Bool :=
    (Comp.pure ((bif (decide (x_1 ≥ 0)) then (decide (x_1 < (x_0.length : Int))) else false))).bind fun x1 => Comp.pure x1
def passport_conditions_f2 (x_0 : List Bytes) (x_1 : aEn) (x_2 : passport_place) : Comp Bool :=
   (passport_known x_0 x_1.Shop).bind fun x1 => (Comp.pure ((bif x1 then (bif (decide (x_2.at_ = 0)) then true else (decide (x_1.Shop = x_2.writer_))) else false))).bind fun x2 => Comp.pure x2
def passport_conditions_f3 (x_0 : Bool) (x_1 : passport_place) (x_2 : Bool) (x_3 : Bool) (x_4 : aEn) : Comp Bool :=
    (Comp.pure ((bif (decide (x_0 = (decide (x_1.at_ = 0)))) then (bif (bif (bif x_0 then true else x_2) then true else x_3) then true else (decide (x_4.Kind = 3))) else false))).bind fun x1 => Comp.pure x1
def passport_conditions_f4 (x_0 : Bool) (x_1 : List Bytes) (x_2 : aEn) : Comp Bool :=
   (Comp.gd ((!x_0) == false) (passport_known x_1 x_2.N) default).bind fun x1 => Comp.pure (bif (!x_0) then true else x1)
def passport_conditions_f5 (x_0 : Bool) (x_1 : aEn) (x_2 : Bool) : Comp Bool :=
    (Comp.pure ((bif (bif x_0 then true else (decide (x_1.N = 0))) then true else (bif (bif x_2 then (decide (x_1.N > 0)) else false) then (decide (x_1.N ≤ 1048576)) else false)))).bind fun x1 => Comp.pure x1
def passport_conditions_f6 (x_0 : aEn) : Comp Bool :=
    (Comp.pure ((bif (decide (x_0.Day ≥ 0)) then (decide (x_0.Day ≤ 100000)) else false))).bind fun x1 => Comp.pure x1
def passport_conditions_f7 (x_0 : aEn) (x_1 : passport_place) : Comp Bool :=
    Comp.pure (decide (x_0.Day ≥ x_1.day_))
def passport_conditions_f8 (x_0 : aEn) (x_1 : passport_place) : Comp Bool :=
    Comp.pure (decide (x_0.Prev = x_1.prev_))
def passport_conditions_f9 (x_0 : aEn) (x_1 : passport_place) (x_2 : Bool) (x_3 : Bool) : Comp Bool :=
    (Comp.pure ((bif (bif (decide (x_0.Before = x_1.before_)) then (decide ((x_0.After.length : Int) = 8)) else false) then (bif (bif x_2 then true else x_3) then true else (decide (x_0.After = x_0.Before))) else false))).bind fun x1 => Comp.pure x1
def digest_Check (x_0 : Bytes) (x_1 : Bytes) (x_2 : Bytes) : Comp Bool :=
   (Comp.gd ((bif (decide (x_0 ≠ ([] : Bytes))) then (decide ((x_2.length : Int) = 8)) else false) == true) (toVec 8 (ofStr x_2)) default).bind fun x1 => (Comp.gd ((bif (decide (x_0 ≠ ([] : Bytes))) then (decide ((x_2.length : Int) = 8)) else false) == true) (digest_marked x_0 x_1) default).bind fun x2 => (Comp.pure ((bif (bif (decide (x_0 ≠ ([] : Bytes))) then (decide ((x_2.length : Int) = 8)) else false) then (decide (x1 = x2)) else false))).bind fun x3 => Comp.pure x3
def passport_conditions_f10 (x_0 : List Bytes) (x_1 : aEn) : Comp Bool :=
   (idx x_0 x_1.Shop).bind fun x1 => (passport_Bytes x_1).bind fun x2 => (digest_Check x1 x2 x_1.Mark).bind fun x3 => Comp.pure x3
def passport_conditions (x_0 : List Bytes) (x_1 : passport_place) (x_2 : aEn) : Comp (List passport_condition) :=
     Comp.pure [(passport_condition.mk 7 (passport_conditions_f1 x_2 x_1)), (passport_condition.mk 55 (passport_conditions_f2 x_0 x_2 x_1)), (passport_condition.mk 4 (passport_conditions_f3 (decide (x_2.Kind = 1)) x_1 (decide (x_2.Kind = 2)) (decide (x_2.Kind = 4)) x_2)), (passport_condition.mk 55 (passport_conditions_f4 (decide (x_2.Kind = 4)) x_0 x_2)), (passport_condition.mk 4 (passport_conditions_f5 (decide (x_2.Kind = 4)) x_2 (decide (x_2.Kind = 2)))), (passport_condition.mk 3 (passport_conditions_f6 x_2)), (passport_condition.mk 7 (passport_conditions_f7 x_2 x_1)), (passport_condition.mk 51 (passport_conditions_f8 x_2 x_1)), (passport_condition.mk 53 (passport_conditions_f9 x_2 x_1 (decide (x_2.Kind = 1)) (decide (x_2.Kind = 2)))), (passport_condition.mk 50 (passport_conditions_f10 x_0 x_2))]
def passport_behind_j1 (x16 : Int) (x17 : Int) (x18 : Int) (x19 : Bytes) (x20 : Bytes) : Comp passport_place :=
   Comp.pure (passport_place.mk x16 x17 x18 x19 x20)
def passport_behind (x_0 : Int) (x_1 : aEn) : Comp passport_place :=
   (passport_link x_1).bind fun x8 =>  if (decide (x_1.Kind = 4)) = true then
    ( passport_behind_j1 ((passport_place.mk (IntKind.wrap .i64 (x_0 + 1)) x_1.Shop x_1.Day x8 x_1.After).at_) x_1.N ((passport_place.mk (IntKind.wrap .i64 (x_0 + 1)) x_1.Shop x_1.Day x8 x_1.After).day_) ((passport_place.mk (IntKind.wrap .i64 (x_0 + 1)) x_1.Shop x_1.Day x8 x_1.After).prev_) ((passport_place.mk (IntKind.wrap .i64 (x_0 + 1)) x_1.Shop x_1.Day x8 x_1.After).before_))
    else
    (passport_behind_j1 ((passport_place.mk (IntKind.wrap .i64 (x_0 + 1)) x_1.Shop x_1.Day x8 x_1.After).at_) ((passport_place.mk (IntKind.wrap .i64 (x_0 + 1)) x_1.Shop x_1.Day x8 x_1.After).writer_) ((passport_place.mk (IntKind.wrap .i64 (x_0 + 1)) x_1.Shop x_1.Day x8 x_1.After).day_) ((passport_place.mk (IntKind.wrap .i64 (x_0 + 1)) x_1.Shop x_1.Day x8 x_1.After).prev_) ((passport_place.mk (IntKind.wrap .i64 (x_0 + 1)) x_1.Shop x_1.Day x8 x_1.After).before_))
def passport_Check_l4 (x24 : (List passport_condition)) (x13 : Int) (x27 : Int) (x28 : api_Finding) : Comp (Comp.Step (Int × api_Finding) (Sum api_Finding api_Finding)) :=
   if (decide (x27 < (x24.length : Int))) = true then
    ((idx x24 x27).bind fun x30 => (x30.holds_).bind fun x41 => if (!x41) = true then
    ( Comp.pure (.done (.inl (api_Finding.mk x13 x30.err_))))
    else
    ( Comp.pure (.next ((IntKind.wrap .i64 (x27 + 1)), x28))))
    else
    (Comp.pure (.done (.inr x28)))
def passport_Check_j3 (x13 : Int) (x17 : aEn) (x46 : api_Finding) : Comp (Comp.Step (Int × passport_place × api_Finding) (Sum api_Finding api_Finding)) :=
  (passport_behind x13 x17).bind fun x48 =>  Comp.pure (.next ((IntKind.wrap .i64 (x13 + 1)), x48, x46))
def passport_Check_l2 (x_1 : List aEn) (x_0 : List Bytes) (x13 : Int) (x14 : passport_place) (x15 : api_Finding) : Comp (Comp.Step (Int × passport_place × api_Finding) (Sum api_Finding api_Finding)) :=
   if (decide (x13 < (x_1.length : Int))) = true then
    ((idx x_1 x13).bind fun x17 => (passport_conditions x_0 x14 x17).bind fun x24 => (Comp.loop (fun s => passport_Check_l4 x24 x13 s.1 s.2) (0, x15)).bind (fun e => match e with | (.inl x43) => (Comp.pure (.done (.inl x43))) | (.inr x45) => (passport_Check_j3 x13 x17 x45)))
    else
    (Comp.pure (.done (.inr x15)))
def passport_Check_j1 (x51 : api_Finding) : Comp api_Finding :=
   Comp.pure (api_Finding.mk (-1) 0)
def passport_Check (x_0 : List Bytes) (x_1 : List aEn) : Comp api_Finding :=
    (Comp.pure ((bif (bif (decide ((x_1.length : Int) > 60)) then true else (decide ((x_0.length : Int) < 1))) then true else (decide ((x_0.length : Int) > 6))))).bind fun x6 => if x6 = true then
    ( Comp.pure (api_Finding.mk (-1) 2))
    else
    (  (Comp.loop (fun s => passport_Check_l2 x_1 x_0 s.1 s.2.1 s.2.2) (0, (passport_place.mk 0 0 0 [] []), (api_Finding.mk 0 0))).bind (fun e => match e with | (.inl x44) => (Comp.pure x44) | (.inr x50) => (passport_Check_j1 x50)))
def c7_finds (x_0 : List Bytes) (x_1 : List aEn) (x_2 : Int) (x_3 : Int) : Comp Bool :=
   (passport_Check x_0 x_1).bind fun x1 => Comp.pure (decide (x1 = (api_Finding.mk x_2 x_3)))
def c7_put (x_0 : List Bytes) (x_1 : List aEn) (x_2 : Int) (x_3 : aEn) : Comp (List aEn) :=
    (app [] x_1).bind fun x7 => (idx x_0 x_3.Shop).bind fun x11 => (passport_Sign x11 x_3).bind fun x12 => (idx x7 x_2).bind fun x13 => (upd x7 x_2 x12).bind fun x17 =>  Comp.pure x17
def passport_Fork_l4 (x6 : aEn) (x7 : aEn) (x2 : Int) (x_1 : List aEn) (x_0 : List Bytes) (x8 : Int) : Comp (Comp.Step Int (Sum (Int × Bool) Unit)) :=
   if (decide (x8 < 2)) = true then
    ((idx (#v[x6, x7] : Vector aEn 2).toList x8).bind fun x10 => (Comp.gd ((decide (x10.Seq ≠ x2)) == false) (idx x_1 x2) default).bind fun x17 => (Comp.gd ((bif (decide (x10.Seq ≠ x2)) then true else (decide (x10.Shop ≠ x17.Shop))) == false) (passport_known x_0 x10.Shop) default).bind fun x18 => (Comp.gd ((bif (bif (decide (x10.Seq ≠ x2)) then true else (decide (x10.Shop ≠ x17.Shop))) then true else (!x18)) == false) (idx x_0 x10.Shop) default).bind fun x19 => (Comp.gd ((bif (bif (decide (x10.Seq ≠ x2)) then true else (decide (x10.Shop ≠ x17.Shop))) then true else (!x18)) == false) (passport_Bytes x10) default).bind fun x20 => (Comp.gd ((bif (bif (decide (x10.Seq ≠ x2)) then true else (decide (x10.Shop ≠ x17.Shop))) then true else (!x18)) == false) (digest_Check x19 x20 x10.Mark) default).bind fun x21 => (Comp.pure ((bif (bif (bif (decide (x10.Seq ≠ x2)) then true else (decide (x10.Shop ≠ x17.Shop))) then true else (!x18)) then true else (!x21)))).bind fun x22 => if x22 = true then
    ( Comp.pure (.done (.inl (0, false))))
    else
    ( Comp.pure (.next (IntKind.wrap .i64 (x8 + 1)))))
    else
    (Comp.pure (.done (.inr ())))
def passport_Fork_j3 (x_1 : List aEn) (x2 : Int) : Comp (Comp.Step Int (Sum (Int × Bool) Unit)) :=
  (idx x_1 x2).bind fun x28 => Comp.pure (.done (.inl (x28.Shop, true)))
def passport_Fork_l2 (x1 : Int) (x_1 : List aEn) (x_2 : List aEn) (x_0 : List Bytes) (x2 : Int) : Comp (Comp.Step Int (Sum (Int × Bool) Unit)) :=
   if (decide (x2 < x1)) = true then
    ( (idx x_1 x2).bind fun x4 => (idx x_2 x2).bind fun x5 => if (decide (x4 = x5)) = true then
    ( Comp.pure (.next (IntKind.wrap .i64 (x2 + 1))))
    else
    ((idx x_1 x2).bind fun x6 => (idx x_2 x2).bind fun x7 => (Comp.loop (fun s => passport_Fork_l4 x6 x7 x2 x_1 x_0 s) 0).bind (fun e => match e with | (.inl (x23, x24)) => (Comp.pure (.done (.inl (x23, x24)))) | (.inr ()) => (passport_Fork_j3 x_1 x2))))
    else
    (Comp.pure (.done (.inr ())))
def passport_Fork_j1  : Comp (Int × Bool) :=
   Comp.pure (0, false)
def passport_Fork (x_0 : List Bytes) (x_1 : List aEn) (x_2 : List aEn) : Comp (Int × Bool) :=
    (Comp.pure ((min (x_1.length : Int) (x_2.length : Int)))).bind fun x1 => (Comp.loop (fun s => passport_Fork_l2 x1 x_1 x_2 x_0 s) 0).bind (fun e => match e with | (.inl (x25, x26)) => (Comp.pure (x25, x26)) | (.inr ()) => (passport_Fork_j1))
def c7_fork (x_0 : List Bytes) (x_1 : List aEn) (x_2 : List aEn) (x_3 : Int) (x_4 : Bool) : Comp Bool :=
   (passport_Fork x_0 x_1 x_2).bind fun x1 =>  (Comp.pure ((bif (decide (x1.1 = x_3)) then (decide (x1.2 = x_4)) else false))).bind fun x2 => Comp.pure x2
def c7_sanity  : Comp Bool :=
     (c7_after [[97], [98]] [] (aEn.mk 0 0 1 1 0 [] [114, 114, 114, 114, 114, 114, 114, 114] [] [])).bind fun x3 => (c7_after [[97], [98]] x3 (aEn.mk 0 0 2 3 2 [] [115, 115, 115, 115, 115, 115, 115, 115] [] [])).bind fun x6 => (c7_after [[97], [98]] x6 (aEn.mk 0 0 4 3 1 [] [115, 115, 115, 115, 115, 115, 115, 115] [] [])).bind fun x9 => (c7_after [[97], [98]] x9 (aEn.mk 0 1 3 5 0 [] [115, 115, 115, 115, 115, 115, 115, 115] [] [])).bind fun x12 => (c7_finds [[97], [98]] x12 (-1) 0).bind fun x15 => (Comp.gd (x15 == true) (sub x12 0 2) default).bind fun x16 => (Comp.gd (x15 == true) (c7_finds [[97], [98]] x16 (-1) 0) default).bind fun x17 => (Comp.gd ((bif x15 then x17 else false) == true) (c7_finds [[97], [98]] [] (-1) 0) default).bind fun x18 => (Comp.gd ((bif (bif x15 then x17 else false) then x18 else false) == true) (sub x12 0 1) default).bind fun x19 => (Comp.gd ((bif (bif x15 then x17 else false) then x18 else false) == true) (app [] x19) default).bind fun x20 => (Comp.gd ((bif (bif x15 then x17 else false) then x18 else false) == true) (sub x12 2 x12.length) default).bind fun x21 => (Comp.gd ((bif (bif x15 then x17 else false) then x18 else false) == true) (app x20 x21) default).bind fun x22 => (Comp.gd ((bif (bif x15 then x17 else false) then x18 else false) == true) (c7_finds [[97], [98]] x22 1 7) default).bind fun x23 => (Comp.pure ((bif (bif (bif x15 then x17 else false) then x18 else false) then x23 else false))).bind fun x25 => (idx x12 3).bind fun x26 => (idx x12 2).bind fun x27 => (idx x12 1).bind fun x28 => (idx x12 3).bind fun x29 =>   (app [] x12).bind fun x47 => (idx x47 1).bind fun x51 => (idx x47 1).bind fun x55 => (upd x47 1 (aEn.mk x55.Seq x55.Shop x55.Kind x55.Day 3 x55.Before x55.After x55.Prev x55.Mark)).bind fun x56 => (c7_put [[97], [98]] x12 3 (aEn.mk x26.Seq 0 x26.Kind x26.Day x26.N x26.Before x26.After x26.Prev x26.Mark)).bind fun x57 => (c7_finds [[97], [98]] x57 3 55).bind fun x58 => (Comp.gd (x58 == true) (c7_put [[97], [98]] x12 2 (aEn.mk x27.Seq x27.Shop x27.Kind 2 x27.N x27.Before x27.After x27.Prev x27.Mark)) default).bind fun x59 => (Comp.gd (x58 == true) (c7_finds [[97], [98]] x59 2 7) default).bind fun x60 => (Comp.gd ((bif x58 then x60 else false) == true) (c7_finds [[97], [98]] x56 1 50) default).bind fun x61 => (Comp.gd ((bif (bif x58 then x60 else false) then x61 else false) == true) (c7_put [[97], [98]] x12 1 (aEn.mk x28.Seq x28.Shop x28.Kind x28.Day 3 x28.Before x28.After x28.Prev x28.Mark)) default).bind fun x62 => (Comp.gd ((bif (bif x58 then x60 else false) then x61 else false) == true) (c7_finds [[97], [98]] x62 2 51) default).bind fun x63 => (Comp.gd ((bif (bif (bif x58 then x60 else false) then x61 else false) then x63 else false) == true) (c7_put [[97], [98]] x12 3 (aEn.mk x29.Seq x29.Shop x29.Kind x29.Day x29.N x29.Before [114, 114, 114, 114, 114, 114, 114, 114] x29.Prev x29.Mark)) default).bind fun x64 => (Comp.gd ((bif (bif (bif x58 then x60 else false) then x61 else false) then x63 else false) == true) (c7_finds [[97], [98]] x64 3 53) default).bind fun x65 => (Comp.pure ((bif (bif (bif (bif x58 then x60 else false) then x61 else false) then x63 else false) then x65 else false))).bind fun x66 => (sub x12 0 1).bind fun x67 => (c7_after [[97], [98]] x67 (aEn.mk 0 0 2 3 7 [] [115, 115, 115, 115, 115, 115, 115, 115] [] [])).bind fun x68 =>  (app [] x12).bind fun x75 => (idx x75 1).bind fun x79 => (idx x75 1).bind fun x83 => (upd x75 1 (aEn.mk x83.Seq x83.Shop x83.Kind x83.Day x83.N x83.Before x83.After x83.Prev ([] : Bytes))).bind fun x84 => (c7_fork [[97], [98]] x12 x68 0 true).bind fun x85 => (Comp.gd (x85 == true) (sub x12 0 2) default).bind fun x86 => (Comp.gd (x85 == true) (c7_fork [[97], [98]] x12 x86 0 false) default).bind fun x87 => (Comp.gd ((bif x85 then x87 else false) == true) (c7_fork [[97], [98]] x12 x84 0 false) default).bind fun x88 => (Comp.pure ((bif (bif x85 then x87 else false) then x88 else false))).bind fun x89 => (Comp.gd ((bif (bif x25 then x66 else false) then x89 else false) == true) (c7_finds [] x12 (-1) 2) default).bind fun x90 => (Comp.gd ((bif (bif (bif x25 then x66 else false) then x89 else false) then x90 else false) == true) (mk 61 (aEn.mk 0 0 0 0 0 [] [] [] [])) default).bind fun x91 => (Comp.gd ((bif (bif (bif x25 then x66 else false) then x89 else false) then x90 else false) == true) (c7_finds [[97], [98]] x91 (-1) 2) default).bind fun x92 => (Comp.pure ((bif (bif (bif (bif x25 then x66 else false) then x89 else false) then x90 else false) then x92 else false))).bind fun x93 => Comp.pure x93
def r1_trim_l2 (x_0 : List Int) (x1 : Int) : Comp (Comp.Step Int Int) :=
  (Comp.gd ((decide (x1 > 0)) == true) (idx x_0 (IntKind.wrap .i64 (x1 - 1))) default).bind fun x3 => (Comp.pure ((bif (decide (x1 > 0)) then (decide (x3 = 0)) else false))).bind fun x4 => if x4 = true then
    ( Comp.pure (.next (IntKind.wrap .i64 (x1 - 1))))
    else
    (Comp.pure (.done x1))
def r1_trim_j1 (x_0 : List Int) (x7 : Int) : Comp (List Int) :=
  (sub x_0 0 x7).bind fun x9 => Comp.pure x9
def r1_trim (x_0 : List Int) : Comp (List Int) :=
    (Comp.loop (fun s => r1_trim_l2 x_0 s) (x_0.length : Int)).bind (fun x6 => r1_trim_j1 x_0 x6)
def r1_digits (x_0 : Int) : Comp (List Int) :=
    (r1_trim [(IntKind.wrap .u32 x_0), (IntKind.wrap .u32 (shrF .u64 x_0 32))]).bind fun x5 => Comp.pure x5
def r1_signed (x_0 : Bool) (x_1 : List Int) : Comp (api_Num × Bool) :=
   (r1_trim x_1).bind fun x6 =>  if (decide ((x6.length : Int) > 64)) = true then
    ( Comp.pure ((api_Num.mk false []), false))
    else
    ( if (decide ((x6.length : Int) = 0)) = true then
    ( Comp.pure ((api_Num.mk false []), true))
    else
    ( (app [] x6).bind fun x15 => Comp.pure ((api_Num.mk x_0 x15), true)))
def r1_Of_j1 (x_0 : Int) (x7 : Int) : Comp api_Num :=
  (r1_digits x7).bind fun x9 => (r1_signed (decide (x_0 < 0)) x9).bind fun x10 =>  Comp.pure x10.1
def r1_Of (x_0 : Int) : Comp api_Num :=
     if (decide (x_0 < 0)) = true then
    ( (Comp.pure ((IntKind.wrap .u64 (0 - (IntKind.wrap .u64 x_0))))).bind fun x6 => r1_Of_j1 x_0 x6)
    else
    (r1_Of_j1 x_0 (IntKind.wrap .u64 x_0))
def r1_Right (x_0 : api_Num) : Comp Bool :=
    if (decide ((x_0.D.length : Int) = 0)) = true then
    ( Comp.pure (!x_0.Neg))
    else
    ((Comp.gd ((decide ((x_0.D.length : Int) ≤ 64)) == true) (idx x_0.D (IntKind.wrap .i64 ((x_0.D.length : Int) - 1))) default).bind fun x3 => (Comp.pure ((bif (decide ((x_0.D.length : Int) ≤ 64)) then (decide (x3 ≠ 0)) else false))).bind fun x4 => Comp.pure x4)
def r1_Text_l4 (x24 : List Int) (x27 : Int) (x28 : Int) : Comp (Comp.Step ((List Int) × Int × Int) ((List Int) × Int)) :=
   if (decide (x28 ≥ 0)) = true then
    ((idx x24 x28).bind fun x30 => (Comp.pure ((IntKind.wrap .u64 ((shlF .u64 x27 32) + (IntKind.wrap .u64 x30))))).bind fun x31 => (idx x24 x28).bind fun x32 => (upd x24 x28 (IntKind.wrap .u32 (IntKind.wrap .u64 (Int.tdiv x31 10)))).bind fun x36 =>   Comp.pure (.next (x36, (Int.tmod x31 10), (IntKind.wrap .i64 (x28 - 1)))))
    else
    (Comp.pure (.done (x24, x27)))
def r1_Text_j3 (x16 : Bytes) (x41 : List Int) (x44 : Int) : Comp (Comp.Step (Bytes × (List Int)) Bytes) :=
  (toStr [(IntKind.wrap .u8 (IntKind.wrap .u64 (48 + x44)))]).bind fun x46 => (cat x46 x16).bind fun x47 =>  (r1_trim x41).bind fun x48 => Comp.pure (.next (x47, x48))
def r1_Text_l2 (x16 : Bytes) (x17 : List Int) : Comp (Comp.Step (Bytes × (List Int)) Bytes) :=
   if (decide ((x17.length : Int) > 0)) = true then
    (  (Comp.pure ((IntKind.wrap .i64 ((x17.length : Int) - 1)))).bind fun x23 => (Comp.loop (fun s => r1_Text_l4 s.1 s.2.1 s.2.2) (x17, 0, x23)).bind (fun (x39, x40) => r1_Text_j3 x16 x39 x40))
    else
    (Comp.pure (.done x16))
def r1_Text_j1 (x_0 : api_Num) (x55 : Bytes) : Comp Bytes :=
   if x_0.Neg = true then
    ((cat [45] x55).bind fun x57 => Comp.pure x57)
    else
    ( Comp.pure x55)
def r1_Text (x_0 : api_Num) : Comp Bytes :=
   (r1_Right x_0).bind fun x3 => if (!x3) = true then
    ( Comp.pure ([] : Bytes))
    else
    ( if (decide ((x_0.D.length : Int) = 0)) = true then
    ( Comp.pure [48])
    else
    (  (app [] x_0.D).bind fun x12 => (Comp.loop (fun s => r1_Text_l2 s.1 s.2) (([] : Bytes), x12)).bind (fun x54 => r1_Text_j1 x_0 x54)))
def r7_Keys_l2 (x_0 : Int) (x1 : List Bytes) (x4 : Int) : Comp (Comp.Step ((List Bytes) × Int) (List Bytes)) :=
   if (decide (x4 < x_0)) = true then
    ((r1_Of x4).bind fun x6 => (r1_Text x6).bind fun x7 => (cat [107, 101, 121, 32] x7).bind fun x8 => (app x1 [x8]).bind fun x11 =>  Comp.pure (.next (x11, (IntKind.wrap .i64 (x4 + 1)))))
    else
    (Comp.pure (.done x1))
def r7_Keys_j1 (x17 : List Bytes) : Comp (List Bytes) :=
   Comp.pure x17
def r7_Keys (x_0 : Int) : Comp (List Bytes) :=
     (Comp.loop (fun s => r7_Keys_l2 x_0 s.1 s.2) ([], 0)).bind (fun x16 => r7_Keys_j1 x16)
def c7_Case_lists_l2 (x_0 : c7_Case) (x3 : List (List Int)) (x6 : Int) : Comp (Comp.Step ((List (List Int)) × Int) (List (List Int))) :=
   (Comp.pure ((bif (decide (x6 < (x_0.L.length : Int))) then (decide (x6 < 8)) else false))).bind fun x8 => if x8 = true then
    ((idx x_0.L x6).bind fun x9 => (idx x_0.L x6).bind fun x10 => (sub x9 0 (min (x10.length : Int) 6)).bind fun x11 => (app x3 [x11]).bind fun x14 =>  Comp.pure (.next (x14, (IntKind.wrap .i64 (x6 + 1)))))
    else
    (Comp.pure (.done x3))
def c7_Case_lists_j1 (x20 : List (List Int)) : Comp (List (List Int)) :=
   Comp.pure x20
def c7_Case_lists (x_0 : c7_Case) : Comp (List (List Int)) :=
     (Comp.loop (fun s => c7_Case_lists_l2 x_0 s.1 s.2) ([], 0)).bind (fun x19 => c7_Case_lists_j1 x19)
def r1_Mod (x_0 : Int) (x_1 : Int) : Comp Int :=
    if (decide (x_1 < 1)) = true then
    ( Comp.pure 0)
    else
    ((rem x_0 x_1).bind fun x1 => (rem (IntKind.wrap .i64 (x1 + x_1)) x_1).bind fun x2 => Comp.pure x2)
def r1_Draw_Next (x_0 : r1_Draw) (x_1 : Int) : Comp (r1_Draw × Int) :=
    if (decide (x_0.At ≥ (x_0.L.length : Int))) = true then
    ( Comp.pure (x_0, 0))
    else
    ( (idx x_0.L (IntKind.wrap .i64 ((IntKind.wrap .i64 (x_0.At + 1)) - 1))).bind fun x4 => (r1_Mod x4 x_1).bind fun x5 => Comp.pure ((r1_Draw.mk x_0.L (IntKind.wrap .i64 (x_0.At + 1))), x5))
def colletref02_most4 (x_0 : Int) : Comp Bytes :=
   (toStr [(IntKind.wrap .u8 (shrF .i64 x_0 24)), (IntKind.wrap .u8 (shrF .i64 x_0 16)), (IntKind.wrap .u8 (shrF .i64 x_0 8)), (IntKind.wrap .u8 x_0)]).bind fun x1 => Comp.pure x1
def colletref02_Of_l2 (x_0 : Bytes) (x1 : Int) (x2 : Int) (x3 : Int) : Comp (Comp.Step (Int × Int × Int) (Int × Int)) :=
   if (decide (x3 < (x_0.length : Int))) = true then
    ((strIdx x_0 x3).bind fun x5 => (Comp.pure ((Int.tmod (IntKind.wrap .i64 ((IntKind.wrap .i64 ((IntKind.wrap .i64 (48271 * x1)) + (IntKind.wrap .i64 x5))) + 1)) 2147483629))).bind fun x6 => (strIdx x_0 x3).bind fun x7 => (Comp.pure ((Int.tmod (IntKind.wrap .i64 ((IntKind.wrap .i64 ((IntKind.wrap .i64 (69621 * x2)) + (IntKind.wrap .i64 x7))) + 1)) 2147483587))).bind fun x8 =>  Comp.pure (.next (x6, x8, (IntKind.wrap .i64 (x3 + 1)))))
    else
    (Comp.pure (.done (x1, x2)))
def colletref02_Of_j1 (x13 : Int) (x14 : Int) : Comp Bytes :=
  (colletref02_most4 x13).bind fun x16 => (colletref02_most4 x14).bind fun x17 => (cat x16 x17).bind fun x18 => Comp.pure x18
def colletref02_Of (x_0 : Bytes) : Comp Bytes :=
      (Comp.loop (fun s => colletref02_Of_l2 x_0 s.1 s.2.1 s.2.2) (17, 29, 0)).bind (fun (x11, x12) => colletref02_Of_j1 x11 x12)
def r7_Root (x_0 : Int) : Comp Bytes :=
   (r1_Of x_0).bind fun x1 => (r1_Text x1).bind fun x2 => (cat [114, 111, 111, 116, 32] x2).bind fun x3 => (colletref02_Of x3).bind fun x4 => Comp.pure x4
def r7_writer (x_0 : aEn) : Comp Int :=
    if (decide (x_0.Kind = 4)) = true then
    ( Comp.pure x_0.N)
    else
    ( Comp.pure x_0.Shop)
def colletref04_code (x_0 : Int) : Comp Int :=
    if (decide (x_0 ≥ 0)) = true then
    ( (Comp.pure ((IntKind.wrap .u64 (2 * (IntKind.wrap .u64 x_0))))).bind fun x1 => Comp.pure x1)
    else
    ( (Comp.pure ((IntKind.wrap .u64 ((IntKind.wrap .u64 (2 * (IntKind.wrap .u64 (IntKind.wrap .i64 (0 - (IntKind.wrap .i64 (x_0 + 1))))))) + 1)))).bind fun x2 => Comp.pure x2)
def colletref04_Int_l2 (x2 : Bytes) (x3 : Int) : Comp (Comp.Step (Bytes × Int) (Bytes × Int)) :=
   if (decide (x3 ≥ 128)) = true then
    ((toStr [(IntKind.wrap .u8 (IntKind.wrap .u64 ((Int.tmod x3 128) + 128)))]).bind fun x5 => (cat x2 x5).bind fun x6 =>  Comp.pure (.next (x6, (IntKind.wrap .u64 (Int.tdiv x3 128)))))
    else
    (Comp.pure (.done (x2, x3)))
def colletref04_Int_j1 (x11 : Bytes) (x12 : Int) : Comp Bytes :=
  (toStr [(IntKind.wrap .u8 x12)]).bind fun x14 => (cat x11 x14).bind fun x15 => Comp.pure x15
def colletref04_Int (x_0 : Int) : Comp Bytes :=
    (colletref04_code x_0).bind fun x1 => (Comp.loop (fun s => colletref04_Int_l2 s.1 s.2) (([] : Bytes), x1)).bind (fun (x9, x10) => colletref04_Int_j1 x9 x10)
def colletref04_Ints_l2 (x_0 : List Int) (x2 : Bytes) (x3 : Int) : Comp (Comp.Step (Bytes × Int) Bytes) :=
   if (decide (x3 < (x_0.length : Int))) = true then
    ((idx x_0 x3).bind fun x5 => (colletref04_Int x5).bind fun x6 => (cat x2 x6).bind fun x7 =>  Comp.pure (.next (x7, (IntKind.wrap .i64 (x3 + 1)))))
    else
    (Comp.pure (.done x2))
def colletref04_Ints_j1 (x10 : Bytes) : Comp Bytes :=
   Comp.pure x10
def colletref04_Ints (x_0 : List Int) : Comp Bytes :=
   (colletref04_Int (x_0.length : Int)).bind fun x1 =>  (Comp.loop (fun s => colletref04_Ints_l2 x_0 s.1 s.2) (x1, 0)).bind (fun x9 => colletref04_Ints_j1 x9)
def colletref04_Text (x_0 : Bytes) : Comp Bytes :=
   (colletref04_Int (x_0.length : Int)).bind fun x1 => (cat x1 x_0).bind fun x2 => Comp.pure x2
def r7_Bytes (x_0 : aEn) : Comp Bytes :=
   (colletref04_Ints [x_0.Seq, x_0.Shop, x_0.Kind, x_0.Day, x_0.N]).bind fun x3 => (colletref04_Text x_0.Before).bind fun x4 => (cat x3 x4).bind fun x5 => (colletref04_Text x_0.After).bind fun x6 => (cat x5 x6).bind fun x7 => (colletref04_Text x_0.Prev).bind fun x8 => (cat x7 x8).bind fun x9 => Comp.pure x9
def colletref02_least4 (x_0 : Int) : Comp Bytes :=
   (toStr [(IntKind.wrap .u8 x_0), (IntKind.wrap .u8 (shrF .i64 x_0 8)), (IntKind.wrap .u8 (shrF .i64 x_0 16)), (IntKind.wrap .u8 (shrF .i64 x_0 24))]).bind fun x1 => Comp.pure x1
def colletref02_Chain (x_0 : Bytes) (x_1 : Bytes) : Comp Bytes :=
   (colletref02_least4 (x_0.length : Int)).bind fun x1 => (cat [4] x1).bind fun x2 => (cat x2 x_0).bind fun x3 => (cat x3 x_1).bind fun x4 => (colletref02_Of x4).bind fun x5 => Comp.pure x5
def r7_link (x_0 : aEn) : Comp Bytes :=
   (r7_Bytes x_0).bind fun x3 => (colletref02_Chain x3 x_0.Mark).bind fun x4 => Comp.pure x4
def r7_Next_j1 (x24 : Int) (x25 : Int) (x26 : Int) (x27 : Int) (x28 : Int) (x29 : Bytes) (x30 : Bytes) (x31 : Bytes) (x32 : Bytes) : Comp aEn :=
   Comp.pure (aEn.mk x24 x25 x26 x27 x28 x29 x30 x31 x32)
def r7_Next (x_0 : List aEn) (x_1 : aEn) : Comp aEn :=
       if (decide ((x_0.length : Int) > 0)) = true then
    ((idx x_0 (IntKind.wrap .i64 ((x_0.length : Int) - 1))).bind fun x14 => (r7_link x14).bind fun x21 =>  r7_Next_j1 (x_0.length : Int) x_1.Shop x_1.Kind x_1.Day x_1.N x14.After x_1.After x21 ([] : Bytes))
    else
    (r7_Next_j1 (x_0.length : Int) x_1.Shop x_1.Kind x_1.Day x_1.N x_1.Before x_1.After ([] : Bytes) ([] : Bytes))
def colletref02_Mark (x_0 : Bytes) (x_1 : Bytes) : Comp Bytes :=
   (colletref02_least4 (x_0.length : Int)).bind fun x1 => (cat [5] x1).bind fun x2 => (cat x2 x_0).bind fun x3 => (colletref02_least4 (x_1.length : Int)).bind fun x4 => (cat x3 x4).bind fun x5 => (cat x5 x_1).bind fun x6 => (cat x6 x_0).bind fun x7 => (colletref02_Of x7).bind fun x8 => Comp.pure x8
def r7_Sign (x_0 : Bytes) (x_1 : aEn) : Comp aEn :=
   (r7_Bytes x_1).bind fun x11 => (colletref02_Mark x_0 x11).bind fun x12 =>  Comp.pure (aEn.mk x_1.Seq x_1.Shop x_1.Kind x_1.Day x_1.N x_1.Before x_1.After x_1.Prev x12)
def r7_Step_j1 (x_0 : List Bytes) (x_1 : List aEn) (x93 : Int) (x94 : Int) (x95 : Int) (x96 : Int) (x97 : Int) (x98 : Bytes) (x99 : Bytes) (x100 : Bytes) (x101 : Bytes) : Comp aEn :=
  (idx x_0 x94).bind fun x103 => (r7_Next x_1 (aEn.mk x93 x94 x95 x96 x97 x98 x99 x100 x101)).bind fun x104 => (r7_Sign x103 x104).bind fun x105 => Comp.pure x105
def r7_Step_j2 (x_0 : List Bytes) (x_1 : List aEn) (x70 : List Int) (x73 : Int) (x74 : Int) (x75 : Int) (x76 : Int) (x77 : Int) (x78 : Int) (x79 : Bytes) (x80 : Bytes) (x81 : Bytes) (x82 : Bytes) : Comp aEn :=
   if (decide (x76 = 4)) = true then
    ( (r1_Draw_Next (r1_Draw.mk x70 x73) (x_0.length : Int)).bind fun x85 => r7_Step_j1 x_0 x_1 x74 x75 x76 x77 x85.2 x79 x80 x81 x82)
    else
    (r7_Step_j1 x_0 x_1 x74 x75 x76 x77 x78 x79 x80 x81 x82)
def r7_Step (x_0 : List Bytes) (x_1 : List aEn) (x_2 : List Int) : Comp aEn :=
     (r1_Draw_Next (r1_Draw.mk x_2 0) (x_0.length : Int)).bind fun x11 => (r1_Draw_Next x11.1 9).bind fun x18 => (r1_Draw_Next x18.1 20).bind fun x25 => (r7_Root x25.2).bind fun x32 =>  if (decide ((x_1.length : Int) > 0)) = true then
    ((idx x_1 (IntKind.wrap .i64 ((x_1.length : Int) - 1))).bind fun x39 =>  (r1_Draw_Next x25.1 4).bind fun x48 => (idx [2, 2, 3, 4] x48.2).bind fun x55 => (r7_writer x39).bind fun x59 =>   if (decide (x55 = 2)) = true then
    ( (r1_Draw_Next x48.1 8).bind fun x62 => r7_Step_j2 x_0 x_1 x62.1.L x62.1.At ((aEn.mk 0 x11.2 1 x18.2 0 [] x32 [] []).Seq) x59 x55 (IntKind.wrap .i64 (x39.Day + (IntKind.wrap .i64 (Int.tdiv ((aEn.mk 0 x11.2 1 x18.2 0 [] x32 [] []).Day) 3)))) x62.2 ((aEn.mk 0 x11.2 1 x18.2 0 [] x32 [] []).Before) ((aEn.mk 0 x11.2 1 x18.2 0 [] x32 [] []).After) ((aEn.mk 0 x11.2 1 x18.2 0 [] x32 [] []).Prev) ((aEn.mk 0 x11.2 1 x18.2 0 [] x32 [] []).Mark))
    else
    ( r7_Step_j2 x_0 x_1 x48.1.L x48.1.At ((aEn.mk 0 x11.2 1 x18.2 0 [] x32 [] []).Seq) x59 x55 (IntKind.wrap .i64 (x39.Day + (IntKind.wrap .i64 (Int.tdiv ((aEn.mk 0 x11.2 1 x18.2 0 [] x32 [] []).Day) 3)))) ((aEn.mk 0 x11.2 1 x18.2 0 [] x32 [] []).N) ((aEn.mk 0 x11.2 1 x18.2 0 [] x32 [] []).Before) x39.After ((aEn.mk 0 x11.2 1 x18.2 0 [] x32 [] []).Prev) ((aEn.mk 0 x11.2 1 x18.2 0 [] x32 [] []).Mark)))
    else
    (r7_Step_j1 x_0 x_1 ((aEn.mk 0 x11.2 1 x18.2 0 [] x32 [] []).Seq) ((aEn.mk 0 x11.2 1 x18.2 0 [] x32 [] []).Shop) ((aEn.mk 0 x11.2 1 x18.2 0 [] x32 [] []).Kind) ((aEn.mk 0 x11.2 1 x18.2 0 [] x32 [] []).Day) ((aEn.mk 0 x11.2 1 x18.2 0 [] x32 [] []).N) ((aEn.mk 0 x11.2 1 x18.2 0 [] x32 [] []).Before) ((aEn.mk 0 x11.2 1 x18.2 0 [] x32 [] []).After) ((aEn.mk 0 x11.2 1 x18.2 0 [] x32 [] []).Prev) ((aEn.mk 0 x11.2 1 x18.2 0 [] x32 [] []).Mark))
def r7_Made_l2 (x_1 : List (List Int)) (x_2 : Int) (x_0 : List Bytes) (x1 : List aEn) (x4 : Int) : Comp (Comp.Step ((List aEn) × Int) (List aEn)) :=
   (Comp.pure ((bif (decide (x4 < (x_1.length : Int))) then (decide (x4 < x_2)) else false))).bind fun x6 => if x6 = true then
    ((idx x_1 x4).bind fun x7 => (r7_Step x_0 x1 x7).bind fun x8 => (app x1 [x8]).bind fun x11 =>  Comp.pure (.next (x11, (IntKind.wrap .i64 (x4 + 1)))))
    else
    (Comp.pure (.done x1))
def r7_Made_j1 (x17 : List aEn) : Comp (List aEn) :=
   Comp.pure x17
def r7_Made (x_0 : List Bytes) (x_1 : List (List Int)) (x_2 : Int) : Comp (List aEn) :=
     (Comp.loop (fun s => r7_Made_l2 x_1 x_2 x_0 s.1 s.2) ([], 0)).bind (fun x16 => r7_Made_j1 x16)
def c7_Case_made (x_0 : c7_Case) : Comp ((List Bytes) × (List aEn)) :=
    (r7_Keys (IntKind.wrap .i64 (1 + (Int.tmod (IntKind.wrap .i64 x_0.Shops) 3)))).bind fun x3 => (c7_Case_lists x_0).bind fun x8 => (r7_Made x3 x8 8).bind fun x9 => Comp.pure (x3, x9)
def c7_short (x_0 : aEn) : Comp aEn :=
   (sub x_0.Before 0 (min (x_0.Before.length : Int) 40)).bind fun x11 => (sub x_0.After 0 (min (x_0.After.length : Int) 40)).bind fun x12 => (sub x_0.Prev 0 (min (x_0.Prev.length : Int) 40)).bind fun x13 => (sub x_0.Mark 0 (min (x_0.Mark.length : Int) 40)).bind fun x14 =>  Comp.pure (aEn.mk x_0.Seq x_0.Shop x_0.Kind x_0.Day x_0.N x11 x12 x13 x14)
def r7_Odd_j1 (x20 : Int) (x21 : Int) (x22 : Int) (x23 : Int) (x24 : Int) (x25 : Bytes) (x26 : Bytes) (x27 : Bytes) (x28 : Bytes) : Comp aEn :=
   Comp.pure (aEn.mk x20 x21 x22 x23 x24 x25 x26 x27 x28)
def r7_Odd (x_0 : aEn) (x_1 : Vector Int 2) (x_2 : Bytes) : Comp aEn :=
   (idx x_1.toList 1).bind fun x13 => (idx x_1.toList 1).bind fun x14 => (r1_Mod x14 11).bind fun x15 => (idx [x13, 0, 1, 2, 3, 4, 5, (-1), 100000, 100001, (IntKind.wrap .i64 (x_0.Day - 1))] x15).bind fun x16 => (idx x_1.toList 0).bind fun x17 => (r1_Mod x17 9).bind fun x18 =>  if (decide (x18 = 0)) = true then
    ( r7_Odd_j1 x16 x_0.Shop x_0.Kind x_0.Day x_0.N x_0.Before x_0.After x_0.Prev x_0.Mark)
    else
    ( if (decide (x18 = 1)) = true then
    ( r7_Odd_j1 x_0.Seq x16 x_0.Kind x_0.Day x_0.N x_0.Before x_0.After x_0.Prev x_0.Mark)
    else
    ( if (decide (x18 = 2)) = true then
    ( r7_Odd_j1 x_0.Seq x_0.Shop x16 x_0.Day x_0.N x_0.Before x_0.After x_0.Prev x_0.Mark)
    else
    ( if (decide (x18 = 3)) = true then
    ( r7_Odd_j1 x_0.Seq x_0.Shop x_0.Kind x16 x_0.N x_0.Before x_0.After x_0.Prev x_0.Mark)
    else
    ( if (decide (x18 = 4)) = true then
    ( r7_Odd_j1 x_0.Seq x_0.Shop x_0.Kind x_0.Day x16 x_0.Before x_0.After x_0.Prev x_0.Mark)
    else
    ( if (decide (x18 = 5)) = true then
    ( r7_Odd_j1 x_0.Seq x_0.Shop x_0.Kind x_0.Day x_0.N x_2 x_0.After x_0.Prev x_0.Mark)
    else
    ( if (decide (x18 = 6)) = true then
    ( r7_Odd_j1 x_0.Seq x_0.Shop x_0.Kind x_0.Day x_0.N x_0.Before x_2 x_0.Prev x_0.Mark)
    else
    ( if (decide (x18 = 7)) = true then
    ( r7_Odd_j1 x_0.Seq x_0.Shop x_0.Kind x_0.Day x_0.N x_0.Before x_0.After x_2 x_0.Mark)
    else
    ( if (decide (x18 = 8)) = true then
    ( r7_Odd_j1 x_0.Seq x_0.Shop x_0.Kind x_0.Day x_0.N x_0.Before x_0.After x_0.Prev x_2)
    else
    (r7_Odd_j1 x_0.Seq x_0.Shop x_0.Kind x_0.Day x_0.N x_0.Before x_0.After x_0.Prev x_0.Mark)))))))))
def r7_shop (x_0 : List Bytes) (x_1 : Int) : Comp Bool :=
    (Comp.pure ((bif (decide (x_1 ≥ 0)) then (decide (x_1 < (x_0.length : Int))) else false))).bind fun x1 => Comp.pure x1
def r7_number (x_0 : List Bytes) (x_1 : aEn) : Comp Int :=
    if (decide (x_1.Kind = 4)) = true then
    ((r7_shop x_0 x_1.N).bind fun x3 => if (!x3) = true then
    ( Comp.pure 55)
    else
    ( Comp.pure 0))
    else
    ( (Comp.pure ((bif (bif (decide (x_1.Kind = 2)) then (bif (decide (x_1.N < 0)) then true else (decide (x_1.N > 1048576))) else false) then true else (bif (decide (x_1.Kind ≠ 2)) then (decide (x_1.N ≠ 0)) else false)))).bind fun x4 => if x4 = true then
    ( Comp.pure 4)
    else
    ( Comp.pure 0))
def r7_first (x_0 : aEn) : Comp Int :=
    if (decide (x_0.Prev ≠ ([] : Bytes))) = true then
    ( Comp.pure 51)
    else
    ( if (decide (x_0.Before ≠ ([] : Bytes))) = true then
    ( Comp.pure 53)
    else
    ( Comp.pure 0))
def r7_follows (x_0 : aEn) (x_1 : aEn) : Comp Int :=
    if (decide (x_1.Day < x_0.Day)) = true then
    ( Comp.pure 7)
    else
    ((r7_link x_0).bind fun x5 => if (decide (x_1.Prev ≠ x5)) = true then
    ( Comp.pure 51)
    else
    ( if (decide (x_1.Before ≠ x_0.After)) = true then
    ( Comp.pure 53)
    else
    ( Comp.pure 0)))
def colletref02_Check (x_0 : Bytes) (x_1 : Bytes) (x_2 : Bytes) : Comp Bool :=
   (Comp.gd ((decide (x_0 ≠ ([] : Bytes))) == true) (colletref02_Mark x_0 x_1) default).bind fun x1 => (Comp.pure ((bif (decide (x_0 ≠ ([] : Bytes))) then (decide (x_2 = x1)) else false))).bind fun x2 => Comp.pure x2
def r7_entry_j1 (x1 : aEn) (x_0 : List Bytes) (x16 : Int) : Comp Int :=
   if (decide (x16 ≠ 0)) = true then
    ( Comp.pure x16)
    else
    ( (Comp.pure ((bif (decide ((x1.After.length : Int) ≠ 8)) then true else (bif (bif (decide (x1.Kind = 3)) then true else (decide (x1.Kind = 4))) then (decide (x1.After ≠ x1.Before)) else false)))).bind fun x20 => if x20 = true then
    ( Comp.pure 53)
    else
    ((idx x_0 x1.Shop).bind fun x21 => (r7_Bytes x1).bind fun x22 => (colletref02_Check x21 x22 x1.Mark).bind fun x23 => if (!x23) = true then
    ( Comp.pure 50)
    else
    ( Comp.pure 0)))
def r7_entry (x_0 : List Bytes) (x_1 : List aEn) (x_2 : Int) : Comp Int :=
   (idx x_1 x_2).bind fun x1 =>  if (decide (x1.Seq ≠ x_2)) = true then
    ( Comp.pure 7)
    else
    ((r7_shop x_0 x1.Shop).bind fun x8 => (Comp.gd (((!x8) == false) && ((decide (x_2 > 0)) == true)) (idx x_1 (IntKind.wrap .i64 (x_2 - 1))) default).bind fun x9 => (Comp.gd (((!x8) == false) && ((decide (x_2 > 0)) == true)) (r7_writer x9) default).bind fun x10 => (Comp.pure ((bif (!x8) then true else (bif (decide (x_2 > 0)) then (decide (x1.Shop ≠ x10)) else false)))).bind fun x11 => if x11 = true then
    ( Comp.pure 55)
    else
    ( (Comp.pure ((bif (bif (decide (x_2 = 0)) then (decide (x1.Kind ≠ 1)) else false) then true else (bif (bif (bif (decide (x_2 > 0)) then (decide (x1.Kind ≠ 2)) else false) then (decide (x1.Kind ≠ 3)) else false) then (decide (x1.Kind ≠ 4)) else false)))).bind fun x12 => if x12 = true then
    ( Comp.pure 4)
    else
    ((r7_number x_0 x1).bind fun x13 =>  if (decide (x13 ≠ 0)) = true then
    ( Comp.pure x13)
    else
    ( (Comp.pure ((bif (decide (x1.Day < 0)) then true else (decide (x1.Day > 100000))))).bind fun x14 => if x14 = true then
    ( Comp.pure 3)
    else
    ( if (decide (x_2 = 0)) = true then
    ((r7_first x1).bind fun x15 => r7_entry_j1 x1 x_0 x15)
    else
    ((idx x_1 (IntKind.wrap .i64 (x_2 - 1))).bind fun x17 => (r7_follows x17 x1).bind fun x18 => r7_entry_j1 x1 x_0 x18))))))
def r7_Check_l2 (x_1 : List aEn) (x_0 : List Bytes) (x8 : Int) (x9 : api_Finding) : Comp (Comp.Step (Int × api_Finding) (Sum api_Finding api_Finding)) :=
   if (decide (x8 < (x_1.length : Int))) = true then
    ((r7_entry x_0 x_1 x8).bind fun x11 =>  if (decide (x11 ≠ 0)) = true then
    ( Comp.pure (.done (.inl (api_Finding.mk x8 x11))))
    else
    ( Comp.pure (.next ((IntKind.wrap .i64 (x8 + 1)), x9))))
    else
    (Comp.pure (.done (.inr x9)))
def r7_Check_j1 (x15 : api_Finding) : Comp api_Finding :=
   Comp.pure (api_Finding.mk (-1) 0)
def r7_Check (x_0 : List Bytes) (x_1 : List aEn) : Comp api_Finding :=
    (Comp.pure ((bif (bif (decide ((x_1.length : Int) > 60)) then true else (decide ((x_0.length : Int) < 1))) then true else (decide ((x_0.length : Int) > 6))))).bind fun x6 => if x6 = true then
    ( Comp.pure (api_Finding.mk (-1) 2))
    else
    ( (Comp.loop (fun s => r7_Check_l2 x_1 x_0 s.1 s.2) (0, (api_Finding.mk 0 0))).bind (fun e => match e with | (.inl x13) => (Comp.pure x13) | (.inr x14) => (r7_Check_j1 x14)))
def r7_signed (x_0 : List Bytes) (x_1 : aEn) (x_2 : Int) : Comp Bool :=
   (Comp.gd ((decide (x_1.Seq = x_2)) == true) (r7_shop x_0 x_1.Shop) default).bind fun x3 => (Comp.gd ((bif (decide (x_1.Seq = x_2)) then x3 else false) == true) (idx x_0 x_1.Shop) default).bind fun x4 => (Comp.gd ((bif (decide (x_1.Seq = x_2)) then x3 else false) == true) (r7_Bytes x_1) default).bind fun x5 => (Comp.gd ((bif (decide (x_1.Seq = x_2)) then x3 else false) == true) (colletref02_Check x4 x5 x_1.Mark) default).bind fun x6 => (Comp.pure ((bif (bif (decide (x_1.Seq = x_2)) then x3 else false) then x6 else false))).bind fun x7 => Comp.pure x7
def r7_Fork_l2 (x_1 : List aEn) (x_2 : List aEn) (x_0 : List Bytes) (x1 : Int) : Comp (Comp.Step Int (Sum (Int × Bool) Unit)) :=
   (Comp.pure ((bif (decide (x1 < (x_1.length : Int))) then (decide (x1 < (x_2.length : Int))) else false))).bind fun x3 => if x3 = true then
    ((idx x_1 x1).bind fun x4 => (idx x_2 x1).bind fun x5 => if (decide (x4 = x5)) = true then
    ( Comp.pure (.next (IntKind.wrap .i64 (x1 + 1))))
    else
    ((idx x_1 x1).bind fun x6 => (idx x_2 x1).bind fun x7 => (Comp.gd ((decide (x6.Shop = x7.Shop)) == true) (idx x_1 x1) default).bind fun x8 => (Comp.gd ((decide (x6.Shop = x7.Shop)) == true) (r7_signed x_0 x8 x1) default).bind fun x9 => (Comp.gd ((bif (decide (x6.Shop = x7.Shop)) then x9 else false) == true) (idx x_2 x1) default).bind fun x10 => (Comp.gd ((bif (decide (x6.Shop = x7.Shop)) then x9 else false) == true) (r7_signed x_0 x10 x1) default).bind fun x11 => (Comp.pure ((bif (bif (decide (x6.Shop = x7.Shop)) then x9 else false) then x11 else false))).bind fun x12 => if x12 = true then
    ((idx x_1 x1).bind fun x13 => Comp.pure (.done (.inl (x13.Shop, true))))
    else
    ( Comp.pure (.done (.inl (0, false))))))
    else
    (Comp.pure (.done (.inr ())))
def r7_Fork_j1  : Comp (Int × Bool) :=
   Comp.pure (0, false)
def r7_Fork (x_0 : List Bytes) (x_1 : List aEn) (x_2 : List aEn) : Comp (Int × Bool) :=
    (Comp.loop (fun s => r7_Fork_l2 x_1 x_2 x_0 s) 0).bind (fun e => match e with | (.inl (x14, x15)) => (Comp.pure (x14, x15)) | (.inr ()) => (r7_Fork_j1))
def c7_PassportChecks_l5 (x10 : ((List Bytes) × (List aEn))) (x54 : List aEn) (x20 : List Bytes) (x75 : List aEn) (x83 : Int) : Comp (Comp.Step Int (Sum Bool Unit)) :=
   (Comp.pure ((decide (x83 < ([x10.2, x54].length : Int))))).bind fun x85 => if x85 = true then
    ((idx [x10.2, x54] x83).bind fun x86 => (passport_Fork x20 x75 x86).bind fun x89 => (r7_Fork x20 x75 x86).bind fun x90 =>  (Comp.pure ((bif (decide (x89.1 ≠ x90.1)) then true else (decide (x89.2 ≠ x90.2))))).bind fun x91 => if x91 = true then
    ( Comp.pure (.done (.inl false)))
    else
    ( Comp.pure (.next (IntKind.wrap .i64 (x83 + 1)))))
    else
    (Comp.pure (.done (.inr ())))
def c7_PassportChecks_l4 (x72 : Int) (x10 : ((List Bytes) × (List aEn))) (x54 : List aEn) (x66 : List aEn) (x67 : aEn) (x68 : List aEn) (x20 : List Bytes) (x73 : Int) : Comp (Comp.Step Int (Sum Bool Unit)) :=
   if (decide (x73 < x72)) = true then
    ((idx [x10.2, x54, x66, [x67], x68] x73).bind fun x75 => (passport_Check x20 x75).bind fun x78 => (r7_Check x20 x75).bind fun x79 => if (decide (x78 ≠ x79)) = true then
    ( Comp.pure (.done (.inl false)))
    else
    ( (Comp.loop (fun s => c7_PassportChecks_l5 x10 x54 x20 x75 s) 0).bind (fun e => match e with | (.inl x92) => (Comp.pure (.done (.inl x92))) | (.inr ()) => ( Comp.pure (.next (IntKind.wrap .i64 (x73 + 1)))))))
    else
    (Comp.pure (.done (.inr ())))
def c7_PassportChecks_j3 (x9 : Bool) : Comp Bool :=
   Comp.pure x9
def c7_PassportChecks_j2 (x10 : ((List Bytes) × (List aEn))) (x_5 : aEn) (x20 : List Bytes) (x9 : Bool) (x54 : List aEn) : Comp Bool :=
  (app [] x10.2).bind fun x64 => (c7_short x_5).bind fun x65 => (app x64 [x65]).bind fun x66 => (c7_short x_5).bind fun x67 => (mk (IntKind.wrap .i64 (60 + (x10.2.length : Int))) (aEn.mk 0 0 0 0 0 [] [] [] [])).bind fun x68 => (Comp.pure (([x10.2, x54, x66, [x67], x68].length : Int))).bind fun x72 => (Comp.loop (fun s => c7_PassportChecks_l4 x72 x10 x54 x66 x67 x68 x20 s) 0).bind (fun e => match e with | (.inl x80) => (Comp.pure x80) | (.inr ()) => (c7_PassportChecks_j3 x9))
def c7_PassportChecks_j1 (x10 : ((List Bytes) × (List aEn))) (x_1 : Vector Int 2) (x_3 : Bytes) (x_2 : Vector Int 2) (x_4 : Bool) (x_5 : aEn) (x9 : Bool) (x20 : List Bytes) : Comp Bool :=
   (app [] x10.2).bind fun x28 =>  if (decide ((x10.2.length : Int) > 0)) = true then
    ((idx x_1.toList 0).bind fun x32 => (rem (IntKind.wrap .i64 x32) (x10.2.length : Int)).bind fun x33 => (idx x28 x33).bind fun x34 => (sub x_3 0 (min (x_3.length : Int) 12)).bind fun x35 => (r7_Odd x34 x_2 x35).bind fun x36 => (idx x28 x33).bind fun x37 => (upd x28 x33 x36).bind fun x41 => (Comp.gd (x_4 == true) (idx x41 x33) default).bind fun x42 => (Comp.gd ((bif x_4 then (decide (x42.Shop ≥ 0)) else false) == true) (idx x41 x33) default).bind fun x43 => (Comp.pure ((bif (bif x_4 then (decide (x42.Shop ≥ 0)) else false) then (decide (x43.Shop < (x20.length : Int))) else false))).bind fun x44 => if x44 = true then
    ((idx x41 x33).bind fun x45 => (idx x20 x45.Shop).bind fun x46 => (idx x41 x33).bind fun x47 => (r7_Sign x46 x47).bind fun x48 => (idx x41 x33).bind fun x49 => (upd x41 x33 x48).bind fun x53 => c7_PassportChecks_j2 x10 x_5 x20 x9 x53)
    else
    (c7_PassportChecks_j2 x10 x_5 x20 x9 x41))
    else
    (c7_PassportChecks_j2 x10 x_5 x20 x9 x28)
def c7_PassportChecks (x_0 : c7_Case) (x_1 : Vector Int 2) (x_2 : Vector Int 2) (x_3 : Bytes) (x_4 : Bool) (x_5 : aEn) : Comp Bool :=
   (c7_sanity).bind fun x9 => (c7_Case_made x_0).bind fun x10 => (idx x_1.toList 1).bind fun x15 => if (decide ((Int.tmod x15 2) = 0)) = true then
    ((idx x_1.toList 1).bind fun x16 => (r7_Keys (Int.tmod (IntKind.wrap .i64 (IntKind.wrap .u8 (Int.tdiv x16 2))) 8)).bind fun x17 => c7_PassportChecks_j1 x10 x_1 x_3 x_2 x_4 x_5 x9 x17)
    else
    (c7_PassportChecks_j1 x10 x_1 x_3 x_2 x_4 x_5 x9 x10.1)
end Go.F
end
