/- The engine, seventh part: rows of elements made and written, and yields. No statement of the program stands here. -/
import Derived.Test.YtbkmnghnjajdmaaSto
import Derived.RangeFuncRecord
import Derived.RangeFuncSeq
import Derived.RangeFuncLeaves
namespace Go.Eng
open Go Go.RowKit

theorem flat_replicate (z : Value) : ∀ n, flat (List.replicate n z) = (List.replicate n z.cells.toList).flatten := by
  intro n
  induction n with
  | zero => rfl
  | succ n ih =>
    unfold flat at ih ⊢
    rw [List.replicate_succ, List.flatMap_cons, ih, List.replicate_succ, List.flatten_cons]
theorem made_flat (z : Value) (E : Nat) (hE : z.cells.size = E + 1) (n : Nat) : (madeCells z.cells (n * (E + 1))).toList = flat (List.replicate n z) := by
  have hs : ∀ x ∈ List.replicate n z, x.cells.size = E + 1 := fun x hx => by rw [List.eq_of_mem_replicate hx]; exact hE
  apply List.ext_getElem?
  intro j
  by_cases hj : j < n * (E + 1)
  · have hq : j / (E + 1) < n := Nat.div_lt_of_lt_mul (by rw [Nat.mul_comm]; exact hj)
    have hr : j % (E + 1) < E + 1 := Nat.mod_lt _ (by omega)
    have e1 : j / (E + 1) * (E + 1) + j % (E + 1) = j := by rw [Nat.mul_comm]; exact Nat.div_add_mod j (E + 1)
    have h2 := flat_at hs (j / (E + 1)) z (by simp [hq]) _ hr
    rw [e1] at h2
    rw [h2]
    have hr' : j % (E + 1) < z.cells.size := by omega
    simp [madeCells, hj, hE]
    rw [Array.getElem?_eq_getElem hr', getElem!_pos z.cells _ hr']
  · rw [List.getElem?_eq_none (by rw [Array.length_toList, size_madeCells]; omega), List.getElem?_eq_none (by rw [flat_length hs]; simp; omega)]
section ops
variable {P : Program} {a : Act} {w : World} {d : Option Tmp} {T : TypeId} {pos : String} {aft : Array Edge} {g : Option (Nat × Bool)}
theorem ok_makeN {x y : Operand} {X e E B bytes : Nat} {k k' : IntKind} {n : Nat} {m : Int} {z sz by_ dd z'} (hT : Ty P X (.slice e) z sz by_) (he : Ty P e dd z' (E + 1) bytes) (hz : z'.cells.size = E + 1) (hB : B ≤ w.heap.size)
    (hx : a.eval x = .int k m) (hy : a.eval y = .int k' m) (hm : m = (n : Int)) (hb : bytes * n ≤ 281474976710656) (hl : n ≤ 9223372036854775807) :
    Ok P ⟨d, .makeSlice X x y, T, pos, aft, g⟩ a w (SP.own B e (E + 1) (List.replicate n z')).holds := by
  obtain ⟨i, hi, hz0, hsz, hby⟩ := he.info
  subst hm
  have hr := run_make (P := P) w X e i z' hT.u hi hz0 k k' (n : Int) (n : Int) (by omega) (Int.le_refl _) (by rw [hby]; have h : ((bytes * n : Nat) : Int) ≤ 281474976710656 := (by omega); rwa [Int.natCast_mul] at h) (by omega)
  simp only [Int.toNat_natCast] at hr
  refine ok_run (w' := w.alloc (.cells (madeCells z'.cells (n * i.size)) e)) (v := .slice (some ⟨w.heap.size, 0, none⟩) n n) (by simp only [execOp, hx, hy, Sem.run_bind, hr, Result.andThen, Sem.run_pure]) (Ext.alloc _ _) ⟨fun x hx => by rw [List.eq_of_mem_replicate hx]; exact hz, ?_⟩
  rw [hsz, ← made_flat z' E hz n, List.length_replicate]
  exact World.ownsRow_lit w _ n hB (by unfold maxLen; omega) (size_madeCells _ _)
theorem ok_make0 {x y : Operand} {X e E B bytes : Nat} {k k' : IntKind} {n : Nat} {z sz by_ dd z'} (hT : Ty P X (.slice e) z sz by_) (he : Ty P e dd z' (E + 1) bytes) (hB : B ≤ w.heap.size)
    (hx : a.eval x = .int k 0) (hy : a.eval y = .int k' (n : Int)) (hb : bytes * n ≤ 281474976710656) (hl : n ≤ 9223372036854775807) :
    Ok P ⟨d, .makeSlice X x y, T, pos, aft, g⟩ a w (SP.own B e (E + 1) []).holds := by
  obtain ⟨i, hi, hz0, hsz, hby⟩ := he.info
  have hr := run_make (P := P) w X e i z' hT.u hi hz0 k k' 0 (n : Int) (Int.le_refl _) (by omega) (by rw [hby]; have h : ((bytes * n : Nat) : Int) ≤ 281474976710656 := (by omega); rwa [Int.natCast_mul] at h) (by omega)
  simp only [Int.toNat_natCast, Int.toNat_zero] at hr
  refine ok_run (w' := w.alloc (.cells (madeCells z'.cells (n * i.size)) e)) (v := .slice (some ⟨w.heap.size, 0, none⟩) 0 n) (by simp only [execOp, hx, hy, Sem.run_bind, hr, Result.andThen, Sem.run_pure]) (Ext.alloc _ _) ⟨by simp, ?_⟩
  have := World.ownsRow_made (base := B) (e := e) (size := E + 1) w (madeCells z'.cells (n * i.size)) n hB (by unfold maxLen; omega) (by rw [size_madeCells, hsz])
  simpa [flat] using this
/-- the address of element i of a slice of the call's own -/
def EltOf (u : Value) (off : Nat) (p : Value) : Prop := ∃ b, u.ownBlock = some b ∧ p = .pointer (some ⟨b, off, none⟩)
abbrev SP.elt (u : Value) (off : Nat) : SP := .pr (fun _ p => EltOf u off p) (fun _ _ _ _ h => h)
theorem ok_indexElt {x i : Operand} {X e E B : Nat} {vs : List Value} {u : Value} {k : IntKind} {m : Int} {n : Nat} {z sz by_ dd z' by_'} (hT : Ty P X (.slice e) z sz by_) (he : Ty P e dd z' E by_') (hxu : a.eval x = u) (hO : OwnS w B e E u vs) (hi : a.eval i = .int k m) (hm : m = (n : Int)) (hn : n < vs.length) :
    Ok P ⟨d, .indexAddr X x i, T, pos, aft, g⟩ a w (SP.elt u (n * E)).holds := by
  subst hm
  rcases hO.row.2 with ⟨_, h2⟩ | ⟨b, cap, cur, h1, _⟩
  · omega
  · refine ok_run (v := .pointer (some ⟨b, n * E, none⟩)) (w' := w) ?_ (Ext.refl _) ⟨b, by rw [h1]; rfl, rfl⟩
    have hn' : (n : Int) < (vs.length : Int) := by omega
    simp [execOp, Instr.indexAt, asIntOf, hi, hxu, h1, hT.run_u, he.run_size, hn', addr_add]
    intro h; omega
end ops
theorem flat_set {E : Nat} : ∀ (vs : List Value) (n : Nat) (v : Value), (∀ x ∈ vs, x.cells.size = E) → v.cells.size = E → n < vs.length → ∀ j, (flat (vs.set n v))[j]? = if n * E ≤ j ∧ j < n * E + E then v.cells[j - n * E]? else (flat vs)[j]? := by
  intro vs n v hs hv hn j
  have hs' : ∀ x ∈ vs.set n v, x.cells.size = E := by
    intro x hx
    rcases List.mem_or_eq_of_mem_set hx with h | h
    · exact hs x h
    · rw [h]; exact hv
  by_cases hE : E = 0
  · subst hE
    have h1 : flat (vs.set n v) = [] := List.eq_nil_of_length_eq_zero (by rw [flat_length hs']; simp)
    have h2 : flat vs = [] := List.eq_nil_of_length_eq_zero (by rw [flat_length hs]; simp)
    rw [h1, h2, if_neg (by omega)]
  · by_cases hj : j < vs.length * E
    · have hq : j / E < vs.length := Nat.div_lt_of_lt_mul (by rw [Nat.mul_comm]; exact hj)
      have hr : j % E < E := Nat.mod_lt _ (by omega)
      have e1 : j / E * E + j % E = j := by rw [Nat.mul_comm]; exact Nat.div_add_mod j E
      by_cases hnj : j / E = n
      · have h2 := flat_at hs' (j / E) v (by rw [hnj]; simp [hn]) _ hr
        rw [e1] at h2
        rw [h2, ← hnj, if_pos (by omega)]
        congr 1; omega
      · have h2 := flat_at hs' (j / E) vs[j / E] (by simp [hnj, Ne.symm hnj, hq]) _ hr
        have h3 := flat_at hs (j / E) vs[j / E] (by simp [hq]) _ hr
        rw [e1] at h2 h3
        rw [h2, ← h3, if_neg]
        rintro ⟨h4, h5⟩
        apply hnj
        have a1 : n * E ≤ j := h4
        have a2 : j < (n + 1) * E := by rw [Nat.add_mul]; omega
        have b1 : n ≤ j / E := (Nat.le_div_iff_mul_le (by omega)).2 a1
        have b2 : j / E < n + 1 := (Nat.div_lt_iff_lt_mul (by omega)).2 a2
        omega
    · have hle : n * E + E ≤ vs.length * E := by
        have : (n + 1) * E ≤ vs.length * E := Nat.mul_le_mul_right _ hn
        rw [Nat.add_mul] at this; omega
      rw [List.getElem?_eq_none (by rw [flat_length hs']; simp; omega), if_neg (by omega), List.getElem?_eq_none (by rw [flat_length hs]; omega)]
/-- a store of a whole element -/
theorem run_storeCells2 {P : Program} {T b off : Nat} : ∀ (l : List Value) (i : Nat) (w : World) (cs : Array Value), (∀ v ∈ l, v.oneCell' = true) → w.heap[b]? = some (.cells cs T) → off + i + l.length ≤ cs.size →
    ∃ w' cs', (storeCells ⟨b, off, none⟩ l i).run P w = .ok () w' ∧ w'.heap[b]? = some (.cells cs' T) ∧ cs'.size = cs.size ∧ (∀ j, cs'[j]? = if off + i ≤ j ∧ j < off + i + l.length then l[j - (off + i)]? else cs[j]?) ∧
      w'.os = w.os ∧ w'.tape = w.tape ∧ w'.output = w.output ∧ w'.heap.size = w.heap.size ∧ ∀ k, k ≠ b → w'.heap[k]? = w.heap[k]?
  | [], i, w, cs, _, hO, _ => ⟨w, cs, rfl, hO, rfl, fun j => by rw [if_neg (by simp)], rfl, rfl, rfl, rfl, fun _ _ => rfl⟩
  | v :: l, i, w, cs, h1, hO, hs => by
      simp only [List.length_cons] at hs
      have hi : off + i < cs.size := by omega
      have hOwn : Own w b cs T := ⟨(0, 0), hO, fun o _ => by simp⟩
      have hc : w.cell? ⟨b, off + i, none⟩ = some cs[off + i] := by rw [hOwn.cell, Array.getElem?_eq_getElem hi]
      have hset : (w.setCell ⟨b, off + i, none⟩ v).heap[b]? = some (.cells (cs.setIfInBounds (off + i) v) T) := by
        unfold World.setCell; simp [Array.getElem?_modify, hO]
      obtain ⟨w', cs', h2, h3, h4, h5, h6, h7, h8, h9, h10⟩ := run_storeCells2 (P := P) (off := off) l (i + 1) (w.setCell ⟨b, off + i, none⟩ v) _ (fun x hx => h1 x (by simp [hx])) hset (by simp; omega)
      refine ⟨w', cs', ?_, h3, by rw [h4]; simp, fun j => ?_, h6, h7, h8, by rw [h9]; simp [World.setCell], fun k hk => ?_⟩
      · have e : (⟨b, off, none⟩ : Addr).add i = ⟨b, off + i, none⟩ := by rw [addr_add]
        simp only [storeCells, Sem.run_bind, e, run_store _ _ _ _ _ (h1 v (by simp)), hc, hOwn.frozen (off + i) hi]
        exact h2
      · rw [h5 j, List.length_cons]
        by_cases hj : j = off + i
        · subst hj
          rw [if_neg (by omega), if_pos (by omega)]; simp [hi]
        · rw [Array.getElem?_setIfInBounds_ne (Ne.symm hj)]
          by_cases h : off + (i + 1) ≤ j ∧ j < off + (i + 1) + l.length
          · rw [if_pos h, if_pos (by omega)]
            have e : j - (off + i) = (j - (off + (i + 1))) + 1 := by omega
            rw [e]; simp
          · rw [if_neg h, if_neg (by omega)]
      · rw [h10 k hk]
        unfold World.setCell; simp [Array.getElem?_modify, Ne.symm hk]
section tails
variable {P : Program} {a : Act} {w : World} {T : TypeId} {pos : String} {aft : Array Edge} {ops : Array Oper} {Q : Exit → Act → World → Prop} {rest : List Oper}
theorem t_storeElt {x y : Operand} {X E B n : Nat} {vs : List Value} {u p v : Value} {dd z by_} (hT : Ty P X dd z E by_) (hx : a.eval x = p) (hp : EltOf u (n * E) p) (hO : OwnS w B X E u vs) (hy : a.eval y = v) (hv : v.cells.size = E) (h1 : ∀ c ∈ v.cells.toList, c.oneCell' = true) (hn : n < vs.length)
    (hK : ∀ w', OwnS w' B X E u (vs.set n v) → Appd w w' u u → wpList P ops Q rest a w') : wpList P ops Q (⟨none, .store X x y, T, pos, aft, none⟩ :: rest) a w := by
  obtain ⟨b, hb, rfl⟩ := hp
  rcases hO.row.2 with ⟨_, h2⟩ | ⟨g, cap, cur, hu, hBg, hg, hnc, hcm, hcs, htk⟩
  · omega
  · rw [hu] at hb
    simp only [Value.ownBlock, Option.some.injEq] at hb
    subst hb
    have hnE : n * E + E ≤ vs.length * E := by
      have : (n + 1) * E ≤ vs.length * E := Nat.mul_le_mul_right _ hn
      rw [Nat.add_mul] at this; omega
    have hvc : vs.length * E ≤ cap * E := Nat.mul_le_mul_right _ hnc
    obtain ⟨w', cs', h2, h3, h4, h5, h6, h7, h8, h9, h10⟩ := run_storeCells2 (P := P) (off := n * E) v.cells.toList 0 w cur h1 hg (by rw [Array.length_toList, hv, hcs]; omega)
    refine t_skip (w' := w') ?_ rfl rfl (hK w' ⟨?_, ?_, .inr ⟨g, cap, cs', by rw [hu, List.length_set], hBg, h3, by rw [List.length_set]; exact hnc, hcm, by rw [h4, hcs], ?_⟩⟩ ⟨⟨h6, h7, h8, by omega, fun k _ hk => h10 k (fun e => hk (by rw [hu, e]; rfl))⟩, .inl rfl⟩)
    · simp [execOp, Instr.storeAt, Instr.sureAddr, hx, hy, storeVar, hv, hT.run_size, h2]
    · intro c hc
      rcases List.mem_or_eq_of_mem_set hc with h | h
      · exact hO.sz c h
      · rw [h]; exact hv
    · have hs' : ∀ c ∈ vs.set n v, c.cells.size = E := by
        intro c hc
        rcases List.mem_or_eq_of_mem_set hc with h | h
        · exact hO.sz c h
        · rw [h]; exact hv
      rw [flat_length hs']
    · apply List.ext_getElem?
      intro j
      rw [flat_set vs n v hO.sz hv hn j, List.length_set, List.getElem?_take]
      have hfl : ∀ j, j < vs.length * E → (flat vs)[j]? = cur[j]? := by
        intro j hj
        rw [← htk, List.getElem?_take, if_pos hj]; simp
      by_cases hj : j < vs.length * E
      · rw [if_pos hj, Array.getElem?_toList, h5 j]
        simp only [Nat.add_zero, Array.length_toList, hv, Array.getElem?_toList]
        by_cases h : n * E ≤ j ∧ j < n * E + E
        · rw [if_pos h, if_pos h]
        · rw [if_neg h, if_neg h, hfl j hj]
      · rw [if_neg hj, if_neg (by omega)]
        symm
        rw [List.getElem?_eq_none]
        rw [flat_length hO.sz]; omega
end tails

/-! ### bits -/
theorem bits_and_run {P : Program} {w : World} (m n : Nat) (hm : m < 4611686018427387904) (hn : n < 4611686018427387904) : (Op.intBits .and .i64 (m : Int) (n : Int)).run P w = .ok (.int .i64 ((m &&& n : Nat) : Int)) w := by
  have e1 : (BitVec.ofInt IntKind.i64.bits (m : Int)).toNat = m := by
    show (BitVec.ofInt 64 (m : Int)).toNat = m
    rw [BitVec.ofInt_natCast, BitVec.toNat_ofNat]; omega
  have e2 : (BitVec.ofInt IntKind.i64.bits (n : Int)).toNat = n := by
    show (BitVec.ofInt 64 (n : Int)).toNat = n
    rw [BitVec.ofInt_natCast, BitVec.toNat_ofNat]; omega
  have h3 : m &&& n ≤ m := Nat.and_le_left
  simp only [Op.intBits, BitVec.toNat_and, e1, e2, Sem.run_pure]
  rw [IntWalk.i64_in _ (by omega)]
section ops
variable {P : Program} {a : Act} {w : World} {d : Option Tmp} {T : TypeId} {pos : String} {aft : Array Edge} {g : Option (Nat × Bool)}
theorem ok_and_i {x y : Operand} {X Y : TypeId} {m n : Int} {m' n' : Nat} (hx : a.eval x = .int .i64 m) (hy : a.eval y = .int .i64 n) (hm : m = (m' : Int)) (hn : n = (n' : Int)) (h1 : m' < 4611686018427387904) (h2 : n' < 4611686018427387904) :
    Ok P ⟨d, .binOp .and X x y Y, T, pos, aft, g⟩ a w (SP.isv (.int .i64 ((m' &&& n' : Nat) : Int))).holds := by
  subst hm; subst hn
  exact ok_bit hx hy (.inl rfl) fun w => bits_and_run m' n' h1 h2
end ops

/-! ### a range over a function -/
/-- a call of the loop's round -/
def Yld (P : Program) (L : Nat) (args : Array Value) (w : World) (R : World → Prop) : Prop :=
  YieldAt Fence.wide 0 P L args w fun e w' => e = .returned (.bool true) ∧ R w'
theorem wide_none {n : Nat} : Fence.wide.depth.isSome = true → 1 ≤ n := fun h => by simp [Fence.wide] at h
section lists
variable {P : Program} {ops : Array Oper} {Q : Exit → Act → World → Prop} {rest : List Oper} {a : Act} {w : World} {o : Oper}
theorem li_want (hw : Region.wanted o (yielded ops a.tmps) = true) {v : Value} (h : (execOp a.eval o).run P w = .ok (.value v) w) (hK : wpListIn Fence.wide 1 P ops Q rest (a.put o.dst v) w) : wpListIn Fence.wide 1 P ops Q (o :: rest) a w := by
  simp only [wpListIn, hw, if_true]
  refine ⟨fun _ _ => trivial, ?_⟩
  show o.uponIn Fence.wide 1 P a _ Q ((o.semAt none a.eval).run P w)
  rw [Oper.semAt_none, h]
  exact hK
theorem li_skip (hw : Region.wanted o (yielded ops a.tmps) = false) (hK : wpListIn Fence.wide 1 P ops Q rest (a.put o.dst undef) w) : wpListIn Fence.wide 1 P ops Q (o :: rest) a w := by
  simp only [wpListIn, hw, if_false, Bool.false_eq_true]
  exact ⟨fun _ _ => trivial, hK⟩
theorem li_yield {x f : Operand} {X T : TypeId} {pos : String} {aft : Array Edge} {d L : Nat} {u : Value} {R : World → Prop} (hf : a.eval f = .func (.yield L) #[] #[]) (hx : a.eval x = u) (hy : Yld P L #[u] w R)
    (hK : ∀ w', R w' → wpListIn Fence.wide 1 P ops Q rest (a.put (some d) (.bool true)) w') : wpListIn Fence.wide 1 P ops Q (⟨some d, .call ⟨.value f, #[x], #[X]⟩, T, pos, aft, none⟩ :: rest) a w := by
  obtain ⟨fn, tmps, assign, body, h1, h2⟩ := hy
  have hw : Region.wanted (⟨some d, .call ⟨.value f, #[x], #[X]⟩, T, pos, aft, none⟩ : Oper) (yielded ops a.tmps) = true := rfl
  simp only [wpListIn, hw, if_true]
  refine ⟨fun _ _ => trivial, ?_⟩
  show Oper.uponIn Fence.wide 1 P _ a _ Q ((Oper.semAt none a.eval _).run P w)
  rw [Oper.semAt_none]
  have hr : (execOp a.eval ⟨some d, .call ⟨.value f, #[x], #[X]⟩, T, pos, aft, none⟩).run P w = .ok (.round L fn tmps assign body) w := by
    simp [execOp, resolve, hf, Deferred.ofValue, hx, invoke, h1]
  rw [hr]
  refine ⟨wide_none, RoundIn.mono h2 fun e w' he => ?_⟩
  obtain ⟨rfl, hR⟩ := he
  exact hK w' hR
end lists
theorem yielded_put {os : List Oper} {tmps : Array Value} {j d : Nat} {o : Oper} (ho : os[j]? = some o) (hd : o.dst = some d) {b : Bool} (ht : tmps[d]? = some (.bool b)) : yielded os.toArray tmps j = some b := by
  unfold yielded
  simp [ho, hd, ht]
theorem get_some {N d : Nat} {D : List Deferred} {a : Act} (h : a.fitD N D) (hd : d < N) : a.tmps[d]? = some (a.get d) := by
  have := h.size
  simp [Act.get, Array.getD_eq_getD_getElem?, this, hd]
/-- 'yield(x) && len(x) > 1' -/
theorem yield_region {P : Program} {Q : Exit → Act → World → Prop} {N id L n c f x1 y1 y2 y3 y4 y5 y6 y7 y8 X Y : Nat} {T0 T1 T2 T3 T4 T5 T6 T7 : TypeId} {q0 q1 q2 q3 q4 q5 q6 q7 : String} {e0 e1 e2 e3 e4 e5 e6 e7 : Array Edge} {D : List Deferred} {a : Act} {w : World} {p : Option Addr} {z sz by_ E} {R : World → Prop}
    (hA : a.fitD N D) (hlt : y1 < N ∧ y2 < N ∧ y3 < N ∧ y4 < N ∧ y5 < N ∧ y6 < N ∧ y7 < N ∧ y8 < N) (hT : Ty P X (.slice E) z sz by_)
    (hne : y1 ≠ y2 ∧ y3 ≠ y4 ∧ y1 ≠ x1 ∧ y4 ≠ y5 ∧ y4 ≠ y6 ∧ y4 ≠ y7 ∧ y5 ≠ x1 ∧ y2 ≠ x1 ∧ y3 ≠ x1 ∧ y4 ≠ x1)
    (r0 : a.get f = .func (.yield L) #[] #[]) (r1 : a.get x1 = .slice p n c) (hy : Yld P L #[.slice p n c] w R)
    (hQ : ∀ a' w', a'.fitD N D → R w' → a'.get y8 = .bool (decide ((n : Int) > 1)) → (∀ t, t ≠ y1 → t ≠ y2 → t ≠ y3 → t ≠ y4 → t ≠ y5 → t ≠ y6 → t ≠ y7 → t ≠ y8 → a'.get t = a.get t) → Q .normal a' w') :
    (Code.region id #[⟨some y1, .move (.tmp f), T0, q0, e0, none⟩, ⟨some y2, .move (.tmp x1), T1, q1, e1, none⟩, ⟨some y3, .call ⟨.value (.tmp y1), #[.tmp y2], #[Y]⟩, T2, q2, e2, none⟩, ⟨some y4, .move (.tmp y3), T3, q3, e3, none⟩,
      ⟨some y5, .move (.tmp x1), T4, q4, e4, some (3, true)⟩, ⟨some y6, .call ⟨.builtin .len, #[.tmp y5], #[X]⟩, T5, q5, e5, some (3, true)⟩, ⟨some y7, .binOp .gtr 3 (.tmp y6) (.const (.int .i64 1)) 3, T6, q6, e6, some (3, true)⟩,
      ⟨some y8, .pick (.tmp y4) (.tmp y7) (.const (.bool false)), T7, q7, e7, none⟩] false).wp P Q a w := by
  obtain ⟨l1, l2, l3, l4, l5, l6, l7, l8⟩ := hlt
  obtain ⟨n1, n2, n3, n4, n5, n6, n7, n8, n9, n10⟩ := hne
  refine (wpIn_wide (n := 1)).1 (wpIn_region_list ?_)
  refine li_want (v := .func (.yield L) #[] #[]) rfl (by simp [execOp, eval_tmp, r0]) ?_
  have f1 := fit_put hA (some y1) (.func (.yield L) #[] #[])
  have g1 : ∀ t, t ≠ y1 → (a.put (some y1) (.func (.yield L) #[] #[])).get t = a.get t := fun t ht => get_put_ne (Ne.symm ht) _
  have s1 := get_put_same hA l1 (.func (.yield L) #[] #[])
  generalize a.put (some y1) (.func (.yield L) #[] #[]) = a1 at *
  refine li_want (v := .slice p n c) rfl (by simp [execOp, eval_tmp, g1 x1 (Ne.symm n3), r1]) ?_
  have f2 := fit_put f1 (some y2) (.slice p n c)
  have g2 : ∀ t, t ≠ y2 → (a1.put (some y2) (.slice p n c)).get t = a1.get t := fun t ht => get_put_ne (Ne.symm ht) _
  have s2 := get_put_same f1 l2 (.slice p n c)
  generalize a1.put (some y2) (.slice p n c) = a2 at *
  refine li_yield (u := .slice p n c) (R := R) (by rw [eval_tmp, g2 y1 n1, s1]) s2 hy fun w' hR => ?_
  have f3 := fit_put f2 (some y3) (.bool true)
  have g3 : ∀ t, t ≠ y3 → (a2.put (some y3) (.bool true)).get t = a2.get t := fun t ht => get_put_ne (Ne.symm ht) _
  have s3 := get_put_same f2 l3 (.bool true)
  generalize a2.put (some y3) (.bool true) = a3 at *
  refine li_want (v := .bool true) rfl (by simp [execOp, eval_tmp, s3]) ?_
  have f4 := fit_put f3 (some y4) (.bool true)
  have g4 : ∀ t, t ≠ y4 → (a3.put (some y4) (.bool true)).get t = a3.get t := fun t ht => get_put_ne (Ne.symm ht) _
  have s4 := get_put_same f3 l4 (.bool true)
  generalize a3.put (some y4) (.bool true) = a4 at *
  have hx : a4.get x1 = .slice p n c := by rw [g4 x1 (Ne.symm n10), g3 x1 (Ne.symm n9), g2 x1 (Ne.symm n8), g1 x1 (Ne.symm n3), r1]
  refine li_want (v := .slice p n c) ?_ (by simp [execOp, eval_tmp, hx]) ?_
  · simp only [Region.wanted]; rw [yielded_put (d := y4) (b := true) rfl rfl (by rw [get_some f4 l4, s4])]; rfl
  have f5 := fit_put f4 (some y5) (.slice p n c)
  have g5 : ∀ t, t ≠ y5 → (a4.put (some y5) (.slice p n c)).get t = a4.get t := fun t ht => get_put_ne (Ne.symm ht) _
  have s5 := get_put_same f4 l5 (.slice p n c)
  generalize a4.put (some y5) (.slice p n c) = a5 at *
  refine li_want (v := .int .i64 n) ?_ (by simp [execOp, resolve, invoke, builtin, eval_tmp, s5, Builtin.len_, hT.run_u, goInt]) ?_
  · simp only [Region.wanted]; rw [yielded_put (d := y4) (b := true) rfl rfl (by rw [get_some f5 l4, g5 y4 n4, s4])]; rfl
  have f6 := fit_put f5 (some y6) (.int .i64 n)
  have g6 : ∀ t, t ≠ y6 → (a5.put (some y6) (.int .i64 n)).get t = a5.get t := fun t ht => get_put_ne (Ne.symm ht) _
  have s6 := get_put_same f5 l6 (.int .i64 n)
  generalize a5.put (some y6) (.int .i64 n) = a6 at *
  refine li_want (v := .bool (decide ((n : Int) > 1))) ?_ (by
    have h6 : a6.eval (.tmp y6) = .int .i64 n := s6
    have hc1 : a6.eval (.const (.int .i64 1)) = .int .i64 1 := rfl
    simp [execOp, eqGuard, h6, hc1, binOp, Op.intCmp]) ?_
  · simp only [Region.wanted]; rw [yielded_put (d := y4) (b := true) rfl rfl (by rw [get_some f6 l4, g6 y4 n5, g5 y4 n4, s4])]; rfl
  have f7 := fit_put f6 (some y7) (.bool (decide ((n : Int) > 1)))
  have g7 : ∀ t, t ≠ y7 → (a6.put (some y7) (.bool (decide ((n : Int) > 1)))).get t = a6.get t := fun t ht => get_put_ne (Ne.symm ht) _
  have s7 := get_put_same f6 l7 (.bool (decide ((n : Int) > 1)))
  generalize a6.put (some y7) (.bool (decide ((n : Int) > 1))) = a7 at *
  refine li_want (v := .bool (decide ((n : Int) > 1))) rfl (by
    have h4 : a7.eval (.tmp y4) = .bool true := by rw [eval_tmp, g7 y4 n6, g6 y4 n5, g5 y4 n4, s4]
    have h7 : a7.eval (.tmp y7) = .bool (decide ((n : Int) > 1)) := s7
    simp only [execOp, h4, h7, asBool, Sem.run_bind, Sem.run_pure, Result.andThen, if_true]) ?_
  refine hQ _ w' (fit_put f7 _ _) hR (get_put_same f7 l8 _) fun t h1 h2 h3 h4 h5 h6 h7 h8 => ?_
  rw [get_put_ne (Ne.symm h8), g7 t h7, g6 t h6, g5 t h5, g4 t h4, g3 t h3, g2 t h2, g1 t h1]
end Go.Eng
