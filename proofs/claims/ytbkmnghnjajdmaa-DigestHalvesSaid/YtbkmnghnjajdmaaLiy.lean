/- Lifting: what operations do that make, hand on or write what is the call's own, wherever they stand. No statement of the program stands here. -/
import Derived.Test.YtbkmnghnjajdmaaLij
import Derived.Test.YtbkmnghnjajdmaaLix
set_option linter.unusedVariables false
set_option linter.unusedSimpArgs false
namespace Go.Lift
open Go Go.RowKit Go.Eng
variable {α β γ δ ε : Type}
section tails
variable {P : Program} {a : Act} {w : World} {T : TypeId} {pos : String} {aft : Array Edge} {g0 : Option (Nat × Bool)} {K : Act → World → Prop} {Q : Exit → Act → World → Prop} {A : Nat → Prop}
theorem x_run {o : Oper} {v : Value} {w' : World} (h : (execOp a.eval o).run P w = .ok (.value v) w') (hK : K (a.put o.dst v) w') : o.wp P a w K Q := by
  unfold Oper.wp; rw [h]; exact hK
theorem x_skip {o : Oper} {w' : World} (h : (execOp a.eval o).run P w = .ok .skip w') (hK : K (a.put o.dst undef) w') : o.wp P a w K Q := by
  unfold Oper.wp; rw [h]; exact hK
theorem x_ok {o : Oper} {φ : SP} (h : Ok P o a w φ.holds) (hK : ∀ v w', Ext w w' → φ.holds w' v → K (a.put o.dst v) w') : o.wp P a w K Q := h K Q hK
theorem x_append {x y : Operand} {t e E bytes k : Nat} {d0 : Option Tmp} {dd : TypeDesc} {z z' : Value} {sz by_ : Nat} {r : GR α} (hr : r.fits) (hE : r.sz = E + 1) (hT : Ty P t (.slice e) z sz by_) (he : Ty P e dd z' (E + 1) bytes) (hz : z'.cells.size = E + 1) (hby : bytes ≤ 131072)
    {O O0 : Tags} {w0 : World} (hO0 : OkO O0 w0) (hB : Base A O0 w0 O w) {u : Value} {xs : List α} {B : Nat → Prop} (hAB : OkB A w0 B) (hx : a.eval x = u) (hO : OwnL k r e B O w u xs) {u' : Value} {ys zs : List α} (hy : a.eval y = u') (hN : Rd r O w u' ys) {n : Nat} (happ : (app xs ys).run n = some zs) (hk : k ≠ 0)
    (hK : ∀ u2 w2 O2, OwnL k r e B O2 w2 u2 zs → Base A O0 w0 O2 w2 → KX (some k) O w O2 w2 → K (a.put d0 u2) w2) : Oper.wp P ⟨d0, .call ⟨.builtin .append, #[x, y], #[t, t]⟩, T, pos, aft, g0⟩ a w K Q := by
  obtain ⟨hl, hzs⟩ := run_app happ
  unfold LIM at hl
  have htag := hO.tagged
  have hge := hO.ge
  obtain ⟨vs, h1, h2, h3⟩ := hO
  obtain ⟨us, h4, h5⟩ := hN
  have hlen1 := h2.len
  have hlen2 := h5.len
  have hb : (vs.length + us.length) * bytes ≤ 1073741824 * 131072 := Nat.mul_le_mul (by omega) hby
  rw [hE] at h1 h4
  obtain ⟨u2, w2, hrun, h6, h7⟩ := run_append_full (ty := T) hT he hz h1 h4 (h5.one hr) (by omega) (by omega) (Nat.zero_le _)
  refine x_run (v := u2) (w' := w2) (by simp [execOp, resolve, invoke, builtin, hx, hy, hrun]) ?_
  obtain ⟨hB2, hkx⟩ := base_appd hB hO0 h7 (fun g hg => hAB.sub g (hge g hg).1) hk (fun g hg => h6.block_lt g hg) htag
  refine hK u2 w2 (tag O u2.ownBlock k) ⟨vs ++ us, by rw [hE]; exact h6, ?_, fun g hg => ⟨by rw [hg]; exact tag_same _ _ _, ?_⟩⟩ hB2 hkx
  · rw [← hzs]
    have k0 := hkx.keep (k := 0) (by simpa using hk.symm)
    exact (h2.mono k0).append (h5.mono k0)
  · rcases h7.at_ with h8 | h8
    · exact (hge g (h8 ▸ hg)).1
    · exact hAB.new g (by have := h8 g hg; have := hB.size; omega)
/-- a store of one cell into a variable of the call's own -/
theorem x_store1 {x y : Operand} {X T' b off k : Nat} {O O0 : Tags} {w0 : World} (hO0 : OkO O0 w0) (hB : Base A O0 w0 O w) {B : Nat → Prop} (hAB : OkB A w0 B) {cs cs' : Array Value} {v : Value} {dd z by_} (hT : Ty P X dd z 1 by_) (hx : a.eval x = .pointer (some ⟨b, off, none⟩)) (hy : a.eval y = v) (hv : v.cells = #[v]) (h1 : v.oneCell' = true)
    (hO : OwnB k B O w b cs T') (ho : off < cs.size) (he : cs.setIfInBounds off v = cs')
    (hK : ∀ w', OwnB k B O w' b cs' T' → Base A O0 w0 O w' → KX (some k) O w O w' → K a w') : Oper.wp P ⟨none, .store X x y, T, pos, aft, g0⟩ a w K Q := by
  have hc : w.cell? ⟨b, off, none⟩ = some cs[off] := by rw [hO.own.cell, Array.getElem?_eq_getElem ho]
  have hb := But.setCell w b off v
  refine x_skip (w' := w.setCell ⟨b, off, none⟩ v) ?_ (hK _ ⟨he ▸ hO.own.set off v, hO.ge, hO.tag⟩ (hB.but (hAB.sub _ hO.ge) hb hO0) (KX.but hb hO.tag))
  simp [execOp, Instr.storeAt, Instr.sureAddr, hx, hy, storeVar, hv, hT.run_size, storeCells, run_store _ _ _ _ _ h1, Addr.add, hc, hO.own.frozen off ho]
theorem x_storeSub {x y : Operand} {X T' b off k : Nat} {O O0 : Tags} {w0 : World} {A B : Nat → Prop} (hO0 : OkO O0 w0) (hB : Base A O0 w0 O w) (hAB : OkB A w0 B) {vs : List Value} {cs cs' : Array Value} {v : Value} {dd z by_} (hT : Ty P X dd z vs.length by_) (hx : a.eval x = .pointer (some ⟨b, off, none⟩)) (hy : a.eval y = v) (hv : v.cells = vs.toArray) (h1 : ∀ v ∈ vs, v.oneCell' = true)
    (hO : OwnB k B O w b cs T') (ho : off + vs.length ≤ cs.size) (he : (splice cs.toList off vs).toArray = cs')
    (hK : ∀ w', OwnB k B O w' b cs' T' → Base A O0 w0 O w' → KX (some k) O w O w' → K a w') : Oper.wp P ⟨none, .store X x y, T, pos, aft, g0⟩ a w K Q := by
  obtain ⟨w', cs2, h2, h3, h4, h5, h6, h7, h8, h9, h10⟩ := run_storeCells3 (P := P) (off := off) vs 0 w cs h1 hO.own (by omega)
  have e : cs2 = cs' := by
    rw [← he]
    apply Array.ext_getElem?
    intro j
    have hl : cs.toList.length = cs.size := Array.length_toList
    have e2 := splice_get (vs := vs) (cs := cs.toList) (off := off) (by rw [hl]; exact ho) j
    rw [h5 j]
    simp only [List.getElem?_toArray, e2, Array.getElem?_toList, Nat.add_zero]
  subst e
  have hb : But b w w' := ⟨h6, h7, h8, by omega, fun k _ hk => h10 k hk⟩
  refine x_skip (w' := w') ?_ (hK w' ⟨h3, hO.ge, hO.tag⟩ (hB.but (hAB.sub _ hO.ge) hb hO0) (KX.but hb hO.tag))
  simp [execOp, Instr.storeAt, Instr.sureAddr, hx, hy, storeVar, hv, hT.run_size, h2]
theorem x_storeElt0 {x y : Operand} {X E B n : Nat} {vs : List Value} {u p v : Value} {dd z by_} (hT : Ty P X dd z E by_) (hx : a.eval x = p) (hp : EltOf u (n * E) p) (hO : OwnS w B X E u vs) (hy : a.eval y = v) (hv : v.cells.size = E) (h1 : ∀ c ∈ v.cells.toList, c.oneCell' = true) (hn : n < vs.length)
    (hK : ∀ w', OwnS w' B X E u (vs.set n v) → Appd w w' u u → K a w') : Oper.wp P ⟨none, .store X x y, T, pos, aft, g0⟩ a w K Q := by
  obtain ⟨b, hb, rfl⟩ := hp
  rcases hO.row.2 with ⟨_, h2⟩ | ⟨g, cap, cur, hu, hBg, hg, hnc, hcm, hcs, htk⟩
  · omega
  · rw [hu] at hb
    simp only [Value.ownBlock, Option.some.injEq] at hb
    subst hb
    have hnE : n * E + E ≤ vs.length * E := by
      have : (n + 1) * E ≤ vs.length * E := Nat.mul_le_mul_right _ hn
      rw [Nat.add_mul] at this; omega
    have hvc : vs.length * E ≤ cap * E := Nat.mul_le_mul_right _ hnc
    obtain ⟨w', cs', h2, h3, h4, h5, h6, h7, h8, h9, h10⟩ := run_storeCells2 (P := P) (off := n * E) v.cells.toList 0 w cur h1 hg (by rw [Array.length_toList, hv, hcs]; omega)
    refine x_skip (w' := w') ?_ (hK w' ⟨?_, ?_, .inr ⟨g, cap, cs', by rw [hu, List.length_set], hBg, h3, by rw [List.length_set]; exact hnc, hcm, by rw [h4, hcs], ?_⟩⟩ ⟨⟨h6, h7, h8, by omega, fun k _ hk => h10 k (fun e => hk (by rw [hu, e]; rfl))⟩, .inl rfl⟩)
    · simp [execOp, Instr.storeAt, Instr.sureAddr, hx, hy, storeVar, hv, hT.run_size, h2]
    · intro c hc
      rcases List.mem_or_eq_of_mem_set hc with h | h
      · exact hO.sz c h
      · rw [h]; exact hv
    · have hs' : ∀ c ∈ vs.set n v, c.cells.size = E := by
        intro c hc
        rcases List.mem_or_eq_of_mem_set hc with h | h
        · exact hO.sz c h
        · rw [h]; exact hv
      rw [flat_length hs']
    · apply List.ext_getElem?
      intro j
      rw [flat_set vs n v hO.sz hv hn j, List.length_set, List.getElem?_take]
      have hfl : ∀ j, j < vs.length * E → (flat vs)[j]? = cur[j]? := by
        intro j hj
        rw [← htk, List.getElem?_take, if_pos hj]; simp
      by_cases hj : j < vs.length * E
      · rw [if_pos hj, Array.getElem?_toList, h5 j]
        simp only [Nat.add_zero, Array.length_toList, hv, Array.getElem?_toList]
        by_cases h : n * E ≤ j ∧ j < n * E + E
        · rw [if_pos h, if_pos h]
        · rw [if_neg h, if_neg h, hfl j hj]
      · rw [if_neg hj, if_neg (by omega)]
        symm
        rw [List.getElem?_eq_none]
        rw [flat_length hO.sz]; omega
theorem x_storeElt {x y : Operand} {X E k : Nat} {r : GR α} (hr : r.fits) (hE : r.sz = E) {O O0 : Tags} {w0 : World} (hO0 : OkO O0 w0) (hB : Base A O0 w0 O w) {B : Nat → Prop} (hAB : OkB A w0 B) {xs ys : List α} {u p v : Value} {m : Int} {vx : α} {dd z by_} (hT : Ty P X dd z E by_) (hx : a.eval x = p) (hp : EltOf u (m.toNat * E) p) (hO : OwnL k r X B O w u xs) (hy : a.eval y = v) (hv : r.v O w v vx) {n : Nat} (hupd : (upd xs m vx).run n = some ys) (hk : k ≠ 0)
    (hK : ∀ w', OwnL k r X B O w' u ys → Base A O0 w0 O w' → KX (some k) O w O w' → K a w') : Oper.wp P ⟨none, .store X x y, T, pos, aft, g0⟩ a w K Q := by
  obtain ⟨hm, hys⟩ := run_upd hupd
  have hge := hO.ge
  have htag := hO.tagged
  obtain ⟨vs, h1, h2, h3⟩ := hO
  have hlen := h2.len
  rw [hE] at h1
  refine x_storeElt0 hT hx hp h1 hy (by rw [r.cells_size hr hv, hE]) (r.cells_one hr hv) (by omega) fun w' h4 h5 => ?_
  have hkx : KX (some k) O w O w' := ⟨h5.by_.size, fun b hb hbk => ⟨rfl, h5.by_.block b hb (fun e => hbk (by rw [htag b e.symm]))⟩⟩
  have k0 := hkx.keep (k := 0) (by simpa using hk.symm)
  have hs := hB.size
  have hs2 := h5.by_.size
  refine hK w' ⟨vs.set m.toNat v, by rw [hE]; exact h4, by rw [← hys]; exact (h2.mono k0).set _ (r.v_mono hv k0), h3⟩ ?_ hkx
  exact ⟨h5.by_.os.trans hB.os, h5.by_.tape.trans hB.tape, h5.by_.output.trans hB.output, by omega, fun b hb hnA => (h5.by_.block b (by omega) (fun e => hnA (hAB.sub b (hge b e.symm).1))).trans (hB.block b hb hnA),
    fun b hb' => hB.ok b (by omega), hB.old, fun b _ ho => by
      by_cases hlt : b < w.heap.size
      · exact hB.zero b hlt ho
      · exact hO0 b (by omega), hB.new⟩
theorem x_calls {f : FuncId} {xs : Array Operand} {ts : Array TypeId} {args : Array Value} {R : Ending → World → Prop} {d : Option Tmp} (hf : FnOk P f) (ha : xs.map a.eval = args) (h : Calls P f args w R)
    (hK : ∀ e w', R e w' → ∃ v, e = .returned v ∧ K (a.put d v) w') : Oper.wp P ⟨d, .call ⟨.value (.func f), xs, ts⟩, T, pos, aft, g0⟩ a w K Q := by
  obtain ⟨fn, h1, h2, h3⟩ := hf.h
  have hr : (execOp a.eval ⟨d, .call ⟨.value (.func f), xs, ts⟩, T, pos, aft, g0⟩).run P w = .ok (.enter f args) w := by
    simp only [execOp, resolve, Act.eval, Deferred.ofValue, ha, Sem.run_bind, Sem.run_pure, Result.andThen, invoke, callFunc, run_program, h1]
    simp [h2, h3]
  unfold Oper.wp
  rw [hr]
  refine Calls.mono h fun e w' he => ?_
  obtain ⟨v, rfl, hv⟩ := hK e w' he
  exact hv
theorem x_io {f : FuncId} {xs : Array Operand} {ts : Array TypeId} {args : Array Value} {d : Option Tmp} {r : GR α} {E k : Nat} {B : Nat → Prop} {O O0 : Tags} {w0 : World} {u : Value} {xs0 ys : List α} {ψ : Value → Value → Prop} (hO0 : OkO O0 w0) (hB : Base A O0 w0 O w) (hAB : OkB A w0 B) (hf : FnOk P f) (ha : xs.map a.eval = args)
    (h : Calls P f args w (IoPost r E O w u ys ψ)) (hO : OwnL k r E B O w u xs0) (hk : k ≠ 0)
    (hK : ∀ v u2 w2 O2, OwnL k r E B O2 w2 u2 ys → Base A O0 w0 O2 w2 → KX (some k) O w O2 w2 → ψ v u2 → K (a.put d v) w2) : Oper.wp P ⟨d, .call ⟨.value (.func f), xs, ts⟩, T, pos, aft, g0⟩ a w K Q := by
  refine x_calls hf ha h fun e w2 he => ?_
  obtain ⟨v, u2, he, h1, ⟨vs, h2, h3⟩, h4⟩ := he
  refine ⟨v, he, ?_⟩
  have hge := hO.ge
  obtain ⟨hB2, hkx⟩ := base_appd hB hO0 h1 (fun g hg => hAB.sub g (hge g hg).1) hk (fun g hg => h2.block_lt g hg) hO.tagged
  refine hK v u2 w2 (tag O u2.ownBlock k) ⟨vs, h2, h3.mono ⟨Nat.le_refl _, fun b _ hb => ⟨?_, rfl⟩⟩, fun g hg => ⟨by rw [hg]; exact tag_same _ _ _, ?_⟩⟩ hB2 hkx h4
  · by_cases hg : u2.ownBlock = some b
    · rw [hg, tag_same] at hb; cases hb
    · rw [tag_ne hg] at hb ⊢; exact hb
  · rcases h1.at_ with h8 | h8
    · exact (hge g (h8 ▸ hg)).1
    · exact hAB.new g (by have := h8 g hg; have := hB.size; omega)
end tails
/-! ### what an invariant holds while a region is under way -/
theorem put_other {a : Act} {d : Option Tmp} {t : Nat} {v : Value} {φ : Value → Prop} (h : φ (a.get t)) (hd : d ≠ some t) : φ ((a.put d v).get t) := by
  cases d with
  | none => exact h
  | some d => rw [get_put_ne (fun e => hd (by rw [e]))]; exact h
theorem put_me {D : List Deferred} {N d : Nat} {a : Act} {v : Value} {φ : Value → Prop} (hA : a.fitD N D) (hd : d < N) (h : φ v) : φ ((a.put (some d) v).get d) := by
  rw [get_put_same hA hd]; exact h
/-- the operations that write a slot -/
def uniqDst (os : List Oper) (d j : Nat) : Bool := os.zipIdx.all fun p => !(p.1.dst == some d) || Nat.beq p.2 j
theorem uniqDst_ne {os : List Oper} {d j i : Nat} {o : Oper} (h : uniqDst os d j = true) (ho : os[i]? = some o) (hne : i ≠ j) : o.dst ≠ some d := by
  intro hd
  unfold uniqDst at h
  rw [List.all_eq_true] at h
  have := h (o, i) (by
    rw [List.mem_iff_getElem?]
    exact ⟨i, by rw [List.getElem?_zipIdx, ho]; simp⟩)
  simp [hd, beq_dec] at this
  exact hne this
/-- a skipped operation: it wasn't one that was wanted -/
theorem skip_off {os : List Oper} {cs : List Bool} {S : Nat → Bool} {i j : Nat} (hact : act os cs i = false) (hG : act os cs j = true) (hj : addS S i j = true) : S j = true ∧ i ≠ j := by
  have hne : i ≠ j := fun e => by rw [e, hG] at hact; cases hact
  refine ⟨addS_off ?_ hj, hne⟩
  rw [beq_dec]; simp; exact fun e => hne e.symm
theorem KX.none_ext {O : Tags} {w w' : World} (h : Ext w w') : KX none O w O w' := KX.ext h
end Go.Lift
