/- The engine, fourth part: conversions, calls, what stands at a region's end, a function's beginning and end. No statement of the program stands here. -/
import Derived.Test.YtbkmnghnjajdmaaOpt
namespace Go.Eng
open Go Go.RowKit
section ops
variable {P : Program} {a : Act} {w : World} {d : Option Tmp} {T : TypeId} {pos : String} {aft : Array Edge} {g : Option (Nat × Bool)}

/-! ### conversions -/
theorem bv_cells {l : List UInt8} : ∀ x ∈ bv l, x.cells.size = 1 := by
  intro x hx
  unfold bv at hx
  rw [List.mem_map] at hx
  obtain ⟨b, _, rfl⟩ := hx; rfl
theorem ok_bytesToStr {x : Operand} {X Y e : TypeId} {l : List UInt8} {z sz by_ z' sz' by_' z'' sz'' by_''} (h1 : Ty P X (.slice e) z sz by_) (h2 : Ty P e (.int .u8) z' sz' by_') (h3 : Ty P Y .string z'' sz'' by_'') {u : Value} (hxu : a.eval x = u) (hx : SlV w 1 u (bv l)) :
    Ok P ⟨d, .convert X Y x, T, pos, aft, g⟩ a w (SP.isv (.string ⟨l.toArray⟩)).holds := by
  obtain ⟨p, cap, hu, hc, hs, hh⟩ := hx
  replace hu := hxu.trans hu
  refine ok_pure ?_
  rcases hh with hh | ⟨b, off, hp, hcell⟩
  · have hl : l = [] := by simpa [bv] using hh
    subst hl
    cases p with
    | none => simp [execOp, hu, convert, h1.run_u, h2.run_u, h3.run_u, Conv.bytesToString]; rfl
    | some ad =>
      have := run_convert_bytes_back w X Y e ad cap [] h1.u h2.u h3.u (by intro j hj; simp at hj)
      simp [bv] at hu
      simp only [List.length_nil] at this
      simp [execOp, hu, this]
  · subst hp
    have := run_convert_bytes_back w X Y e ⟨b, off, none⟩ cap l h1.u h2.u h3.u (by
      intro j hj
      rw [addr_add]
      have := hcell j (.int .u8 (l[j].toNat : Int)) (by simp [bv, hj]) 0 (by omega)
      simpa [Value.cells] using this)
    have hlen : (bv l).length = l.length := by simp [bv]
    rw [hlen] at hu
    simp [execOp, hu, this]

/-- a byte slice just made of a string: block b -/
def BytesRow (w : World) (T b cap : Nat) (l : List UInt8) : Prop := ∃ cs, Own w b cs T ∧ l.length ≤ cap ∧ cs.size = cap ∧ ∀ (j : Nat) (x : UInt8), l[j]? = some x → cs[j]? = some (.int .u8 (x.toNat : Int))
theorem BytesRow.ext {w w' : World} {T b cap : Nat} {l : List UInt8} (h : BytesRow w T b cap l) (hE : Ext w w') : BytesRow w' T b cap l := by
  obtain ⟨cs, h1, h2⟩ := h; exact ⟨cs, h1.ext hE, h2⟩
theorem BytesRow.slv {w : World} {T b cap : Nat} {l : List UInt8} (h : BytesRow w T b cap l) : SlV w 1 (.slice (some ⟨b, 0, none⟩) l.length cap) (bv l) := by
  obtain ⟨cs, h1, h2, h3, h4⟩ := h
  refine ⟨_, cap, by simp [bv], by simpa [bv] using h2, bv_cells, .inr ⟨b, 0, rfl, fun i x hx j hj => ?_⟩⟩
  obtain rfl : j = 0 := by omega
  unfold bv at hx
  rw [List.getElem?_map] at hx
  cases hl : l[i]? with
  | none => simp [hl] at hx
  | some y =>
    simp [hl] at hx; subst hx
    rw [h1.cell]
    simp [Value.cells, h4 i y hl]
abbrev SP.bytes (B T : Nat) (l : List UInt8) : SP := .pr (fun w u => ∃ b cap, B ≤ b ∧ u = .slice (some ⟨b, 0, none⟩) l.length cap ∧ BytesRow w T b cap l) (fun _ _ _ hE ⟨b, cap, h0, h1, h2⟩ => ⟨b, cap, h0, h1, h2.ext hE⟩)
theorem ok_strToBytes {x : Operand} {X Y e B : Nat} {s : ByteArray} {z sz by_ z' sz' by_' z'' sz'' by_''} (h1 : Ty P X .string z sz by_) (h2 : Ty P Y (.slice e) z' sz' by_') (h3 : Ty P e (.int .u8) z'' sz'' by_'') (hB : B ≤ w.heap.size) (hx : a.eval x = .string s) :
    Ok P ⟨d, .convert X Y x, T, pos, aft, g⟩ a w (SP.bytes B e s.data.toList).holds := by
  have hr := run_bytes_of_string (P := P) w X Y e s h1.u h2.u h3.u
  have hcap : s.size ≤ grownCap w s.size 0 e := by unfold grownCap Question.cut; simp only []; omega
  have hz : (bytesRow s (grownCap w s.size 0 e)).size = grownCap w s.size 0 e := by
    unfold bytesRow; simp only [Array.size_append, Array.size_map, Array.size_replicate]
    have : s.data.size = s.size := rfl
    omega
  refine ok_run (v := .slice (some ⟨w.heap.size, 0, none⟩) s.size (grownCap w s.size 0 e)) (w' := w.drew.alloc (.cells (bytesRow s (grownCap w s.size 0 e)) e ((bytesRow s (grownCap w s.size 0 e)).size, (bytesRow s (grownCap w s.size 0 e)).size + 1))) (by simp [execOp, hx, hr]) (Ext.trans (Ext.drew w) (Ext.alloc _ _)) ⟨w.heap.size, grownCap w s.size 0 e, hB, by congr 1, ?_⟩
  · refine ⟨bytesRow s (grownCap w s.size 0 e), ⟨((bytesRow s (grownCap w s.size 0 e)).size, (bytesRow s (grownCap w s.size 0 e)).size + 1), ?_, ?_⟩, ?_, hz, ?_⟩
    · show (w.heap.push _)[w.heap.size]? = _
      simp
    · intro o ho; simp; omega
    · exact hcap
    · intro j y hy
      have hj : j < s.data.size := by
        have := (List.getElem?_eq_some_iff.1 hy).1; simpa using this
      unfold bytesRow
      rw [Array.getElem?_append_left (by simpa using hj)]
      rw [Array.getElem?_toList] at hy
      simp [hy]

theorem ok_toArrPtr {x : Operand} {X e n : Nat} {xs : List Value} {z sz by_} (hT : Ty P X (.array n e) z sz by_) {u : Value} (hxu : a.eval x = u) (hx : SlV w 1 u xs) (hn : xs.length = n) (h0 : 0 < n) (hsc : ∀ v ∈ xs, v.cells = #[v]) :
    Ok P ⟨d, .sliceToArrayPointer X x, T, pos, aft, g⟩ a w (SP.pt (.agg xs.toArray)).holds := by
  obtain ⟨p, cap, hu, hc, hs, hh⟩ := hx
  replace hu := hxu.trans hu
  rcases hh with hh | ⟨b, off, hp, hcell⟩
  · subst hh; simp at hn; omega
  · subst hp
    refine ok_run (v := .pointer (some ⟨b, off, none⟩)) (w' := w) ?_ (Ext.refl _) ⟨b, off, rfl, fun j hj => ?_⟩
    · simp [execOp, Instr.arrayAt, hT.run_u, hu, hn]
    · simp only [Value.cells, List.size_toArray] at hj
      have hx : xs[j]? = some xs[j] := List.getElem?_eq_getElem hj
      have := hcell j xs[j] hx 0 (by omega)
      rw [Nat.mul_one, Nat.add_zero, hsc _ (by simp)] at this
      simpa [Value.cells, hj] using this

theorem ok_sliceArrPt {x : Operand} {X e n : Nat} {cs : Array Value} {z sz by_ dd z' by_'} (hT : Ty P X (.array n e) z sz by_) (he : Ty P e dd z' 1 by_') {u : Value} (hxu : a.eval x = u) (hx : PtrTo w u (.agg cs)) (hn : cs.size = n) (hsc : ∀ v ∈ cs.toList, v.cells = #[v]) :
    Ok P ⟨d, .slice X x none none none, T, pos, aft, g⟩ a w (SP.sl 1 cs.toList).holds := by
  obtain ⟨b, off, h1, h2⟩ := hx
  replace h1 := hxu.trans h1
  refine ok_run (v := .slice (some ⟨b, off, none⟩) n n) (w' := w) ?_ (Ext.refl _) ⟨some ⟨b, off, none⟩, n, by simp [hn], by simp [hn], fun v hv => by rw [hsc v hv]; rfl, .inr ⟨b, off, rfl, fun i v hv j hj => ?_⟩⟩
  · simp [execOp, Instr.sliceAt, hT.run_u, he.run_size, Instr.sureAddr, h1, Instr.sliceBounds, addr_add]
  · obtain rfl : j = 0 := by omega
    have hi : i < cs.size := by simpa using (List.getElem?_eq_some_iff.1 hv).1
    have := h2 i (by simpa [Value.cells] using hi)
    rw [Nat.mul_one, Nat.add_zero, hsc v (List.mem_of_getElem? hv)]
    rw [this]
    rw [Array.getElem?_toList] at hv
    simp [Value.cells, hv]
theorem pt_of_own {b : Nat} {cs : Array Value} {T' : TypeId} {u : Value} (hu : u = .pointer (some ⟨b, 0, none⟩)) (hO : Own w b cs T') : PtrTo w u (.agg cs) :=
  ⟨b, 0, hu, fun j _ => by rw [hO.cell]; simp [Value.cells]⟩

/-! ### calls -/
/-- f is a function with a body -/
structure FnOk (P : Program) (f : FuncId) : Prop where
  h : ∃ fn, P.funcs[f]? = some fn ∧ fn.body.isNone = false ∧ (fn.name == "runtime.NumGoroutine") = false
/-- The call returns a value as φ says, and memory has grown, no more. -/
def Pure (P : Program) (f : FuncId) (args : Array Value) (w : World) (φ : World → Value → Prop) : Prop :=
  Calls P f args w fun e w' => ∃ v, e = .returned v ∧ Ext w w' ∧ φ w' v
theorem Pure.mono {f : FuncId} {args : Array Value} {φ φ' : World → Value → Prop} (h : Pure P f args w φ) (hm : ∀ w' v, Ext w w' → φ w' v → φ' w' v) : Pure P f args w φ' :=
  Calls.mono h fun _ _ ⟨v, h1, h2, h3⟩ => ⟨v, h1, h2, hm _ _ h2 h3⟩
theorem ok_call {f : FuncId} {xs : Array Operand} {ts : Array TypeId} {args : Array Value} {φ : SP} (hf : FnOk P f) (ha : xs.map a.eval = args) (h : Pure P f args w φ.holds) :
    Ok P ⟨d, .call ⟨.value (.func f), xs, ts⟩, T, pos, aft, g⟩ a w φ.holds := by
  intro K Q hK
  obtain ⟨fn, h1, h2, h3⟩ := hf.h
  have hr : (execOp a.eval ⟨d, .call ⟨.value (.func f), xs, ts⟩, T, pos, aft, g⟩).run P w = .ok (.enter f args) w := by
    have hb : (fn.body.isNone = true) = False := by simp [h2]
    simp only [execOp, resolve, Act.eval, Deferred.ofValue, ha, Sem.run_bind, Sem.run_pure, Result.andThen, invoke, callFunc, run_program, h1]
    simp [h2, h3]
  unfold Oper.wp
  rw [hr]
  refine Calls.mono h fun e w' he => ?_
  obtain ⟨v, rfl, hE, hv⟩ := he
  exact hK v w' hE hv
theorem ok_extract {x : Operand} {vs : Array Value} {i : Nat} {v : Value} (hx : a.eval x = .tuple vs) (hi : vs[i]? = some v) : Ok P ⟨d, .extract x i, T, pos, aft, g⟩ a w (SP.isv v).holds := ok_pure (by
  simp [execOp, Instr.extract, hx, hi])
theorem ok_makeFunc {f : FuncId} {fi ca : Array Operand} {v1 v2 : Array Value} (h1 : fi.map a.eval = v1) (h2 : ca.map a.eval = v2) : Ok P ⟨d, .makeFunc (.func f) fi ca, T, pos, aft, g⟩ a w (SP.isv (.func (.func f) v1 v2)).holds := ok_pure (by
  simp [execOp, Instr.makeFunc, h1, h2])

/-! ### a region's end -/
section tails
variable {ops : Array Oper} {Q : Exit → Act → World → Prop} {rest : List Oper}
theorem t_ok {o : Oper} {φ : World → Value → Prop} (h : Ok P o a w φ) (hg : o.guard = none) (hK : ∀ v w', Ext w w' → φ w' v → wpList P ops Q rest (a.put o.dst v) w') : wpList P ops Q (o :: rest) a w := by
  have : Region.wanted o (yielded ops a.tmps) = true := by simp [Region.wanted, hg]
  simp only [wpList, this, if_true]
  exact .inl (h _ _ hK)
theorem t_run {o : Oper} {v : Value} {w' : World} (h : (execOp a.eval o).run P w = .ok (.value v) w') (hg : o.guard = none) (hK : wpList P ops Q rest (a.put o.dst v) w') : wpList P ops Q (o :: rest) a w := by
  have : Region.wanted o (yielded ops a.tmps) = true := by simp [Region.wanted, hg]
  simp only [wpList, this, if_true]
  left
  unfold Oper.wp; rw [h]; exact hK
theorem t_skip {o : Oper} {w' : World} (h : (execOp a.eval o).run P w = .ok .skip w') (hg : o.guard = none) (hd : o.dst = none) (hK : wpList P ops Q rest a w') : wpList P ops Q (o :: rest) a w := by
  have : Region.wanted o (yielded ops a.tmps) = true := by simp [Region.wanted, hg]
  simp only [wpList, this, if_true]
  left
  unfold Oper.wp; rw [h]
  show wpList P ops Q rest (a.put o.dst undef) w'
  rw [hd]; exact hK
/-- a store of one cell into a row that is ours -/
theorem t_store {x y : Operand} {X T' b off : Nat} {cs : Array Value} {v : Value} {dd z by_} (hT : Ty P X dd z 1 by_) (hx : a.eval x = .pointer (some ⟨b, off, none⟩)) (hy : a.eval y = v) (hv : v.cells = #[v]) (h1 : v.oneCell' = true)
    (hO : Own w b cs T') (ho : off < cs.size) (hK : wpList P ops Q rest a (w.setCell ⟨b, off, none⟩ v)) : wpList P ops Q (⟨none, .store X x y, T, pos, aft, none⟩ :: rest) a w := by
  refine t_skip (w' := w.setCell ⟨b, off, none⟩ v) ?_ rfl rfl hK
  have hc : w.cell? ⟨b, off, none⟩ = some cs[off] := by rw [hO.cell, Array.getElem?_eq_getElem ho]
  simp [execOp, Instr.storeAt, Instr.sureAddr, hx, hy, storeVar, hv, hT.run_size, storeCells, run_store _ _ _ _ _ h1, Addr.add, hc, hO.frozen off ho]
end tails
end ops

/-! ### a function's beginning and end -/
theorem fit_start (args : Array Value) (N : Nat) (h : args.size ≤ N) : (Act.mk (args ++ Array.replicate (N - args.size) undef) []).fit N := ⟨by simp; omega, rfl⟩
theorem get_start {args : Array Value} {N i : Nat} {v : Value} (h : args[i]? = some v) : (Act.mk (args ++ Array.replicate (N - args.size) undef) []).get i = v := by
  have hi := (Array.getElem?_eq_some_iff.1 h).1
  simp only [Act.get, Array.getD_eq_getD_getElem?, Array.getElem?_append_left hi, h]; rfl
/-- A function that only computes: by its body. -/
theorem pure_of_wp {P : Program} {f : FuncId} {fn : Func} {c : Code} {args : Array Value} {w : World} {φ : World → Value → Prop} (hf : P.funcs[f]? = some fn) (hb : fn.body = some c) (N : Nat) (hN : fn.ntmps = N) (hle : args.size ≤ N)
    (h : ∀ a, a.fit N → (∀ i v, args[i]? = some v → a.get i = v) → c.wp P (bodyPost P fn fun e w' => ∃ v, e = .returned v ∧ Ext w w' ∧ φ w' v) a w) : Pure P f args w φ := by
  refine calls_of_wp hf hb ?_
  rw [hN]
  exact h _ (fit_start args N hle) fun i v hv => get_start hv
theorem ret1 {P : Program} {fn : Func} {R : Ending → World → Prop} {a : Act} {w : World} {t N : Nat} {v : Value} (hr : fn.results = #[.tmp t]) (hA : a.fit N) (ht : a.get t = v) (h : R (.returned v) w) : bodyPost P fn R .ret a w :=
  ⟨hA.defers, v, by
    have e1 : a.tmps.getD t undef = v := ht
    simp only [Array.getD_eq_getD_getElem?] at e1
    simp [results, hr, e1], h⟩
theorem retPure {P : Program} {fn : Func} {φ : World → Value → Prop} {a : Act} {w0 w : World} {t N : Nat} {v : Value} (hr : fn.results = #[.tmp t]) (hA : a.fit N) (ht : a.get t = v) (hB : Ext w0 w) (h : φ w v) :
    bodyPost P fn (fun e w' => ∃ v, e = .returned v ∧ Ext w0 w' ∧ φ w' v) .ret a w := ret1 hr hA ht ⟨v, rfl, hB, h⟩
theorem retPure2 {P : Program} {fn : Func} {φ : World → Value → Prop} {a : Act} {w0 w : World} {t u N : Nat} {v v' : Value} (hr : fn.results = #[.tmp t, .tmp u]) (hA : a.fit N) (ht : a.get t = v) (hu : a.get u = v') (hB : Ext w0 w) (h : φ w (.tuple #[v, v'])) :
    bodyPost P fn (fun e w' => ∃ v, e = .returned v ∧ Ext w0 w' ∧ φ w' v) .ret a w :=
  ⟨hA.defers, .tuple #[v, v'], by
    have e1 : a.tmps.getD t undef = v := ht
    have e2 : a.tmps.getD u undef = v' := hu
    simp only [Array.getD_eq_getD_getElem?] at e1 e2
    simp [results, hr, e1, e2], _, rfl, hB, h⟩
theorem ret2 {P : Program} {fn : Func} {R : Ending → World → Prop} {a : Act} {w : World} {t u N : Nat} {v v' : Value} (hr : fn.results = #[.tmp t, .tmp u]) (hA : a.fit N) (ht : a.get t = v) (hu : a.get u = v') (h : R (.returned (.tuple #[v, v'])) w) : bodyPost P fn R .ret a w :=
  ⟨hA.defers, .tuple #[v, v'], by
    have e1 : a.tmps.getD t undef = v := ht
    have e2 : a.tmps.getD u undef = v' := hu
    simp only [Array.getD_eq_getD_getElem?] at e1 e2
    simp [results, hr, e1, e2], h⟩
end Go.Eng
