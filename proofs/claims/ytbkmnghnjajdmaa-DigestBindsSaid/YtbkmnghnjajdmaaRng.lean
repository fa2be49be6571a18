/- The engine, ninth part: a range over a function whose round takes the first element into a variable. No statement of the program stands here. -/
import Derived.Test.YtbkmnghnjajdmaaYld
namespace Go.Eng
open Go Go.RowKit Go.Dig
section lists
variable {P : Program} {ops : Array Oper} {Q : Exit → Act → World → Prop} {rest : List Oper} {a : Act} {w w' : World} {o : Oper} {l : Nat}
theorem lr_want {v : Value} (hw : Region.wanted o (yielded ops a.tmps) = true) (hnd : ∀ c, o.op ≠ .defer c) (h : (execOp a.eval o).run P w = .ok (.value v) w') (hK : wpListIn (Fence.wide.inRound l) 0 P ops Q rest (a.put o.dst v) w') : wpListIn (Fence.wide.inRound l) 0 P ops Q (o :: rest) a w := by
  simp only [wpListIn, hw, if_true]
  refine ⟨fun _ _ => trivial, ?_⟩
  show o.uponIn (Fence.wide.inRound l) 0 P a _ Q ((o.semAt (some l) a.eval).run P w)
  rw [Oper.semAt_some l _ _ hnd, h]
  exact hK
theorem lr_skip (hw : Region.wanted o (yielded ops a.tmps) = true) (hnd : ∀ c, o.op ≠ .defer c) (h : (execOp a.eval o).run P w = .ok .skip w') (hK : wpListIn (Fence.wide.inRound l) 0 P ops Q rest (a.put o.dst undef) w') : wpListIn (Fence.wide.inRound l) 0 P ops Q (o :: rest) a w := by
  simp only [wpListIn, hw, if_true]
  refine ⟨fun _ _ => trivial, ?_⟩
  show o.uponIn (Fence.wide.inRound l) 0 P a _ Q ((o.semAt (some l) a.eval).run P w)
  rw [Oper.semAt_some l _ _ hnd, h]
  exact hK
end lists
theorem alloc_heap (w : World) (o : Obj) : (w.alloc o).heap = w.heap.push o := rfl
theorem cell_putObj {w : World} {l : Nat} {r : Loop} {o : Obj} {p : Addr} {v : Value} (hl : w.heap[l]? = some (.loop r)) (h : w.cell? p = some v) : (w.putObj l o).cell? p = some v := by
  unfold World.cell? at h ⊢
  by_cases hp : p.block = l
  · rw [hp, hl] at h; simp at h
  · rw [World.putObj_heap_other hp]; exact h
theorem own_putObj {w : World} {l b : Nat} {o : Obj} {cs : Array Value} {T : TypeId} (h : Own w b cs T) (hb : b ≠ l) : Own (w.putObj l o) b cs T := by
  obtain ⟨fr, h, hf⟩ := h
  exact ⟨fr, by rw [World.putObj_heap_other hb]; exact h, hf⟩
/-- the cell of the loop's variable, and all else, while the loop goes on -/
def CellJ (b : Nat) (X : TypeId) (wE : World) (c : Value) (W : World) : Prop := But b wE W ∧ ∃ cs, c = .agg cs ∧ cs.size = 8 ∧ Own W b cs X
theorem range_cell {P : Program} {Q : Exit → Act → World → Prop} {N id3 id4 blk x7 x4 x8 x9 x10 x3 f6 X Y fid b3 e : Nat} {T0 T1 T2 T3 T4 : TypeId} {q0 q1 q2 q3 q4 : String} {e0 e1 e2 e3 e4 : Array Edge} {a : Act} {w : World} {z z' sz by_ by_'} {caps c0 : Array Value} {res : Bytes}
    (hA : a.fit N) (hlt : x4 < N ∧ x7 < N ∧ x8 < N ∧ x9 < N ∧ x10 < N) (hne : x3 ≠ x7 ∧ x3 ≠ x4 ∧ x3 ≠ x8 ∧ x3 ≠ x9 ∧ x3 ≠ x10) (hT : Ty P X (.slice Y) z sz by_) (hE : Ty P Y (.array 8 e) z' 8 by_') (hf : FnOk P fid)
    (r6 : a.get f6 = .func (.func fid) #[] caps) (r3 : a.get x3 = .pointer (some ⟨b3, 0, none⟩)) (h3 : Own w b3 c0 Y) (hc0 : c0.size = 8)
    (hcall : ∀ (L : Nat) (J : Value → World → Prop) (w1 : World), Ext w w1 → J (.agg c0) w1 → (∀ c W W', J c W → Below w1.heap.size W W' → J c W') →
      (∀ c W u d r, J c W → SlV W 8 u ((d :: r).map av) → Yld P L #[u] W fun W' => J (av d) W' ∧ Keep w1.heap.size W W') → Calls P fid (#[.func (.yield L) #[] #[]] ++ caps) w1 fun e w' => e = .returned (.tuple #[]) ∧ J (av res) w')
    (hQ : ∀ a' w', a'.fitD N [{ target := .collected w.heap.size, args := #[] }] → (∀ t, a'.get t = a.get t) → But b3 w w' → Own w' b3 (bv res).toArray Y → w'.heap[w.heap.size]? = some (.deferred (some [])) → Q .normal a' w') :
    (Code.rangeFunc (.tmp f6) #[x7] (.region id3 #[⟨some x4, .assign (.tmp x7), T0, q0, e0, none⟩] false)
      (.block blk (.region id4 #[⟨some x8, .move (.tmp x4), T1, q1, e1, none⟩, ⟨some x9, .indexAddr X (.tmp x8) (.const (.int .i64 0)), T2, q2, e2, none⟩, ⟨some x10, .load Y (.tmp x9), T3, q3, e3, none⟩, ⟨none, .store Y (.tmp x3) (.tmp x10), T4, q4, e4, none⟩] false))).wp P Q a w := by
  obtain ⟨l4, l7, l8, l9, l10⟩ := hlt
  obtain ⟨n7, n4, n8, n9, n10⟩ := hne
  have hb3 : b3 < w.heap.size := h3.lt
  refine (wpIn_wide (n := 1)).1 (wpIn_rangeFunc fun fn _ => ?_)
  obtain ⟨fnc, hf1, hf2, hf3⟩ := hf.h
  generalize hr0 : (Loop.mk .ready none fn a.tmps #[x7] (.region id3 #[⟨some x4, .assign (.tmp x7), T0, q0, e0, none⟩] false) (.block blk (.region id4 #[⟨some x8, .move (.tmp x4), T1, q1, e1, none⟩, ⟨some x9, .indexAddr X (.tmp x8) (.const (.int .i64 0)), T2, q2, e2, none⟩, ⟨some x10, .load Y (.tmp x9), T3, q3, e3, none⟩, ⟨none, .store Y (.tmp x3) (.tmp x10), T4, q4, e4, none⟩] false)) w.heap.size) = r0
  obtain ⟨wE, hwE⟩ : ∃ wE, wE = (w.alloc (.deferred (some []))).alloc (.loop r0) := ⟨_, rfl⟩
  have hExt : Ext w wE := by rw [hwE]; exact (Ext.alloc _ _).trans (Ext.alloc _ _)
  have hsz : wE.heap.size = w.heap.size + 2 := by rw [hwE, alloc_heap, alloc_heap]; simp
  have hlE : wE.heap[w.heap.size + 1]? = some (.loop r0) := by
    rw [hwE, alloc_heap, alloc_heap, Array.getElem?_push, if_pos (by simp)]
  have hdE : wE.heap[w.heap.size]? = some (.deferred (some [])) := by rw [hwE, alloc_heap, alloc_heap, Array.getElem?_push, if_neg (by simp)]; simp
  refine ⟨w.heap.size + 1, [{ target := .collected w.heap.size, args := #[] }], wE, { target := .fn (.func fid) caps, args := #[.func (.yield (w.heap.size + 1)) #[] #[]] }, wE, fid, #[.func (.yield (w.heap.size + 1)) #[] #[]] ++ caps, wE, ?_, ?_, fun _ _ => trivial, ?_, fun _ => Nat.le_refl _, ?_⟩
  · show (Instr.enterLoop fn a.tmps _ _ _ none).run P w = _
    rw [run_enterLoop_outer, hwE, ← hr0]
  · have : a.eval (.tmp f6) = .func (.func fid) #[] caps := r6
    have h2 : ∀ v, a.eval (.const v) = v := fun _ => rfl
    simp [resolve, this, Deferred.ofValue, h2]
  · have hbn : (fnc.body.isNone = true) = False := by simp [hf2]
    simp only [invoke, callFunc, run_program, Sem.run_bind, Sem.run_pure, Result.andThen, hf1]
    simp [hf2, hf3]
  · refine callsIn_wide.2 (Calls.mono (hcall _ (CellJ b3 Y wE) wE hExt ⟨⟨rfl, rfl, rfl, Nat.le_refl _, fun _ _ _ => rfl⟩, c0, rfl, hc0, h3.ext hExt⟩ ?_ ?_) ?_)
    · rintro c W W' ⟨hB, cs, rfl, hs, hO⟩ hbl
      refine ⟨⟨hbl.os.trans hB.os, hbl.tape.trans hB.tape, hbl.output.trans hB.output, Nat.le_trans hB.size hbl.size, fun k hk hkb => (hbl.block k hk).trans (hB.block k hk hkb)⟩, cs, rfl, hs, ?_⟩
      obtain ⟨fr, h, hfz⟩ := hO
      exact ⟨fr, by rw [hbl.block b3 (by omega)]; exact h, hfz⟩
    · rintro c W u d r ⟨hB, cs, rfl, hs, hO⟩ hu
      have hl : W.heap[w.heap.size + 1]? = some (.loop r0) := by rw [hB.block _ (by omega) (by omega)]; exact hlE
      obtain ⟨pu, cap, hu1, hu2, hu3, hu4⟩ := hu
      rcases hu4 with hu4 | ⟨bu, off, rfl, hcell⟩
      · simp at hu4
      have h8 : (av d).cells.size = 8 := hu3 _ (by simp)
      have h8' : (bv d).toArray.size = 8 := h8
      have hcd : ∀ j, j < 8 → W.cell? ⟨bu, off + j, none⟩ = (bv d).toArray[j]? := fun j hj => by
        have := hcell 0 (av d) (by simp) j hj
        simpa [av, Value.cells] using this
      refine ⟨_, _, _, _, run_yield hl (by rw [← hr0]; simp), ?_⟩
      have hst : r0.state = .ready := by rw [← hr0]
      have hpd : r0.pending = none := by rw [← hr0]
      obtain ⟨W1, hW1⟩ : ∃ W1, W1 = W.putObj (w.heap.size + 1) (.loop { r0 with state := .busy }) := ⟨_, rfl⟩
      have hbr : (Instr.beginRound (w.heap.size + 1)).run P W = .ok () W1 := by rw [hW1]; exact run_beginRound hl hst
      rw [show r0.tmps = a.tmps from by rw [← hr0], show r0.params = #[x7] from by rw [← hr0],
        show r0.assign = _ from (by rw [← hr0] : r0.assign = .region id3 #[⟨some x4, .assign (.tmp x7), T0, q0, e0, none⟩] false),
        show r0.body = _ from (by rw [← hr0] : r0.body = .block blk (.region id4 #[⟨some x8, .move (.tmp x4), T1, q1, e1, none⟩, ⟨some x9, .indexAddr X (.tmp x8) (.const (.int .i64 0)), T2, q2, e2, none⟩, ⟨some x10, .load Y (.tmp x9), T3, q3, e3, none⟩, ⟨none, .store Y (.tmp x3) (.tmp x10), T4, q4, e4, none⟩] false))]
      refine roundIn_of_wpIn trivial (wpIn_region_list (lr_want rfl (by simp) rfl ?_))
      generalize hta : ((#[x7].zip #[u]).foldl (fun tmps (t, a) => tmps.setIfInBounds t a) a.tmps) = ta
      have hfa : (Act.mk ta []).fitD N [] := by
        refine ⟨?_, rfl⟩
        rw [← hta]; simp [hA.size]
      have g7 : (Act.mk ta []).get x7 = u := by
        simp [← hta, Act.get, Array.getD_eq_getD_getElem?, hA.size, l7]
      have gne : ∀ t, x7 ≠ t → (Act.mk ta []).get t = a.get t := fun t ht => by
        simp [← hta, Act.get, Array.getD_eq_getD_getElem?, Array.getElem?_setIfInBounds_ne ht]
      generalize Act.mk ta [] = a1 at *
      have hv : a1.eval (.tmp x7) = u := g7
      rw [hv]
      have f2 := fit_put hfa (some x4) u
      have s2 := get_put_same hfa l4 u
      have k3 : (a1.put (some x4) u).get x3 = .pointer (some ⟨b3, 0, none⟩) := by rw [get_put_ne (Ne.symm n4), gne _ (Ne.symm n7)]; exact r3
      generalize a1.put (some x4) u = a2 at *
      refine ⟨W1, hbr, wpIn_block (wpIn_region_list (lr_want rfl (by simp) rfl ?_))⟩
      have hv : a2.eval (.tmp x4) = u := s2
      rw [hv]
      have f3 := fit_put f2 (some x8) u
      have s3 := get_put_same f2 l8 u
      have k4 : (a2.put (some x8) u).get x3 = .pointer (some ⟨b3, 0, none⟩) := by rw [get_put_ne (Ne.symm n8)]; exact k3
      generalize a2.put (some x8) u = a3 at *
      have e3 : a3.eval (.tmp x8) = .slice (some ⟨bu, off, none⟩) ((d :: r).map av).length cap := s3.trans hu1
      have ec : a3.eval (.const (.int .i64 0)) = .int .i64 0 := rfl
      refine lr_want (v := .pointer (some ⟨bu, off, none⟩)) (w' := W1) rfl (by simp) ?_ ?_
      · have hlt0 : (0 : Int) < (((d :: r).map av).length : Int) := (by simp only [List.length_map, List.length_cons]; omega)
        simp only [execOp, Instr.indexAt, asIntOf, e3, ec, Sem.run_bind, Sem.run_pure, Result.andThen, hT.run_u, hE.run_size]
        simp [hlt0, addr_add, hE.run_size]
      have f4 := fit_put f3 (some x9) (.pointer (some ⟨bu, off, none⟩))
      have s4 := get_put_same f3 l9 (.pointer (some ⟨bu, off, none⟩))
      have k5 : (a3.put (some x9) (.pointer (some ⟨bu, off, none⟩))).get x3 = .pointer (some ⟨b3, 0, none⟩) := by rw [get_put_ne (Ne.symm n9)]; exact k4
      generalize a3.put (some x9) (.pointer (some ⟨bu, off, none⟩)) = a4 at *
      have e4 : a4.eval (.tmp x9) = .pointer (some ⟨bu, off, none⟩) := s4
      have hcd1 : ∀ j, j < (bv d).toArray.size → W1.cell? ⟨bu, off + j, none⟩ = (bv d).toArray[j]? := fun j hj => by
        rw [hW1]
        have h := hcd j (by omega)
        rw [Array.getElem?_eq_getElem hj] at h ⊢
        exact cell_putObj hl h
      refine lr_want (v := .agg (bv d).toArray) (w' := W1) rfl (by simp) ?_ ?_
      · have hld : (loadCells ⟨bu, off, none⟩ 8).run P W1 = .ok (bv d).toArray W1 := by
          have := run_loadCells (P := P) (b := bu) (off := off) (cs := (bv d).toArray) hcd1
          rwa [h8'] at this
        simp [execOp, Instr.loadAt, Instr.sureAddr, e4, loadVar, hE.run_agg, isAggD, hE.run_size, hld]
      have f5 := fit_put f4 (some x10) (.agg (bv d).toArray)
      have s5 := get_put_same f4 l10 (.agg (bv d).toArray)
      have k6 : (a4.put (some x10) (.agg (bv d).toArray)).get x3 = .pointer (some ⟨b3, 0, none⟩) := by rw [get_put_ne (Ne.symm n10)]; exact k5
      generalize a4.put (some x10) (.agg (bv d).toArray) = a5 at *
      have e5 : a5.eval (.tmp x10) = .agg (bv d).toArray := s5
      have e6 : a5.eval (.tmp x3) = .pointer (some ⟨b3, 0, none⟩) := k6
      have hO1 : Own W1 b3 cs Y := by rw [hW1]; exact own_putObj hO (by omega)
      obtain ⟨W2, cs', h2, h3', h4, h5, h6, h7, h8_, h9, h10⟩ := run_storeCells (P := P) (bv d).toArray.toList 0 W1 cs (fun v hv => by
        simp [bv] at hv; obtain ⟨x, _, rfl⟩ := hv; rfl) hO1 (by rw [Array.length_toList, h8', hs]; omega)
      have ecs : cs' = (bv d).toArray := by
        apply Array.ext_getElem?
        intro j
        rw [h5 j]
        have e8 : (bv d).length = 8 := by simpa using h8'
        simp only [Nat.zero_le, true_and, Nat.zero_add, List.toList_toArray, Nat.sub_zero, List.getElem?_toArray]
        by_cases h : j < (bv d).length
        · rw [if_pos h]
        · rw [if_neg h, Array.getElem?_eq_none (by omega), List.getElem?_eq_none (by omega)]
      subst ecs
      refine lr_skip (w' := W2) rfl (by simp) ?_ ?_
      · simp only [execOp, Instr.storeAt, Instr.sureAddr, e5, e6, storeVar, Value.cells, hE.run_size, Sem.run_bind, Sem.run_pure, Result.andThen]
        simp [h8', h2]
      have hszW1 : W1.heap.size = W.heap.size := by rw [hW1, World.putObj_size]
      have hl2 : W2.heap[w.heap.size + 1]? = some (.loop { r0 with state := .busy }) := by
        rw [h10 _ (by omega), hW1, World.putObj_heap_same (by have := hB.size; omega)]
      refine nx_blk ⟨_, _, run_endRound none hl2, rfl, ?_, ?_⟩
      · have er : (Obj.loop { ({ r0 with state := .busy } : Loop) with state := if (none : Option Code).isNone then .ready else .done, pending := none }) = .loop r0 := by
          cases r0; simp at hst hpd; simp [hst, hpd]
        rw [er]
        refine ⟨⟨?_, ?_, ?_, ?_, fun k hk hkb => ?_⟩, _, rfl, h8', own_putObj h3' (by omega)⟩
        · show W2.os = _; rw [h6, hW1]; exact hB.os
        · show W2.tape = _; rw [h7, hW1]; exact hB.tape
        · show W2.output = _; rw [h8_, hW1]; exact hB.output
        · rw [World.putObj_size, h9, hszW1]; exact hB.size
        · by_cases hkl : k = w.heap.size + 1
          · subst hkl
            rw [World.putObj_heap_same (by rw [h9, hszW1]; have := hB.size; omega), hlE]
          · rw [World.putObj_heap_other hkl, h10 k hkb, hW1, World.putObj_heap_other hkl]; exact hB.block k hk hkb
      · refine ⟨by rw [World.putObj_size, h9, hszW1], fun k hk => ?_⟩
        rw [World.putObj_heap_other (by omega), h10 k (by omega), hW1, World.putObj_heap_other (by omega)]
    · rintro e w' ⟨rfl, hB, cs, hcs, hs, hO⟩
      have hcs' : cs = (bv res).toArray := by simpa [av] using hcs.symm
      subst hcs'
      have hl : w'.heap[w.heap.size + 1]? = some (.loop r0) := by rw [hB.block _ (by omega) (by omega)]; exact hlE
      have hsz' := hB.size
      refine ⟨none, _, by rw [run_endLoop hl (by rw [← hr0]; simp), ← hr0], ?_⟩
      refine hQ _ _ ⟨hA.size, by show _ ++ a.defers = _; rw [hA.defers]; rfl⟩ (fun _ => rfl) ⟨hB.os.trans hExt.os, hB.tape.trans hExt.tape, hB.output.trans hExt.output, by rw [World.putObj_size]; omega, fun k hk hkb => ?_⟩ (own_putObj hO (by omega)) ?_
      · rw [World.putObj_heap_other (by omega), hB.block k (by omega) hkb, hExt.block k hk]
      · rw [World.putObj_heap_other (by omega), hB.block _ (by omega) (by omega)]; exact hdE
/-- object o lies at block b -/
def HeapAt (w : World) (b : Nat) (o : Obj) : Prop := w.heap[b]? = some o
theorem HeapAt.ext {w w' : World} {b : Nat} {o : Obj} (h : HeapAt w b o) (hE : Ext w w') : HeapAt w' b o := hE.heap h
theorem SlV.cells_eq {w : World} {E : Nat} {u : Value} {xs : List Value} (h : SlV w E u xs) : u.cells = #[u] := by
  obtain ⟨p, cap, rfl, _⟩ := h; rfl
/-- a closure over one box -/
abbrev SP.fbox (B fid : Nat) (x : Value) (T : TypeId) : SP := .pr (fun w v => ∃ b, B ≤ b ∧ v = .func (.func fid) #[] #[.pointer (some ⟨b, 0, none⟩)] ∧ Own w b #[x] T) (fun _ _ _ hE ⟨b, h1, h2, h3⟩ => ⟨b, h1, h2, h3.ext hE⟩)
theorem pureM_of_wp {P : Program} {f : FuncId} {fn : Func} {c : Code} {args : Array Value} {w : World} {φ : World → Value → Prop} (hf : P.funcs[f]? = some fn) (hb : fn.body = some c) (N : Nat) (hN : fn.ntmps = N) (hle : args.size ≤ N)
    (h : ∀ a, a.fit N → (∀ i v, args[i]? = some v → a.get i = v) → c.wp P (bodyPostM Fence.wide 1 P fn fun e w' => ∃ v, e = .returned v ∧ Ext w w' ∧ φ w' v) a w) : Pure P f args w φ := by
  refine callsIn_wide.1 (callsIn_of_wp_marks (n := 1) hf hb trivial (wpIn_wide.2 ?_))
  rw [hN]
  exact h _ (fit_start args N hle) fun i v hv => get_start hv
theorem retM {P : Program} {fn : Func} {φ : World → Value → Prop} {a : Act} {w0 w : World} {t N b : Nat} {v : Value} (hr : fn.results = #[.tmp t]) (hA : a.fitD N [{ target := .collected b, args := #[] }]) (ht : a.get t = v) (hd : HeapAt w b (.deferred (some []))) (hb : w0.heap.size ≤ b) (hB : Ext w0 w) (h : ∀ w', φ w' v) :
    bodyPostM Fence.wide 1 P fn (fun e w' => ∃ v, e = .returned v ∧ Ext w0 w' ∧ φ w' v) .ret a w := by
  show LeavesInM Fence.wide 1 P fn a.tmps _ a.defers .returning w
  rw [hA.defers]
  refine ⟨by simp, .inl ⟨b, _, rfl, run_takeDeferred hd, v, ?_, v, rfl, ?_, h _⟩⟩
  · have e1 : a.tmps.getD t undef = v := ht
    simp only [Array.getD_eq_getD_getElem?] at e1
    simp [results, hr, e1]
  · exact ⟨hB.os, hB.tape, hB.output, by rw [World.putObj_size]; exact hB.size, fun k hk => by rw [World.putObj_heap_other (by omega)]; exact hB.block k hk⟩
end Go.Eng
namespace Go.Dig
open Go Go.RowKit Go.Eng
theorem rtF_len : ∀ (n : Nat) (l : List Bytes), (∀ d ∈ l, d.length = 8) → 1 ≤ l.length → (rtF n l).length = 8
  | 0, l, h, h1 => by
      cases l with
      | nil => simp at h1
      | cons d r => exact h d (by simp)
  | n + 1, l, h, h1 => by
      simp only [rtF]
      split
      · cases l with
        | nil => simp at h1
        | cons d r => exact h d (by simp)
      · exact rtF_len n (up1 l) (up1_len8 _) (by rw [up1_length]; omega)
theorem rootD_len (ss : List Bytes) : (rootD ss).length = 8 := by
  refine rtF_len _ _ (base_len8 ss) ?_
  unfold base
  simp only [List.length_append, List.length_map, List.length_replicate]
  have : 1 ≤ 2 ^ lg ss.length := Nat.one_le_two_pow
  omega
end Go.Dig
