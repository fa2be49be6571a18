/- Lifting, fifth part: what the printed proofs use. No statement of the program stands here. -/
import Derived.Test.YtbkmnghnjajdmaaLid
set_option linter.unusedVariables false
set_option linter.unusedSimpArgs false
namespace Go.Lift
open Go Go.RowKit Go.Eng
variable {α β γ δ ε : Type}
theorem andL {a b : Bool} (h : (a && b) = true) : a = true := by cases a <;> simp_all
theorem rel_of {r : GR (List α)} {O w u x} (h : r.v O w u x) (ha : r.agg = false := by rfl) (hs : r.sz = 1 := by rfl) : r.rel O w [u] x := by
  obtain ⟨cs, h1, h2⟩ := h
  have hl := r.len h1
  rw [ha] at h2
  match cs, hl.trans hs with
  | [c], _ => simp [packV] at h2; subst h2; exact h1
theorem rel_ofF {r : GR α} {O w u x} (h : r.v O w u x) (ha : r.agg = false) (hs : r.sz = 1) : r.rel O w [u] x := by
  obtain ⟨cs, h1, h2⟩ := h
  have hl := r.len h1
  rw [ha] at h2
  match cs, hl.trans hs with
  | [c], _ => simp [packV] at h2; subst h2; exact h1
theorem GR.kx (r : GR α) {j : Option Nat} {O w O' w' v x} (h : r.v O w v x) (hx : KX j O w O' w') (h0 : some 0 ≠ j) : r.v O' w' v x := r.v_mono h (hx.keep h0)
theorem OwnR.nil (r : GR α) (T B : Nat) (O : Tags) (w : World) : OwnR r T B O w (.slice none 0 0) [] := ⟨[], OwnS.nil _ _ _ _, trivial⟩
section
variable {A : Nat → Prop}
/-- something new becomes the call's own -/
theorem ownNew {O0 O : Tags} {w0 w w' : World} (hO0 : OkO O0 w0) (hB : Base A O0 w0 O w) (hE : Ext w w') {r : GR α} {T B : Nat} {u : Value} {xs : List α} (h : OwnR r T B O w' u xs) (hb : B = w.heap.size) (k : Nat) (hk : k ≠ 0) :
    ∃ O', Base A O0 w0 O' w' ∧ KX none O w O' w' ∧ OwnL k r T (Fr w0) O' w' u xs := by
  subst hb
  have hs := hB.size
  refine ⟨tag O u.ownBlock k, (hB.step hE hO0).tag hk fun g hg => ?_, KX.tag hE fun g hg => (h.ge g hg).1, h.own k hk fun g hg => by unfold Fr; omega⟩
  have := h.ge g hg
  exact ⟨hB.new g (by omega), by omega⟩
theorem boxNew {O0 O : Tags} {w0 w w' : World} (hO0 : OkO O0 w0) (hB : Base A O0 w0 O w) (hE : Ext w w') {cs : Array Value} {T : Nat} {u : Value} (h : (SP.box w.heap.size cs T).holds w' u) (k : Nat) (hk : k ≠ 0) :
    ∃ O' b, Base A O0 w0 O' w' ∧ KX none O w O' w' ∧ u = .pointer (some ⟨b, 0, none⟩) ∧ OwnB k (Fr w0) O' w' b cs T := by
  obtain ⟨b, h1, h2, h3⟩ := h
  have hs := hB.size
  refine ⟨tag O (some b) k, b, (hB.step hE hO0).tag hk fun g hg => ?_, KX.tag hE fun g hg => ?_, h2, h3, by unfold Fr; omega, tag_same _ _ _⟩
  · cases hg; exact ⟨hB.new _ (by omega), h3.lt⟩
  · cases hg; exact h1
theorem freezeL {O0 O : Tags} {w0 w : World} (hO0 : OkO O0 w0) (hB : Base A O0 w0 O w) {k : Nat} {r : GR α} {T : Nat} {u : Value} {xs : List α} (h : OwnL k r T (Fr w0) O w u xs) (hk : k ≠ 0) :
    ∃ O', Base A O0 w0 O' w ∧ KX (some k) O w O' w ∧ (rSl r).v O' w u xs :=
  ⟨_, hB.untag hO0 (fun g hg => hB.new g (h.ge g hg).1) (fun g hg hlt => absurd (h.ge g hg).1 (by unfold Fr; omega)), KX.free h.tagged, h.freeze hk⟩
theorem retagL {O0 O : Tags} {w0 w : World} {B : Nat → Prop} (hAB : OkB A w0 B) (hB : Base A O0 w0 O w) {k : Nat} {r : GR α} {T : Nat} {u : Value} {xs : List α} (h : OwnL k r T B O w u xs) (k' : Nat) (hk : k ≠ 0) (hk' : k' ≠ 0) :
    ∃ O', Base A O0 w0 O' w ∧ KX (some k) O w O' w ∧ OwnL k' r T B O' w u xs := by
  have hge := h.ge
  have htag := h.tagged
  obtain ⟨vs, h1, h2, h3⟩ := h
  have hx : KX (some k) O w (tag O u.ownBlock k') w := ⟨Nat.le_refl _, fun b _ hb => ⟨tag_ne (fun e => hb (by rw [htag b e])), rfl⟩⟩
  exact ⟨tag O u.ownBlock k', hB.tag hk' fun g hg => ⟨hAB.sub g (hge g hg).1, (hge g hg).2⟩, hx, vs, h1, h2.mono (hx.keep (by simpa using hk.symm)), fun g hg => ⟨by rw [hg]; exact tag_same _ _ _, (hge g hg).1⟩⟩
theorem freezeB {O0 O : Tags} {w0 w : World} (hO0 : OkO O0 w0) (hB : Base A O0 w0 O w) {k : Nat} {b : Nat} {cs : List Value} {T : TypeId} (h : OwnB k (Fr w0) O w b cs.toArray T) (hk : k ≠ 0) {r : GR α} {x : α} (hr : r.rel O w cs x) :
    ∃ O', Base A O0 w0 O' w ∧ KX (some k) O w O' w ∧ (rBox r).v O' w (.pointer (some ⟨b, 0, none⟩)) x :=
  ⟨_, hB.untag hO0 (fun g hg => hB.new g (h.ge' g hg)) (fun g hg hlt => absurd (h.ge' g hg) (by unfold Fr; omega)), KX.free h.tagged, h.freeze hk hr⟩
end
theorem ptr_of_box {r : GR α} (hr : r.fits) {O w u x} (h : (rBox r).v O w u x) : (SP.ptr r O x).holds w u := by
  obtain ⟨cs, ⟨b, cs', T, h1, h2, h3, h4⟩, hu⟩ := h
  rw [h1] at hu
  simp [rBox, packV] at hu
  have hv : r.v O w (packV r.agg cs') x := ⟨cs', h4, rfl⟩
  have hc : (packV r.agg cs').cells = cs'.toArray := cells_pack (fun ha => by rw [r.len h4, hr ha]) (r.one h4)
  exact ⟨_, ⟨b, 0, hu, fun j hj => by rw [hc] at hj ⊢; rw [h2.cell]; simp⟩, hv⟩
/-! ends -/
theorem ret0u {P : Program} {fn : Func} {a : Act} {O0 O : Tags} {w0 w : World} {N : Nat} (hr : fn.results = #[]) (hA : a.fit N) (hB : Base (Fr w0) O0 w0 O w) :
    bodyPost P fn (fun e w' => ∃ v, e = .returned v ∧ Ext w0 w' ∧ SP.unit.holds w' v) .normal a w := ⟨hA.defers, .tuple #[], by simp [results, hr], _, rfl, hB.ext, trivial⟩
theorem ret0u' {P : Program} {fn : Func} {a : Act} {O0 O : Tags} {w0 w : World} {N : Nat} (hr : fn.results = #[]) (hA : a.fit N) (hB : Base (Fr w0) O0 w0 O w) :
    bodyPost P fn (fun e w' => ∃ v, e = .returned v ∧ Ext w0 w' ∧ SP.unit.holds w' v) .ret a w := ⟨hA.defers, .tuple #[], by simp [results, hr], _, rfl, hB.ext, trivial⟩
theorem retPure3 {P : Program} {fn : Func} {φ : World → Value → Prop} {a : Act} {w0 w : World} {t u x N : Nat} {v v' v'' : Value} (hr : fn.results = #[.tmp t, .tmp u, .tmp x]) (hA : a.fit N) (ht : a.get t = v) (hu : a.get u = v') (hx : a.get x = v'') (hB : Ext w0 w) (h : φ w (.tuple #[v, v', v''])) :
    bodyPost P fn (fun e w' => ∃ v, e = .returned v ∧ Ext w0 w' ∧ φ w' v) .ret a w :=
  ⟨hA.defers, .tuple #[v, v', v''], by
    have e1 : a.tmps.getD t undef = v := ht
    have e2 : a.tmps.getD u undef = v' := hu
    have e3 : a.tmps.getD x undef = v'' := hx
    simp only [Array.getD_eq_getD_getElem?] at e1 e2 e3
    simp [results, hr, e1, e2, e3], _, rfl, hB, h⟩
instance : Inhabited (Comp α) := ⟨Comp.fail⟩
theorem run_gdb {g : Bool} {c : Comp α} {d : α} {n : Nat} {a : α} (h : (Comp.gd g c d).run n = some a) (hg : g = true) : c.run n = some a := Comp.run_gd h hg
/-! structs that are built -/
def splice (cs : List Value) (off : Nat) (vs : List Value) : List Value := cs.take off ++ (vs ++ cs.drop (off + vs.length))
theorem splice_get {cs vs : List Value} {off : Nat} (h : off + vs.length ≤ cs.length) (j : Nat) : (splice cs off vs)[j]? = if off ≤ j ∧ j < off + vs.length then vs[j - off]? else cs[j]? := by
  unfold splice
  have e : (cs.take off).length = off := by rw [List.length_take]; omega
  by_cases h1 : j < off
  · rw [List.getElem?_append_left (by omega), List.getElem?_take, if_pos h1, if_neg (by omega)]
  · rw [List.getElem?_append_right (by omega), e]
    by_cases h2 : j < off + vs.length
    · rw [List.getElem?_append_left (by omega), if_pos (by omega)]
    · rw [List.getElem?_append_right (by omega), List.getElem?_drop, if_neg (by omega)]
      congr 1; omega
theorem splice_foldl (off : Nat) (vs : List Value) (cs : Array Value) (h : off + vs.length ≤ cs.size) :
    (vs.zipIdx.foldl (fun cs (p : Value × Nat) => cs.setIfInBounds (off + p.2) p.1) cs).toList = splice cs.toList off vs := by
  apply List.ext_getElem?
  intro j
  have hl : cs.toList.length = cs.size := Array.length_toList
  rw [splice_get (by rw [hl]; exact h)]
  have := splice_at off vs 0 cs (by omega) j
  simp only [Nat.add_zero] at this
  simp only [Array.getElem?_toList]
  exact this
inductive Fill (pl : Nat → Option (Nat × Nat)) : List Value → List (Nat × Value) → List Value → Prop
  | nil {cs} : Fill pl cs [] cs
  | cons {i v vs off n cs rest out} (hp : pl i = some (off, n)) (hc : v.cells = vs.toArray) (hn : vs.length = n) (ho : off + n ≤ cs.length) (h : Fill pl (splice cs off vs) rest out) : Fill pl cs ((i, v) :: rest) out
theorem Fill.run {pl : Nat → Option (Nat × Nat)} : ∀ {cs : List Value} {ps : List (Nat × Value)} {out : List Value}, Fill pl cs ps out → ∀ ca : Array Value, ca.toList = cs → Instr.fill pl ca ps = some out.toArray := by
  intro cs ps out h
  induction h with
  | nil => intro ca hca; simp [Instr.fill, ← hca]
  | @cons i v vs off n cs rest out hp hc hn ho h ih =>
    intro ca hca
    have hs : ca.size = cs.length := by rw [← hca]; simp
    simp only [Instr.fill, hp]
    rw [if_neg (by simp [hc, hn]; omega)]
    refine ih _ ?_
    have := splice_foldl off vs ca (by omega)
    rw [hca] at this
    rw [← this, hc]
    simp
/-- where the fields of a struct type lie -/
structure Plc (P : Program) (X : TypeId) (ps : Array (Nat × Nat)) : Prop where
  u : P.underlying X = some (.struct (P.fieldsOf X))
  h : ∀ w : World, ((P.fieldsOf X).mapM fun f => (do pure (f.offset, ← sizeOf f.type) : Sem (Nat × Nat))).run P w = .ok ps w
theorem sl_cells {r : GR α} {O w u} {x : α} (h : r.v O w u x) (ha : r.agg = false) (hs : r.sz = 1) : u.cells = [u].toArray := by
  obtain ⟨cs, h1, _, h3⟩ := r.cells (fun _ => hs) h
  obtain ⟨cs', h4, h5⟩ := h
  have hl := r.len h1
  rw [hs] at hl
  match cs, hl with
  | [c], _ =>
    have hl' := r.len h4
    rw [hs] at hl'
    match cs', hl' with
    | [c'], _ =>
      rw [ha] at h5; simp [packV] at h5; subst h5
      have := r.one h4 u (by simp)
      cases u <;> first | rfl | (simp [Value.oneCell'] at this)
theorem own_cells {k : Nat} {r : GR α} {T B O w u xs} (h : OwnL k r T B O w u xs) : u.cells = [u].toArray := by
  obtain ⟨vs, h1, _⟩ := h
  obtain ⟨a, cap, h2, _⟩ := h1.slv
  rw [h2]; rfl
section ops
variable {P : Program} {a : Act} {w : World} {d : Option Tmp} {T : TypeId} {pos : String} {aft : Array Edge} {g : Option (Nat × Bool)}
theorem okl_buildSliceV {X e E n : Nat} {r : GR α} (hr : r.fits) (hE : r.sz = E + 1) {O : Tags} (hO : OkO O w) {vs : List Value} {xs : List α} {parts : Array (Nat × Operand)} {z sz by_ dd z' by_'} (hT : Ty P X (.slice e) z sz by_) (he : Ty P e dd z' (E + 1) by_')
    (hp : Parts a 0 parts.toList vs) (hv : RelL r O w vs xs) (hn : vs.length = n) (hs : n * (E + 1) ≤ 16777216) :
    Ok P ⟨d, .buildSlice X n parts, T, pos, aft, g⟩ a w (SP.vl (rSl r) O xs).holds :=
  ok_weak (okl_buildSlice (B := w.heap.size) hr hE hO hT he (Nat.le_refl _) hp hv hn hs) fun _ _ _ h => OwnR.val h fun g hg => hO g (h.ge g hg).1
/-- a variable that is never written again -/
theorem okl_boxV {x : Operand} {X : TypeId} {r : GR α} (hr : r.fits) {O : Tags} (hO : OkO O w) {v : Value} {y : α} (hx : a.eval x = v) (hv : r.v O w v y) : Ok P ⟨d, .box X x, T, pos, aft, g⟩ a w (SP.vl (rBox r) O y).holds := by
  obtain ⟨cs, h1, h2, h3⟩ := r.cells hr hv
  intro K Q hK
  refine ok_box (L := w.heap.size) (Nat.le_refl _) hx K Q fun u w' hE hu => hK u w' hE ?_
  obtain ⟨b, h4, h5, h6⟩ := hu
  rw [h3] at h6
  exact ⟨_, ⟨b, cs, X, rfl, h6, hO b h4, r.mono (Keep.ext hE) h1⟩, by rw [h5]; rfl⟩
theorem okl_fldB {x : Operand} {X f ft off sz : Nat} {S : GR γ} (hSf : S.fits) (hS : S.agg = true) {r : GR α} (hr : r.fits) {p : γ → α} {O : Tags} {y : γ} (hsub : SubR S off r p) (hF : Fld P X f ft off sz) {u : Value} (hu : a.eval x = u) (hx : (rBox S).v O w u y) :
    Ok P ⟨d, .fieldAddr X x f, T, pos, aft, g⟩ a w (SP.ptr r O (p y)).holds := okl_fld hS hr hsub hF hu (ptr_of_box hSf hx)
theorem ok_nilChk {x : Operand} {ad : Addr} (hx : a.eval x = .pointer (some ad)) : Ok P ⟨d, .nilCheck x, T, pos, aft, g⟩ a w (SP.isv (.pointer (some ad))).holds := ok_pure (by
  simp [execOp, hx, Instr.sureAddr])
theorem okl_build {X : TypeId} {ps : Array (Nat × Nat)} (hP : Plc P X ps) {dd z sz by_} (hT : Ty P X dd z sz by_) {parts : Array (Nat × Operand)} {vals : List (Nat × Value)} (hv : parts.toList.map (fun p => (p.1, a.eval p.2)) = vals) {zc out : List Value} (hz : z.cells = zc.toArray) (hf : Fill (ps[·]?) zc vals out) {v : Value} (he : .agg out.toArray = v) :
    Ok P ⟨d, .build X parts, T, pos, aft, g⟩ a w (SP.isv v).holds := by
  have h1 := hP.u
  have h2 := hP.h
  subst he
  refine ok_pure ?_
  have e1 : (parts.map fun (i, x) => (i, a.eval x)).toList = vals := by rw [← hv]; simp
  have hu : (underlying X).run P w = .ok (.struct (P.fieldsOf X)) w := by simp [underlying, h1]
  simp only [execOp, Instr.build, Sem.run_bind, hT.run_zero, hu, Result.andThen, h2, e1, hf.run z.cells (by rw [hz])]
  simp
theorem okl_loadSub {x : Operand} {X X' : TypeId} {dd z sz by_} {b off : Nat} {l1 vs l2 : List Value} {cs : Array Value} (hT : Ty P X dd z sz by_) (hd : isAggD dd = true) (hx : a.eval x = .pointer (some ⟨b, off, none⟩)) (hO : Own w b cs X') (hc : cs.toList = l1 ++ (vs ++ l2)) (ho : l1.length = off) (hs : vs.length = sz) :
    Ok P ⟨d, .load X x, T, pos, aft, g⟩ a w (SP.isv (.agg vs.toArray)).holds := by
  refine ok_loadPtAgg hT hd (u := .pointer (some ⟨b, off, none⟩)) hx ⟨b, off, rfl, fun j hj => ?_⟩ (by simpa using hs)
  simp only [Value.cells, List.size_toArray] at hj ⊢
  rw [hO.cell]
  rw [← Array.getElem?_toList, hc, List.getElem?_append_right (by omega), List.getElem?_append_left (by omega)]
  simp; congr 1; omega
end ops
theorem run_storeCells3 {P : Program} {T b off : Nat} : ∀ (l : List Value) (i : Nat) (w : World) (cs : Array Value), (∀ v ∈ l, v.oneCell' = true) → Own w b cs T → off + i + l.length ≤ cs.size →
    ∃ w' cs', (storeCells ⟨b, off, none⟩ l i).run P w = .ok () w' ∧ Own w' b cs' T ∧ cs'.size = cs.size ∧ (∀ j, cs'[j]? = if off + i ≤ j ∧ j < off + i + l.length then l[j - (off + i)]? else cs[j]?) ∧
      w'.os = w.os ∧ w'.tape = w.tape ∧ w'.output = w.output ∧ w'.heap.size = w.heap.size ∧ ∀ k, k ≠ b → w'.heap[k]? = w.heap[k]?
  | [], i, w, cs, _, hO, _ => ⟨w, cs, rfl, hO, rfl, fun j => by rw [if_neg (by simp)], rfl, rfl, rfl, rfl, fun _ _ => rfl⟩
  | v :: l, i, w, cs, h1, hO, hs => by
      simp only [List.length_cons] at hs
      have hi : off + i < cs.size := by omega
      have hc : w.cell? ⟨b, off + i, none⟩ = some cs[off + i] := by rw [hO.cell, Array.getElem?_eq_getElem hi]
      obtain ⟨w', cs', h2, h3, h4, h5, h6, h7, h8, h9, h10⟩ := run_storeCells3 (P := P) (off := off) l (i + 1) (w.setCell ⟨b, off + i, none⟩ v) _ (fun x hx => h1 x (by simp [hx])) (hO.set (off + i) v) (by simp; omega)
      refine ⟨w', cs', ?_, h3, by rw [h4]; simp, fun j => ?_, h6, h7, h8, by rw [h9]; simp [World.setCell], fun k hk => ?_⟩
      · have e : (⟨b, off, none⟩ : Addr).add i = ⟨b, off + i, none⟩ := by rw [addr_add]
        simp only [storeCells, Sem.run_bind, e, run_store _ _ _ _ _ (h1 v (by simp)), hc, hO.frozen (off + i) hi]
        exact h2
      · rw [h5 j, List.length_cons]
        by_cases hj : j = off + i
        · subst hj
          rw [if_neg (by omega), if_pos (by omega)]; simp [hi]
        · rw [Array.getElem?_setIfInBounds_ne (Ne.symm hj)]
          by_cases h : off + (i + 1) ≤ j ∧ j < off + (i + 1) + l.length
          · rw [if_pos h, if_pos (by omega)]
            have e : j - (off + i) = (j - (off + (i + 1))) + 1 := by omega
            rw [e]; simp
          · rw [if_neg h, if_neg (by omega)]
      · rw [h10 k hk]
        unfold World.setCell; simp [Array.getElem?_modify, Ne.symm hk]
section tails
variable {P : Program} {a : Act} {w : World} {T : TypeId} {pos : String} {aft : Array Edge} {ops : Array Oper} {Q : Exit → Act → World → Prop} {rest : List Oper}
/-- a store of several cells into a variable of the call's own -/
theorem l_storeSub {x y : Operand} {X T' b off k : Nat} {O O0 : Tags} {w0 : World} {A B : Nat → Prop} (hO0 : OkO O0 w0) (hB : Base A O0 w0 O w) (hAB : OkB A w0 B) {vs : List Value} {cs cs' : Array Value} {v : Value} {dd z by_} (hT : Ty P X dd z vs.length by_) (hx : a.eval x = .pointer (some ⟨b, off, none⟩)) (hy : a.eval y = v) (hv : v.cells = vs.toArray) (h1 : ∀ v ∈ vs, v.oneCell' = true)
    (hO : OwnB k B O w b cs T') (ho : off + vs.length ≤ cs.size) (he : (splice cs.toList off vs).toArray = cs')
    (hK : ∀ w', OwnB k B O w' b cs' T' → Base A O0 w0 O w' → KX (some k) O w O w' → wpList P ops Q rest a w') : wpList P ops Q (⟨none, .store X x y, T, pos, aft, none⟩ :: rest) a w := by
  obtain ⟨w', cs2, h2, h3, h4, h5, h6, h7, h8, h9, h10⟩ := run_storeCells3 (P := P) (off := off) vs 0 w cs h1 hO.own (by omega)
  have e : cs2 = cs' := by
    rw [← he]
    apply Array.ext_getElem?
    intro j
    have hl : cs.toList.length = cs.size := Array.length_toList
    have e2 := splice_get (vs := vs) (cs := cs.toList) (off := off) (by rw [hl]; exact ho) j
    rw [h5 j]
    simp only [List.getElem?_toArray, e2, Array.getElem?_toList, Nat.add_zero]
  subst e
  have hb : But b w w' := ⟨h6, h7, h8, by omega, fun k _ hk => h10 k hk⟩
  refine t_skip (w' := w') ?_ rfl rfl (hK w' ⟨h3, hO.ge, hO.tag⟩ (hB.but (hAB.sub _ hO.ge) hb hO0) (KX.but hb hO.tag))
  simp [execOp, Instr.storeAt, Instr.sureAddr, hx, hy, storeVar, hv, hT.run_size, h2]
end tails
end Go.Lift
