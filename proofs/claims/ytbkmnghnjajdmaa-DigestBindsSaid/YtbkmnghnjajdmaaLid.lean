/- Lifting, fourth part: calls, functions as values, rows that are made, written and appended to. No statement of the program stands here. -/
import Derived.Test.YtbkmnghnjajdmaaLic
set_option linter.unusedVariables false
set_option linter.unusedSimpArgs false
namespace Go.Lift
open Go Go.RowKit Go.Eng
variable {α β γ δ ε : Type}

/-! ### functions as values -/
def CallV (P : Program) (u : Value) (args : Array Value) (w : World) (φ : World → Value → Prop) : Prop :=
  ∃ f xs, (Deferred.ofValue u args >>= fun d => invoke d.target d.args).run P w = .ok (.enter f xs) w ∧ Pure P f xs w φ
theorem callV_func {P : Program} {f : FuncId} {fst cap args : Array Value} {w : World} {φ : World → Value → Prop} (hf : FnOk P f) (h : Pure P f (fst ++ args ++ cap) w φ) : CallV P (.func (.func f) fst cap) args w φ := by
  obtain ⟨fn, h1, h2, h3⟩ := hf.h
  refine ⟨f, _, ?_, h⟩
  simp only [Deferred.ofValue, Sem.run_bind, Sem.run_pure, Result.andThen, invoke, callFunc, run_program, h1]
  simp [h2, h3]
/-- the result of a call: what it leaves, by the memory of the caller, and where memory ended when it began -/
abbrev RS (β : Type) := Tags → Nat → β → SP
def RS.v (r : GR β) : RS β := fun O _ y => SP.vl r O y
def RS.c (enc : β → Value) : RS β := fun _ _ y => SP.isv (enc y)
def RS.own (r : GR β) (T : Nat) : RS (List β) := fun O B y => SP.ownr r T B O y
def RS.pair (r : RS β) (s : RS γ) : RS (β × γ) := fun O B y => SP.tup2 (r O B y.1) (s O B y.2)
def RS.unit : RS Unit := fun _ _ _ => SP.unit
def rF0 (P : Program) (R : RS β) : GR (Comp β) where
  agg := false
  sz := 1
  rel := fun O w cs F => ∃ u, cs = [u] ∧ u.oneCell' = true ∧ ∀ O' w', OkO O' w' → Keep 0 O w O' w' → ∀ n y, F.run n = some y → CallV P u #[] w' (R O' w'.heap.size y).holds
  len := fun ⟨_, h, _⟩ => by rw [h]; rfl
  one := fun ⟨_, h, h1, _⟩ c hc => by rw [h] at hc; simp at hc; subst hc; exact h1
  mono := fun hk ⟨u, h, h1, h2⟩ => ⟨u, h, h1, fun O' w' ho hk' => h2 O' w' ho (hk.trans hk')⟩
def rF1 (P : Program) (r1 : GR α) (R : RS β) : GR (α → Comp β) where
  agg := false
  sz := 1
  rel := fun O w cs F => ∃ u, cs = [u] ∧ u.oneCell' = true ∧ ∀ O' w', OkO O' w' → Keep 0 O w O' w' → ∀ v x, r1.v O' w' v x → ∀ n y, (F x).run n = some y → CallV P u #[v] w' (R O' w'.heap.size y).holds
  len := fun ⟨_, h, _⟩ => by rw [h]; rfl
  one := fun ⟨_, h, h1, _⟩ c hc => by rw [h] at hc; simp at hc; subst hc; exact h1
  mono := fun hk ⟨u, h, h1, h2⟩ => ⟨u, h, h1, fun O' w' ho hk' => h2 O' w' ho (hk.trans hk')⟩
def rF2 (P : Program) (r1 : GR α) (r2 : GR β) (R : RS γ) : GR (α → β → Comp γ) where
  agg := false
  sz := 1
  rel := fun O w cs F => ∃ u, cs = [u] ∧ u.oneCell' = true ∧ ∀ O' w', OkO O' w' → Keep 0 O w O' w' → ∀ v x v' x', r1.v O' w' v x → r2.v O' w' v' x' → ∀ n y, (F x x').run n = some y → CallV P u #[v, v'] w' (R O' w'.heap.size y).holds
  len := fun ⟨_, h, _⟩ => by rw [h]; rfl
  one := fun ⟨_, h, h1, _⟩ c hc => by rw [h] at hc; simp at hc; subst hc; exact h1
  mono := fun hk ⟨u, h, h1, h2⟩ => ⟨u, h, h1, fun O' w' ho hk' => h2 O' w' ho (hk.trans hk')⟩
theorem rF0_v {P : Program} {R : RS β} {O w u F} : (rF0 P R).v O w u F ↔ u.oneCell' = true ∧ ∀ O' w', OkO O' w' → Keep 0 O w O' w' → ∀ n y, F.run n = some y → CallV P u #[] w' (R O' w'.heap.size y).holds :=
  ⟨fun ⟨cs, ⟨u', h, h1, h2⟩, hu⟩ => by rw [h] at hu; simp [rF0, packV] at hu; subst hu; exact ⟨h1, h2⟩, fun ⟨h1, h2⟩ => ⟨[u], ⟨u, rfl, h1, h2⟩, rfl⟩⟩
theorem rF1_v {P : Program} {r1 : GR α} {R : RS β} {O w u F} : (rF1 P r1 R).v O w u F ↔ u.oneCell' = true ∧ ∀ O' w', OkO O' w' → Keep 0 O w O' w' → ∀ v x, r1.v O' w' v x → ∀ n y, (F x).run n = some y → CallV P u #[v] w' (R O' w'.heap.size y).holds :=
  ⟨fun ⟨cs, ⟨u', h, h1, h2⟩, hu⟩ => by rw [h] at hu; simp [rF1, packV] at hu; subst hu; exact ⟨h1, h2⟩, fun ⟨h1, h2⟩ => ⟨[u], ⟨u, rfl, h1, h2⟩, rfl⟩⟩
theorem rF2_v {P : Program} {r1 : GR α} {r2 : GR β} {R : RS γ} {O w u F} : (rF2 P r1 r2 R).v O w u F ↔ u.oneCell' = true ∧ ∀ O' w', OkO O' w' → Keep 0 O w O' w' → ∀ v x v' x', r1.v O' w' v x → r2.v O' w' v' x' → ∀ n y, (F x x').run n = some y → CallV P u #[v, v'] w' (R O' w'.heap.size y).holds :=
  ⟨fun ⟨cs, ⟨u', h, h1, h2⟩, hu⟩ => by rw [h] at hu; simp [rF2, packV] at hu; subst hu; exact ⟨h1, h2⟩, fun ⟨h1, h2⟩ => ⟨[u], ⟨u, rfl, h1, h2⟩, rfl⟩⟩

section ops
variable {P : Program} {a : Act} {w : World} {d : Option Tmp} {T : TypeId} {pos : String} {aft : Array Edge} {g : Option (Nat × Bool)}
theorem okl_callv {x : Operand} {xs : Array Operand} {ts : Array TypeId} {args : Array Value} {u : Value} {φ : SP} (hu : a.eval x = u) (ha : xs.map a.eval = args) (h : CallV P u args w φ.holds) :
    Ok P ⟨d, .call ⟨.value x, xs, ts⟩, T, pos, aft, g⟩ a w φ.holds := by
  intro K Q hK
  obtain ⟨f, ys, h1, h2⟩ := h
  have hr : (execOp a.eval ⟨d, .call ⟨.value x, xs, ts⟩, T, pos, aft, g⟩).run P w = .ok (.enter f ys) w := by
    simp only [execOp, resolve, ha, hu]
    exact h1
  unfold Oper.wp
  rw [hr]
  refine Calls.mono h2 fun e w' he => ?_
  obtain ⟨v, rfl, hE, hv⟩ := he
  exact hK v w' hE hv
theorem okl_callv0 {x : Operand} {ts : Array TypeId} {u : Value} {R : RS β} {O : Tags} {F : Comp β} {n : Nat} {y : β} (hu : a.eval x = u) (hF : (rF0 P R).v O w u F) (hO : OkO O w) (h : F.run n = some y) :
    Ok P ⟨d, .call ⟨.value x, #[], ts⟩, T, pos, aft, g⟩ a w (R O w.heap.size y).holds := okl_callv hu (by simp) ((rF0_v.1 hF).2 O w hO (Keep.refl _ _ _) n y h)
theorem okl_callv1 {x x1 : Operand} {ts : Array TypeId} {u v1 : Value} {r1 : GR α} {R : RS β} {O : Tags} {F : α → Comp β} {x' : α} {n : Nat} {y : β} (hu : a.eval x = u) (hF : (rF1 P r1 R).v O w u F) (hO : OkO O w) (h1 : a.eval x1 = v1) (hx : r1.v O w v1 x') (h : (F x').run n = some y) :
    Ok P ⟨d, .call ⟨.value x, #[x1], ts⟩, T, pos, aft, g⟩ a w (R O w.heap.size y).holds := okl_callv hu (by simp [h1]) ((rF1_v.1 hF).2 O w hO (Keep.refl _ _ _) v1 x' hx n y h)
theorem okl_callv2 {x x1 x2 : Operand} {ts : Array TypeId} {u v1 v2 : Value} {r1 : GR α} {r2 : GR β} {R : RS γ} {O : Tags} {F : α → β → Comp γ} {x' : α} {x'' : β} {n : Nat} {y : γ} (hu : a.eval x = u) (hF : (rF2 P r1 r2 R).v O w u F) (hO : OkO O w) (h1 : a.eval x1 = v1) (h2 : a.eval x2 = v2) (hx : r1.v O w v1 x') (hx2 : r2.v O w v2 x'') (h : (F x' x'').run n = some y) :
    Ok P ⟨d, .call ⟨.value x, #[x1, x2], ts⟩, T, pos, aft, g⟩ a w (R O w.heap.size y).holds := okl_callv hu (by simp [h1, h2]) ((rF2_v.1 hF).2 O w hO (Keep.refl _ _ _) v1 x' v2 x'' hx hx2 n y h)
theorem ok_call5 {f : FuncId} {x1 x2 x3 x4 x5 : Operand} {v1 v2 v3 v4 v5 : Value} {ts : Array TypeId} {φ : SP} (hf : FnOk P f) (h1 : a.eval x1 = v1) (h2 : a.eval x2 = v2) (h3 : a.eval x3 = v3) (h4 : a.eval x4 = v4) (h5 : a.eval x5 = v5) (h : Pure P f #[v1, v2, v3, v4, v5] w φ.holds) :
    Ok P ⟨d, .call ⟨.value (.func f), #[x1, x2, x3, x4, x5], ts⟩, T, pos, aft, g⟩ a w φ.holds := ok_call hf (by simp [h1, h2, h3, h4, h5]) h
theorem ok_call6 {f : FuncId} {x1 x2 x3 x4 x5 x6 : Operand} {v1 v2 v3 v4 v5 v6 : Value} {ts : Array TypeId} {φ : SP} (hf : FnOk P f) (h1 : a.eval x1 = v1) (h2 : a.eval x2 = v2) (h3 : a.eval x3 = v3) (h4 : a.eval x4 = v4) (h5 : a.eval x5 = v5) (h6 : a.eval x6 = v6) (h : Pure P f #[v1, v2, v3, v4, v5, v6] w φ.holds) :
    Ok P ⟨d, .call ⟨.value (.func f), #[x1, x2, x3, x4, x5, x6], ts⟩, T, pos, aft, g⟩ a w φ.holds := ok_call hf (by simp [h1, h2, h3, h4, h5, h6]) h
/-- what a call began with: less memory -/
theorem OwnR.base {r : GR α} {Ty' B B' : Nat} {O : Tags} {u : Value} {xs : List α} (h : OwnR r Ty' B O w u xs) (hB : B' ≤ B) : OwnR r Ty' B' O w u xs := by
  obtain ⟨vs, h1, h2⟩ := h; exact ⟨vs, h1.mono hB, h2⟩
theorem ok_weak {o : Oper} {φ ψ : World → Value → Prop} (h : Ok P o a w φ) (hw : ∀ w' v, Ext w w' → φ w' v → ψ w' v) : Ok P o a w ψ := fun K Q hK => h K Q fun v w' hE hv => hK v w' hE (hw w' v hE hv)
theorem okl_ext0 {x : Operand} {φ ψ : SP} (h : (SP.tup2 φ ψ).holds w (a.eval x)) : Ok P ⟨d, .extract x 0, T, pos, aft, g⟩ a w φ.holds := by
  obtain ⟨u, v, h1, h2, h3⟩ := h
  exact ok_run (v := u) (w' := w) (by simp [execOp, Instr.extract, h1]) (Ext.refl _) h2
theorem okl_ext1 {x : Operand} {φ ψ : SP} (h : (SP.tup2 φ ψ).holds w (a.eval x)) : Ok P ⟨d, .extract x 1, T, pos, aft, g⟩ a w ψ.holds := by
  obtain ⟨u, v, h1, h2, h3⟩ := h
  exact ok_run (v := v) (w' := w) (by simp [execOp, Instr.extract, h1]) (Ext.refl _) h3
theorem okl_ext3_0 {x : Operand} {φ ψ χ : SP} (h : (SP.tup3 φ ψ χ).holds w (a.eval x)) : Ok P ⟨d, .extract x 0, T, pos, aft, g⟩ a w φ.holds := by
  obtain ⟨u, v, y, h1, h2, h3, h4⟩ := h
  exact ok_run (v := u) (w' := w) (by simp [execOp, Instr.extract, h1]) (Ext.refl _) h2
theorem okl_ext3_1 {x : Operand} {φ ψ χ : SP} (h : (SP.tup3 φ ψ χ).holds w (a.eval x)) : Ok P ⟨d, .extract x 1, T, pos, aft, g⟩ a w ψ.holds := by
  obtain ⟨u, v, y, h1, h2, h3, h4⟩ := h
  exact ok_run (v := v) (w' := w) (by simp [execOp, Instr.extract, h1]) (Ext.refl _) h3
theorem okl_ext3_2 {x : Operand} {φ ψ χ : SP} (h : (SP.tup3 φ ψ χ).holds w (a.eval x)) : Ok P ⟨d, .extract x 2, T, pos, aft, g⟩ a w χ.holds := by
  obtain ⟨u, v, y, h1, h2, h3, h4⟩ := h
  exact ok_run (v := y) (w' := w) (by simp [execOp, Instr.extract, h1]) (Ext.refl _) h4
theorem okl_ext4_0 {x : Operand} {φ ψ χ ω : SP} (h : (SP.tup4 φ ψ χ ω).holds w (a.eval x)) : Ok P ⟨d, .extract x 0, T, pos, aft, g⟩ a w φ.holds := by
  obtain ⟨u, v, y, z, h1, h2, h3, h4, h5⟩ := h
  exact ok_run (v := u) (w' := w) (by simp [execOp, Instr.extract, h1]) (Ext.refl _) h2
theorem okl_ext4_1 {x : Operand} {φ ψ χ ω : SP} (h : (SP.tup4 φ ψ χ ω).holds w (a.eval x)) : Ok P ⟨d, .extract x 1, T, pos, aft, g⟩ a w ψ.holds := by
  obtain ⟨u, v, y, z, h1, h2, h3, h4, h5⟩ := h
  exact ok_run (v := v) (w' := w) (by simp [execOp, Instr.extract, h1]) (Ext.refl _) h3
theorem okl_ext4_2 {x : Operand} {φ ψ χ ω : SP} (h : (SP.tup4 φ ψ χ ω).holds w (a.eval x)) : Ok P ⟨d, .extract x 2, T, pos, aft, g⟩ a w χ.holds := by
  obtain ⟨u, v, y, z, h1, h2, h3, h4, h5⟩ := h
  exact ok_run (v := y) (w' := w) (by simp [execOp, Instr.extract, h1]) (Ext.refl _) h4
theorem okl_ext4_3 {x : Operand} {φ ψ χ ω : SP} (h : (SP.tup4 φ ψ χ ω).holds w (a.eval x)) : Ok P ⟨d, .extract x 3, T, pos, aft, g⟩ a w ω.holds := by
  obtain ⟨u, v, y, z, h1, h2, h3, h4, h5⟩ := h
  exact ok_run (v := z) (w' := w) (by simp [execOp, Instr.extract, h1]) (Ext.refl _) h5
/-! rows -/
theorem okl_buildSlice {X e E n B : Nat} {r : GR α} (hr : r.fits) (hE : r.sz = E + 1) {O : Tags} (hO : OkO O w) {vs : List Value} {xs : List α} {parts : Array (Nat × Operand)} {z sz by_ dd z' by_'} (hT : Ty P X (.slice e) z sz by_) (he : Ty P e dd z' (E + 1) by_') (hB : B ≤ w.heap.size)
    (hp : Parts a 0 parts.toList vs) (hv : RelL r O w vs xs) (hn : vs.length = n) (hs : n * (E + 1) ≤ 16777216) :
    Ok P ⟨d, .buildSlice X n parts, T, pos, aft, g⟩ a w (SP.ownr r e B O xs).holds := by
  have hp' : (parts.map fun (i, x) => (i, a.eval x)) = (partsFrom 0 vs).toArray := by
    have := parts_of hp
    rwa [Array.toArray_toList] at this
  intro K Q hK
  refine ok_buildSlice (B := w.heap.size) hT he (Nat.le_refl _) hp' (fun x hx => by rw [hv.size hr x hx, hE]) hn hs K Q fun v w' hE' hv' => hK v w' hE' ⟨vs, ?_, ?_⟩
  · rw [hE]; exact hv'.mono hB
  · refine hv.mono ⟨hE'.size, fun b hb ho => ⟨?_, hE'.block b hb⟩⟩
    rw [tag_ne (fun e => by have := hv'.block_ge b e; omega)]; exact ho
theorem okl_make {x y : Operand} {X e E B bytes : Nat} {r : GR α} (hE : r.sz = E + 1) {O : Tags} {k k' : IntKind} {m : Int} {zx : α} {ys : List α} {nf : Nat} {z sz by_ dd z'} (hT : Ty P X (.slice e) z sz by_) (he : Ty P e dd z' (E + 1) bytes) (hby : bytes ≤ 131072) (hz : z'.cells.size = E + 1) (hB : B ≤ w.heap.size)
    (hx : a.eval x = .int k m) (hy : a.eval y = .int k' m) (hzx : ∀ O w, r.v O w z' zx) (h : (mk m zx).run nf = some ys) :
    Ok P ⟨d, .makeSlice X x y, T, pos, aft, g⟩ a w (SP.ownr r e B O ys).holds := by
  obtain ⟨⟨h0, h1⟩, h2⟩ := run_mk h
  unfold LIM at h1
  intro K Q hK
  have hb : bytes * m.toNat ≤ 131072 * 1073741824 := Nat.mul_le_mul hby (by omega)
  refine ok_makeN (B := B) (n := m.toNat) hT he hz hB hx hy (by omega) (by omega) (by omega) K Q fun v w' hE' hv' => hK v w' hE' ⟨_, by rw [hE]; exact hv', by rw [← h2]; exact RelL.replicate (hzx _ _) _⟩
/-- with room for more -/
theorem okl_make0 {x y : Operand} {X e E B bytes : Nat} {r : GR α} (hE : r.sz = E + 1) {O : Tags} {k k' : IntKind} {m : Int} {u : Unit} {nf : Nat} {z sz by_ dd z'} (hT : Ty P X (.slice e) z sz by_) (he : Ty P e dd z' (E + 1) bytes) (hby : bytes ≤ 131072) (hB : B ≤ w.heap.size)
    (hx : a.eval x = .int k 0) (hy : a.eval y = .int k' m) (h : (if 0 ≤ m ∧ m ≤ LIM then Comp.pure () else Comp.fail).run nf = some u) :
    Ok P ⟨d, .makeSlice X x y, T, pos, aft, g⟩ a w (SP.ownr r e B O ([] : List α)).holds := by
  split at h
  · rename_i h1
    unfold LIM at h1
    intro K Q hK
    have hb : bytes * m.toNat ≤ 131072 * 1073741824 := Nat.mul_le_mul hby (by omega)
    have hm : m = ((m.toNat : Nat) : Int) := by omega
    refine ok_make0 (B := B) (n := m.toNat) hT he hB hx (hy.trans (by rw [← hm])) (by omega) (by omega) K Q fun v w' hE' hv' => hK v w' hE' ⟨[], by rw [hE]; exact hv', trivial⟩
  · cases h
/-! bytes -/
theorem relL_bytes (O : Tags) (w : World) (l : List UInt8) : RelL (rInt .u8) O w (bv l) (ofStr l) := by
  unfold bv ofStr
  induction l with
  | nil => trivial
  | cons b l ih => exact ⟨rInt_v.2 rfl, ih⟩
theorem okl_strToBytes {x : Operand} {X Y e : Nat} {O : Tags} (hO : OkO O w) {s : Bytes} {z sz by_ z' sz' by_' z'' sz'' by_''} (h1 : Ty P X .string z sz by_) (h2 : Ty P Y (.slice e) z' sz' by_') (h3 : Ty P e (.int .u8) z'' sz'' by_'') (hx : a.eval x = .string (str s)) :
    Ok P ⟨d, .convert X Y x, T, pos, aft, g⟩ a w (SP.vl (rSl (rInt .u8)) O (ofStr s)).holds := by
  intro K Q hK
  refine ok_strToBytes (B := w.heap.size) h1 h2 h3 (Nat.le_refl _) hx K Q fun v w' hE hv => hK v w' hE ?_
  obtain ⟨b, cap, h4, h5, h6⟩ := hv
  have hs : (str s).data.toList = s := by simp [str]
  rw [hs] at h5 h6
  have hlt : b < w'.heap.size := by obtain ⟨cs, h7, _⟩ := h6; exact h7.lt
  refine rSl_v.2 ⟨bv s, ?_, relL_bytes _ _ _, fun _ g hg => ?_⟩
  · rw [h5]; exact h6.slv
  · rw [h5] at hg
    simp only [Value.ownBlock, Option.some.injEq] at hg
    subst hg
    exact ⟨hlt, hO b h4⟩
theorem okl_bytesToStr {x : Operand} {X Y e : TypeId} {O : Tags} {xs : List Int} {s : Bytes} {n : Nat} {z sz by_ z' sz' by_' z'' sz'' by_''} (h1 : Ty P X (.slice e) z sz by_) (h2 : Ty P e (.int .u8) z' sz' by_') (h3 : Ty P Y .string z'' sz'' by_'') {u : Value} (hxu : a.eval x = u) (hx : Rd (rInt .u8) O w u xs) (h : (toStr xs).run n = some s) :
    Ok P ⟨d, .convert X Y x, T, pos, aft, g⟩ a w (SP.isv (.string (str s))).holds := by
  obtain ⟨vs, s1, s2⟩ := hx
  unfold toStr at h
  split at h
  · rename_i hall
    have hs := Comp.run_pure h
    have e1 : vs = bv s := by
      have := RelL.closed.1 s2
      rw [this, ← hs]
      unfold bv
      rw [List.map_map]
      apply List.map_congr_left
      intro y hy
      have := List.all_eq_true.1 hall y hy
      simp only [Bool.and_eq_true, decide_eq_true_eq] at this
      simp only [packV, List.headD_cons, Function.comp]
      congr 1
      rw [UInt8.toNat_ofNat']
      omega
    rw [e1] at s1
    exact ok_bytesToStr h1 h2 h3 hxu s1
  · cases h
end ops

/-! ### writing -/
section tails
variable {P : Program} {a : Act} {w : World} {T : TypeId} {pos : String} {aft : Array Edge} {ops : Array Oper} {Q : Exit → Act → World → Prop} {rest : List Oper} {A : Nat → Prop}
/-- the ways of a call's own blocks -/
structure OkB (A : Nat → Prop) (w0 : World) (B : Nat → Prop) : Prop where
  sub : ∀ g, B g → A g
  new : ∀ g, w0.heap.size ≤ g → B g
theorem okB_self {A : Nat → Prop} {O0 O : Tags} {w0 w : World} (h : Base A O0 w0 O w) : OkB A w0 A := ⟨fun _ h => h, h.new⟩
theorem okB_fr {A : Nat → Prop} {O0 O : Tags} {w0 w : World} (h : Base A O0 w0 O w) : OkB A w0 (Fr w0) := ⟨h.new, fun _ h => h⟩
theorem base_appd {O0 O : Tags} {w0 w w' : World} {u u' : Value} (hB : Base A O0 w0 O w) (hO0 : OkO O0 w0) (hA : Appd w w' u u') (hb : ∀ g, u.ownBlock = some g → A g) {k : Nat} (hk : k ≠ 0) (hu : ∀ g, u'.ownBlock = some g → g < w'.heap.size) (ht : ∀ g, u.ownBlock = some g → O g = k) :
    Base A O0 w0 (tag O u'.ownBlock k) w' ∧ KX (some k) O w (tag O u'.ownBlock k) w' := by
  have hs := hB.size
  have hs2 := hA.by_.size
  have h1 : Base A O0 w0 O w' := ⟨hA.by_.os.trans hB.os, hA.by_.tape.trans hB.tape, hA.by_.output.trans hB.output, by omega, fun b hlt hnA => (hA.by_.block b (by omega) (fun e => hnA (hb b e.symm))).trans (hB.block b hlt hnA),
    fun b hb' => hB.ok b (by omega), hB.old, fun b _ ho => by
      by_cases hlt : b < w.heap.size
      · exact hB.zero b hlt ho
      · exact hO0 b (by omega), hB.new⟩
  refine ⟨h1.tag hk fun g hg => ⟨?_, hu g hg⟩, hs2, fun b hlt hbk => ?_⟩
  · rcases hA.at_ with h8 | h8
    · exact hb g (h8 ▸ hg)
    · exact hB.new g (by have := h8 g hg; omega)
  · have hne : u.ownBlock ≠ some b := fun e => hbk (by rw [ht b e])
    refine ⟨tag_ne fun e => ?_, hA.by_.block b hlt (Ne.symm hne)⟩
    rcases hA.at_ with h8 | h8
    · exact hne (h8 ▸ e)
    · have := h8 b e; omega
theorem l_append {x y : Operand} {t e E dst bytes k : Nat} {dd : TypeDesc} {z z' : Value} {sz by_ : Nat} {r : GR α} (hr : r.fits) (hE : r.sz = E + 1) (hT : Ty P t (.slice e) z sz by_) (he : Ty P e dd z' (E + 1) bytes) (hz : z'.cells.size = E + 1) (hby : bytes ≤ 131072)
    {O O0 : Tags} {w0 : World} (hO0 : OkO O0 w0) (hB : Base A O0 w0 O w) {u : Value} {xs : List α} {B : Nat → Prop} (hAB : OkB A w0 B) (hx : a.eval x = u) (hO : OwnL k r e B O w u xs) {u' : Value} {ys zs : List α} (hy : a.eval y = u') (hN : Rd r O w u' ys) {n : Nat} (happ : (app xs ys).run n = some zs) (hk : k ≠ 0)
    (hK : ∀ u2 w2 O2, OwnL k r e B O2 w2 u2 zs → Base A O0 w0 O2 w2 → KX (some k) O w O2 w2 → wpList P ops Q rest (a.put (some dst) u2) w2) : wpList P ops Q (⟨some dst, .call ⟨.builtin .append, #[x, y], #[t, t]⟩, T, pos, aft, none⟩ :: rest) a w := by
  obtain ⟨hl, hzs⟩ := run_app happ
  unfold LIM at hl
  have htag := hO.tagged
  have hge := hO.ge
  obtain ⟨vs, h1, h2, h3⟩ := hO
  obtain ⟨us, h4, h5⟩ := hN
  have hlen1 := h2.len
  have hlen2 := h5.len
  have hb : (vs.length + us.length) * bytes ≤ 1073741824 * 131072 := Nat.mul_le_mul (by omega) hby
  rw [hE] at h1 h4
  refine t_append hT he hz hx h1 hy h4 (h5.one hr) (by omega) (by omega) (Nat.zero_le _) fun u2 w2 h6 h7 => ?_
  obtain ⟨hB2, hkx⟩ := base_appd hB hO0 h7 (fun g hg => hAB.sub g (hge g hg).1) hk (fun g hg => h6.block_lt g hg) htag
  refine hK u2 w2 (tag O u2.ownBlock k) ⟨vs ++ us, by rw [hE]; exact h6, ?_, fun g hg => ⟨by rw [hg]; exact tag_same _ _ _, ?_⟩⟩ hB2 hkx
  · rw [← hzs]
    have k0 := hkx.keep (k := 0) (by simpa using hk.symm)
    exact (h2.mono k0).append (h5.mono k0)
  · rcases h7.at_ with h8 | h8
    · exact (hge g (h8 ▸ hg)).1
    · exact hAB.new g (by have := h8 g hg; have := hB.size; omega)
theorem okl_idxOwn {x i : Operand} {X e E k : Nat} {r : GR α} (hE : r.sz = E) {B : Nat → Prop} {O : Tags} {xs : List α} {u : Value} {kk : IntKind} {m : Int} {d : Option Tmp} {g : Option (Nat × Bool)} {z sz by_ dd z' by_'} (hT : Ty P X (.slice e) z sz by_) (he : Ty P e dd z' E by_') (hxu : a.eval x = u) (hO : OwnL k r e B O w u xs) (hi : a.eval i = .int kk m) (hm : 0 ≤ m ∧ m < xs.length) :
    Ok P ⟨d, .indexAddr X x i, T, pos, aft, g⟩ a w (SP.elt u (m.toNat * E)).holds := by
  obtain ⟨vs, h1, h2, h3⟩ := hO
  have := h2.len
  rw [hE] at h1
  exact ok_indexElt hT he hxu h1 hi (by omega : m = (m.toNat : Int)) (by omega)
theorem l_storeElt {x y : Operand} {X E k : Nat} {r : GR α} (hr : r.fits) (hE : r.sz = E) {O O0 : Tags} {w0 : World} (hO0 : OkO O0 w0) (hB : Base A O0 w0 O w) {B : Nat → Prop} (hAB : OkB A w0 B) {xs ys : List α} {u p v : Value} {m : Int} {vx : α} {dd z by_} (hT : Ty P X dd z E by_) (hx : a.eval x = p) (hp : EltOf u (m.toNat * E) p) (hO : OwnL k r X B O w u xs) (hy : a.eval y = v) (hv : r.v O w v vx) {n : Nat} (hupd : (upd xs m vx).run n = some ys) (hk : k ≠ 0)
    (hK : ∀ w', OwnL k r X B O w' u ys → Base A O0 w0 O w' → KX (some k) O w O w' → wpList P ops Q rest a w') : wpList P ops Q (⟨none, .store X x y, T, pos, aft, none⟩ :: rest) a w := by
  obtain ⟨hm, hys⟩ := run_upd hupd
  have hge := hO.ge
  have htag := hO.tagged
  obtain ⟨vs, h1, h2, h3⟩ := hO
  have hlen := h2.len
  rw [hE] at h1
  refine t_storeElt hT hx hp h1 hy (by rw [r.cells_size hr hv, hE]) (r.cells_one hr hv) (by omega) fun w' h4 h5 => ?_
  have hkx : KX (some k) O w O w' := ⟨h5.by_.size, fun b hb hbk => ⟨rfl, h5.by_.block b hb (fun e => hbk (by rw [htag b e.symm]))⟩⟩
  have k0 := hkx.keep (k := 0) (by simpa using hk.symm)
  have hs := hB.size
  have hs2 := h5.by_.size
  refine hK w' ⟨vs.set m.toNat v, by rw [hE]; exact h4, by rw [← hys]; exact (h2.mono k0).set _ (r.v_mono hv k0), h3⟩ ?_ hkx
  exact ⟨h5.by_.os.trans hB.os, h5.by_.tape.trans hB.tape, h5.by_.output.trans hB.output, by omega, fun b hb hnA => (h5.by_.block b (by omega) (fun e => hnA (hAB.sub b (hge b e.symm).1))).trans (hB.block b hb hnA),
    fun b hb' => hB.ok b (by omega), hB.old, fun b _ ho => by
      by_cases hlt : b < w.heap.size
      · exact hB.zero b hlt ho
      · exact hO0 b (by omega), hB.new⟩
/-- a store into a variable of the call's own -/
theorem l_store1 {x y : Operand} {X T' b off k : Nat} {O O0 : Tags} {w0 : World} (hO0 : OkO O0 w0) (hB : Base A O0 w0 O w) {B : Nat → Prop} (hAB : OkB A w0 B) {cs cs' : Array Value} {v : Value} {dd z by_} (hT : Ty P X dd z 1 by_) (hx : a.eval x = .pointer (some ⟨b, off, none⟩)) (hy : a.eval y = v) (hv : v.cells = #[v]) (h1 : v.oneCell' = true)
    (hO : OwnB k B O w b cs T') (ho : off < cs.size) (he : cs.setIfInBounds off v = cs')
    (hK : ∀ w', OwnB k B O w' b cs' T' → Base A O0 w0 O w' → KX (some k) O w O w' → wpList P ops Q rest a w') : wpList P ops Q (⟨none, .store X x y, T, pos, aft, none⟩ :: rest) a w :=
  t_store1 hT hx hy hv h1 hO.own ho fun w' h2 h3 => hK w' ⟨he ▸ h3, hO.ge, hO.tag⟩ (hB.but (hAB.sub _ hO.ge) h2 hO0) (KX.but h2 hO.tag)
/-- an operation that makes memory at most, at the end of a region -/
theorem l_ok {o : Oper} {φ : SP} {O O0 : Tags} {w0 : World} (hO0 : OkO O0 w0) (hB : Base A O0 w0 O w) (h : Ok P o a w φ.holds) (hg : o.guard = none) (hK : ∀ v w', Ext w w' → Base A O0 w0 O w' → φ.holds w' v → wpList P ops Q rest (a.put o.dst v) w') : wpList P ops Q (o :: rest) a w :=
  t_ok h hg fun v w' hE hv => hK v w' hE (hB.step hE hO0) hv
end tails
end Go.Lift
