/- Lifting: variables that are handed to be written; results in variables. No statement of the program stands here. -/
import Derived.Test.YtbkmnghnjajdmaaLiz
set_option linter.unusedVariables false
set_option linter.unusedSimpArgs false
namespace Go.Lift
open Go Go.RowKit Go.Eng
variable {α β γ δ ε : Type}
theorem _root_.Go.Eng.Ty.szr {P : Program} {T : TypeId} {dd : TypeDesc} {z : Value} {sz sz' by_ : Nat} (h : Ty P T dd z sz by_) (e : sz' = sz) : Ty P T dd z sz' by_ := by rw [e]; exact h
def cloneS (s : Bytes) : Comp Bytes := if s.length ≤ LIM then Comp.pure s else Comp.fail
theorem m_clone {P : Program} {f : FuncId} (hs : ∀ (s : ByteArray) (w : World), s.size ≤ 281474976710656 → Calls P f #[.string s] w fun e w' => e = .returned (.string s) ∧ Below w.heap.size w w') {O : Tags} {w : World} (_ : OkO O w) {s y : Bytes} {n : Nat} (h : (cloneS s).run n = some y) : Pure P f #[.string (str s)] w (SP.isv (.string (str y))).holds := by
  unfold cloneS at h; split at h
  · rename_i hl
    have := Comp.run_pure h; subst this
    refine Calls.mono (hs (str s) w (by rw [str_size]; unfold LIM at hl; omega)) ?_
    rintro e w' ⟨he, hb⟩
    exact ⟨_, he, hb, rfl⟩
  · cases h
theorem no_ft {p : Prop} (h : false = true) : p := by cases h
theorem splice_all {cs vs : List Value} (h : cs.length = vs.length) : (splice cs 0 vs).toArray = vs.toArray := by
  unfold splice; rw [List.take_zero, Nat.zero_add, List.drop_of_length_le (by omega)]; simp
theorem no_tf {b : Bool} {p : Prop} (h : b = true) (k : b = false) : p := by rw [h] at k; cases k
theorem KX.trans {j : Option Nat} {O O' O'' : Tags} {w w' w'' : World} (h : KX j O w O' w') (k : KX j O' w' O'' w'') : KX j O w O'' w'' :=
  ⟨Nat.le_trans h.1 k.1, fun b hb ho => by
    obtain ⟨h1, h2⟩ := h.2 b hb ho
    obtain ⟨h3, h4⟩ := k.2 b (Nat.lt_of_lt_of_le hb h.1) (by rw [h1]; exact ho)
    exact ⟨h3.trans h1, h4.trans h2⟩⟩
theorem KX.trans_same {j : Option Nat} {O O' O'' : Tags} {w w' w'' : World} (h : KX j O w O' w') (k : KX j O' w' O'' w'') : KX j O w O'' w'' := h.trans k
/-- a variable of the call's own, by what it reads as -/
def BoxO (k : Nat) (B : Nat → Prop) (O : Tags) (w : World) (b : Nat) (T : TypeId) (r : GR α) (x : α) : Prop := ∃ cs, OwnB k B O w b cs.toArray T ∧ r.rel O w cs x
theorem BoxO.kx {j : Option Nat} {k : Nat} {B : Nat → Prop} {O O' : Tags} {w w' : World} {b : Nat} {T : TypeId} {r : GR α} {x : α} (h : BoxO k B O w b T r x) (hX : KX j O w O' w') (h0 : some 0 ≠ j) (hk : some k ≠ j) : BoxO k B O' w' b T r x := by
  obtain ⟨cs, h1, h2⟩ := h
  exact ⟨cs, h1.kx hX hk, r.mono (hX.keep h0) h2⟩
theorem BoxO.ext {k : Nat} {B : Nat → Prop} {O : Tags} {w w' : World} {b : Nat} {T : TypeId} {r : GR α} {x : α} (h : BoxO k B O w b T r x) (hE : Ext w w') : BoxO k B O w' b T r x := by
  obtain ⟨cs, h1, h2⟩ := h
  exact ⟨cs, h1.ext hE, r.mono (Keep.ext hE) h2⟩
/-- a variable that a call is handed -/
def BoxA (r : GR α) (T : TypeId) (O : Tags) (w : World) (b : Nat) (x : α) : Prop := ∃ cs, Own w b cs.toArray T ∧ O b ≠ 0 ∧ r.rel O w cs x
theorem BoxO.arg {k : Nat} {B : Nat → Prop} {O : Tags} {w : World} {b : Nat} {T : TypeId} {r : GR α} {x : α} (h : BoxO k B O w b T r x) (hk : k ≠ 0) : BoxA r T O w b x := by
  obtain ⟨cs, h1, h2⟩ := h
  exact ⟨cs, h1.own, by rw [h1.tag]; exact hk, h2⟩
/-- what a call leaves that wrote into a variable that it was handed -/
def BioPost (r : GR α) (T : TypeId) (O : Tags) (w : World) (b : Nat) (y : α) (φ : SP) : Ending → World → Prop :=
  fun e w' => ∃ v cs, e = .returned v ∧ But b w w' ∧ Own w' b cs.toArray T ∧ r.rel O w' cs y ∧ φ.holds w' v
section
variable {P : Program} {a : Act} {w : World} {T : TypeId} {pos : String} {aft : Array Edge} {g0 : Option (Nat × Bool)} {K : Act → World → Prop} {Q : Exit → Act → World → Prop} {A : Nat → Prop} {ops : Array Oper} {rest : List Oper}
theorem pio_post {r : GR α} {k b : Nat} {T' : TypeId} {O O0 : Tags} {w0 : World} (hO0 : OkO O0 w0) (hB : Base A O0 w0 O w) {B : Nat → Prop} (hAB : OkB A w0 B) {x y : α} {φ : SP} (hOb : BoxO k B O w b T' r x) {e : Ending} {w2 : World} (h : BioPost r T' O w b y φ e w2) :
    ∃ v, e = .returned v ∧ BoxO k B O w2 b T' r y ∧ Base A O0 w0 O w2 ∧ KX (some k) O w O w2 ∧ φ.holds w2 v := by
  obtain ⟨v, cs, h1, h2, h3, h4, h5⟩ := h
  obtain ⟨cs0, h6, h7⟩ := hOb
  exact ⟨v, h1, ⟨cs, ⟨h3, h6.ge, h6.tag⟩, h4⟩, hB.but (hAB.sub _ h6.ge) h2 hO0, KX.but h2 h6.tag, h5⟩
theorem x_pio {f : FuncId} {xs : Array Operand} {ts : Array TypeId} {args : Array Value} {d : Option Tmp} {r : GR α} {k b : Nat} {T' : TypeId} {O O0 : Tags} {w0 : World} (hO0 : OkO O0 w0) (hB : Base A O0 w0 O w) {B : Nat → Prop} (hAB : OkB A w0 B) (hf : FnOk P f) (ha : xs.map a.eval = args) {x y : α} {φ : SP}
    (h : Calls P f args w (BioPost r T' O w b y φ)) (hOb : BoxO k B O w b T' r x) (hK : ∀ v w2, BoxO k B O w2 b T' r y → Base A O0 w0 O w2 → KX (some k) O w O w2 → φ.holds w2 v → K (a.put d v) w2) : Oper.wp P ⟨d, .call ⟨.value (.func f), xs, ts⟩, T, pos, aft, g0⟩ a w K Q :=
  x_calls hf ha h fun e w2 he => by
    obtain ⟨v, h1, h2, h3, h4, h5⟩ := pio_post hO0 hB hAB hOb he
    exact ⟨v, h1, hK v w2 h2 h3 h4 h5⟩
theorem l_pio {f : FuncId} {xs : Array Operand} {ts : Array TypeId} {args : Array Value} {d : Option Tmp} {r : GR α} {k b : Nat} {T' : TypeId} {O O0 : Tags} {w0 : World} (hO0 : OkO O0 w0) (hB : Base A O0 w0 O w) {B : Nat → Prop} (hAB : OkB A w0 B) (hf : FnOk P f) (ha : xs.map a.eval = args) {x y : α} {φ : SP}
    (h : Calls P f args w (BioPost r T' O w b y φ)) (hOb : BoxO k B O w b T' r x) (hK : ∀ v w2, BoxO k B O w2 b T' r y → Base A O0 w0 O w2 → KX (some k) O w O w2 → φ.holds w2 v → wpList P ops Q rest (a.put d v) w2) : wpList P ops Q (⟨d, .call ⟨.value (.func f), xs, ts⟩, T, pos, aft, none⟩ :: rest) a w :=
  t_calls hf ha h fun e w2 he => by
    obtain ⟨v, h1, h2, h3, h4, h5⟩ := pio_post hO0 hB hAB hOb he
    exact ⟨v, h1, hK v w2 h2 h3 h4 h5⟩
end
/-- a call begins that was handed a variable -/
theorem bioStart {r : GR α} {T : TypeId} {O : Tags} {w : World} {b : Nat} {x : α} (hO : OkO O w) (h : BoxA r T O w b x) :
    ∃ O' cs, Base (FrB w b) O w O' w ∧ OwnB 1 (FrB w b) O' w b cs.toArray T ∧ r.rel O' w cs x ∧ Keep 0 O w O' w := by
  obtain ⟨cs, h1, h2, h3⟩ := h
  have hk : Keep 0 O w (tag O (some b) 1) w := ⟨Nat.le_refl _, fun c _ hc => ⟨by rw [tag_ne (fun e => by cases e; exact h2 hc)]; exact hc, rfl⟩⟩
  refine ⟨tag O (some b) 1, cs, ⟨rfl, rfl, rfl, Nat.le_refl _, fun _ _ _ => rfl, hO.tag fun g hg => by cases hg; exact h1.lt, fun c _ hc => tag_ne (fun e => by cases e; exact hc (.inr rfl)), fun c _ hz => ?_, fun _ h => .inl h⟩, ⟨h1, .inr rfl, tag_same _ _ _⟩, r.mono hk h3, hk⟩
  by_cases e : some b = some c
  · cases e; rw [tag_same] at hz; cases hz
  · rw [tag_ne e] at hz; exact hz
theorem bio_but {O O' : Tags} {w0 w : World} {b : Nat} (hB : Base (FrB w0 b) O w0 O' w) : But b w0 w :=
  ⟨hB.os, hB.tape, hB.output, hB.size, fun c hc hcb => hB.block c hc (fun e => by rcases e with e | e <;> omega)⟩
theorem Base.rel {A : Nat → Prop} {O Oc : Tags} {w0 w : World} (h : Base A O w0 Oc w) (r : GR α) {cs : List Value} {x : α} (hr : r.rel Oc w cs x) : r.rel O w cs x := r.mono ⟨Nat.le_refl _, fun b hb ho => ⟨h.zero b hb ho, rfl⟩⟩ hr
theorem bioEnd {r : GR α} {T : TypeId} {O O' : Tags} {w0 w : World} {b k : Nat} {cs : List Value} {y : α} {φ : SP} {v : Value} (hB : Base (FrB w0 b) O w0 O' w) (hb : OwnB k (FrB w0 b) O' w b cs.toArray T) (hr : r.rel O' w cs y) (hφ : φ.holds w v) : BioPost r T O w0 b y φ (.returned v) w :=
  ⟨v, cs, rfl, bio_but hB, hb.own, hB.rel r hr, hφ⟩
theorem bio_of_wp {P : Program} {f : FuncId} {fn : Func} {c : Code} {args : Array Value} {w : World} {R : Ending → World → Prop} (hf : P.funcs[f]? = some fn) (hb : fn.body = some c) (N : Nat) (hN : fn.ntmps = N) (hle : args.size ≤ N)
    (h : ∀ a, a.fit N → (∀ i v, args[i]? = some v → a.get i = v) → c.wp P (bodyPost P fn R) a w) : Calls P f args w R := by
  refine calls_of_wp hf hb ?_
  rw [hN]
  exact h _ (fit_start args N hle) fun i v hv => get_start hv
/-! ### results -/
inductive ResAt (P : Program) (a : Act) (w : World) : ResultVar → Value → Prop
  | tmp {t : Nat} {v : Value} (h : a.get t = v) : ResAt P a w (.tmp t) v
  | agg {t X b X' : Nat} {cs : Array Value} {dd z sz by_} (h : a.get t = .pointer (some ⟨b, 0, none⟩)) (hT : Ty P X dd z sz by_) (hd : isAggD dd = true) (hs : cs.size = sz) (hO : Own w b cs X') : ResAt P a w (.cell t X) (.agg cs)
  | one {t X b X' : Nat} {v : Value} {dd z sz by_} (h : a.get t = .pointer (some ⟨b, 0, none⟩)) (hT : Ty P X dd z sz by_) (hd : isAggD dd = false) (hO : Own w b #[v] X') : ResAt P a w (.cell t X) v
def resRun (a : Act) : ResultVar → Sem Value
  | .tmp t => pure (a.tmps.getD t undef)
  | .cell c t => do loadVar t (← asAddr (a.tmps.getD c undef))
theorem ResAt.run {P : Program} {a : Act} {w : World} {r : ResultVar} {v : Value} (h : ResAt P a w r v) : (resRun a r).run P w = .ok v w := by
  cases h with
  | tmp h =>
    have e1 : a.tmps.getD _ undef = v := h
    simp only [Array.getD_eq_getD_getElem?] at e1
    simp [resRun, e1]
  | @agg t X b X' cs dd z sz by_ h hT hd hs hO =>
    subst hs
    have e1 : a.tmps.getD t undef = .pointer (some ⟨b, 0, none⟩) := h
    simp only [Array.getD_eq_getD_getElem?] at e1
    simp [resRun, e1, asAddr, loadVar, hT.run_agg, hd, hT.run_size, _root_.Go.Eng.run_loadCells (P := P) (w := w) (b := b) (off := 0) (cs := cs) (fun j _ => by rw [hO.cell]; simp)]
  | @one t X b X' v dd z sz by_ h hT hd hO =>
    have e1 : a.tmps.getD t undef = .pointer (some ⟨b, 0, none⟩) := h
    simp only [Array.getD_eq_getD_getElem?] at e1
    have hc : w.cell? ⟨b, 0, none⟩ = some v := by rw [hO.cell]; rfl
    simp [resRun, e1, asAddr, loadVar, hT.run_agg, hd, hc]
theorem results_eq (fn : Func) (a : Act) : results fn a.tmps = (do let vs ← fn.results.mapM (resRun a); pure (if h : vs.size = 1 then vs[0] else .tuple vs)) := by
  unfold results
  congr 1
theorem retG0 {P : Program} {fn : Func} {R : Ending → World → Prop} {a : Act} {w : World} {N : Nat} (hr : fn.results = #[]) (hA : a.fit N) (h : R (.returned (.tuple #[])) w) : bodyPost P fn R .ret a w := ⟨hA.defers, .tuple #[], by simp [results, hr], h⟩
theorem retG0n {P : Program} {fn : Func} {R : Ending → World → Prop} {a : Act} {w : World} {N : Nat} (hr : fn.results = #[]) (hA : a.fit N) (h : R (.returned (.tuple #[])) w) : bodyPost P fn R .normal a w := ⟨hA.defers, .tuple #[], by simp [results, hr], h⟩
theorem retG1 {P : Program} {fn : Func} {R : Ending → World → Prop} {a : Act} {w : World} {N : Nat} {r : ResultVar} {v : Value} (hr : fn.results = #[r]) (hA : a.fit N) (hv : ResAt P a w r v) (h : R (.returned v) w) : bodyPost P fn R .ret a w :=
  ⟨hA.defers, v, by rw [results_eq, hr]; simp [hv.run], h⟩
theorem retG2 {P : Program} {fn : Func} {R : Ending → World → Prop} {a : Act} {w : World} {N : Nat} {r1 r2 : ResultVar} {v1 v2 : Value} (hr : fn.results = #[r1, r2]) (hA : a.fit N) (h1 : ResAt P a w r1 v1) (h2 : ResAt P a w r2 v2) (h : R (.returned (.tuple #[v1, v2])) w) : bodyPost P fn R .ret a w :=
  ⟨hA.defers, .tuple #[v1, v2], by rw [results_eq, hr]; simp [h1.run, h2.run], h⟩
theorem retG3 {P : Program} {fn : Func} {R : Ending → World → Prop} {a : Act} {w : World} {N : Nat} {r1 r2 r3 : ResultVar} {v1 v2 v3 : Value} (hr : fn.results = #[r1, r2, r3]) (hA : a.fit N) (h1 : ResAt P a w r1 v1) (h2 : ResAt P a w r2 v2) (h3 : ResAt P a w r3 v3) (h : R (.returned (.tuple #[v1, v2, v3])) w) : bodyPost P fn R .ret a w :=
  ⟨hA.defers, .tuple #[v1, v2, v3], by rw [results_eq, hr]; simp [h1.run, h2.run, h3.run], h⟩
theorem retG4 {P : Program} {fn : Func} {R : Ending → World → Prop} {a : Act} {w : World} {N : Nat} {r1 r2 r3 r4 : ResultVar} {v1 v2 v3 v4 : Value} (hr : fn.results = #[r1, r2, r3, r4]) (hA : a.fit N) (h1 : ResAt P a w r1 v1) (h2 : ResAt P a w r2 v2) (h3 : ResAt P a w r3 v3) (h4 : ResAt P a w r4 v4) (h : R (.returned (.tuple #[v1, v2, v3, v4])) w) : bodyPost P fn R .ret a w :=
  ⟨hA.defers, .tuple #[v1, v2, v3, v4], by rw [results_eq, hr]; simp [h1.run, h2.run, h3.run, h4.run], h⟩
theorem fieldsOf_eq {P : Program} {T : TypeId} {fs : Array Field} (h : P.underlying T = some (.struct fs)) : P.fieldsOf T = fs := by unfold Program.fieldsOf; rw [h]
theorem eqr_structT {P : Program} {T : TypeId} {r : GR γ} [DecidableEq γ] {D : Nat} {z sz by_} {fs : Array Field} {b : γ → γ → Bool} (hT : Ty P T (.struct fs) z sz by_) (ha : r.agg = true) (hs : r.sz = sz) (hp : P.stoodInHeld T = false) (h : EqFs P r D fs.toList b) (hb : ∀ x y, b x y = decide (x = y)) : EqR P T r (D + 1) :=
  eqr_struct hT rfl ha hs (by rw [fieldsOf_eq hT.u]; exact hT.u) hp (by rw [fieldsOf_eq hT.u]) h hb
/-- a slice as an array -/
theorem okl_arrAt {P : Program} {a : Act} {w : World} {d : Option Tmp} {T : TypeId} {pos : String} {aft : Array Edge} {g : Option (Nat × Bool)} {x : Operand} {X e n k : Nat} {r : GR α} (hr : r.fits) (hsz : r.sz = k) {f : α → List Value} {hl ho} {O : Tags} {ys : List α} {xs : Vector α n} (hrf : ∀ O w y x, r.v O w y x → y = packV r.agg (f x)) (hrf' : ∀ O w x, r.rel O w (f x) x) (hn : 0 < n) (hs' : 0 < (rVec n k f hl ho).sz) {nf : Nat} {z sz by_} (hT : Ty P X (.array n e) z sz by_) {u : Value} (hu : a.eval x = u) (hx : (rSl r).v O w u ys) (h : (toVec n ys).run nf = some xs) :
    Ok P ⟨d, .sliceToArrayPointer X x, T, pos, aft, g⟩ a w (SP.ptrz (rVec n k f hl ho) O xs hs' (fun h => by cases h)).holds := by
  obtain ⟨hle, hxs⟩ := run_toVec h
  obtain ⟨vs, ⟨p, cap, h1, h2, h3, h4⟩, h5, h6⟩ := rSl_v.1 hx
  have hlen := h5.len
  have hne : vs ≠ [] := fun e => by rw [e] at hlen; simp at hlen; omega
  rcases h4 with h4 | ⟨b, off, hp, hc⟩
  · exact absurd h4 hne
  have hb := h6 hne b (by rw [h1, hp]; rfl)
  refine ok_run (v := .pointer (some ⟨b, off, none⟩)) (w' := w) ?_ (Ext.refl w) ⟨b, off, .agg (cellsA f xs).toArray, rfl, hb.2, ⟨_, rfl, rfl⟩, fun j hj => ?_⟩
  · have : ¬ vs.length < n := by omega
    rw [h1, hp] at hu
    simp [execOp, Instr.arrayAt, hu, hT.run_u, this]
  · have hk : 0 < k := by
      rcases Nat.eq_zero_or_pos k with hk | hk
      · subst hk
        simp only [Value.cells, List.size_toArray, cellsA_len hl] at hj
        omega
      · exact hk
    simp only [Value.cells, List.size_toArray, cellsA_len hl, List.getElem?_toArray] at hj ⊢
    have hi : j / k < n := Nat.div_lt_of_lt_mul (by rw [Nat.mul_comm]; exact hj)
    have hj' : j = j / k * k + j % k := by rw [Nat.mul_comm]; exact (Nat.div_add_mod j k).symm
    have hm : j % k < k := Nat.mod_lt _ hk
    obtain ⟨y, hy⟩ : ∃ y, ys[j / k]? = some y := ⟨_, List.getElem?_eq_getElem (by omega)⟩
    obtain ⟨v, hv, hvr⟩ := h5.get _ _ hy
    have hvf := hrf _ _ _ _ hvr
    have hcp : (packV r.agg (f y)).cells = (f y).toArray := cells_pack (fun ha => by rw [r.len (hrf' (fun _ => 0) w y), hr ha]) (r.one (hrf' (fun _ => 0) w y))
    have hcell := hc (j / k) v hv (j % k) (by rw [hsz]; exact hm)
    rw [hsz, ← hj', hvf, hcp, List.getElem?_toArray] at hcell
    rw [hcell]
    have hxy : xs.toList[j / k]? = some y := by rw [hxs, List.getElem?_take, if_pos hi]; exact hy
    obtain ⟨c1, c2, e1, e2, _⟩ := flatMap_split hl xs.toList (j / k) y hxy
    unfold cellsA
    rw [e1]
    conv => rhs; rw [hj']
    rw [List.getElem?_append_right (by omega), e2, show j / k * k + j % k - j / k * k = j % k by omega, List.getElem?_append_left (by rw [hl]; exact hm)]
theorem arr_spl {f : α → List Value} {n k : Nat} {l1 l2 : List Value} {x z : Vector α n} {i : Int} {y : α} {m : Nat} (hf : ∀ x, (f x).length = k) (h : (vupd x i y).run m = some z) {off : Nat} (ho : l1.length = off) {cs : List Value} {cs' : Array Value} (h1 : cs = l1 ++ (cellsA f x ++ l2)) (h2 : cs' = (l1 ++ (cellsA f z ++ l2)).toArray) :
    (splice cs (off + i.toNat * k) (f y)).toArray = cs' := by rw [h1, h2, splice_arr hf h ho]
theorem arr_bnd {f : α → List Value} {n k : Nat} {l1 l2 : List Value} {x : Vector α n} {i : Int} {y : α} (hf : ∀ x, (f x).length = k) (h : 0 ≤ i ∧ i < n) {off : Nat} (ho : l1.length = off) {cs : Array Value} (h1 : cs.toList = l1 ++ (cellsA f x ++ l2)) : off + i.toNat * k + (f y).length ≤ cs.size := by
  have := arr_bound (l2 := l2) hf (x := x) h ho (y := y)
  rw [← h1] at this
  simpa using this
section
variable {P : Program} {a : Act} {w : World} {T : TypeId} {pos : String} {aft : Array Edge} {g : Option (Nat × Bool)} {d : Option Tmp}
theorem okl_eqlNilP {x : Operand} {X E Y : TypeId} {z sz by_} {ad : Addr} (hT : Ty P X (.pointer E) z sz by_) (hx : a.eval x = .pointer (some ad)) :
    Ok P ⟨d, .binOp .eql X x (.const (.pointer none)) Y, T, pos, aft, g⟩ a w (SP.isv (.bool false)).holds := by
  refine ok_pure ?_
  have h2 : a.eval (.const (.pointer none)) = .pointer none := rfl
  have hp : P.underlying X = some (.pointer (P.pointee X)) := by
    have : P.pointee X = E := by unfold Program.pointee; rw [hT.u]
    rw [this]; exact hT.u
  have := run_eql_pointer_nil (P := P) (w := w) X (some ad) hp
  simp [execOp, eqGuard, hx, h2, this]
theorem okl_neqNilP {x : Operand} {X E Y : TypeId} {z sz by_} {ad : Addr} (hT : Ty P X (.pointer E) z sz by_) (hx : a.eval x = .pointer (some ad)) :
    Ok P ⟨d, .binOp .neq X x (.const (.pointer none)) Y, T, pos, aft, g⟩ a w (SP.isv (.bool true)).holds := by
  refine ok_pure ?_
  have h2 : a.eval (.const (.pointer none)) = .pointer none := rfl
  have hp : P.underlying X = some (.pointer (P.pointee X)) := by
    have : P.pointee X = E := by unfold Program.pointee; rw [hT.u]
    rw [this]; exact hT.u
  have := run_neq_pointer_nil (P := P) (w := w) X (some ad) hp
  simp [execOp, eqGuard, hx, h2, this]
end
theorem okl_buildArr {P : Program} {a : Act} {w : World} {d : Option Tmp} {T : TypeId} {pos : String} {aft : Array Edge} {g : Option (Nat × Bool)} {X e n k : Nat} {z sz by_ dd z' by_'} (hT : Ty P X (.array n e) z sz by_) (he : Ty P e dd z' k by_') {parts : Array (Nat × Operand)} {vals : List (Nat × Value)} (hv : parts.toList.map (fun p => (p.1, a.eval p.2)) = vals) {zc out : List Value} (hz : z.cells = zc.toArray) (hf : Fill (fun i => some (i * k, k)) zc vals out) {v : Value} (hev : .agg out.toArray = v) :
    Ok P ⟨d, .build X parts, T, pos, aft, g⟩ a w (SP.isv v).holds := by
  subst hev
  refine ok_pure ?_
  have e1 : (parts.map fun (i, x) => (i, a.eval x)).toList = vals := by rw [← hv]; simp
  simp only [execOp, Instr.build, Sem.run_bind, hT.run_zero, hT.run_u, Result.andThen, he.run_size, e1, hf.run z.cells (by rw [hz])]
  simp
/-- one cell, by what it reads as -/
theorem rel_one {r : GR α} {O : Tags} {w : World} {cs : List Value} {x : α} (h : r.rel O w cs x) (ha : r.agg = false) (hs : r.sz = 1) : ∃ u, cs = [u] ∧ r.v O w u x := by
  have hl := r.len h
  rw [hs] at hl
  match cs, hl with
  | [c], _ => exact ⟨c, rfl, [c], h, by rw [ha]; rfl⟩
end Go.Lift
