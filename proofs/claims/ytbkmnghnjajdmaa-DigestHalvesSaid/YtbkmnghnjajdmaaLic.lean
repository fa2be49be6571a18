/- Lifting, third part: operations over what reads as plain data. No statement of the program stands here. -/
import Derived.Test.YtbkmnghnjajdmaaLib
set_option linter.unusedVariables false
set_option linter.unusedSimpArgs false
namespace Go.Lift
open Go Go.RowKit Go.Eng
variable {α β γ δ : Type}

/-! ### what an operation leaves -/
abbrev SP.vl (r : GR α) (O : Tags) (x : α) : SP := .pr (fun w v => r.v O w v x) (fun _ _ _ hE h => r.v_ext h hE)
/-- a pointer to x, where nothing turns -/
abbrev SP.ptr (r : GR α) (O : Tags) (x : α) : SP := .pr (fun w p => ∃ v, PtrTo w p v ∧ r.v O w v x) (fun _ _ _ hE ⟨v, h1, h2⟩ => ⟨v, h1.ext hE, r.v_ext h2 hE⟩)
abbrev SP.rd (r : GR α) (O : Tags) (xs : List α) : SP := .pr (fun w u => Rd r O w u xs) (fun _ _ _ hE h => h.ext hE)
abbrev SP.ownr (r : GR α) (T B : Nat) (O : Tags) (xs : List α) : SP := .pr (fun w u => OwnR r T B O w u xs) (fun _ _ _ hE h => h.ext hE)
abbrev SP.tup2 (φ ψ : SP) : SP := .pr (fun w v => ∃ a b, v = .tuple #[a, b] ∧ φ.holds w a ∧ ψ.holds w b) (fun _ _ _ hE ⟨a, b, h, h1, h2⟩ => ⟨a, b, h, φ.stable hE h1, ψ.stable hE h2⟩)
abbrev SP.tup3 (φ ψ χ : SP) : SP := .pr (fun w v => ∃ a b c, v = .tuple #[a, b, c] ∧ φ.holds w a ∧ ψ.holds w b ∧ χ.holds w c) (fun _ _ _ hE ⟨a, b, c, h, h1, h2, h3⟩ => ⟨a, b, c, h, φ.stable hE h1, ψ.stable hE h2, χ.stable hE h3⟩)
abbrev SP.tup4 (φ ψ χ ω : SP) : SP := .pr (fun w v => ∃ a b c e, v = .tuple #[a, b, c, e] ∧ φ.holds w a ∧ ψ.holds w b ∧ χ.holds w c ∧ ω.holds w e) (fun _ _ _ hE ⟨a, b, c, e, h, h1, h2, h3, h4⟩ => ⟨a, b, c, e, h, φ.stable hE h1, ψ.stable hE h2, χ.stable hE h3, ω.stable hE h4⟩)
abbrev SP.unit : SP := .pr (fun _ _ => True) (fun _ _ _ _ h => h)

/-! ### partial operations on plain data -/
def LIM : Nat := 1073741824
def idx (xs : List α) (i : Int) : Comp α := if 0 ≤ i then Comp.ofOpt xs[i.toNat]? else Comp.fail
theorem run_idx {xs : List α} {i : Int} {n : Nat} {x : α} (h : (idx xs i).run n = some x) : 0 ≤ i ∧ xs[i.toNat]? = some x := by
  unfold idx at h; split at h
  · exact ⟨‹_›, Comp.run_ofOpt h⟩
  · cases h
/-- xs[l:h] -/
def sub (xs : List α) (l h : Int) : Comp (List α) := if 0 ≤ l ∧ l ≤ h ∧ h ≤ xs.length then Comp.pure ((xs.take h.toNat).drop l.toNat) else Comp.fail
theorem run_sub {xs ys : List α} {l h : Int} {n : Nat} (hr : (sub xs l h).run n = some ys) : (0 ≤ l ∧ l ≤ h ∧ h ≤ xs.length) ∧ (xs.take h.toNat).drop l.toNat = ys := by
  unfold sub at hr; split at hr
  · exact ⟨‹_›, Comp.run_pure hr⟩
  · cases hr
def app (xs ys : List α) : Comp (List α) := if xs.length + ys.length ≤ LIM then Comp.pure (xs ++ ys) else Comp.fail
theorem run_app {xs ys zs : List α} {n : Nat} (h : (app xs ys).run n = some zs) : xs.length + ys.length ≤ LIM ∧ xs ++ ys = zs := by
  unfold app at h; split at h
  · exact ⟨‹_›, Comp.run_pure h⟩
  · cases h
def upd (xs : List α) (i : Int) (x : α) : Comp (List α) := if 0 ≤ i ∧ i < xs.length then Comp.pure (xs.set i.toNat x) else Comp.fail
theorem run_upd {xs ys : List α} {i : Int} {x : α} {n : Nat} (h : (upd xs i x).run n = some ys) : (0 ≤ i ∧ i < xs.length) ∧ xs.set i.toNat x = ys := by
  unfold upd at h; split at h
  · exact ⟨‹_›, Comp.run_pure h⟩
  · cases h
def mk (n : Int) (z : α) : Comp (List α) := if 0 ≤ n ∧ n ≤ LIM then Comp.pure (List.replicate n.toNat z) else Comp.fail
theorem run_mk {n : Int} {z : α} {ys : List α} {m : Nat} (h : (mk n z).run m = some ys) : (0 ≤ n ∧ n ≤ LIM) ∧ List.replicate n.toNat z = ys := by
  unfold mk at h; split at h
  · exact ⟨‹_›, Comp.run_pure h⟩
  · cases h
def strIdx (s : Bytes) (i : Int) : Comp Int := (idx s i).bind fun b => Comp.pure (b.toNat : Int)
def quo (k : IntKind) (a b : Int) : Comp Int := if b = 0 then Comp.fail else Comp.pure (k.wrap (a.tdiv b))
def rem (a b : Int) : Comp Int := if b = 0 then Comp.fail else Comp.pure (a.tmod b)
theorem run_quo {k : IntKind} {a b c : Int} {n : Nat} (h : (quo k a b).run n = some c) : b ≠ 0 ∧ k.wrap (a.tdiv b) = c := by
  unfold quo at h; split at h
  · cases h
  · exact ⟨‹_›, Comp.run_pure h⟩
theorem run_rem {a b c : Int} {n : Nat} (h : (rem a b).run n = some c) : b ≠ 0 ∧ a.tmod b = c := by
  unfold rem at h; split at h
  · cases h
  · exact ⟨‹_›, Comp.run_pure h⟩
def shlF (k : IntKind) (a n : Int) : Int := k.wrap (a * 2 ^ (min n.toNat k.bits))
def shrF (k : IntKind) (a n : Int) : Int := a.fdiv (2 ^ (min n.toNat k.bits))
def nonneg (n : Int) : Comp Unit := if 0 ≤ n then Comp.pure () else Comp.fail
theorem run_nonneg {n : Int} {m : Nat} {u : Unit} (h : (nonneg n).run m = some u) : 0 ≤ n := by
  unfold nonneg at h; split at h
  · assumption
  · cases h
def cat (s t : Bytes) : Comp Bytes := if s.length + t.length ≤ 1099511627776 then Comp.pure (s ++ t) else Comp.fail
theorem run_cat {s t u : Bytes} {n : Nat} (h : (cat s t).run n = some u) : s.length + t.length ≤ 1099511627776 ∧ s ++ t = u := by
  unfold cat at h; split at h
  · exact ⟨‹_›, Comp.run_pure h⟩
  · cases h
def andB (k : IntKind) (a b : Int) : Int := k.wrap ((BitVec.ofInt k.bits a &&& BitVec.ofInt k.bits b).toNat : Int)
def orB (k : IntKind) (a b : Int) : Int := k.wrap ((BitVec.ofInt k.bits a ||| BitVec.ofInt k.bits b).toNat : Int)
def xorB (k : IntKind) (a b : Int) : Int := k.wrap ((BitVec.ofInt k.bits a ^^^ BitVec.ofInt k.bits b).toNat : Int)
def andNotB (k : IntKind) (a b : Int) : Int := k.wrap ((BitVec.ofInt k.bits a &&& ~~~ BitVec.ofInt k.bits b).toNat : Int)
def ofStr (s : Bytes) : List Int := s.map fun b => (b.toNat : Int)
def toStr (xs : List Int) : Comp Bytes := if xs.all (fun x => decide (0 ≤ x) && decide (x < 256)) then Comp.pure (xs.map fun x => UInt8.ofNat x.toNat) else Comp.fail

section ops
variable {P : Program} {a : Act} {w : World} {d : Option Tmp} {T : TypeId} {pos : String} {aft : Array Edge} {g : Option (Nat × Bool)}
theorem okb_and {x y : Operand} {X Y : TypeId} {k : IntKind} {m n : Int} (hx : a.eval x = .int k m) (hy : a.eval y = .int k n) : Ok P ⟨d, .binOp .and X x y Y, T, pos, aft, g⟩ a w (SP.isv (.int k (andB k m n))).holds := ok_bit hx hy (.inl rfl) fun _ => rfl
theorem okb_or {x y : Operand} {X Y : TypeId} {k : IntKind} {m n : Int} (hx : a.eval x = .int k m) (hy : a.eval y = .int k n) : Ok P ⟨d, .binOp .or X x y Y, T, pos, aft, g⟩ a w (SP.isv (.int k (orB k m n))).holds := ok_bit hx hy (.inr (.inl rfl)) fun _ => rfl
theorem okb_xor {x y : Operand} {X Y : TypeId} {k : IntKind} {m n : Int} (hx : a.eval x = .int k m) (hy : a.eval y = .int k n) : Ok P ⟨d, .binOp .xor X x y Y, T, pos, aft, g⟩ a w (SP.isv (.int k (xorB k m n))).holds := ok_bit hx hy (.inr (.inr (.inl rfl))) fun _ => rfl
theorem okb_andNot {x y : Operand} {X Y : TypeId} {k : IntKind} {m n : Int} (hx : a.eval x = .int k m) (hy : a.eval y = .int k n) : Ok P ⟨d, .binOp .andNot X x y Y, T, pos, aft, g⟩ a w (SP.isv (.int k (andNotB k m n))).holds := ok_bit hx hy (.inr (.inr (.inr rfl))) fun _ => rfl
theorem okl_shr {x y : Operand} {X Y : TypeId} {k k' : IntKind} {m n : Int} (hx : a.eval x = .int k m) (hy : a.eval y = .int k' n) (h0 : 0 ≤ n) : Ok P ⟨d, .binOp .shr X x y Y, T, pos, aft, g⟩ a w (SP.isv (.int k (shrF k m n))).holds := ok_shr hx hy h0
theorem okl_shl {x y : Operand} {X Y : TypeId} {k k' : IntKind} {m n : Int} (hx : a.eval x = .int k m) (hy : a.eval y = .int k' n) (h0 : 0 ≤ n) : Ok P ⟨d, .binOp .shl X x y Y, T, pos, aft, g⟩ a w (SP.isv (.int k (shlF k m n))).holds := ok_shl hx hy h0
theorem okl_pickI {c x y : Operand} {k : IntKind} {b : Bool} {p q : Int} (hc : a.eval c = .bool b) (hx : b = true → a.eval x = .int k p) (hy : b = false → a.eval y = .int k q) :
    Ok P ⟨d, .pick c x y, T, pos, aft, g⟩ a w (SP.isv (.int k (bif b then p else q))).holds := by
  refine ok_pure ?_
  cases b <;> simp [execOp, hc, asBool, hx, hy]
theorem okl_max {x y : Operand} {X Y : TypeId} {k : IntKind} {m n : Int} (hx : a.eval x = .int k m) (hy : a.eval y = .int k n) :
    Ok P ⟨d, .call ⟨.builtin .max, #[x, y], #[X, Y]⟩, T, pos, aft, g⟩ a w (SP.isv (.int k (max m n))).holds := ok_pure (by
      have : (if n > m then n else m) = max m n := by rw [Int.max_def]; split <;> split <;> omega
      simp [execOp, resolve, invoke, builtin, hx, hy, Builtin.max_, Builtin.max2, this])
/-! strings -/
theorem str_eq (s t : Bytes) : decide (str s = str t) = decide (s = t) := by
  by_cases h : s = t
  · subst h; simp
  · rw [decide_eq_false h, decide_eq_false (fun e => h (str_inj.1 e))]
theorem okl_eqlS {x y : Operand} {X Y : TypeId} {s t : Bytes} (hx : a.eval x = .string (str s)) (hy : a.eval y = .string (str t)) :
    Ok P ⟨d, .binOp .eql X x y Y, T, pos, aft, g⟩ a w (SP.isv (.bool (decide (s = t)))).holds := by
  have := ok_eqlS (P := P) (w := w) (d := d) (T := T) (pos := pos) (aft := aft) (g := g) (X := X) (Y := Y) hx hy
  rwa [str_eq] at this
theorem okl_neqS {x y : Operand} {X Y : TypeId} {s t : Bytes} (hx : a.eval x = .string (str s)) (hy : a.eval y = .string (str t)) :
    Ok P ⟨d, .binOp .neq X x y Y, T, pos, aft, g⟩ a w (SP.isv (.bool (decide (s ≠ t)))).holds := by
  have := ok_neqS (P := P) (w := w) (d := d) (T := T) (pos := pos) (aft := aft) (g := g) (X := X) (Y := Y) hx hy
  have e : decide (str s ≠ str t) = decide (s ≠ t) := by
    by_cases h : s = t
    · subst h; simp
    · simp [h, str_inj]
  rwa [e] at this
theorem okl_addS {x y : Operand} {X Y : TypeId} {s t u : Bytes} {n : Nat} (hx : a.eval x = .string (str s)) (hy : a.eval y = .string (str t)) (h : (cat s t).run n = some u) :
    Ok P ⟨d, .binOp .add X x y Y, T, pos, aft, g⟩ a w (SP.isv (.string (str u))).holds := by
  obtain ⟨h1, h2⟩ := run_cat h
  have := ok_addS (P := P) (w := w) (d := d) (T := T) (pos := pos) (aft := aft) (g := g) (X := X) (Y := Y) hx hy (by rw [str_size, str_size]; omega)
  rwa [str_append, h2] at this
theorem okl_lenS {x : Operand} {X : TypeId} {s : Bytes} {z sz by_} (hT : Ty P X .string z sz by_) (hx : a.eval x = .string (str s)) :
    Ok P ⟨d, .call ⟨.builtin .len, #[x], #[X]⟩, T, pos, aft, g⟩ a w (SP.isv (.int .i64 (s.length : Int))).holds := ok_lenS hT hx
theorem okl_indexS {x i : Operand} {X : TypeId} {s : Bytes} {m : Int} {y : Int} {n : Nat} {k : IntKind} {z sz by_} (hT : Ty P X .string z sz by_) (hx : a.eval x = .string (str s)) (hi : a.eval i = .int k m) (h : (strIdx s m).run n = some y) :
    Ok P ⟨d, .index X x i, T, pos, aft, g⟩ a w (SP.isv (.int .u8 y)).holds := by
  obtain ⟨b, h1, h2⟩ := Comp.run_bind h
  obtain ⟨h3, h4⟩ := run_idx h1
  have h2 := Comp.run_pure h2
  have hlt : m.toNat < s.length := (List.getElem?_eq_some_iff.1 h4).1
  have := ok_indexS (P := P) (w := w) (d := d) (T := T) (pos := pos) (aft := aft) (g := g) hT hx hi h3 (by rw [str_size]; exact hlt)
  have e : ((str s)[m.toNat]'(by rw [str_size]; exact hlt)) = b := by
    rw [byteAt_eq]
    simp [byteAt, str, h4]
  rw [e, h2] at this
  exact this
theorem str_extract (s : Bytes) (l h : Nat) : (str s).extract l h = str ((s.take h).drop l) := by
  apply ByteArray.ext
  simp [str, ByteArray.data_extract, List.extract_toArray, List.extract_eq_take_drop, List.drop_take]
theorem okl_sliceS_h {x h : Operand} {X : TypeId} {s u : Bytes} {n : Int} {k : IntKind} {m : Nat} {z sz by_} (hT : Ty P X .string z sz by_) (hx : a.eval x = .string (str s)) (hh : a.eval h = .int k n) (hr : (sub s 0 n).run m = some u) :
    Ok P ⟨d, .slice X x none (some h) none, T, pos, aft, g⟩ a w (SP.isv (.string (str u))).holds := by
  obtain ⟨⟨h1, h2, h3⟩, h4⟩ := run_sub hr
  have := ok_sliceS_h (P := P) (w := w) (d := d) (T := T) (pos := pos) (aft := aft) (g := g) hT hx hh h2 (by rw [str_size]; exact h3)
  rwa [str_extract, show ((s.take n.toNat).drop 0) = u from h4] at this
theorem okl_sliceS_l {x l : Operand} {X : TypeId} {s u : Bytes} {n : Int} {k : IntKind} {m : Nat} {z sz by_} (hT : Ty P X .string z sz by_) (hx : a.eval x = .string (str s)) (hl : a.eval l = .int k n) (hr : (sub s n s.length).run m = some u) :
    Ok P ⟨d, .slice X x (some l) none none, T, pos, aft, g⟩ a w (SP.isv (.string (str u))).holds := by
  obtain ⟨⟨h1, h2, h3⟩, h4⟩ := run_sub hr
  have := ok_sliceS_l (P := P) (w := w) (d := d) (T := T) (pos := pos) (aft := aft) (g := g) hT hx hl h1 (by rw [str_size]; exact h2)
  rw [str_size, str_extract] at this
  rwa [show ((s.take s.length).drop n.toNat) = u from by rw [← h4]; simp] at this
theorem okl_sliceS_lh {x l h : Operand} {X : TypeId} {s u : Bytes} {n n' : Int} {k k' : IntKind} {m : Nat} {z sz by_} (hT : Ty P X .string z sz by_) (hx : a.eval x = .string (str s)) (hl : a.eval l = .int k n) (hh : a.eval h = .int k' n') (hr : (sub s n n').run m = some u) :
    Ok P ⟨d, .slice X x (some l) (some h) none, T, pos, aft, g⟩ a w (SP.isv (.string (str u))).holds := by
  obtain ⟨⟨h1, h2, h3⟩, h4⟩ := run_sub hr
  have := ok_sliceS_lh (P := P) (w := w) (d := d) (T := T) (pos := pos) (aft := aft) (g := g) hT hx hl hh h1 h2 (by rw [str_size]; exact h3)
  rwa [str_extract, h4] at this
/-! slices -/
theorem okl_len {x : Operand} {X E : TypeId} {r : GR α} {O : Tags} {xs : List α} {z sz by_} (hT : Ty P X (.slice E) z sz by_) {u : Value} (hu : a.eval x = u) (hx : Rd r O w u xs) :
    Ok P ⟨d, .call ⟨.builtin .len, #[x], #[X]⟩, T, pos, aft, g⟩ a w (SP.isv (.int .i64 (xs.length : Int))).holds := by
  obtain ⟨vs, h1, h2⟩ := hx
  have := ok_lenV (P := P) (d := d) (T := T) (pos := pos) (aft := aft) (g := g) hT hu h1
  rwa [h2.len] at this
theorem okl_idx {x i : Operand} {X e : TypeId} {r : GR α} {O : Tags} {xs : List α} {y : α} {k : IntKind} {m : Int} {n : Nat} {z sz by_ dd z' E by_'} (hT : Ty P X (.slice e) z sz by_) (he : Ty P e dd z' E by_') (hE : r.sz = E) {u : Value} (hu : a.eval x = u) (hx : Rd r O w u xs) (hi : a.eval i = .int k m) (h : (idx xs m).run n = some y) :
    Ok P ⟨d, .indexAddr X x i, T, pos, aft, g⟩ a w (SP.ptr r O y).holds := by
  obtain ⟨h0, h1⟩ := run_idx h
  obtain ⟨vs, h2, h3⟩ := hx
  obtain ⟨v, h4, h5⟩ := h3.get _ _ h1
  subst hE
  intro K Q hK
  exact ok_indexV hT he hu h2 hi h0 h4 K Q fun p w' hE hp => hK p w' hE ⟨v, hp, r.v_ext h5 hE⟩
/-- a load from where nothing turns -/
theorem okl_ld {x : Operand} {X : TypeId} {r : GR α} (hr : r.fits) {O : Tags} {y : α} {dd z sz by_} (hT : Ty P X dd z sz by_) (hd : isAggD dd = r.agg) (hs : r.sz = sz) {u : Value} (hu : a.eval x = u) (hx : (SP.ptr r O y).holds w u) :
    Ok P ⟨d, .load X x, T, pos, aft, g⟩ a w (SP.vl r O y).holds := by
  obtain ⟨v, h1, h2⟩ := hx
  obtain ⟨cs, h3, h4, h5⟩ := r.cells hr h2
  intro K Q hK
  cases ha : r.agg with
  | false =>
    rw [ha] at hd h4
    have hl : cs.length = 1 := by rw [r.len h3, hr ha]
    match cs, hl with
    | [c], _ =>
      simp only [packV, List.headD_cons] at h4
      subst h4
      exact ok_loadPt hT hd hu h1 h5 K Q fun v' w' hE hv => hK v' w' hE (by cases hv; exact r.v_ext h2 hE)
  | true =>
    rw [ha] at hd h4
    simp only [packV] at h4
    subst h4
    exact ok_loadPtAgg hT hd hu h1 (by simp [r.len h3, hs]) K Q fun v' w' hE hv => hK v' w' hE (by cases hv; exact r.v_ext h2 hE)
theorem okl_ldc {x : Operand} {X : TypeId} {agg : Bool} {szc : Nat} {cells : α → List Value} {hl ho} (hr : (rC agg szc cells hl ho).fits) {O : Tags} {y : α} {dd z sz by_} (hT : Ty P X dd z sz by_) (hd : isAggD dd = agg) (hs : szc = sz) {u : Value} (hu : a.eval x = u) (hx : (SP.ptr (rC agg szc cells hl ho) O y).holds w u) {v : Value} (hv : packV agg (cells y) = v) :
    Ok P ⟨d, .load X x, T, pos, aft, g⟩ a w (SP.isv v).holds := fun K Q hK =>
  okl_ld (r := rC agg szc cells hl ho) hr hT hd hs hu hx K Q fun v' w' hE h => hK v' w' hE ((rC_v.1 h).trans hv)
/-- fields -/
def SubR (S : GR γ) (off : Nat) (r : GR α) (p : γ → α) : Prop := ∀ {O w cs x}, S.rel O w cs x → ∃ c1 c2 c3, cs = c1 ++ (c2 ++ c3) ∧ c1.length = off ∧ r.rel O w c2 (p x)
theorem sub_hd {r : GR α} {p : γ → α} {S : GR γ} : SubR (rCons r p S) 0 r p := fun ⟨c1, c2, h, h1, h2⟩ => ⟨[], c1, c2, h, rfl, h1⟩
theorem sub_tl {r : GR α} {p : γ → α} {S : GR γ} {off n : Nat} {r' : GR β} {p' : γ → β} (h : SubR S off r' p') (hn : n = r.sz + off) : SubR (rCons r p S) n r' p' := fun ⟨c1, c2, hc, h1, h2⟩ => by
  obtain ⟨d1, d2, d3, e1, e2, e3⟩ := h h2
  exact ⟨c1 ++ d1, d2, d3, by rw [hc, e1, List.append_assoc], by rw [List.length_append, r.len h1, e2, hn], e3⟩
theorem okl_fld {x : Operand} {X f ft off sz : Nat} {S : GR γ} (hS : S.agg = true) {r : GR α} (hr : r.fits) {p : γ → α} {O : Tags} {y : γ} (hsub : SubR S off r p) (hF : Fld P X f ft off sz) {u : Value} (hu : a.eval x = u) (hx : (SP.ptr S O y).holds w u) :
    Ok P ⟨d, .fieldAddr X x f, T, pos, aft, g⟩ a w (SP.ptr r O (p y)).holds := by
  obtain ⟨v, h1, cs, h2, h3⟩ := hx
  obtain ⟨c1, c2, c3, h4, h5, h6⟩ := hsub h2
  rw [hS] at h3
  simp only [packV] at h3
  subst h3
  have hv : r.v O w (packV r.agg c2) (p y) := ⟨c2, h6, rfl⟩
  obtain ⟨cs', h7, h8, h9⟩ := r.cells hr hv
  have hc2 : (packV r.agg c2).cells = c2.toArray := cells_pack (fun ha => by rw [r.len h6, hr ha]) (r.one h6)
  intro K Q hK
  refine ok_fieldAddrPt (y := packV r.agg c2) hF hu h1 (fun j hj => ?_) K Q fun p' w' hE hp => hK p' w' hE ⟨_, hp, r.v_ext hv hE⟩
  rw [hc2] at hj ⊢
  simp only [List.size_toArray] at hj
  subst h4
  simp only [List.size_toArray, List.length_append, List.getElem?_toArray]
  refine ⟨by omega, ?_⟩
  rw [List.getElem?_append_right (by omega), List.getElem?_append_left (by omega)]
  congr 1; omega
theorem sl_foot {O : Tags} {u u' : Value} {vs vs' : List Value} (h : Foot O w u vs) (hu : ∀ g, vs' ≠ [] → u'.ownBlock = some g → vs ≠ [] ∧ u.ownBlock = some g) : Foot O w u' vs' := fun hv g hg => by
  obtain ⟨h1, h2⟩ := hu g hv hg
  exact h h1 g h2
theorem okl_slice_h {x h : Operand} {X e : TypeId} {r : GR α} {O : Tags} {xs ys : List α} {n : Int} {k : IntKind} {m : Nat} {z sz by_ dd z' E by_'} (hT : Ty P X (.slice e) z sz by_) (he : Ty P e dd z' E by_') (hE : r.sz = E) {u : Value} (hu : a.eval x = u) (hx : (rSl r).v O w u xs) (hh : a.eval h = .int k n) (hr : (sub xs 0 n).run m = some ys) :
    Ok P ⟨d, .slice X x none (some h) none, T, pos, aft, g⟩ a w (SP.vl (rSl r) O ys).holds := by
  obtain ⟨⟨h1, h2, h3⟩, h4⟩ := run_sub hr
  obtain ⟨vs, s1, s2, s3⟩ := rSl_v.1 hx
  subst hE
  have hlen := s2.len
  obtain ⟨p, c, hu', hc⟩ := s1.slice
  have e4 : ys = xs.take n.toNat := h4.symm
  rw [hu'] at s1 s3 hu
  refine ok_run (v := .slice p n.toNat c) (w' := w) ?_ (Ext.refl w) (rSl_v.2 ⟨vs.take n.toNat, s1.take (by omega), by rw [e4]; exact s2.take _, sl_foot s3 fun g hv hg => ⟨fun e => hv (by rw [e]; simp), by
      cases p with
      | none => simp [Value.ownBlock] at hg
      | some q => simpa [Value.ownBlock] using hg⟩⟩)
  have h1' : n ≤ (c : Int) := by omega
  simp [execOp, Instr.sliceAt, Instr.slice, Instr.sliceBounds, hu, hh, hT.run_u, he.run_size, bound_run h2 h1']
  intro _
  cases p <;> simp [Addr.add]
theorem okl_slice_l {x l : Operand} {X e : TypeId} {r : GR α} {O : Tags} {xs ys : List α} {n : Int} {k : IntKind} {m : Nat} {z sz by_ dd z' E by_'} (hT : Ty P X (.slice e) z sz by_) (he : Ty P e dd z' E by_') (hE : r.sz = E) {u : Value} (hu : a.eval x = u) (hx : (rSl r).v O w u xs) (hl : a.eval l = .int k n) (hr : (sub xs n xs.length).run m = some ys) :
    Ok P ⟨d, .slice X x (some l) none none, T, pos, aft, g⟩ a w (SP.vl (rSl r) O ys).holds := by
  obtain ⟨⟨h1, h2, h3⟩, h4⟩ := run_sub hr
  obtain ⟨vs, s1, s2, s3⟩ := rSl_v.1 hx
  subst hE
  have hlen := s2.len
  have e4 : ys = xs.drop n.toNat := by rw [← h4]; simp
  obtain ⟨p, c, hu', hc⟩ := s1.slice
  rw [hu'] at s1 s3 hu
  refine ok_run (v := _) (w' := w) ?_ (Ext.refl w) (rSl_v.2 ⟨vs.drop n.toNat, s1.drop (m := n.toNat) (by omega), by rw [e4]; exact s2.drop _, sl_foot s3 fun g hv hg => ⟨fun e => hv (by rw [e]; simp), ?_⟩⟩)
  · simp [execOp, Instr.sliceAt, Instr.slice, Instr.sliceBounds, hu, hl, hT.run_u, he.run_size, bound_run h1 (show n ≤ (vs.length : Int) by omega)]
  · cases p with
    | none => by_cases hc : c = n.toNat <;> simp [hc, Value.ownBlock] at hg
    | some ad => by_cases hc : c = n.toNat <;> simp [hc, Value.ownBlock, Addr.add] at hg ⊢ <;> (first | exact hg | (split at hg <;> exact hg))
theorem okl_slice_lh {x l h : Operand} {X e : TypeId} {r : GR α} {O : Tags} {xs ys : List α} {n n' : Int} {k k' : IntKind} {m : Nat} {z sz by_ dd z' E by_'} (hT : Ty P X (.slice e) z sz by_) (he : Ty P e dd z' E by_') (hE : r.sz = E) {u : Value} (hu : a.eval x = u) (hx : (rSl r).v O w u xs) (hl : a.eval l = .int k n) (hh : a.eval h = .int k' n') (hr : (sub xs n n').run m = some ys) :
    Ok P ⟨d, .slice X x (some l) (some h) none, T, pos, aft, g⟩ a w (SP.vl (rSl r) O ys).holds := by
  obtain ⟨⟨h1, h2, h3⟩, h4⟩ := run_sub hr
  obtain ⟨vs, s1, s2, s3⟩ := rSl_v.1 hx
  subst hE
  have hlen := s2.len
  obtain ⟨p, c, hu', hc⟩ := s1.slice
  rw [hu'] at s1 s3 hu
  have hl' : (vs.take n'.toNat).length = n'.toNat := by simp; omega
  have s1' : SlV w r.sz (.slice p (vs.take n'.toNat).length c) (vs.take n'.toNat) := by rw [hl']; exact s1.take (by omega)
  have s1'' := s1'.drop (m := n.toNat) (by rw [hl']; omega)
  refine ok_run (v := _) (w' := w) ?_ (Ext.refl w) (rSl_v.2 ⟨(vs.take n'.toNat).drop n.toNat, s1'', by rw [← h4]; exact (s2.take _).drop _, sl_foot s3 fun g hv hg => ⟨fun e => hv (by rw [e]; simp), ?_⟩⟩)
  · have h5 : n ≤ (n'.toNat : Int) := by omega
    have h6 : n' ≤ (c : Int) := by omega
    simp only [execOp, Instr.sliceAt, Instr.slice, Instr.sliceBounds, hu, hl, hh, hT.run_u, he.run_size, bound_run (show 0 ≤ n' by omega) h6, bound_run h1 h5, Sem.run_bind, Result.andThen, hl', Option.map_some, Option.elim]
    simp [hu, hl, hh, hT.run_u, he.run_size, bound_run (show 0 ≤ n' by omega) h6, bound_run h1 h5]
  · cases p with
    | none => by_cases hc : c = n.toNat <;> simp [hc, Value.ownBlock] at hg
    | some ad => by_cases hc : c = n.toNat <;> simp [hc, Value.ownBlock, Addr.add] at hg ⊢ <;> (first | exact hg | (split at hg <;> exact hg))
end ops
end Go.Lift
