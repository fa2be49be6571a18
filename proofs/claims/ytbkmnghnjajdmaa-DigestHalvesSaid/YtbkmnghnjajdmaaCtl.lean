/- The engine, fifth part: control, and small forms of the operations that fit a generated proof. No statement of the program stands here. -/
import Derived.Test.YtbkmnghnjajdmaaOpu
namespace Go.Eng
open Go Go.RowKit

section ctl
variable {P : Program} {Q : Exit → Act → World → Prop} {K : Act → World → Prop} {a : Act} {w : World} {ops : Array Oper} {id : Nat}
theorem nx_then (h : K a w) : Exit.then K Q .normal a w := h
theorem nx_blk (h : Q .normal a w) : Exit.inBlock id Q .normal a w := h
theorem ex_then {e : Nat} (h : Q (.exit e) a w) : Exit.then K Q (.exit e) a w := h
theorem ex_same (h : Q .normal a w) : Exit.inBlock id Q (.exit id) a w := by unfold Exit.inBlock; simp; exact h
theorem ex_other {e : Nat} (hne : Nat.beq e id = false) (h : Q (.exit e) a w) : Exit.inBlock id Q (.exit e) a w := by
  have : e ≠ id := fun h => by subst h; simp at hne
  unfold Exit.inBlock; simp [this]; exact h
theorem rt_then (h : Q .ret a w) : Exit.then K Q .ret a w := h
theorem rt_blk (h : Q .ret a w) : Exit.inBlock id Q .ret a w := h
theorem li_nil (h : Q .normal a w) : wpList P ops Q [] a w := h

theorem wp_cond_b {c : Operand} {x y : Code} {b : Bool} (hc : a.eval c = .bool b) (ht : b = true → x.wp P Q a w) (hf : b = false → y.wp P Q a w) : (Code.cond c x y).wp P Q a w := by
  cases b
  · exact wp_cond_false hc (hf rfl)
  · exact wp_cond_true hc (ht rfl)

theorem loop_m {c : Code} (I : Nat → Act → World → Prop) {m : Nat} (h₀ : I m a w)
    (round : ∀ m a w, I m a w → c.wp P (Exit.then (fun a' w' => ∃ m', m' < m ∧ I m' a' w') Q) a w) : (Code.loop c).wp P Q a w := by
  intro b k cs
  have key : ∀ m a w, I m a w →
      ∃ e a' w', Q e a' w' ∧ Arrives P (lone (b.at a (.code c :: .inLoop c :: k)) cs w) b k cs e a' w' := by
    intro m
    induction m using Nat.strongRecOn with
    | _ m ih =>
      intro a w hI
      obtain ⟨e, a₁, w₁, hq, harr⟩ := round m a w hI b (.inLoop c :: k) cs
      cases e with
      | normal =>
        obtain ⟨m', hlt, hI₁⟩ := hq
        obtain ⟨e₂, a₂, w₂, hq₂, harr₂⟩ := ih m' hlt a₁ w₁ hI₁
        exact ⟨e₂, a₂, w₂, hq₂, .of_steps (Steps.trans harr (.one step_inLoop)) harr₂⟩
      | exit id => exact ⟨_, a₁, w₁, hq, .pass (x := .inLoop c) rfl (fun _ _ => .inl (by simp)) harr⟩
      | goto l => exact ⟨_, a₁, w₁, hq, .pass (x := .inLoop c) rfl (fun _ _ => .inl (by simp)) harr⟩
      | ret => exact ⟨_, a₁, w₁, hq, .pass (x := .inLoop c) rfl (fun _ _ => .inl (by simp)) harr⟩
      | panic ch => exact ⟨_, a₁, w₁, hq, .pass (x := .inLoop c) rfl (fun _ _ => .inl (by simp)) harr⟩
      | outgrown => exact ⟨_, a₁, w₁, hq, .pass (x := .inLoop c) rfl (fun _ _ => .inl (by simp)) harr⟩
  obtain ⟨e, a', w', hq, harr⟩ := key m a w h₀
  exact ⟨e, a', w', hq, .of_steps (.one step_loop) harr⟩
/-- where ways meet: what holds there -/
theorem seq_join {x y : Code} (J : Act → World → Prop) (hx : x.wp P (Exit.then J Q) a w) (hy : ∀ a w, J a w → y.wp P Q a w) : (Code.seq x y).wp P Q a w :=
  wp_seq (wp_mono hx fun e a w h => by cases e <;> first | exact hy _ _ h | exact h)
end ctl

/-! ### reading what is known -/
section know
variable {os : List Oper} {Φ : List SP} {a : Act} {n t j : Nat} {w : World} {v val : Value}
theorem kn (h : KnowS os Φ a n t w v) (e : lw os (fun j => Nat.blt j n) t = none) (r : a.get t = val) : v = val := by
  unfold KnowS at h; rw [e] at h; exact h.trans r
theorem ksv (h : KnowS os Φ a n t w v) (e : lw os (fun j => Nat.blt j n) t = some j) (hΦ : Φ.getD j (.isv undef) = .isv val) (hg : act os (Φ.map SP.boolOf) j = true) : v = val := by
  unfold KnowS at h; rw [e] at h
  have := h.1 hg
  rw [hΦ] at this; exact this
theorem ksp {p : World → Value → Prop} {st} (h : KnowS os Φ a n t w v) (e : lw os (fun j => Nat.blt j n) t = some j) (hΦ : Φ.getD j (.isv undef) = .pr p st) (hg : act os (Φ.map SP.boolOf) j = true) : p w v := by
  unfold KnowS at h; rw [e] at h
  have := h.1 hg
  rw [hΦ] at this; exact this
theorem ag {cs : List Bool} {i g : Nat} {want : Bool} (hg : act os cs i = true) (e : (os[i]?).bind (·.guard) = some (g, want)) : cs.getD g false = want := by
  unfold act actN at hg
  rw [e] at hg
  simp only [Bool.and_eq_true, beq_iff_eq] at hg
  exact hg.2
/-- the guard's Bool -/
theorem agv {i g : Nat} {want B : Bool} (hΦ : Φ.getD g (.isv undef) = .isv (.bool B)) (hg : act os (Φ.map SP.boolOf) i = true) (e : (os[i]?).bind (·.guard) = some (g, want)) : B = want := by
  have h := ag hg e
  have h2 : (Φ.map SP.boolOf).getD g false = SP.boolOf (Φ.getD g (.isv undef)) := by
    simp only [List.getD_eq_getElem?_getD, List.getElem?_map]
    cases Φ[g]? <;> rfl
  rw [h2, hΦ] at h; exact h
/-- the guard's own guard -/
theorem ag0 {cs : List Bool} {i g : Nat} {want : Bool} (hg : act os cs i = true) (e : (os[i]?).bind (·.guard) = some (g, want)) : actN os cs i g = true := by
  unfold act actN at hg
  rw [e] at hg
  simp only [Bool.and_eq_true, beq_iff_eq] at hg
  exact hg.1
theorem act_g1 {cs : List Bool} {i g : Nat} {want : Bool} (e : (os[i]?).bind (·.guard) = some (g, want)) (h0 : actN os cs i g = true) (hc : cs.getD g false = want) : act os cs i = true := by
  unfold act actN
  rw [e]
  simp only [Bool.and_eq_true, beq_iff_eq]
  exact ⟨h0, hc⟩
end know

/-! ### integers that fit -/
section ints
variable {P : Program} {a : Act} {w : World} {d : Option Tmp} {T : TypeId} {pos : String} {aft : Array Edge} {g : Option (Nat × Bool)}
theorem ok_isv {o : Oper} {v v' : Value} (h : Ok P o a w (SP.isv v).holds) (e : v = v') : Ok P o a w (SP.isv v').holds := e ▸ h
theorem ok_add_i {x y : Operand} {X Y : TypeId} {m n : Int} (hx : a.eval x = .int .i64 m) (hy : a.eval y = .int .i64 n) (hb : -9223372036854775808 ≤ m + n ∧ m + n ≤ 9223372036854775807) :
    Ok P ⟨d, .binOp .add X x y Y, T, pos, aft, g⟩ a w (SP.isv (.int .i64 (m + n))).holds := ok_isv (ok_add hx hy) (by rw [IntWalk.i64_in _ hb])
theorem ok_sub_i {x y : Operand} {X Y : TypeId} {m n : Int} (hx : a.eval x = .int .i64 m) (hy : a.eval y = .int .i64 n) (hb : -9223372036854775808 ≤ m - n ∧ m - n ≤ 9223372036854775807) :
    Ok P ⟨d, .binOp .sub X x y Y, T, pos, aft, g⟩ a w (SP.isv (.int .i64 (m - n))).holds := ok_isv (ok_sub hx hy) (by rw [IntWalk.i64_in _ hb])
theorem ok_mul_i {x y : Operand} {X Y : TypeId} {m n : Int} (hx : a.eval x = .int .i64 m) (hy : a.eval y = .int .i64 n) (hb : -9223372036854775808 ≤ m * n ∧ m * n ≤ 9223372036854775807) :
    Ok P ⟨d, .binOp .mul X x y Y, T, pos, aft, g⟩ a w (SP.isv (.int .i64 (m * n))).holds := ok_isv (ok_mul hx hy) (by rw [IntWalk.i64_in _ hb])
theorem u64_in (n : Int) (h : 0 ≤ n ∧ n ≤ 18446744073709551615) : IntKind.u64.wrap n = n := by
  rw [IntKind.wrap_u64]; omega
theorem ok_add_u {x y : Operand} {X Y : TypeId} {m n : Int} (hx : a.eval x = .int .u64 m) (hy : a.eval y = .int .u64 n) (hb : 0 ≤ m + n ∧ m + n ≤ 18446744073709551615) :
    Ok P ⟨d, .binOp .add X x y Y, T, pos, aft, g⟩ a w (SP.isv (.int .u64 (m + n))).holds := ok_isv (ok_add hx hy) (by rw [u64_in _ hb])
theorem ok_mul_u {x y : Operand} {X Y : TypeId} {m n : Int} (hx : a.eval x = .int .u64 m) (hy : a.eval y = .int .u64 n) (hb : 0 ≤ m * n ∧ m * n ≤ 18446744073709551615) :
    Ok P ⟨d, .binOp .mul X x y Y, T, pos, aft, g⟩ a w (SP.isv (.int .u64 (m * n))).holds := ok_isv (ok_mul hx hy) (by rw [u64_in _ hb])
theorem ok_rem_n {x y : Operand} {X Y : TypeId} {k : IntKind} {m n : Int} (hx : a.eval x = .int k m) (hy : a.eval y = .int k n) (h0 : n ≠ 0) (hm : 0 ≤ m) :
    Ok P ⟨d, .binOp .rem X x y Y, T, pos, aft, g⟩ a w (SP.isv (.int k (m % n))).holds := ok_isv (ok_rem hx hy h0) (by rw [Int.tmod_eq_emod_of_nonneg hm])
theorem ok_quo_n {x y : Operand} {X Y : TypeId} {m n : Int} (hx : a.eval x = .int .i64 m) (hy : a.eval y = .int .i64 n) (h0 : 0 < n) (hm : 0 ≤ m) (hm' : m ≤ 9223372036854775807) :
    Ok P ⟨d, .binOp .quo X x y Y, T, pos, aft, g⟩ a w (SP.isv (.int .i64 (m / n))).holds := ok_isv (ok_quo hx hy (by omega)) (by
      rw [Int.tdiv_eq_ediv_of_nonneg hm, IntWalk.i64_in _ ⟨by have := Int.ediv_nonneg hm (Int.le_of_lt h0); omega, by have := Int.ediv_le_self n hm; omega⟩])
theorem ok_conv_id {x : Operand} {X Y : TypeId} {k k' : IntKind} {m : Int} {z sz by_ z' sz' by_'} (h1 : Ty P X (.int k) z sz by_) (h2 : Ty P Y (.int k') z' sz' by_') (hx : a.eval x = .int k m) (hw : k'.wrap m = m) :
    Ok P ⟨d, .convert X Y x, T, pos, aft, g⟩ a w (SP.isv (.int k' m)).holds := ok_isv (ok_convI h1 h2 hx) (by rw [hw])
theorem ok_conv_u8 {x : Operand} {X Y : TypeId} {k : IntKind} {m : Int} {z sz by_ z' sz' by_'} (h1 : Ty P X (.int k) z sz by_) (h2 : Ty P Y (.int .u8) z' sz' by_') (hx : a.eval x = .int k m) :
    Ok P ⟨d, .convert X Y x, T, pos, aft, g⟩ a w (SP.isv (.int .u8 (m % 256))).holds := ok_isv (ok_convI h1 h2 hx) (by rw [IntKind.wrap_u8])

theorem ok_and {c x : Operand} {b p : Bool} (hc : a.eval c = .bool b) (hx : b = true → a.eval x = .bool p) :
    Ok P ⟨d, .pick c x (.const (.bool false)), T, pos, aft, g⟩ a w (SP.isv (.bool (b && p))).holds := ok_isv (ok_pick hc hx (fun _ => rfl)) (by cases b <;> rfl)
theorem ok_or {c y : Operand} {b q : Bool} (hc : a.eval c = .bool b) (hy : b = false → a.eval y = .bool q) :
    Ok P ⟨d, .pick c (.const (.bool true)) y, T, pos, aft, g⟩ a w (SP.isv (.bool (b || q))).holds := ok_isv (ok_pick hc (fun _ => rfl) hy) (by cases b <;> rfl)
/-- the parts of a literal -/
inductive Parts (a : Act) : Nat → List (Nat × Operand) → List Value → Prop
  | nil {k} : Parts a k [] []
  | cons {k x v ps vs} (h : a.eval x = v) (hs : Parts a (k + 1) ps vs) : Parts a k ((k, x) :: ps) (v :: vs)
theorem parts_eq {k : Nat} {ps : List (Nat × Operand)} {vs : List Value} (h : Parts a k ps vs) : ps.map (fun p => (p.1, a.eval p.2)) = partsFrom k vs := by
  induction h with
  | nil => rfl
  | cons h _ ih => simp [partsFrom, h, ih]
theorem parts_of {ps : List (Nat × Operand)} {vs : List Value} (h : Parts a 0 ps vs) : (ps.toArray.map fun (i, x) => (i, a.eval x)) = (partsFrom 0 vs).toArray := by
  rw [← parts_eq h]; simp
theorem parts_nil {k : Nat} : Parts a k [] [] := .nil
theorem parts_cons {k : Nat} {x : Operand} {v : Value} {ps : List (Nat × Operand)} {vs : List Value} (h : a.eval x = v) (hs : Parts a (k + 1) ps vs) : Parts a k ((k, x) :: ps) (v :: vs) := .cons h hs

/-- byte i of a string -/
def byteAt (s : ByteArray) (i : Nat) : UInt8 := s.data.toList.getD i 0
theorem byteAt_eq {s : ByteArray} {i : Nat} (h : i < s.size) : s[i] = byteAt s i := by
  unfold byteAt
  have h' : i < s.data.toList.length := by rw [Array.length_toList]; exact h
  rw [List.getD_eq_getElem?_getD, List.getElem?_eq_getElem h']; rfl
theorem ok_indexS_n {x i : Operand} {X : TypeId} {s : ByteArray} {n : Nat} {k : IntKind} {z sz by_} (hT : Ty P X .string z sz by_) (hx : a.eval x = .string s) (hi : a.eval i = .int k (n : Int)) (h1 : n < s.size) :
    Ok P ⟨d, .index X x i, T, pos, aft, g⟩ a w (SP.isv (.int .u8 ((byteAt s n).toNat : Int))).holds := ok_isv (ok_indexS hT hx hi (by omega) (by simpa using h1)) (by
      rw [← byteAt_eq h1]; rfl)
theorem ok_conv_b {x : Operand} {X Y : TypeId} {k' : IntKind} {b : UInt8} {z sz by_ z' sz' by_'} (h1 : Ty P X (.int .u8) z sz by_) (h2 : Ty P Y (.int k') z' sz' by_') (hx : a.eval x = .int .u8 (b.toNat : Int)) (hk : k' = .i64 ∨ k' = .u64) :
    Ok P ⟨d, .convert X Y x, T, pos, aft, g⟩ a w (SP.isv (.int k' (b.toNat : Int))).holds := ok_isv (ok_convI h1 h2 hx) (by
      have := b.toNat_lt
      rcases hk with rfl | rfl
      · rw [IntWalk.i64_in _ (by omega)]
      · rw [u64_in _ (by omega)])
theorem ok_call0 {f : FuncId} {ts : Array TypeId} {φ : SP} (hf : FnOk P f) (h : Pure P f #[] w φ.holds) :
    Ok P ⟨d, .call ⟨.value (.func f), #[], ts⟩, T, pos, aft, g⟩ a w φ.holds := ok_call hf (by simp) h
theorem ok_call1 {f : FuncId} {x1 : Operand} {v1 : Value} {ts : Array TypeId} {φ : SP} (hf : FnOk P f) (h1 : a.eval x1 = v1) (h : Pure P f #[v1] w φ.holds) :
    Ok P ⟨d, .call ⟨.value (.func f), #[x1], ts⟩, T, pos, aft, g⟩ a w φ.holds := ok_call hf (by simp [h1]) h
theorem ok_call2 {f : FuncId} {x1 x2 : Operand} {v1 v2 : Value} {ts : Array TypeId} {φ : SP} (hf : FnOk P f) (h1 : a.eval x1 = v1) (h2 : a.eval x2 = v2) (h : Pure P f #[v1, v2] w φ.holds) :
    Ok P ⟨d, .call ⟨.value (.func f), #[x1, x2], ts⟩, T, pos, aft, g⟩ a w φ.holds := ok_call hf (by simp [h1, h2]) h
theorem ok_call3 {f : FuncId} {x1 x2 x3 : Operand} {v1 v2 v3 : Value} {ts : Array TypeId} {φ : SP} (hf : FnOk P f) (h1 : a.eval x1 = v1) (h2 : a.eval x2 = v2) (h3 : a.eval x3 = v3) (h : Pure P f #[v1, v2, v3] w φ.holds) :
    Ok P ⟨d, .call ⟨.value (.func f), #[x1, x2, x3], ts⟩, T, pos, aft, g⟩ a w φ.holds := ok_call hf (by simp [h1, h2, h3]) h
theorem ok_call4 {f : FuncId} {x1 x2 x3 x4 : Operand} {v1 v2 v3 v4 : Value} {ts : Array TypeId} {φ : SP} (hf : FnOk P f) (h1 : a.eval x1 = v1) (h2 : a.eval x2 = v2) (h3 : a.eval x3 = v3) (h4 : a.eval x4 = v4) (h : Pure P f #[v1, v2, v3, v4] w φ.holds) :
    Ok P ⟨d, .call ⟨.value (.func f), #[x1, x2, x3, x4], ts⟩, T, pos, aft, g⟩ a w φ.holds := ok_call hf (by simp [h1, h2, h3, h4]) h
end ints
end Go.Eng
namespace Go.Eng
open Go Go.RowKit
section arrs
variable {P : Program} {a : Act} {w : World} {d : Option Tmp} {T : TypeId} {pos : String} {aft : Array Edge} {g : Option (Nat × Bool)}
theorem run_eqItems_int {e : TypeId} {k : IntKind} {z by_} (he : Ty P e (.int k) z 1 by_) (dp : Nat) (ms ns : List Int) (hl : ms.length = ns.length) : ∀ (n i : Nat), i + n = ms.length →
    (Op.eqItems (dp + 1) e 1 (ms.map (Value.int k)).toArray (ns.map (Value.int k)).toArray (List.range' i n)).run P w = .ok (decide (ms.drop i = ns.drop i)) w
  | 0, i, h => by
      have h1 : ms.drop i = [] := List.drop_eq_nil_of_le (by omega)
      have h2 : ns.drop i = [] := List.drop_eq_nil_of_le (by omega)
      simp [Op.eqItems, h1, h2]
  | n + 1, i, h => by
      have hi : i < ms.length := by omega
      have hi' : i < ns.length := by omega
      have hp : ∀ (l : List Int) (hl : i < l.length), (part e (l.map (Value.int k)).toArray (i * 1)).run P w = .ok (.int k l[i]) w := by
        intro l hl
        simp [part, he.run_agg, isAggD, hl]
      have hq := run_equalIn_int (P := P) (w := w) dp e k k ms[i] ns[i] he.u
      simp only [List.range'_succ, Op.eqItems, Sem.run_bind, hp ms hi, hp ns hi', Result.andThen, hq]
      have hd : ms.drop i = ms[i] :: ms.drop (i + 1) := List.drop_eq_getElem_cons hi
      have hd' : ns.drop i = ns[i] :: ns.drop (i + 1) := List.drop_eq_getElem_cons hi'
      have e : decide (ms.drop i = ns.drop i) = (decide (ms[i] = ns[i]) && decide (ms.drop (i + 1) = ns.drop (i + 1))) := by
        rw [hd, hd']
        simp only [List.cons.injEq, Bool.decide_and]
      rw [e]
      by_cases hm : ms[i] = ns[i]
      · have hb : (ms[i] == ns[i]) = true := by simp [hm]
        simp only [hb, Bool.not_true, Bool.false_eq_true, if_false]
        rw [run_eqItems_int he dp ms ns hl n (i + 1) (by omega)]
        simp [hm]
      · have hb : (ms[i] == ns[i]) = false := by simp [hm]
        simp only [hb, Bool.not_false, if_true, Sem.run_pure, hm, decide_false, Bool.false_and]
theorem run_equal_arr {t e n : Nat} {k : IntKind} {ms ns : List Int} {z sz by_ z' by_'} (hT : Ty P t (.array n e) z sz by_) (he : Ty P e (.int k) z' 1 by_') (hm : ms.length = n) (hn : ns.length = n) :
    (Op.equalIn 10000 t (.agg (ms.map (Value.int k)).toArray) (.agg (ns.map (Value.int k)).toArray)).run P w = .ok (decide (ms = ns)) w := by
  obtain ⟨i, h1, h2, h3, h4⟩ := he.info
  have hc : P.cellsOf e = 1 := by simp [Program.cellsOf, h1, h3]
  rw [run_equalIn_array w 9999 _ _ hT.u h1, hc, List.range_eq_range', run_eqItems_int he 9998 ms ns (by omega) n 0 (by omega)]
  simp
theorem ok_eqlA {x y : Operand} {X Y e n : Nat} {k : IntKind} {ms ns : List Int} {z sz by_ z' by_'} (hT : Ty P X (.array n e) z sz by_) (he : Ty P e (.int k) z' 1 by_') (hgd : P.eqGuardType P.depth X = false) (hx : a.eval x = .agg (ms.map (Value.int k)).toArray) (hy : a.eval y = .agg (ns.map (Value.int k)).toArray)
    (hm : ms.length = n) (hn : ns.length = n) : Ok P ⟨d, .binOp .eql X x y Y, T, pos, aft, g⟩ a w (SP.isv (.bool (decide (ms = ns)))).holds := ok_pure (by
  simp only [execOp, hx, hy, Sem.run_bind, run_eqGuard_agg _ _ _ _ _ _ _ hgd, Result.andThen_ok, run_eql_struct, run_equal_arr hT he hm hn, Sem.run_pure])
theorem ok_neqA {x y : Operand} {X Y e n : Nat} {k : IntKind} {ms ns : List Int} {z sz by_ z' by_'} (hT : Ty P X (.array n e) z sz by_) (he : Ty P e (.int k) z' 1 by_') (hgd : P.eqGuardType P.depth X = false) (hx : a.eval x = .agg (ms.map (Value.int k)).toArray) (hy : a.eval y = .agg (ns.map (Value.int k)).toArray)
    (hm : ms.length = n) (hn : ns.length = n) : Ok P ⟨d, .binOp .neq X x y Y, T, pos, aft, g⟩ a w (SP.isv (.bool (!decide (ms = ns)))).holds := ok_pure (by
  simp only [execOp, hx, hy, Sem.run_bind, run_eqGuard_agg _ _ _ _ _ _ _ hgd, Result.andThen_ok, run_neq_struct, run_equal_arr hT he hm hn, Sem.run_pure])
end arrs
end Go.Eng
