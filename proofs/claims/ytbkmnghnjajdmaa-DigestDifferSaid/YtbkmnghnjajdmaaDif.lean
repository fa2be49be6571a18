/- Strings that differ in one byte have different digests; a struct made of its first two fields. No statement of the program stands here. -/
import Derived.Test.YtbkmnghnjajdmaaChg
namespace Go.Dig
open Go Go.RowKit Go.Eng
theorem stepX_inj {x x' : Nat} (hx : x < 2147483629) (hx' : x' < 2147483629) (c : UInt8) (h : stepX x c = stepX x' c) : x = x' := by
  unfold stepX at h
  have hc := c.toNat_lt
  omega
theorem stepX_byte {x : Nat} {c c' : UInt8} (h : c ≠ c') : stepX x c ≠ stepX x c' := by
  intro e
  unfold stepX at e
  have h1 := c.toNat_lt
  have h2 := c'.toNat_lt
  have h3 : c.toNat ≠ c'.toNat := fun e => h (UInt8.toNat_inj.1 e)
  omega
theorem foldX_inj : ∀ (l : List UInt8) (x x' : Nat), x < 2147483629 → x' < 2147483629 → l.foldl stepX x = l.foldl stepX x' → x = x'
  | [], _, _, _, _, h => h
  | c :: l, x, x', hx, hx', h => stepX_inj hx hx' c (foldX_inj l _ _ (stepX_lt x c) (stepX_lt x' c) h)
/-- the same but for one byte -/
def Diff1 (l l' : Bytes) : Prop := ∃ (p : Bytes) (c c' : UInt8) (q : Bytes), l = p ++ c :: q ∧ l' = p ++ c' :: q ∧ c ≠ c'
theorem Diff1.wrap {l l' : Bytes} (h : Diff1 l l') (p q : Bytes) : Diff1 (p ++ l ++ q) (p ++ l' ++ q) := by
  obtain ⟨p', c, c', q', rfl, rfl, h⟩ := h
  exact ⟨p ++ p', c, c', q' ++ q, by simp, by simp, h⟩
theorem Diff1.len {l l' : Bytes} (h : Diff1 l l') : l.length = l'.length := by
  obtain ⟨p', c, c', q', rfl, rfl, h⟩ := h
  simp
theorem dx_diff {l l' : Bytes} (h : Diff1 l l') : dx l ≠ dx l' := by
  obtain ⟨p, c, c', q, rfl, rfl, h⟩ := h
  intro e
  unfold dx at e
  rw [List.foldl_append, List.foldl_append, List.foldl_cons, List.foldl_cons] at e
  exact stepX_byte h (foldX_inj q _ _ (stepX_lt _ _) (stepX_lt _ _) e)
theorem be4_inj {m n : Nat} (hm : m < 4294967296) (hn : n < 4294967296) (h : be4 m = be4 n) : m = n := by
  unfold be4 at h
  simp only [List.cons.injEq, and_true] at h
  obtain ⟨h1, h2, h3, h4⟩ := h
  have e1 := congrArg UInt8.toNat h1
  have e2 := congrArg UInt8.toNat h2
  have e3 := congrArg UInt8.toNat h3
  have e4 := congrArg UInt8.toNat h4
  simp only [UInt8.toNat_ofNat'] at e1 e2 e3 e4
  omega
theorem D_diff {l l' : Bytes} (h : Diff1 l l') : D l ≠ D l' := by
  intro e
  unfold D at e
  have h1 := (List.append_inj e rfl).1
  have h2 := dx_lt l
  have h3 := dx_lt l'
  exact dx_diff h (be4_inj (by omega) (by omega) h1)
theorem str_inj {l l' : Bytes} (h : str l = str l') : l = l' := by rw [← bs_str l, h, bs_str]
theorem bump_diff (x y : UInt8) (l : Bytes) (hl : 0 < l.length) (hy : y ≠ 0) : Diff1 l (bump x y l) := by
  have hm : x.toNat % l.length < l.length := Nat.mod_lt _ hl
  refine ⟨l.take (x.toNat % l.length), l[x.toNat % l.length], l[x.toNat % l.length] + y, l.drop (x.toNat % l.length + 1), ?_, ?_, ?_⟩
  · rw [List.getElem_cons_drop, List.take_append_drop]
  · unfold bump
    rw [List.getD_eq_getElem?_getD, List.getElem?_eq_getElem hm, List.set_eq_take_append_cons_drop, if_pos hm]; rfl
  · intro e
    apply hy
    have : l[x.toNat % l.length] + y - l[x.toNat % l.length] = l[x.toNat % l.length] - l[x.toNat % l.length] := by rw [← e]
    rw [UInt8.sub_self] at this
    rw [← this]
    rw [UInt8.add_comm, UInt8.add_sub_cancel]
theorem dif_of (x y : UInt8) (S : ByteArray) (hS : 0 < S.size) (hy : y ≠ 0) : Diff1 (bs S) (bs (chg x y ⟨#[]⟩ S)) := by
  rw [bs_chg, show (bs ⟨#[]⟩).take 4 = [] from rfl, List.append_nil]
  exact bump_diff x y (bs S) (by rw [bs_length]; exact hS) hy
theorem leaf_diff {l l' : Bytes} (h : Diff1 l l') : Diff1 (leafL l) (leafL l') := by simpa [leafL] using h.wrap [1] []
theorem inner_diff {l l' : Bytes} (h : Diff1 l l') (t : Bytes) : Diff1 (innerL l t) (innerL l' t) := by simpa [innerL] using h.wrap [2] t
theorem chain_diff1 {l l' : Bytes} (h : Diff1 l l') (t : Bytes) : Diff1 (chainL l t) (chainL l' t) := by
  have := h.wrap ([4] ++ lenL l) t
  unfold chainL
  rw [show lenL l' = lenL l by unfold lenL; rw [h.len]]
  exact this
theorem chain_diff2 {l l' : Bytes} (h : Diff1 l l') (t : Bytes) : Diff1 (chainL t l) (chainL t l') := by
  have := h.wrap ([4] ++ lenL t ++ t) []
  unfold chainL
  simpa using this
theorem mark_diff2 {l l' : Bytes} (h : Diff1 l l') (k : Bytes) : Diff1 (markL k l) (markL k l') := by
  have := h.wrap ([5] ++ lenL k ++ k ++ lenL l) k
  unfold markL
  rw [show lenL l' = lenL l by unfold lenL; rw [h.len]]
  simpa using this
theorem ne_zero_u8 {y : UInt8} (h : ¬ ((y.toNat : Int) = 0)) : y ≠ 0 := by
  rintro rfl; exact h rfl
theorem differ_a {S O : ByteArray} (h : Diff1 (bs S) (bs O)) (T : Bytes) : ¬ ((str (D (bs S)) = str (D (bs O)) ∨ str (D (leafL (bs S))) = str (D (leafL (bs O)))) ∨ str (D (innerL (bs S) T)) = str (D (innerL (bs O) T))) := by
  rintro ((e | e) | e)
  · exact D_diff h (str_inj e)
  · exact D_diff (leaf_diff h) (str_inj e)
  · exact D_diff (inner_diff h T) (str_inj e)
theorem differ_b {S O : ByteArray} (h : Diff1 (bs S) (bs O)) (K T : ByteArray) (hK : K ≠ ⟨#[]⟩) : (true && decide (str (D (chainL (bs S) (bs T))) ≠ str (D (chainL (bs O) (bs T)))) && decide (str (D (chainL (bs T) (bs S))) ≠ str (D (chainL (bs T) (bs O)))) &&
    checkB K S (str (D (markL (bs K) (bs S)))) && !checkB K O (str (D (markL (bs K) (bs S))))) = true := by
  have h1 : str (D (chainL (bs S) (bs T))) ≠ str (D (chainL (bs O) (bs T))) := fun e => D_diff (chain_diff1 h _) (str_inj e)
  have h2 : str (D (chainL (bs T) (bs S))) ≠ str (D (chainL (bs T) (bs O))) := fun e => D_diff (chain_diff2 h _) (str_inj e)
  have h3 : str (D (markL (bs K) (bs S))) ≠ str (D (markL (bs K) (bs O))) := fun e => D_diff (mark_diff2 h _) (str_inj e)
  have h4 : checkB K S (str (D (markL (bs K) (bs S)))) = true := by simp [checkB, hK]
  have h5 : checkB K O (str (D (markL (bs K) (bs S)))) = false := by simp [checkB, h3]
  rw [h4, h5, decide_eq_true h1, decide_eq_true h2]; rfl
theorem key_ne (t : ByteArray) : (⟨#[107]⟩ : ByteArray) ++ t ≠ ⟨#[]⟩ := by
  intro e
  have := congrArg ByteArray.size e
  rw [ByteArray.size_append, size1, size0] at this
  omega
end Go.Dig
namespace Go.Eng
open Go Go.RowKit
section ops
variable {P : Program} {a : Act} {w : World} {d : Option Tmp} {T : TypeId} {pos : String} {aft : Array Edge} {g : Option (Nat × Bool)}
theorem ok_build2of3 {x y : Operand} {X t0 t1 t2 o2 s0 s1 s2 : Nat} {u v c : Value} {z0 z1 : Value} {sz by_ : Nat} {d0 d1 d2 y0 y1 y2 b0 b1 b2} (hT : Ty P X (.struct (P.fieldsOf X)) (.agg #[z0, z1, c]) sz by_) (hn : (P.fieldsOf X).size = 3)
    (F0 : Fld P X 0 t0 0 s0) (F1 : Fld P X 1 t1 1 s1) (F2 : Fld P X 2 t2 o2 s2) (h0 : Ty P t0 d0 y0 1 b0) (h1 : Ty P t1 d1 y1 1 b1) (h2 : Ty P t2 d2 y2 1 b2) (hx : a.eval x = u) (hy : a.eval y = v) (hu : u.cells = #[u]) (hv : v.cells = #[v]) :
    Ok P ⟨d, .build X #[(0, x), (1, y)], T, pos, aft, g⟩ a w (SP.isv (.agg #[u, v, c])).holds := ok_pure (by
  obtain ⟨f0, g0, e0, o0⟩ := F0.get
  obtain ⟨f1, g1, e1, o1⟩ := F1.get
  obtain ⟨f2, g2, e2, o2⟩ := F2.get
  have hF : P.fieldsOf X = #[f0, f1, f2] := by
    apply Array.ext_getElem?
    intro i
    match i with
    | 0 => rw [g0]; rfl
    | 1 => rw [g1]; rfl
    | 2 => rw [g2]; rfl
    | i + 3 => rw [Array.getElem?_eq_none (by omega), Array.getElem?_eq_none (by simp)]
  rw [hF] at hT
  subst e0; subst e1; subst e2
  have hz : (Value.agg #[z0, z1, c]).cells = #[z0, z1, c] := rfl
  simp [execOp, Instr.build, hT.run_u, hT.run_zero, h0.run_size, h1.run_size, h2.run_size, hx, hy, Instr.fill, o0, o1, hu, hv, hz])
end ops
end Go.Eng
