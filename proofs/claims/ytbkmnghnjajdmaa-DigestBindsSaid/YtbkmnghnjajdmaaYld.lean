/- The engine, eighth part: a function that yields, and one that ranges over it. No statement of the program stands here. -/
import Derived.Test.YtbkmnghnjajdmaaRow
import Derived.Test.YtbkmnghnjajdmaaTree
namespace Go.Eng
open Go Go.RowKit
theorem callsE {P : Program} {f : FuncId} {fn : Func} {c : Code} {args : Array Value} {w : World} {R : Ending → World → Prop} (hf : P.funcs[f]? = some fn) (hb : fn.body = some c) (N : Nat) (hN : fn.ntmps = N) (hle : args.size ≤ N)
    (h : ∀ a, a.fit N → (∀ i v, args[i]? = some v → a.get i = v) → c.wp P (bodyPost P fn R) a w) : Calls P f args w R := by
  refine calls_of_wp hf hb ?_
  rw [hN]
  exact h _ (fit_start args N hle) fun i v hv => get_start hv
theorem ret0 {P : Program} {fn : Func} {R : Ending → World → Prop} {a : Act} {w : World} {N : Nat} (hr : fn.results = #[]) (hA : a.fit N) (h : R (.returned (.tuple #[])) w) : bodyPost P fn R .normal a w :=
  ⟨hA.defers, .tuple #[], by simp [results, hr], h⟩
/-- All from block B on is as it was. -/
structure Keep (B : Nat) (w w' : World) : Prop where
  size : w'.heap.size = w.heap.size
  block : ∀ k, B ≤ k → w'.heap[k]? = w.heap[k]?
theorem ownS_keep {w w' : World} {B B' T E : Nat} {v : Value} {vs : List Value} (h : OwnS w B T E v vs) (hk : Keep B' w w') (hB : B' ≤ B) : OwnS w' B T E v vs := by
  refine ⟨h.sz, h.row.1, ?_⟩
  rcases h.row.2 with h1 | ⟨b, cap, cur, h1, h2, h3, h4⟩
  · exact .inl h1
  · exact .inr ⟨b, cap, cur, h1, h2, by rw [hk.block b (by omega)]; exact h3, h4⟩
theorem Ext.below {w w' : World} {B : Nat} (h : Ext w w') (hB : B ≤ w.heap.size) : Below B w w' := Below.mono h hB
theorem set_len {α : Type} {l : List α} {n m : Nat} {v : α} (h : l.length = m) (hn : n < m) : n < l.length := by omega
end Go.Eng
namespace Go.Dig
open Go Go.RowKit Go.Eng
theorem pow2_all : ((List.range 33).all fun m => (List.range 33).all fun n => !(decide (m ≤ n) && decide (n ≤ 2 ^ lg m) && decide (n ≠ 0) && decide (n &&& (n - 1) = 0)) || decide (n = 2 ^ lg m)) = true := by kernel_rfl
theorem pow2_not : ((List.range 33).all fun m => decide (2 ^ lg m &&& (2 ^ lg m - 1) = 0)) = true := by kernel_rfl
theorem pow2_stop {m n : Nat} (hm : m ≤ 32) (h : m ≤ n) (h2 : n ≤ 2 ^ lg m) (h0 : n ≠ 0) (h1 : n &&& (n - 1) = 0) : n = 2 ^ lg m := by
  have hp : 2 ^ lg m ≤ 2 ^ 5 := Nat.pow_le_pow_right (by decide) (lg_le m)
  have := pow2_all
  rw [List.all_eq_true] at this
  have := this m (List.mem_range.2 (by omega))
  rw [List.all_eq_true] at this
  have := this n (List.mem_range.2 (by omega))
  simpa [h, h2, h0, h1] using this
theorem pow2_go {m n : Nat} (hm : m ≤ 32) (h2 : n ≤ 2 ^ lg m) (h : n = 0 ∨ n &&& (n - 1) ≠ 0) : n < 2 ^ lg m := by
  rcases Nat.lt_or_ge n (2 ^ lg m) with h3 | h3
  · exact h3
  · exfalso
    obtain rfl : n = 2 ^ lg m := by omega
    have hp : 1 ≤ 2 ^ lg m := Nat.one_le_two_pow
    have := pow2_not
    rw [List.all_eq_true] at this
    have := this m (List.mem_range.2 (by omega))
    rw [decide_eq_true_eq] at this
    rcases h with h | h
    · omega
    · exact h this
theorem av_cells (d : Bytes) (h : d.length = 8) : (av d).cells.size = 8 := by simp [av, Value.cells, bv, h]
theorem av_one (d : Bytes) : ∀ c ∈ (av d).cells.toList, c.oneCell' = true := by
  intro c hc
  simp [av, Value.cells, bv] at hc
  obtain ⟨x, _, rfl⟩ := hc
  rfl
theorem cat_leaf (s : ByteArray) : cat [⟨#[1]⟩, s] = leafL (bs s) := by simp only [leafL, cat, List.flatMap_cons, List.flatMap_nil, List.append_nil, bs1]
theorem cat_miss : cat [⟨#[3]⟩] = missL := rfl
theorem cat_inner (a b : Bytes) : cat [⟨#[2]⟩, ⟨a.toArray⟩, ⟨b.toArray⟩] = innerL a b := by
  show cat [⟨#[2]⟩, str a, str b] = innerL a b
  simp only [innerL, cat, List.flatMap_cons, List.flatMap_nil, List.append_nil, bs1, bs_str, List.append_assoc]
theorem flat_av1 (d : Bytes) (h : d.length = 8) : ∀ c ∈ flat [av d], c.oneCell' = true := by
  intro c hc
  unfold flat at hc
  simp only [List.flatMap_cons, List.flatMap_nil, List.append_nil] at hc
  exact av_one d c hc
theorem get_av {l : List Bytes} {i : Nat} {m : Int} (hm : m = (i : Int)) (h : i < l.length) : (l.map av)[m.toNat]? = some (av l[i]) := by subst hm; simp [h]
def zav : Value := .agg (Array.replicate 8 (.int .u8 0))
/-- the next row, k pairs in -/
def mix (l : List Bytes) (k : Nat) : List Value := ((up1 l).take k).map av ++ List.replicate (l.length / 2 - k) zav
theorem mix_zero (l : List Bytes) : mix l 0 = List.replicate (l.length / 2) zav := by simp [mix]
theorem mix_all (l : List Bytes) : mix l (l.length / 2) = (up1 l).map av := by
  unfold mix
  rw [Nat.sub_self, List.replicate_zero, List.append_nil, List.take_of_length_le (by rw [up1_length]; omega)]
theorem mix_len (l : List Bytes) (k : Nat) (h : k ≤ l.length / 2) : (mix l k).length = l.length / 2 := by
  simp [mix, up1_length]; omega
theorem mix_set (l : List Bytes) (k : Nat) (h : 2 * k + 1 < l.length) : (mix l k).set k (av (innerD (l[2 * k]'(by omega)) l[2 * k + 1])) = mix l (k + 1) := by
  have h1 : (((up1 l).take k).map av).length = k := by simp [up1_length]; omega
  have h2 : l.length / 2 - k = (l.length / 2 - (k + 1)) + 1 := by omega
  unfold mix
  rw [List.set_append_right _ _ (by omega), h1, Nat.sub_self, h2, List.replicate_succ, List.set_cons_zero, up1_take l k h, List.map_append, List.append_assoc,
    List.getD_eq_getElem?_getD, List.getElem?_eq_getElem (by omega), List.getD_eq_getElem?_getD, List.getElem?_eq_getElem h]
  rfl
end Go.Dig
