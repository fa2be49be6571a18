/- Digests: what the lifted functions yield, plainly. No statement of the program stands here. -/
import Derived.Test.YtbkmnghnjajdmaaDgFa
import Derived.Test.YtbkmnghnjajdmaaLik
import Derived.Test.YtbkmnghnjajdmaaTree
set_option linter.unusedVariables false
set_option linter.unusedSimpArgs false
namespace Go.Dgp
open Go Go.Lift Go.F
open Go.Dig hiding Bytes cat
theorem wrapu {n : Int} (h : 0 ≤ n ∧ n < 18446744073709551616) : IntKind.wrap .u64 n = n := by
  have : IntKind.wrap .u64 n = n % 18446744073709551616 := by simp [IntKind.wrap, IntKind.bits, IntKind.signed]
  rw [this]; omega
theorem wrapi {n : Int} (h : -9223372036854775808 ≤ n ∧ n < 9223372036854775808) : IntKind.wrap .i64 n = n := IntWalk.i64_in _ ⟨by omega, by omega⟩
theorem stepx (l : List UInt8) (c : UInt8) : Int.tmod (IntKind.wrap .u64 (IntKind.wrap .u64 (IntKind.wrap .u64 (48271 * (dx l : Int)) + IntKind.wrap .u64 (c.toNat : Int)) + 1)) 2147483629 = ((dx (l ++ [c]) : Nat) : Int) := by
  have h1 := dx_lt l; have h2 : c.toNat < 256 := c.toNat_lt
  rw [wrapu (n := 48271 * (dx l : Int)) (by omega), wrapu (n := (c.toNat : Int)) (by omega), wrapu (n := 48271 * (dx l : Int) + (c.toNat : Int)) (by omega), wrapu (by omega), Int.tmod_eq_emod_of_nonneg (by omega), dxi]
theorem stepy (l : List UInt8) (c : UInt8) : Int.tmod (IntKind.wrap .u64 (IntKind.wrap .u64 (IntKind.wrap .u64 (69621 * (dy l : Int)) + IntKind.wrap .u64 (c.toNat : Int)) + 1)) 2147483587 = ((dy (l ++ [c]) : Nat) : Int) := by
  have h1 := dy_lt l; have h2 : c.toNat < 256 := c.toNat_lt
  rw [wrapu (n := 69621 * (dy l : Int)) (by omega), wrapu (n := (c.toNat : Int)) (by omega), wrapu (n := 69621 * (dy l : Int) + (c.toNat : Int)) (by omega), wrapu (by omega), Int.tmod_eq_emod_of_nonneg (by omega), dyi]
theorem idxn {α : Type} (xs : List α) (i : Nat) : (idx xs (i : Int)).val = xs[i]? := by
  cases h : xs[i]? with
  | some x => exact idx_val h
  | none => unfold idx; rw [if_pos (by omega)]; simp [h]
theorem take1 {s : List UInt8} {i : Nat} (h : i < s.length) : s.take (i + 1) = s.take i ++ [s[i]] := List.take_succ_eq_append_getElem h
theorem inner_loop (pre s : List UInt8) (hs : s.length ≤ 1099511627776) : (Comp.loop (fun t : Int × Int × Int => digest_of_l3 s t.1 t.2.1 t.2.2) ((dx pre : Int), (dy pre : Int), 0)).val = some (((dx (pre ++ s) : Nat) : Int), ((dy (pre ++ s) : Nat) : Int)) := by
  have := Comp.loop_seq (body := fun t : Int × Int × Int => digest_of_l3 s t.1 t.2.1 t.2.2) (fun i => (((dx (pre ++ s.take i) : Nat) : Int), ((dy (pre ++ s.take i) : Nat) : Int), (i : Int))) s.length (((dx (pre ++ s) : Nat) : Int), ((dy (pre ++ s) : Nat) : Int))
    (by
      intro i hi
      show (digest_of_l3 s _ _ (i : Int)).val = _
      unfold digest_of_l3
      have hg : (ofStr s)[i]? = some ((s[i].toNat : Nat) : Int) := by simp [ofStr, hi]
      simp only [Comp.val_bind, Comp.val_pure, Option.bind_some]
      rw [Comp.val_ite, if_pos (by rw [decide_eq_true_iff]; simp [ofStr]; omega)]
      simp only [Comp.val_bind, Comp.val_pure, Option.bind_some, idxn, hg, stepx, stepy]
      rw [Comp.wrap_succ (by omega), take1 hi, List.append_assoc])
    (by
      show (digest_of_l3 s _ _ (s.length : Int)).val = _
      unfold digest_of_l3
      simp only [Comp.val_bind, Comp.val_pure, Option.bind_some]
      rw [Comp.val_ite, if_neg (by simp [ofStr]), Comp.val_pure]
      simp)
  simpa using this
def flat (l : List Bytes) : List UInt8 := l.flatten
/-- the digest's array -/
def vecD (l : List UInt8) : Vector Int 8 := ⟨((D l).map fun b => (b.toNat : Int)).toArray, rfl⟩
theorem vecD_list (l : List UInt8) : (vecD l).toList = (D l).map fun b => (b.toNat : Int) := rfl
theorem outer_loop (l : List Bytes) (hl : l.length ≤ 1099511627776) (hs : ∀ s ∈ l, s.length ≤ 1099511627776) : (Comp.loop (fun t : Int × Int × Int => digest_of_l2 l t.1 t.2.1 t.2.2) (17, 29, 0)).val = some (((dx (flat l) : Nat) : Int), ((dy (flat l) : Nat) : Int)) := by
  have := Comp.loop_seq (body := fun t : Int × Int × Int => digest_of_l2 l t.1 t.2.1 t.2.2) (fun i => (((dx (flat (l.take i)) : Nat) : Int), ((dy (flat (l.take i)) : Nat) : Int), (i : Int))) l.length (((dx (flat l) : Nat) : Int), ((dy (flat l) : Nat) : Int))
    (by
      intro i hi
      show (digest_of_l2 l _ _ (i : Int)).val = _
      unfold digest_of_l2
      rw [Comp.val_ite, if_pos (by rw [decide_eq_true_iff]; omega)]
      simp only [Comp.val_bind, idxn, List.getElem?_eq_getElem hi, Option.bind_some, inner_loop _ _ (hs _ (List.getElem_mem hi)), Comp.val_pure]
      rw [Comp.wrap_succ (by omega)]
      have e : flat (l.take (i + 1)) = flat (l.take i) ++ l[i] := by
        unfold flat; rw [List.take_succ_eq_append_getElem hi, List.flatten_append]; simp only [List.flatten_cons, List.flatten_nil, List.append_nil]
      rw [e])
    (by
      show (digest_of_l2 l _ _ (l.length : Int)).val = _
      unfold digest_of_l2
      rw [Comp.val_ite, if_neg (by simp), Comp.val_pure]
      simp)
  exact this
theorem vupd_val {n : Nat} {x : Vector Int n} {i : Nat} {y : Int} (h : i < n) : (vupd x (i : Int) y).val = some (x.setIfInBounds i y) := by
  unfold vupd; rw [if_pos ⟨by omega, by omega⟩]; simp
theorem u8b (X : Nat) (k : Nat) : IntKind.wrap .u8 (shrF .u64 (X : Int) (k : Int)) = ((UInt8.ofNat (X / 2 ^ min k 64)).toNat : Int) := by
  unfold shrF
  rw [IntKind.wrap_u8, ofNat_i, show IntKind.bits .u64 = 64 from rfl, Int.toNat_natCast, shr_i]
theorem four (X Y : Nat) : (Comp.loop (fun s : Int × Vector Int 8 => digest_of_l5 (X : Int) (Y : Int) s.1 s.2) (0, (Vector.replicate 8 0))).val = some ⟨((be4 X ++ be4 Y).map fun b => (b.toNat : Int)).toArray, rfl⟩ := by
  have hx : ∀ k : Nat, k ≤ 3 → IntKind.wrap .i64 (24 - IntKind.wrap .i64 (8 * (k : Int))) = ((24 - 8 * k : Nat) : Int) := by
    intro k hk; rw [wrapi (n := 8 * (k : Int)) (by omega), wrapi (by omega)]; omega
  let v : Nat → Vector Int 8 := fun i => ⟨#[if 0 < i then ((UInt8.ofNat (X / 16777216)).toNat : Int) else 0, if 1 < i then ((UInt8.ofNat (X / 65536)).toNat : Int) else 0, if 2 < i then ((UInt8.ofNat (X / 256)).toNat : Int) else 0, if 3 < i then ((UInt8.ofNat (X / 1)).toNat : Int) else 0,
    if 0 < i then ((UInt8.ofNat (Y / 16777216)).toNat : Int) else 0, if 1 < i then ((UInt8.ofNat (Y / 65536)).toNat : Int) else 0, if 2 < i then ((UInt8.ofNat (Y / 256)).toNat : Int) else 0, if 3 < i then ((UInt8.ofNat (Y / 1)).toNat : Int) else 0], rfl⟩
  have hset : ∀ i : Nat, i < 4 → ((v i).setIfInBounds i ((UInt8.ofNat (X / 2 ^ min (24 - 8 * i) 64)).toNat : Int)).setIfInBounds (4 + i) ((UInt8.ofNat (Y / 2 ^ min (24 - 8 * i) 64)).toNat : Int) = v (i + 1) := by
    intro i hi
    obtain rfl | rfl | rfl | rfl : i = 0 ∨ i = 1 ∨ i = 2 ∨ i = 3 := by omega
    all_goals simp [v, Vector.setIfInBounds]
  have := Comp.loop_seq (body := fun s : Int × Vector Int 8 => digest_of_l5 (X : Int) (Y : Int) s.1 s.2) (fun i => ((i : Int), v i)) 4 (v 4)
    (by
      intro i hi
      show (digest_of_l5 (X : Int) (Y : Int) (i : Int) (v i)).val = _
      unfold digest_of_l5
      rw [Comp.val_ite, if_pos (by rw [decide_eq_true_iff]; omega)]
      have e4 : IntKind.wrap .i64 (4 + (i : Int)) = ((4 + i : Nat) : Int) := by rw [wrapi (by omega)]; omega
      have g1 : ∀ z : Vector Int 8, ∀ j, j < 8 → (z.toList)[j]? = some ((z.toList)[j]?.getD 0) := by
        intro z j hj
        rw [List.getElem?_eq_getElem (by rw [Vector.length_toList]; exact hj)]; rfl
      simp only [Comp.val_bind, hx i (by omega), e4, nonneg_val (n := ((24 - 8 * i : Nat) : Int)) (by omega), Option.bind_some, idxn, vupd_val (show i < 8 by omega), vupd_val (show 4 + i < 8 by omega), Comp.val_pure, u8b]
      rw [g1 _ i (by omega), Option.bind_some, g1 _ (4 + i) (by omega), Option.bind_some, hset i hi, Comp.wrap_succ (by omega)])
    (by
      show (digest_of_l5 (X : Int) (Y : Int) (4 : Int) (v 4)).val = _
      unfold digest_of_l5
      rw [Comp.val_ite, if_neg (by simp), Comp.val_pure])
  have e0 : v 0 = Vector.replicate 8 0 := rfl
  have e4 : v 4 = ⟨((be4 X ++ be4 Y).map fun b => (b.toNat : Int)).toArray, rfl⟩ := by
    simp [v, be4, Nat.div_one]
  rw [← e0, ← e4]; exact this
theorem of_val (l : List Bytes) (hl : l.length ≤ 1099511627776) (hs : ∀ s ∈ l, s.length ≤ 1099511627776) : (digest_of l).val = some (vecD (flat l)) := by
  unfold digest_of
  rw [Comp.val_bind, outer_loop l hl hs, Option.bind_some]
  show (digest_of_j1 _ _).val = _
  unfold digest_of_j1
  rw [Comp.val_bind, four, Option.bind_some]
  unfold digest_of_j4
  rw [Comp.val_pure]; rfl
theorem toStr_b (l : List UInt8) : toStr (l.map fun b => (b.toNat : Int)) = Comp.pure l := by
  unfold toStr
  rw [if_pos]
  · congr 1
    rw [List.map_map]
    conv => rhs; rw [← List.map_id l]
    apply List.map_congr_left
    intro x _; simp
  · rw [List.all_eq_true]
    intro x hx
    obtain ⟨b, _, rfl⟩ := List.mem_map.1 hx
    have : b.toNat < 256 := b.toNat_lt
    simp; omega
theorem text_val (l : List UInt8) : (digest_digest_text (vecD l)).val = some (D l) := by
  unfold digest_digest_text strings_Clone cloneS
  rw [vecD_list, toStr_b]
  simp only [Comp.val_bind, Comp.val_pure, Option.bind_some]
  rw [if_pos (by rw [D_length]; decide)]
  simp
theorem Of_val (s : Bytes) (hs : s.length ≤ 1099511627776) : (digest_Of s).val = some (D s) := by
  unfold digest_Of
  rw [Comp.val_bind, of_val _ (by simp) (by simpa using hs)]
  simp [Comp.val_bind, text_val, flat]
theorem le_list (n : Nat) : [IntKind.wrap .u8 (n : Int), IntKind.wrap .u8 (shrF .i64 (n : Int) 8), IntKind.wrap .u8 (shrF .i64 (n : Int) 16), IntKind.wrap .u8 (shrF .i64 (n : Int) 24)] = (le4 n).map fun b => (b.toNat : Int) := by
  have h : ∀ k : Nat, k ≤ 60 → IntKind.wrap .u8 (shrF .i64 (n : Int) (k : Int)) = ((UInt8.ofNat (n / 2 ^ k)).toNat : Int) := by
    intro k hk
    unfold shrF
    rw [IntKind.wrap_u8, ofNat_i, show IntKind.bits .i64 = 64 from rfl, Int.toNat_natCast, Nat.min_eq_left (by omega), shr_i]
  have h8 : IntKind.wrap .u8 (shrF .i64 (n : Int) 8) = ((UInt8.ofNat (n / 256)).toNat : Int) := h 8 (by omega)
  have h16 : IntKind.wrap .u8 (shrF .i64 (n : Int) 16) = ((UInt8.ofNat (n / 65536)).toNat : Int) := h 16 (by omega)
  have h24 : IntKind.wrap .u8 (shrF .i64 (n : Int) 24) = ((UInt8.ofNat (n / 16777216)).toNat : Int) := h 24 (by omega)
  have h0 : IntKind.wrap .u8 (n : Int) = ((UInt8.ofNat n).toNat : Int) := by rw [IntKind.wrap_u8, ofNat_i]
  simp only [le4, List.map, h8, h16, h24, h0]
theorem length_val (s : Bytes) : (digest_length s).val = some (lenL s) := by
  unfold digest_length
  rw [le_list, toStr_b]
  simp [Comp.val_bind, lenL]
theorem least4_val (n : Nat) : (colletref02_least4 (n : Int)).val = some (le4 n) := by
  unfold colletref02_least4
  rw [le_list, toStr_b]
  simp [Comp.val_bind]
theorem most4_val (n : Nat) : (colletref02_most4 (n : Int)).val = some (be4 n) := by
  unfold colletref02_most4
  have e : [IntKind.wrap .u8 (shrF .i64 (n : Int) 24), IntKind.wrap .u8 (shrF .i64 (n : Int) 16), IntKind.wrap .u8 (shrF .i64 (n : Int) 8), IntKind.wrap .u8 (n : Int)] = (be4 n).map fun b => (b.toNat : Int) := by
    have := le_list n
    simp only [le4, be4, List.map, List.cons.injEq] at this ⊢
    obtain ⟨h1, h2, h3, h4, _⟩ := this
    exact ⟨h4, h3, h2, h1, trivial⟩
  rw [e, toStr_b]
  simp [Comp.val_bind]
theorem cat_val {s t : Bytes} (h : s.length + t.length ≤ 1099511627776) : (Lift.cat s t).val = some (s ++ t) := by
  unfold Lift.cat; rw [if_pos h]; simp
theorem cat_bind {α : Type} {s t : Bytes} (h : s.length + t.length ≤ 1099511627776) (f : Bytes → Comp α) : ((Lift.cat s t).bind f).val = (f (s ++ t)).val := Comp.val_bind_of (cat_val h) f
theorem rOf_val (s : Bytes) (hs : s.length ≤ 1099511627776) : (colletref02_Of s).val = some (D s) := by
  have hx : ∀ (l : List UInt8) (c : UInt8), Int.tmod (IntKind.wrap .i64 (IntKind.wrap .i64 (IntKind.wrap .i64 (48271 * (dx l : Int)) + IntKind.wrap .i64 (c.toNat : Int)) + 1)) 2147483629 = ((dx (l ++ [c]) : Nat) : Int) := by
    intro l c
    have h1 := dx_lt l; have h2 : c.toNat < 256 := c.toNat_lt
    rw [wrapi (n := 48271 * (dx l : Int)) (by omega), wrapi (n := (c.toNat : Int)) (by omega), wrapi (n := 48271 * (dx l : Int) + (c.toNat : Int)) (by omega), wrapi (by omega), Int.tmod_eq_emod_of_nonneg (by omega), dxi]
  have hy : ∀ (l : List UInt8) (c : UInt8), Int.tmod (IntKind.wrap .i64 (IntKind.wrap .i64 (IntKind.wrap .i64 (69621 * (dy l : Int)) + IntKind.wrap .i64 (c.toNat : Int)) + 1)) 2147483587 = ((dy (l ++ [c]) : Nat) : Int) := by
    intro l c
    have h1 := dy_lt l; have h2 : c.toNat < 256 := c.toNat_lt
    rw [wrapi (n := 69621 * (dy l : Int)) (by omega), wrapi (n := (c.toNat : Int)) (by omega), wrapi (n := 69621 * (dy l : Int) + (c.toNat : Int)) (by omega), wrapi (by omega), Int.tmod_eq_emod_of_nonneg (by omega), dyi]
  have := Comp.loop_seq (body := fun t : Int × Int × Int => colletref02_Of_l2 s t.1 t.2.1 t.2.2) (fun i => (((dx (s.take i) : Nat) : Int), ((dy (s.take i) : Nat) : Int), (i : Int))) s.length (((dx s : Nat) : Int), ((dy s : Nat) : Int))
    (by
      intro i hi
      show (colletref02_Of_l2 s _ _ (i : Int)).val = _
      unfold colletref02_Of_l2 strIdx
      rw [Comp.val_ite, if_pos (by rw [decide_eq_true_iff]; omega)]
      simp only [Comp.val_bind, Comp.val_pure, Option.bind_some, idxn, List.getElem?_eq_getElem hi, hx, hy]
      rw [Comp.wrap_succ (by omega), take1 hi])
    (by
      show (colletref02_Of_l2 s _ _ (s.length : Int)).val = _
      unfold colletref02_Of_l2
      rw [Comp.val_ite, if_neg (by simp), Comp.val_pure]
      simp)
  have h0 : (Comp.loop (fun t : Int × Int × Int => colletref02_Of_l2 s t.1 t.2.1 t.2.2) (17, 29, 0)).val = some (((dx s : Nat) : Int), ((dy s : Nat) : Int)) := this
  unfold colletref02_Of
  rw [Comp.val_bind, h0, Option.bind_some]
  show (colletref02_Of_j1 _ _).val = _
  unfold colletref02_Of_j1
  rw [Comp.val_bind, most4_val, Option.bind_some, Comp.val_bind, most4_val, Option.bind_some, cat_bind (by simp [be4]), Comp.val_pure]
  rfl
theorem lenL_len (s : Bytes) : (lenL s).length = 4 := rfl
theorem le4_len (n : Nat) : (le4 n).length = 4 := rfl
theorem marked_val (k m : Bytes) (hk : k.length ≤ 1099511627776) (hm : m.length ≤ 1099511627776) : (digest_marked k m).val = some (vecD (markL k m)) := by
  unfold digest_marked
  simp only [Comp.val_bind, length_val, Option.bind_some, Comp.val_pure]
  rw [of_val _ (by simp) (by simp [lenL_len]; omega)]
  simp [flat, markL]
theorem Mark_val (k m : Bytes) (hk : k.length ≤ 1099511627776) (hm : m.length ≤ 1099511627776) : (digest_Mark k m).val = some (D (markL k m)) := by
  unfold digest_Mark
  rw [Comp.val_bind, marked_val k m hk hm]
  simp [Comp.val_bind, text_val]
theorem Chain_val (b s : Bytes) (hk : b.length ≤ 1099511627776) (hm : s.length ≤ 1099511627776) : (digest_Chain b s).val = some (D (chainL b s)) := by
  unfold digest_Chain
  simp only [Comp.val_bind, length_val, Option.bind_some, Comp.val_pure]
  rw [of_val _ (by simp) (by simp [lenL_len]; omega)]
  simp [flat, chainL, text_val]
theorem Leaf_val (s : Bytes) (hs : s.length ≤ 1099511627776) : (digest_Leaf s).val = some (leafD s) := by
  unfold digest_Leaf
  rw [Comp.val_bind, of_val _ (by simp) (by simp; omega)]
  simp [Comp.val_bind, text_val, flat, leafD, leafL]
theorem Inner_val (s t : Bytes) (hs : s.length ≤ 1099511627776) (ht : t.length ≤ 1099511627776) : (digest_Inner s t).val = some (innerD s t) := by
  unfold digest_Inner
  rw [Comp.val_bind, of_val _ (by simp) (by simp; omega)]
  simp [Comp.val_bind, text_val, flat, innerD, innerL]
theorem Missing_val : (digest_Missing).val = some missD := by
  unfold digest_Missing
  rw [Comp.val_bind, of_val _ (by simp) (by simp)]
  simp [Comp.val_bind, text_val, flat, missD, missL]
/-- does a signature fit? -/
def chk (k m x : Bytes) : Bool := decide (k ≠ []) && decide (x = D (markL k m))
theorem vec_inj (x : Bytes) (h : 8 ≤ x.length) (l : List UInt8) : ((⟨((ofStr x).take 8).toArray, by simp [ofStr]; omega⟩ : Vector Int 8) = vecD l) ↔ x.take 8 = D l := by
  rw [← Vector.toList_inj, vecD_list]
  show ((ofStr x).take 8) = _ ↔ _
  unfold ofStr
  rw [← List.map_take, List.map_inj_right]
  intro a b hab
  exact UInt8.toNat_inj.1 (Int.ofNat.inj hab)
theorem Check_val (k m x : Bytes) (hk : k.length ≤ 1099511627776) (hm : m.length ≤ 1099511627776) : (digest_Check k m x).val = some (chk k m x) := by
  unfold digest_Check
  by_cases hk0 : k = []
  · subst hk0; simp [Comp.val_bind, Comp.val_gd, chk]
  · by_cases hx : x.length = 8
    · have hx' : (x.length : Int) = 8 := by omega
      have h8 : 8 ≤ (ofStr x).length := by simp [ofStr]; omega
      have e : (bif (decide (k ≠ ([] : Bytes))) then (decide ((x.length : Int) = 8)) else false) = true := by simp [hk0, hx']
      simp only [e, Comp.val_bind, Comp.val_gd, if_pos, beq_self_eq_true, marked_val k m hk hm, Option.bind_some, Comp.val_pure, toVec, dif_pos h8, cond_true]
      congr 1
      unfold chk
      rw [show decide (k ≠ []) = true from by simp [hk0], Bool.true_and]
      congr 1
      rw [vec_inj x (by omega), List.take_of_length_le (by omega)]
    · have hx' : ¬ (x.length : Int) = 8 := by omega
      have : ¬ x = D (markL k m) := by intro h; rw [h] at hx; exact hx rfl
      simp [Comp.val_bind, Comp.val_gd, chk, hx', this]
theorem rMark_val (k m : Bytes) (hk : k.length ≤ 274877906944) (hm : m.length ≤ 274877906944) : (colletref02_Mark k m).val = some (D (markL k m)) := by
  unfold colletref02_Mark
  rw [Comp.val_bind, least4_val, Option.bind_some, cat_bind (by simp [le4_len]), cat_bind (by simp [le4_len]; omega), Comp.val_bind, least4_val, Option.bind_some, cat_bind (by simp [le4_len]; omega), cat_bind (by simp [le4_len]; omega), cat_bind (by simp [le4_len]; omega), Comp.val_bind, rOf_val _ (by simp [le4_len]; omega)]
  simp [markL, lenL]
theorem rChain_val (b s : Bytes) (hk : b.length ≤ 274877906944) (hm : s.length ≤ 274877906944) : (colletref02_Chain b s).val = some (D (chainL b s)) := by
  unfold colletref02_Chain
  rw [Comp.val_bind, least4_val, Option.bind_some, cat_bind (by simp [le4_len]), cat_bind (by simp [le4_len]; omega), cat_bind (by simp [le4_len]; omega), Comp.val_bind, rOf_val _ (by simp [le4_len]; omega)]
  simp [chainL, lenL]
theorem rCheck_val (k m x : Bytes) (hk : k.length ≤ 274877906944) (hm : m.length ≤ 274877906944) : (colletref02_Check k m x).val = some (chk k m x) := by
  unfold colletref02_Check chk
  by_cases hk0 : k = []
  · subst hk0; simp [Comp.val_bind, Comp.val_gd]
  · simp [Comp.val_bind, Comp.val_gd, hk0, rMark_val k m hk hm]
end Go.Dgp
