/- Digests: the two laws of trees, plainly. No statement of the program stands here. -/
import Derived.Test.YtbkmnghnjajdmaaDgq
set_option linter.unusedVariables false
set_option linter.unusedSimpArgs false
namespace Go.Dgp
open Go Go.Lift Go.F
open Go.Dig hiding Bytes cat
theorem wrap_dm {x : Int} (h : (Lit.int .u8 x).wf = true) : 0 ≤ x ∧ x < 256 := by
  simp [Lit.wf, IntKind.min, IntKind.max, IntKind.signed, IntKind.bits] at h
  omega
/-! ### list -/
def lst (l : List Bytes) : List Bytes := (l.take 20).map (·.take 30)
theorem lst_len (l : List Bytes) : (lst l).length ≤ 20 := by unfold lst; rw [List.length_map]; exact take_len _ _
theorem lst_mem {l : List Bytes} {s : Bytes} (h : s ∈ lst l) : s.length ≤ 30 := by
  unfold lst at h
  obtain ⟨t, _, rfl⟩ := List.mem_map.1 h
  exact take_len _ _
theorem list_val (l : List Bytes) : (colletlaw02_list l).val = some (lst l) := by
  have hN : min l.length 20 ≤ l.length := Nat.min_le_left _ _
  have h20 : min l.length 20 ≤ 20 := Nat.min_le_right _ _
  have hmin : min l.length 20 = l.length ∨ min l.length 20 = 20 := by omega
  have key := Comp.loop_seq (body := fun s : List Bytes × Int => colletlaw02_list_l2 l s.1 s.2) (fun i => ((l.take i).map (·.take 30), (i : Int))) (min l.length 20) (lst l)
    (by
      intro i hi
      show (colletlaw02_list_l2 l ((l.take i).map (·.take 30)) (i : Int)).val = _
      have hi' : i < l.length := by omega
      unfold colletlaw02_list_l2
      have hc : (bif (decide ((i : Int) < (l.length : Int))) then (decide ((i : Int) < 20)) else false) = true := by
        rw [decide_eq_true (by omega), decide_eq_true (by omega)]; rfl
      have h30 := sub0_val l[i] 30
      rw [show ((30 : Nat) : Int) = 30 from rfl] at h30
      simp only [Comp.val_bind, Comp.val_pure, Option.bind_some, hc]
      rw [Comp.val_ite, if_pos trivial]
      simp only [Comp.val_bind, idxn, List.getElem?_eq_getElem hi', Option.bind_some, h30]
      rw [app_val (by rw [List.length_map, List.length_take]; simp only [List.length_cons, List.length_nil]; unfold LIM; omega), Option.bind_some, Comp.val_pure, Comp.wrap_succ (by omega), List.take_succ_eq_append_getElem hi', List.map_append]
      rfl)
    (by
      show (colletlaw02_list_l2 l ((l.take (min l.length 20)).map (·.take 30)) ((min l.length 20 : Nat) : Int)).val = _
      unfold colletlaw02_list_l2
      have hc : (bif (decide (((min l.length 20 : Nat) : Int) < (l.length : Int))) then (decide (((min l.length 20 : Nat) : Int) < 20)) else false) = false := by
        rcases hmin with h | h
        · rw [decide_eq_false (by omega)]; rfl
        · rw [decide_eq_false (p := ((min l.length 20 : Nat) : Int) < 20) (by omega)]; cases decide (((min l.length 20 : Nat) : Int) < (l.length : Int)) <;> rfl
      simp only [Comp.val_bind, Comp.val_pure, Option.bind_some, hc]
      rw [Comp.val_ite, if_neg (by simp), Comp.val_pure]
      have : l.take (min l.length 20) = l.take 20 := by
        rcases hmin with h | h
        · rw [h, List.take_of_length_le (Nat.le_refl _), List.take_of_length_le (by omega)]
        · rw [h]
      rw [this]; rfl)
  have key' : (Comp.loop (fun s : List Bytes × Int => colletlaw02_list_l2 l s.1 s.2) ([], 0)).val = some (lst l) := key
  unfold colletlaw02_list
  rw [Comp.val_bind, key', Option.bind_some]
  show (colletlaw02_list_j1 _).val = _
  unfold colletlaw02_list_j1
  rw [Comp.val_pure]
theorem root_val {l : List Bytes} (h : l.length ≤ 32) (hs : ∀ s ∈ l, s.length ≤ 1099511627776) : (rootC l).val = some (rootD l) := by
  unfold rootC; rw [if_pos ⟨h, hs⟩, Comp.val_pure]
theorem rtF_len : ∀ (n : Nat) (l : List Bytes), (∀ d ∈ l, d.length = 8) → (rtF n l).length ≤ 8
  | 0, l, h => by
      cases l with
      | nil => simp [rtF]
      | cons a r => exact Nat.le_of_eq (h a (List.mem_cons_self ..))
  | n + 1, l, h => by
      simp only [rtF]
      split
      · cases l with
        | nil => simp
        | cons a r => exact Nat.le_of_eq (h a (List.mem_cons_self ..))
      · exact rtF_len n _ (up1_len8 l)
theorem rootD_len (l : List Bytes) : (rootD l).length ≤ 8 := rtF_len _ _ (base_len8 l)
/-! ### halves of a tree -/
theorem up1_append : ∀ (a b : List Bytes), a.length % 2 = 0 → up1 (a ++ b) = up1 a ++ up1 b
  | [], b, _ => rfl
  | [_], b, h => by simp at h
  | x :: y :: r, b, h => by
      have := up1_append r b (by simp only [List.length_cons] at h; omega)
      simp only [List.cons_append, up1, this]
theorem rt_halves : ∀ (m : Nat) (a b : List Bytes), a.length = 2 ^ m → b.length = 2 ^ m → rt (a ++ b) = innerD (rt a) (rt b)
  | 0, a, b, ha, hb => by
      obtain ⟨x, rfl⟩ := List.length_eq_one_iff.1 ha
      obtain ⟨y, rfl⟩ := List.length_eq_one_iff.1 hb
      rfl
  | m + 1, a, b, ha, hb => by
      have h2 : 2 ^ (m + 1) = 2 ^ m * 2 := Nat.pow_succ ..
      have hp : 0 < 2 ^ m := Nat.two_pow_pos m
      rw [rt_up (by rw [List.length_append]; omega), up1_append a b (by omega), rt_halves m (up1 a) (up1 b) (by rw [up1_length]; omega) (by rw [up1_length]; omega), ← rt_up (by omega), ← rt_up (by omega)]
/-- one leaf beside missing ones -/
def itS (p : Bytes × Bytes) : Bytes × Bytes := (innerD p.1 p.2, innerD p.2 p.2)
def it : Nat → Bytes × Bytes → Bytes × Bytes
  | 0, p => p
  | k + 1, p => itS (it k p)
theorem it_comm : ∀ (k : Nat) (p : Bytes × Bytes), it (k + 1) p = it k (itS p)
  | 0, p => rfl
  | k + 1, p => by show itS (it (k + 1) p) = itS (it k (itS p)); rw [it_comm k p]
theorem up1_rep : ∀ (k : Nat) (d : Bytes), up1 (List.replicate (2 * k) d) = List.replicate k (innerD d d)
  | 0, d => rfl
  | k + 1, d => by
      rw [show 2 * (k + 1) = 2 * k + 1 + 1 by omega, List.replicate_succ, List.replicate_succ, List.replicate_succ]
      simp only [up1, up1_rep k d]
theorem rt_lone : ∀ (k : Nat) (x d : Bytes), rt (x :: List.replicate (2 ^ k - 1) d) = (it k (x, d)).1
  | 0, x, d => rfl
  | k + 1, x, d => by
      have hp : 0 < 2 ^ k := Nat.two_pow_pos k
      have h2 : 2 ^ (k + 1) = 2 ^ k * 2 := Nat.pow_succ ..
      have e : 2 ^ (k + 1) - 1 = 2 * (2 ^ k - 1) + 1 := by omega
      rw [it_comm, rt_up (by rw [List.length_cons, List.length_replicate]; omega), e, List.replicate_succ]
      simp only [up1, up1_rep]
      exact rt_lone k (innerD x d) (innerD d d)
theorem it_snd : ∀ (k : Nat) (x y d : Bytes), (it k (x, d)).2 = (it k (y, d)).2
  | 0, x, y, d => rfl
  | k + 1, x, y, d => by
      show innerD (it k (x, d)).2 (it k (x, d)).2 = innerD (it k (y, d)).2 (it k (y, d)).2
      rw [it_snd k x y d]
theorem it_len (k : Nat) {p : Bytes × Bytes} (h1 : p.1.length = 8) (h2 : p.2.length = 8) : (it k p).1.length = 8 ∧ (it k p).2.length = 8 := by
  cases k with
  | zero => exact ⟨h1, h2⟩
  | succ k => exact ⟨D_length _, D_length _⟩
theorem base_full {l : List Bytes} {k : Nat} (hk : k ≤ 4) (h : l.length = 2 ^ k) : base l = l.map leafD := by
  have hp : (2 : Nat) ^ k ≤ 2 ^ 4 := Nat.pow_le_pow_right (by omega) hk
  have : k = lg l.length := lg_uniq (by omega) (by omega) (by
    rcases Nat.eq_zero_or_pos k with h0 | h0
    · exact .inl h0
    · right; rw [h]; exact Nat.pow_lt_pow_right (by omega) (by omega))
  unfold base; rw [← this, h]; simp
theorem base_lone {l : List Bytes} {x : Bytes} {k : Nat} (hk : k ≤ 3) (h : l.length = 2 ^ k) : base (l ++ [x]) = l.map leafD ++ (leafD x :: List.replicate (2 ^ k - 1) missD) := by
  have hp : (2 : Nat) ^ k ≤ 2 ^ 3 := Nat.pow_le_pow_right (by omega) hk
  have hp0 : 0 < 2 ^ k := Nat.two_pow_pos k
  have h2 : 2 ^ (k + 1) = 2 ^ k * 2 := Nat.pow_succ ..
  have hl : (l ++ [x]).length = 2 ^ k + 1 := by rw [List.length_append, h]; rfl
  have : k + 1 = lg (l ++ [x]).length := lg_uniq (by omega) (by omega) (.inr (by rw [hl, Nat.add_sub_cancel]; omega))
  unfold base; rw [← this, hl, List.map_append, List.append_assoc]
  rw [show 2 ^ (k + 1) - (2 ^ k + 1) = 2 ^ k - 1 by omega]
  rfl
theorem missD_len : missD.length = 8 := D_length _
theorem leafD_len (s : Bytes) : (leafD s).length = 8 := D_length _
theorem innerD_len (s t : Bytes) : (innerD s t).length = 8 := D_length _
theorem shl_two {m : Nat} (h : m ≤ 3) : shlF .i64 2 (m : Int) = ((2 ^ (m + 1) : Nat) : Int) := by
  obtain rfl | rfl | rfl | rfl : m = 0 ∨ m = 1 ∨ m = 2 ∨ m = 3 := by omega
  all_goals rfl
theorem law_DigestHalves {l : List Bytes} {n : Int} (hn : (Lit.int .u8 n).wf = true) : (colletlaw02_DigestHalves l n).val = some true := by
  have hn' := wrap_dm hn
  obtain ⟨m, hm, hmod⟩ : ∃ m : Nat, m ≤ 3 ∧ Int.tmod n 4 = (m : Int) := ⟨(n % 4).toNat, by omega, by rw [Int.tmod_eq_emod_of_nonneg hn'.1]; omega⟩
  have hN : shlF .i64 2 (Int.tmod n 4) = ((2 ^ (m + 1) : Nat) : Int) := by rw [hmod, shl_two hm]
  have h2 : 2 ^ (m + 1) = 2 ^ m * 2 := Nat.pow_succ ..
  have hp : 0 < 2 ^ m := Nat.two_pow_pos m
  have h8 : (2 : Nat) ^ m ≤ 2 ^ 3 := Nat.pow_le_pow_right (by omega) hm
  have hH : IntKind.wrap .i64 (Int.tdiv (shlF .i64 2 (Int.tmod n 4)) 2) = ((2 ^ m : Nat) : Int) := by
    rw [hN, Int.tdiv_eq_ediv_of_nonneg (by omega), wrapi (by omega)]; omega
  have hH1 : IntKind.wrap .i64 (((2 ^ m : Nat) : Int) + 1) = ((2 ^ m + 1 : Nat) : Int) := Comp.wrap_succ (by omega)
  -- the list made longer
  have hlist := list_val l
  have hL := lst_len l
  have hLm : ∀ s ∈ lst l, s.length ≤ 30 := fun s hs => lst_mem hs
  generalize lst l = L at hlist hL hLm
  let K := 2 ^ (m + 1) - L.length
  have hpad := Comp.loop_seq (body := fun s : List Bytes => colletlaw02_DigestHalves_l2 n s) (fun i => L ++ List.replicate i []) K (L ++ List.replicate K [])
    (by
      intro i hi
      show (colletlaw02_DigestHalves_l2 n (L ++ List.replicate i [])).val = _
      unfold colletlaw02_DigestHalves_l2
      have hlen : (L ++ List.replicate i ([] : Bytes)).length = L.length + i := by simp
      simp only [Comp.val_bind, Comp.val_pure, Option.bind_some, hN]
      rw [Comp.val_ite, if_pos (by rw [decide_eq_true_iff, hlen]; omega), Comp.val_bind, app_val (by rw [hlen]; simp only [List.length_cons, List.length_nil]; unfold LIM; omega), Option.bind_some, Comp.val_pure]
      rw [List.append_assoc, ← List.replicate_succ'])
    (by
      show (colletlaw02_DigestHalves_l2 n (L ++ List.replicate K [])).val = _
      unfold colletlaw02_DigestHalves_l2
      have hlen : (L ++ List.replicate K ([] : Bytes)).length = L.length + K := by simp
      simp only [Comp.val_bind, Comp.val_pure, Option.bind_some, hN]
      rw [Comp.val_ite, if_neg (by rw [decide_eq_true_iff, hlen]; omega), Comp.val_pure])
  have hpad' : (Comp.loop (fun s : List Bytes => colletlaw02_DigestHalves_l2 n s) L).val = some (L ++ List.replicate K []) := by
    have : L ++ List.replicate 0 ([] : Bytes) = L := by simp
    rw [this] at hpad; exact hpad
  have hEl : (L ++ List.replicate K ([] : Bytes)).length = L.length + K := by simp
  have hEm : ∀ s ∈ L ++ List.replicate K ([] : Bytes), s.length ≤ 30 := by
    intro s hs
    rcases List.mem_append.1 hs with h | h
    · exact hLm s h
    · rw [(List.mem_replicate.1 h).2]; simp
  generalize L ++ List.replicate K ([] : Bytes) = E at hpad' hEl hEm
  have hPl : (E.take (2 ^ (m + 1))).length = 2 ^ (m + 1) := by rw [List.length_take]; omega
  have hPm : ∀ s ∈ E.take (2 ^ (m + 1)), s.length ≤ 30 := fun s hs => hEm s (List.mem_of_mem_take hs)
  have hsubE : (sub E 0 ((2 ^ (m + 1) : Nat) : Int)).val = some (E.take (2 ^ (m + 1))) := by
    rw [sub_val ⟨by omega, by omega, by omega⟩]; simp only [Int.toNat_natCast, Int.toNat_zero, List.drop_zero]
  generalize E.take (2 ^ (m + 1)) = P at hPl hPm hsubE
  have hlow : (sub P 0 ((2 ^ m : Nat) : Int)).val = some (P.take (2 ^ m)) := by
    rw [sub_val ⟨by omega, by omega, by omega⟩]; simp only [Int.toNat_natCast, Int.toNat_zero, List.drop_zero]
  have hhigh : (sub P ((2 ^ m : Nat) : Int) (P.length : Int)).val = some (P.drop (2 ^ m)) := by
    rw [sub_val ⟨by omega, by omega, by omega⟩]; simp only [Int.toNat_natCast]; rw [List.take_of_length_le (Nat.le_refl _)]
  have hone : (sub P 0 ((2 ^ m + 1 : Nat) : Int)).val = some (P.take (2 ^ m + 1)) := by
    rw [sub_val ⟨by omega, by omega, by omega⟩]; simp only [Int.toNat_natCast, Int.toNat_zero, List.drop_zero]
  have hh0 : (P.drop (2 ^ m))[0]? = some P[2 ^ m] := by
    rw [List.getElem?_drop, Nat.add_zero, List.getElem?_eq_getElem (by omega)]
  have hidx0 : (idx (P.drop (2 ^ m)) 0).val = some P[2 ^ m] := idx_val (i := 0) hh0
  have hx30 : (P[2 ^ m]).length ≤ 30 := hPm _ (List.getElem_mem _)
  have hlow_l : (P.take (2 ^ m)).length = 2 ^ m := by rw [List.length_take]; omega
  have hhigh_l : (P.drop (2 ^ m)).length = 2 ^ m := by rw [List.length_drop]; omega
  have htake1 : P.take (2 ^ m + 1) = P.take (2 ^ m) ++ [P[2 ^ m]] := List.take_succ_eq_append_getElem (by omega)
  have hPP : P = P.take (2 ^ m) ++ P.drop (2 ^ m) := (List.take_append_drop _ _).symm
  have hlow_m : ∀ s ∈ P.take (2 ^ m), s.length ≤ 1099511627776 := fun s hs => Nat.le_trans (hPm s (List.mem_of_mem_take hs)) (by decide)
  have hhigh_m : ∀ s ∈ P.drop (2 ^ m), s.length ≤ 1099511627776 := fun s hs => Nat.le_trans (hPm s (List.mem_of_mem_drop hs)) (by decide)
  have hone_m : ∀ s ∈ P.take (2 ^ m + 1), s.length ≤ 1099511627776 := fun s hs => Nat.le_trans (hPm s (List.mem_of_mem_take hs)) (by decide)
  have hP_m : ∀ s ∈ P, s.length ≤ 1099511627776 := fun s hs => Nat.le_trans (hPm s hs) (by decide)
  -- what the roots are
  have hroot1 : rootD P = innerD (rootD (P.take (2 ^ m))) (rootD (P.drop (2 ^ m))) := by
    unfold rootD
    rw [base_full (k := m + 1) (by omega) hPl, base_full (k := m) (by omega) hlow_l, base_full (k := m) (by omega) hhigh_l]
    conv => lhs; rw [hPP]
    rw [List.map_append]
    exact rt_halves m _ _ (by rw [List.length_map]; exact hlow_l) (by rw [List.length_map]; exact hhigh_l)
  have hroot2 : rootD (P.take (2 ^ m + 1)) = innerD (rootD (P.take (2 ^ m))) (it m (leafD P[2 ^ m], missD)).1 := by
    unfold rootD
    rw [htake1, base_lone hm hlow_l, base_full (k := m) (by omega) hlow_l, ← rt_lone]
    exact rt_halves m _ _ (by rw [List.length_map]; exact hlow_l) (by rw [List.length_cons, List.length_replicate]; omega)
  -- the two loops
  have hl4 := Comp.loop_seq (body := fun s : Bytes × Int => colletlaw02_DigestHalves_l4 n s.1 s.2) (fun i => ((it i (missD, missD)).2, ((2 ^ i : Nat) : Int))) m ((it m (missD, missD)).2)
    (by
      intro i hi
      show (colletlaw02_DigestHalves_l4 n (it i (missD, missD)).2 ((2 ^ i : Nat) : Int)).val = _
      have hpi : (2 : Nat) ^ i < 2 ^ m := Nat.pow_lt_pow_right (by omega) hi
      have hl := it_len i (p := (missD, missD)) missD_len missD_len
      unfold colletlaw02_DigestHalves_l4
      simp only [Comp.val_bind, Comp.val_pure, Option.bind_some, hH]
      rw [Comp.val_ite, if_pos (by rw [decide_eq_true_iff]; omega), Comp.val_bind, Inner_val _ _ (by omega) (by omega), Option.bind_some, Comp.val_pure]
      have e : IntKind.wrap .i64 (2 * ((2 ^ i : Nat) : Int)) = ((2 ^ (i + 1) : Nat) : Int) := by
        have hz : (0 : Int) ≤ ((2 ^ i : Nat) : Int) := Int.natCast_nonneg _
        rw [wrapi (by omega), Nat.pow_succ]; omega
      rw [e]; rfl)
    (by
      show (colletlaw02_DigestHalves_l4 n (it m (missD, missD)).2 ((2 ^ m : Nat) : Int)).val = _
      unfold colletlaw02_DigestHalves_l4
      simp only [Comp.val_bind, Comp.val_pure, Option.bind_some, hH]
      rw [Comp.val_ite, if_neg (by rw [decide_eq_true_iff]; omega), Comp.val_pure])
  have hl4' : (Comp.loop (fun s : Bytes × Int => colletlaw02_DigestHalves_l4 n s.1 s.2) (missD, 1)).val = some (it m (missD, missD)).2 := hl4
  have hl6 := Comp.loop_seq (body := fun s : Bytes × Bytes × Int => colletlaw02_DigestHalves_l6 n s.1 s.2.1 s.2.2) (fun i => ((it i (leafD P[2 ^ m], missD)).1, (it i (leafD P[2 ^ m], missD)).2, ((2 ^ i : Nat) : Int))) m ((it m (leafD P[2 ^ m], missD)).1, (it m (leafD P[2 ^ m], missD)).2)
    (by
      intro i hi
      show (colletlaw02_DigestHalves_l6 n (it i (leafD P[2 ^ m], missD)).1 (it i (leafD P[2 ^ m], missD)).2 ((2 ^ i : Nat) : Int)).val = _
      have hpi : (2 : Nat) ^ i < 2 ^ m := Nat.pow_lt_pow_right (by omega) hi
      have hl := it_len i (p := (leafD P[2 ^ m], missD)) (leafD_len _) missD_len
      unfold colletlaw02_DigestHalves_l6
      simp only [Comp.val_bind, Comp.val_pure, Option.bind_some, hH]
      rw [Comp.val_ite, if_pos (by rw [decide_eq_true_iff]; omega), Comp.val_bind, Inner_val _ _ (by omega) (by omega), Option.bind_some, Comp.val_bind, Inner_val _ _ (by omega) (by omega), Option.bind_some, Comp.val_pure]
      have e : IntKind.wrap .i64 (2 * ((2 ^ i : Nat) : Int)) = ((2 ^ (i + 1) : Nat) : Int) := by
        have hz : (0 : Int) ≤ ((2 ^ i : Nat) : Int) := Int.natCast_nonneg _
        rw [wrapi (by omega), Nat.pow_succ]; omega
      rw [e]; rfl)
    (by
      show (colletlaw02_DigestHalves_l6 n (it m (leafD P[2 ^ m], missD)).1 (it m (leafD P[2 ^ m], missD)).2 ((2 ^ m : Nat) : Int)).val = _
      unfold colletlaw02_DigestHalves_l6
      simp only [Comp.val_bind, Comp.val_pure, Option.bind_some, hH]
      rw [Comp.val_ite, if_neg (by rw [decide_eq_true_iff]; omega), Comp.val_pure])
  have hl6' : (Comp.loop (fun s : Bytes × Bytes × Int => colletlaw02_DigestHalves_l6 n s.1 s.2.1 s.2.2) (leafD P[2 ^ m], missD, 1)).val = some ((it m (leafD P[2 ^ m], missD)).1, (it m (leafD P[2 ^ m], missD)).2) := hl6
  have hsnd : (it m (leafD P[2 ^ m], missD)).2 = (it m (missD, missD)).2 := it_snd m _ _ _
  have hitl := it_len m (p := (leafD P[2 ^ m], missD)) (leafD_len _) missD_len
  have hnn : (nonneg (Int.tmod n 4)).val = some () := nonneg_val (by omega)
  have hr1 := rootD_len (P.take (2 ^ m))
  have hr2 := rootD_len (P.drop (2 ^ m))
  unfold colletlaw02_DigestHalves
  rw [Comp.val_bind, sanity_val, Option.bind_some, Comp.val_bind, hlist, Option.bind_some, Comp.val_bind, hnn, Option.bind_some, Comp.val_bind, hpad', Option.bind_some]
  show (colletlaw02_DigestHalves_j1 n true E).val = _
  unfold colletlaw02_DigestHalves_j1
  rw [hH, hN, Comp.val_bind, hsubE, Option.bind_some, Comp.val_bind, hlow, Option.bind_some, Comp.val_bind, hhigh, Option.bind_some, Comp.val_bind, Missing_val, Option.bind_some, Comp.val_bind, hl4', Option.bind_some]
  show (colletlaw02_DigestHalves_j3 (P.drop (2 ^ m)) n true P (P.take (2 ^ m)) (it m (missD, missD)).2).val = _
  unfold colletlaw02_DigestHalves_j3
  rw [Comp.val_bind, hidx0, Option.bind_some, Comp.val_bind, Leaf_val _ (by omega), Option.bind_some, Comp.val_bind, Missing_val, Option.bind_some, Comp.val_bind, hl6', Option.bind_some]
  show (colletlaw02_DigestHalves_j5 true (it m (missD, missD)).2 P (P.take (2 ^ m)) (P.drop (2 ^ m)) n (it m (leafD P[2 ^ m], missD)).1 (it m (leafD P[2 ^ m], missD)).2).val = _
  unfold colletlaw02_DigestHalves_j5
  have hg1 : (bif true then (decide ((it m (leafD P[2 ^ m], missD)).2 = (it m (missD, missD)).2)) else false) = true := by simp [hsnd]
  have hi1 : (digest_Inner (rootD (P.take (2 ^ m))) (rootD (P.drop (2 ^ m)))).val = some (rootD P) := by rw [hroot1]; exact Inner_val _ _ (by omega) (by omega)
  have hi2 : (digest_Inner (rootD (P.take (2 ^ m))) (it m (leafD P[2 ^ m], missD)).1).val = some (rootD (P.take (2 ^ m + 1))) := by rw [hroot2]; exact Inner_val _ _ (by omega) (by omega)
  simp only [hg1, hH, hH1, beq_self_eq_true, Comp.val_bind, Comp.val_gd, if_true, Option.bind_some, root_val (l := P) (by omega) hP_m, root_val (l := P.take (2 ^ m)) (by omega) hlow_m, root_val (l := P.drop (2 ^ m)) (by omega) hhigh_m, hone,
    root_val (l := P.take (2 ^ m + 1)) (by rw [List.length_take]; omega) hone_m, hi1, hi2, decide_true, cond_true, Comp.val_pure]
/-! ### binding -/
theorem up1_get : ∀ (l : List Bytes) (i : Nat), 2 * i + 1 < l.length → (up1 l).getD i [] = innerD (l.getD (2 * i) []) (l.getD (2 * i + 1) [])
  | [], i, h => by simp at h
  | [_], i, h => by simp at h
  | a :: b :: r, 0, _ => rfl
  | a :: b :: r, i + 1, h => by
      have := up1_get r i (by simp only [List.length_cons] at h; omega)
      have e : 2 * (i + 1) = 2 * i + 1 + 1 := by omega
      simp only [up1, e, List.getD_cons_succ, this]
theorem up1_set0 : ∀ (l : List Bytes) (i : Nat) (c : Bytes), 2 * i + 1 < l.length → up1 (l.set (2 * i) c) = (up1 l).set i (innerD c (l.getD (2 * i + 1) []))
  | [], i, c, h => by simp at h
  | [_], i, c, h => by simp at h
  | a :: b :: r, 0, c, _ => rfl
  | a :: b :: r, i + 1, c, h => by
      have := up1_set0 r i c (by simp only [List.length_cons] at h; omega)
      have e : 2 * (i + 1) = 2 * i + 1 + 1 := by omega
      simp only [up1, e, List.getD_cons_succ, List.set_cons_succ, this]
theorem up1_set1 : ∀ (l : List Bytes) (i : Nat) (c : Bytes), 2 * i + 1 < l.length → up1 (l.set (2 * i + 1) c) = (up1 l).set i (innerD (l.getD (2 * i) []) c)
  | [], i, c, h => by simp at h
  | [_], i, c, h => by simp at h
  | a :: b :: r, 0, c, _ => rfl
  | a :: b :: r, i + 1, c, h => by
      have := up1_set1 r i c (by simp only [List.length_cons] at h; omega)
      have e : 2 * (i + 1) = 2 * i + 1 + 1 := by omega
      simp only [up1, e, List.getD_cons_succ, List.set_cons_succ, this]
/-- a level, the two digests on the path, whether two were equal, the index -/
structure Pth where
  l : List Bytes
  o : Bytes
  c : Bytes
  s : Bool
  at_ : Nat
def Pth.nx (q : Pth) : Pth :=
  if q.at_ % 2 = 0 then ⟨up1 q.l, innerD q.o (q.l.getD (q.at_ + 1) []), innerD q.c (q.l.getD (q.at_ + 1) []), q.s || decide (innerD q.o (q.l.getD (q.at_ + 1) []) = innerD q.c (q.l.getD (q.at_ + 1) [])), q.at_ / 2⟩
  else ⟨up1 q.l, innerD (q.l.getD (q.at_ - 1) []) q.o, innerD (q.l.getD (q.at_ - 1) []) q.c, q.s || decide (innerD (q.l.getD (q.at_ - 1) []) q.o = innerD (q.l.getD (q.at_ - 1) []) q.c), q.at_ / 2⟩
structure Pth.Ok (q : Pth) (k : Nat) (R R' : Bytes) (s0 : Bool) : Prop where
  len : q.l.length = 2 ^ k
  l8 : ∀ d ∈ q.l, d.length = 8
  o8 : q.o.length = 8
  c8 : q.c.length = 8
  lt : q.at_ < 2 ^ k
  o : q.l.getD q.at_ [] = q.o
  r : rt q.l = R
  r' : rt (q.l.set q.at_ q.c) = R'
  s : q.s = false → q.o ≠ q.c
  s0 : s0 = true → q.s = true
theorem Pth.Ok.nx {q : Pth} {k : Nat} {R R' : Bytes} {s0 : Bool} (h : q.Ok (k + 1) R R' s0) : q.nx.Ok k R R' s0 := by
  have h2 : 2 ^ (k + 1) = 2 ^ k * 2 := Nat.pow_succ ..
  have hp : 0 < 2 ^ k := Nat.two_pow_pos k
  have hlen := h.len; have hlt := h.lt
  have hup : (up1 q.l).length = 2 ^ k := by rw [up1_length]; omega
  unfold Pth.nx
  split
  · rename_i he
    obtain ⟨j, hj⟩ : ∃ j : Nat, q.at_ = 2 * j := ⟨q.at_ / 2, by omega⟩
    have hj2 : q.at_ / 2 = j := by omega
    have ho := h.o; rw [hj] at ho
    have hg := up1_get q.l j (by omega); rw [ho] at hg
    have hs := up1_set0 q.l j q.c (by omega)
    refine ⟨hup, up1_len8 _, D_length _, D_length _, ?_, ?_, ?_, ?_, ?_, ?_⟩
    · show q.at_ / 2 < 2 ^ k; omega
    · show (up1 q.l).getD (q.at_ / 2) [] = _
      rw [hj2, hg, hj]
    · show rt (up1 q.l) = R
      rw [← rt_up (by omega)]; exact h.r
    · show rt ((up1 q.l).set (q.at_ / 2) _) = R'
      rw [hj2, hj, ← hs, ← rt_up (by rw [List.length_set]; omega), ← hj]; exact h.r'
    · intro hf
      have hf : (q.s || decide _) = false := hf
      rw [Bool.or_eq_false_iff] at hf
      exact of_decide_eq_false hf.2
    · intro ht
      show (q.s || _) = true
      rw [h.s0 ht]; rfl
  · rename_i he
    obtain ⟨j, hj⟩ : ∃ j : Nat, q.at_ = 2 * j + 1 := ⟨q.at_ / 2, by omega⟩
    have hj2 : q.at_ / 2 = j := by omega
    have hj1 : q.at_ - 1 = 2 * j := by omega
    have ho := h.o; rw [hj] at ho
    have hg := up1_get q.l j (by omega); rw [ho] at hg
    have hs := up1_set1 q.l j q.c (by omega)
    refine ⟨hup, up1_len8 _, D_length _, D_length _, ?_, ?_, ?_, ?_, ?_, ?_⟩
    · show q.at_ / 2 < 2 ^ k; omega
    · show (up1 q.l).getD (q.at_ / 2) [] = _
      rw [hj2, hg, hj1]
    · show rt (up1 q.l) = R
      rw [← rt_up (by omega)]; exact h.r
    · show rt ((up1 q.l).set (q.at_ / 2) _) = R'
      rw [hj2, hj1, ← hs, ← rt_up (by rw [List.length_set]; omega), ← hj]; exact h.r'
    · intro hf
      have hf : (q.s || decide _) = false := hf
      rw [Bool.or_eq_false_iff] at hf
      exact of_decide_eq_false hf.2
    · intro ht
      show (q.s || _) = true
      rw [h.s0 ht]; rfl
def Pth.nxs (q : Pth) : Nat → Pth
  | 0 => q
  | i + 1 => (q.nxs i).nx
theorem Pth.Ok.nxs {q : Pth} {k : Nat} {R R' : Bytes} {s0 : Bool} (h : q.Ok k R R' s0) : ∀ i, i ≤ k → (q.nxs i).Ok (k - i) R R' s0
  | 0, _ => h
  | i + 1, hi => by
      have := h.nxs i (by omega)
      rw [show k - i = k - (i + 1) + 1 by omega] at this
      exact this.nx
theorem next_val {l : List Bytes} {k : Nat} (hl : l.length = 2 ^ (k + 1)) (hk : k ≤ 5) (h8 : ∀ d ∈ l, d.length = 8) : (Comp.loop (fun s : List Bytes × Int => colletlaw02_DigestBinds_l8 l s.1 s.2) ([], 0)).val = some (up1 l) := by
  have h2 : 2 ^ (k + 1) = 2 ^ k * 2 := Nat.pow_succ ..
  have h32 : (2 : Nat) ^ k ≤ 2 ^ 5 := Nat.pow_le_pow_right (by omega) hk
  have hup : (up1 l).length = 2 ^ k := by rw [up1_length]; omega
  have key := Comp.loop_seq (body := fun s : List Bytes × Int => colletlaw02_DigestBinds_l8 l s.1 s.2) (fun i => ((up1 l).take i, ((2 * i : Nat) : Int))) (2 ^ k) (up1 l)
    (by
      intro i hi
      show (colletlaw02_DigestBinds_l8 l ((up1 l).take i) ((2 * i : Nat) : Int)).val = _
      have e1 : IntKind.wrap .i64 (((2 * i : Nat) : Int) + 1) = ((2 * i + 1 : Nat) : Int) := Comp.wrap_succ (by omega)
      have e2 : IntKind.wrap .i64 (((2 * i : Nat) : Int) + 2) = ((2 * (i + 1) : Nat) : Int) := by rw [wrapi (by omega)]; omega
      unfold colletlaw02_DigestBinds_l8
      simp only [Comp.val_bind, Comp.val_pure, Option.bind_some, e1, e2]
      rw [Comp.val_ite, if_pos (by rw [decide_eq_true_iff]; omega)]
      have g0 : l[2 * i]? = some (l.getD (2 * i) []) := by rw [List.getD_eq_getElem?_getD, List.getElem?_eq_getElem (by omega)]; rfl
      have g1 : l[2 * i + 1]? = some (l.getD (2 * i + 1) []) := by rw [List.getD_eq_getElem?_getD, List.getElem?_eq_getElem (by omega)]; rfl
      have z0 : (l.getD (2 * i) []).length = 8 := h8 _ (List.mem_of_getElem? g0)
      have z1 : (l.getD (2 * i + 1) []).length = 8 := h8 _ (List.mem_of_getElem? g1)
      simp only [Comp.val_bind, idxn, g0, g1, Option.bind_some, Inner_val (l.getD (2 * i) []) (l.getD (2 * i + 1) []) (by omega) (by omega)]
      rw [app_val (by rw [List.length_take]; simp only [List.length_cons, List.length_nil]; unfold LIM; omega), Option.bind_some, Comp.val_pure, ← up1_take l i (by omega)])
    (by
      show (colletlaw02_DigestBinds_l8 l ((up1 l).take (2 ^ k)) ((2 * 2 ^ k : Nat) : Int)).val = _
      have e1 : IntKind.wrap .i64 (((2 * 2 ^ k : Nat) : Int) + 1) = ((2 * 2 ^ k + 1 : Nat) : Int) := Comp.wrap_succ (by omega)
      unfold colletlaw02_DigestBinds_l8
      simp only [Comp.val_bind, Comp.val_pure, Option.bind_some, e1]
      rw [Comp.val_ite, if_neg (by rw [decide_eq_true_iff]; omega), Comp.val_pure, List.take_of_length_le (by omega)])
  exact key
theorem path_step {q : Pth} {k : Nat} {R R' : Bytes} {s0 : Bool} (h : q.Ok (k + 1) R R' s0) (hk : k ≤ 5) :
    (colletlaw02_DigestBinds_l6 q.l q.o q.c q.s (q.at_ : Int)).val = some (.next (q.nx.l, q.nx.o, q.nx.c, q.nx.s, (q.nx.at_ : Int))) := by
  have h2 : 2 ^ (k + 1) = 2 ^ k * 2 := Nat.pow_succ ..
  have hp : 0 < 2 ^ k := Nat.two_pow_pos k
  have h32 : (2 : Nat) ^ k ≤ 2 ^ 5 := Nat.pow_le_pow_right (by omega) hk
  have hlen := h.len; have hlt := h.lt; have ho8 := h.o8; have hc8 := h.c8
  unfold colletlaw02_DigestBinds_l6
  rw [Comp.val_ite, if_pos (by rw [decide_eq_true_iff]; omega), Comp.val_bind, next_val h.len hk h.l8, Option.bind_some]
  unfold colletlaw02_DigestBinds_j7 Pth.nx
  have ediv : IntKind.wrap .i64 (Int.tdiv (q.at_ : Int) 2) = ((q.at_ / 2 : Nat) : Int) := by
    rw [Int.tdiv_eq_ediv_of_nonneg (by omega), wrapi (by omega)]; omega
  by_cases he : q.at_ % 2 = 0
  · have e1 : IntKind.wrap .i64 ((q.at_ : Int) + 1) = ((q.at_ + 1 : Nat) : Int) := Comp.wrap_succ (by omega)
    have g1 : q.l[q.at_ + 1]? = some (q.l.getD (q.at_ + 1) []) := by rw [List.getD_eq_getElem?_getD, List.getElem?_eq_getElem (by omega)]; rfl
    have z1 : (q.l.getD (q.at_ + 1) []).length = 8 := h.l8 _ (List.mem_of_getElem? g1)
    rw [Comp.val_ite, if_pos (by rw [decide_eq_true_iff, Int.tmod_eq_emod_of_nonneg (by omega)]; omega), if_pos he, e1]
    unfold colletlaw02_DigestBinds_j9
    simp only [Comp.val_bind, idxn, g1, Option.bind_some, Inner_val q.o (q.l.getD (q.at_ + 1) []) (by omega) (by omega), Inner_val q.c (q.l.getD (q.at_ + 1) []) (by omega) (by omega), Comp.val_pure, ediv]
    cases q.s <;> rfl
  · have e1 : IntKind.wrap .i64 ((q.at_ : Int) - 1) = ((q.at_ - 1 : Nat) : Int) := by rw [wrapi (by omega)]; omega
    have g1 : q.l[q.at_ - 1]? = some (q.l.getD (q.at_ - 1) []) := by rw [List.getD_eq_getElem?_getD, List.getElem?_eq_getElem (by omega)]; rfl
    have z1 : (q.l.getD (q.at_ - 1) []).length = 8 := h.l8 _ (List.mem_of_getElem? g1)
    rw [Comp.val_ite, if_neg (by rw [decide_eq_true_iff, Int.tmod_eq_emod_of_nonneg (by omega)]; omega), if_neg he, e1]
    unfold colletlaw02_DigestBinds_j9
    simp only [Comp.val_bind, idxn, g1, Option.bind_some, Inner_val (q.l.getD (q.at_ - 1) []) q.o (by omega) (by omega), Inner_val (q.l.getD (q.at_ - 1) []) q.c (by omega) (by omega), Comp.val_pure, ediv]
    cases q.s <;> rfl
theorem path_val {q : Pth} {k : Nat} {R R' : Bytes} {s0 : Bool} (h : q.Ok k R R' s0) (hk : k ≤ 5) : ∃ s, (Comp.loop (fun s : List Bytes × Bytes × Bytes × Bool × Int => colletlaw02_DigestBinds_l6 s.1 s.2.1 s.2.2.1 s.2.2.2.1 s.2.2.2.2) (q.l, q.o, q.c, q.s, (q.at_ : Int))).val = some (R, R', s) ∧ (s = false → R ≠ R') ∧ (s0 = true → s = true) := by
  have hf := h.nxs k (Nat.le_refl _)
  rw [Nat.sub_self] at hf
  have h1 : (q.nxs k).l.length = 1 := hf.len
  have hat : (q.nxs k).at_ = 0 := by have := hf.lt; omega
  have hR : R = (q.nxs k).o := by
    have := hf.r; rw [rt_one h1] at this
    have ho := hf.o; rw [hat] at ho
    rw [← this, ← ho]
    cases (q.nxs k).l <;> rfl
  have hR' : R' = (q.nxs k).c := by
    have := hf.r'; rw [rt_one (by rw [List.length_set]; exact h1), hat] at this
    rw [← this]
    obtain ⟨x, hx⟩ := List.length_eq_one_iff.1 h1
    rw [hx]; rfl
  refine ⟨(q.nxs k).s, ?_, ?_, hf.s0⟩
  · have key := Comp.loop_seq (body := fun s : List Bytes × Bytes × Bytes × Bool × Int => colletlaw02_DigestBinds_l6 s.1 s.2.1 s.2.2.1 s.2.2.2.1 s.2.2.2.2) (fun i => ((q.nxs i).l, (q.nxs i).o, (q.nxs i).c, (q.nxs i).s, ((q.nxs i).at_ : Int))) k (R, R', (q.nxs k).s)
      (by
        intro i hi
        have hq := h.nxs i (by omega)
        rw [show k - i = k - (i + 1) + 1 by omega] at hq
        exact path_step hq (by omega))
      (by
        show (colletlaw02_DigestBinds_l6 (q.nxs k).l (q.nxs k).o (q.nxs k).c (q.nxs k).s ((q.nxs k).at_ : Int)).val = _
        unfold colletlaw02_DigestBinds_l6
        rw [Comp.val_ite, if_neg (by rw [decide_eq_true_iff]; omega), Comp.val_pure, hR, hR'])
    exact key
  · intro hs; rw [hR, hR']; exact hf.s hs
theorem pow_cond : ∀ c : Fin 17, 1 ≤ c.val → (decide (andB .i64 (c.val : Int) (IntKind.wrap .i64 ((c.val : Int) - 1)) ≠ 0)) = !decide (c.val = 2 ^ lg c.val) := by decide +kernel
theorem leaves_val {X : List Bytes} (h : X.length ≤ 100) (hm : ∀ s ∈ X, s.length ≤ 1000) : (Comp.loop (fun s : List Bytes × Int => colletlaw02_DigestBinds_l2 X s.1 s.2) ([], 0)).val = some (X.map leafD) := by
  have key := Comp.loop_seq (body := fun s : List Bytes × Int => colletlaw02_DigestBinds_l2 X s.1 s.2) (fun i => ((X.take i).map leafD, (i : Int))) X.length (X.map leafD)
    (by
      intro i hi
      show (colletlaw02_DigestBinds_l2 X ((X.take i).map leafD) (i : Int)).val = _
      unfold colletlaw02_DigestBinds_l2
      rw [Comp.val_ite, if_pos (by rw [decide_eq_true_iff]; omega)]
      have := hm X[i] (List.getElem_mem _)
      simp only [Comp.val_bind, idxn, List.getElem?_eq_getElem hi, Option.bind_some, Leaf_val X[i] (by omega)]
      rw [app_val (by rw [List.length_map, List.length_take]; simp only [List.length_cons, List.length_nil]; unfold LIM; omega), Option.bind_some, Comp.val_pure, Comp.wrap_succ (by omega), List.take_succ_eq_append_getElem hi, List.map_append]
      rfl)
    (by
      show (colletlaw02_DigestBinds_l2 X ((X.take X.length).map leafD) (X.length : Int)).val = _
      unfold colletlaw02_DigestBinds_l2
      rw [Comp.val_ite, if_neg (by rw [decide_eq_true_iff]; omega), Comp.val_pure, List.take_of_length_le (Nat.le_refl _)])
  exact key
theorem pad_val {X : List Bytes} (h1 : 1 ≤ X.length) (h : X.length ≤ 16) : (Comp.loop (fun s : List Bytes => colletlaw02_DigestBinds_l4 s) (X.map leafD)).val = some (base X) := by
  have hsp := lg_spec X.length (by omega)
  have h16 : 2 ^ lg X.length ≤ 16 := by
    have : lg X.length ≤ 4 := by unfold lg; repeat' split
                                 all_goals omega
    have : (2 : Nat) ^ lg X.length ≤ 2 ^ 4 := Nat.pow_le_pow_right (by omega) this
    omega
  have hlg : ∀ c : Nat, X.length ≤ c → c ≤ 2 ^ lg X.length → lg c = lg X.length := by
    intro c hc hc'
    symm
    refine lg_uniq (by omega) hc' ?_
    rcases hsp.2 with h0 | h0
    · exact .inl h0
    · exact .inr (by omega)
  let N := 2 ^ lg X.length - X.length
  have key := Comp.loop_seq (body := fun s : List Bytes => colletlaw02_DigestBinds_l4 s) (fun i => X.map leafD ++ List.replicate i missD) N (base X)
    (by
      intro i hi
      show (colletlaw02_DigestBinds_l4 (X.map leafD ++ List.replicate i missD)).val = _
      have hlen : (X.map leafD ++ List.replicate i missD).length = X.length + i := by simp
      have hc := pow_cond ⟨X.length + i, by omega⟩ (by show 1 ≤ X.length + i; omega)
      rw [show (⟨X.length + i, by omega⟩ : Fin 17).val = X.length + i from rfl, hlg (X.length + i) (by omega) (by omega), decide_eq_false (p := X.length + i = 2 ^ lg X.length) (by omega)] at hc
      unfold colletlaw02_DigestBinds_l4
      simp only [Comp.val_bind, Comp.val_pure, Option.bind_some, hlen]
      rw [hc, Comp.val_ite, if_pos (show (!false) = true from rfl), Comp.val_bind, Missing_val, Option.bind_some, Comp.val_bind, app_val (by rw [hlen]; simp only [List.length_cons, List.length_nil]; unfold LIM; omega), Option.bind_some, Comp.val_pure, List.append_assoc, ← List.replicate_succ'])
    (by
      show (colletlaw02_DigestBinds_l4 (X.map leafD ++ List.replicate N missD)).val = _
      have hlen : (X.map leafD ++ List.replicate N missD).length = 2 ^ lg X.length := by simp [N]; omega
      have hc := pow_cond ⟨2 ^ lg X.length, by omega⟩ (by show 1 ≤ 2 ^ lg X.length; omega)
      rw [show (⟨2 ^ lg X.length, by omega⟩ : Fin 17).val = 2 ^ lg X.length from rfl, hlg (2 ^ lg X.length) (by omega) (by omega), decide_eq_true rfl] at hc
      unfold colletlaw02_DigestBinds_l4
      simp only [Comp.val_bind, Comp.val_pure, Option.bind_some, hlen]
      rw [hc, Comp.val_ite, if_neg (by simp), Comp.val_pure]
      rfl)
  simpa using key
theorem law_DigestBinds {l : List Bytes} {n : Int} {c : colletlaw02_Change} (hn : (Lit.int .u8 n).wf = true) (hc : CW c) : (colletlaw02_DigestBinds l n c).val = some true := by
  have hn' := wrap_dm hn
  have hlist := list_val l
  have hLm : ∀ s ∈ lst l, s.length ≤ 30 := fun s hs => lst_mem hs
  generalize lst l = L at hlist hLm
  have hsub := sub0_val L 16
  rw [show ((16 : Nat) : Int) = 16 from rfl] at hsub
  have hXl := take_len L 16
  have hXm : ∀ s ∈ L.take 16, s.length ≤ 30 := fun s hs => hLm s (List.mem_of_mem_take hs)
  generalize L.take 16 = X at hsub hXl hXm
  unfold colletlaw02_DigestBinds
  rw [Comp.val_bind, sanity_val, Option.bind_some, Comp.val_bind, hlist, Option.bind_some, Comp.val_bind, hsub, Option.bind_some, Comp.val_ite]
  by_cases h0 : X.length = 0
  · rw [if_pos (by rw [decide_eq_true_iff]; omega), Comp.val_pure]
  rw [if_neg (by rw [decide_eq_true_iff]; omega)]
  have hrem : (rem (IntKind.wrap .i64 n) (X.length : Int)).val = some ((n.toNat % X.length : Nat) : Int) := by
    rw [wrapi (by omega), rem_val (by omega), Int.tmod_eq_emod_of_nonneg (by omega)]
    congr 1
    have : n = (n.toNat : Int) := by omega
    conv => lhs; rw [this]
    omega
  have hi : n.toNat % X.length < X.length := Nat.mod_lt _ (by omega)
  generalize n.toNat % X.length = i at hrem hi
  have hgi : X[i]? = some X[i] := List.getElem?_eq_getElem hi
  have hXi := hXm X[i] (List.getElem_mem hi)
  have hch := ch_len c X[i]
  have happ : (app [] X).val = some X := by rw [app_val (by simp only [List.length_nil]; unfold LIM; omega), List.nil_append]
  have hupd : (upd X (i : Int) (ch c X[i])).val = some (X.set i (ch c X[i])) := by rw [upd_val ⟨by omega, by omega⟩, Int.toNat_natCast]
  rw [Comp.val_bind, hrem, Option.bind_some, Comp.val_bind, happ, Option.bind_some, Comp.val_bind, idxn, hgi, Option.bind_some]
  simp only [Comp.val_bind, chg_val hc (s := X[i]) (by omega), idxn, hgi, Option.bind_some, hupd, leaves_val (X := X) (by omega) (fun s hs => Nat.le_trans (hXm s hs) (by decide))]
  unfold colletlaw02_DigestBinds_j1
  rw [Comp.val_bind, pad_val (by omega) hXl, Option.bind_some]
  have hYl : (X.set i (ch c X[i])).length = X.length := List.length_set ..
  have hYm : ∀ s ∈ X.set i (ch c X[i]), s.length ≤ 1000 := by
    intro s hs
    rcases List.mem_or_eq_of_mem_set hs with h | h
    · exact Nat.le_trans (hXm s h) (by decide)
    · rw [h]; omega
  have hgy : (X.set i (ch c X[i]))[i]? = some (ch c X[i]) := List.getElem?_set_self hi
  have hbl := base_length X (by omega)
  have hsp := lg_spec X.length (by omega)
  have hbase : base (X.set i (ch c X[i])) = (base X).set i (leafD (ch c X[i])) := by
    unfold base
    rw [hYl, List.map_set, List.set_append_left _ _ (by rw [List.length_map]; exact hi)]
  have hbi : (base X).getD i [] = leafD X[i] := by
    unfold base
    rw [List.getD_eq_getElem?_getD, List.getElem?_append_left (by rw [List.length_map]; exact hi), List.getElem?_map, hgi]; rfl
  let q : Pth := ⟨base X, leafD X[i], leafD (ch c X[i]), decide (leafD X[i] = leafD (ch c X[i])), i⟩
  have hq : q.Ok (lg X.length) (rootD X) (rootD (X.set i (ch c X[i]))) (decide (leafD X[i] = leafD (ch c X[i]))) := by
    refine ⟨hbl, base_len8 X, D_length _, D_length _, ?_, hbi, rfl, ?_, ?_, fun h => h⟩
    · show i < 2 ^ lg X.length; omega
    · show rt ((base X).set i (leafD (ch c X[i]))) = _
      rw [← hbase]; rfl
    · intro h; exact of_decide_eq_false h
  obtain ⟨s, hp1, hp2, hp3⟩ := path_val hq (lg_le _)
  unfold colletlaw02_DigestBinds_j3
  have hp1' : (Comp.loop (fun s : List Bytes × Bytes × Bytes × Bool × Int => colletlaw02_DigestBinds_l6 s.1 s.2.1 s.2.2.1 s.2.2.2.1 s.2.2.2.2) (base X, leafD X[i], leafD (ch c X[i]), decide (leafD X[i] = leafD (ch c X[i])), (i : Int))).val = some (rootD X, rootD (X.set i (ch c X[i])), s) := hp1
  simp only [Comp.val_bind, idxn, hgi, hgy, Option.bind_some, Leaf_val X[i] (by omega), Leaf_val (ch c X[i]) (by omega), hp1']
  unfold colletlaw02_DigestBinds_j5
  have hr1 := root_val (l := X) (by omega) (fun s hs => Nat.le_trans (hXm s hs) (by decide))
  have hr2 := root_val (l := X.set i (ch c X[i])) (by omega) (fun s hs => Nat.le_trans (hYm s hs) (by decide))
  simp only [Comp.val_bind, hr1, hr2, Option.bind_some, ne_eq, not_true_eq_false, decide_false, beq_self_eq_true, Comp.val_gd, if_true, cond_false, Comp.val_pure, Comp.val_ite, Bool.false_eq_true, if_false, idxn, hgi, hgy]
  cases s with
  | true => simp [Comp.val_gd, Comp.val_bind, Comp.val_pure]
  | false =>
    have hne : rootD X ≠ rootD (X.set i (ch c X[i])) := hp2 rfl
    have hne2 : ¬ ch c X[i] = X[i] := by
      intro e
      have : false = true := hp3 (by rw [e]; simp)
      cases this
    simp [Comp.val_gd, Comp.val_bind, Comp.val_pure, hne, hne2]
end Go.Dgp
