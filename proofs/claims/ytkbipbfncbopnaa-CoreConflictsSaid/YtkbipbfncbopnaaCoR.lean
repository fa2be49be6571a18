/- Core: what is refused, plainly. No statement of the program stands here. -/
import Derived.Test.YtkbipbfncbopnaaCoN
namespace Go.Cor
open Go Go.Lift Go.F
def under (L : List Nat) (s : Nat) : Bool := L.any fun l => decide (l &&& s = s)
theorem under_iff {L : List Nat} {s : Nat} : under L s = true ↔ ∃ l ∈ L, Sub s l := by
  unfold under
  rw [List.any_eq_true]
  exact ⟨fun ⟨l, h1, h2⟩ => ⟨l, h1, sub_iff.1 (by simpa using h2)⟩, fun ⟨l, h1, h2⟩ => ⟨l, h1, by simpa using sub_iff.2 h2⟩⟩
theorem under_down {L : List Nat} {s t : Nat} (h : under L s = true) (ht : Sub t s) : under L t = true := by
  obtain ⟨l, h1, h2⟩ := under_iff.1 h
  exact under_iff.2 ⟨l, h1, ht.trans h2⟩
def own (N : Nat) (P : Nat → Bool) : List Bool := (List.range N).map P
theorem own_len (N : Nat) (P : Nat → Bool) : (own N P).length = N := by simp [own]
theorem own_get {N : Nat} {P : Nat → Bool} {s : Nat} (h : s < N) : (own N P)[s]? = some (P s) := by simp [own, h]
theorem any_take {α : Type} {p : α → Bool} {L : List α} {k : Nat} {x : α} (h : L[k]? = some x) : (L.take (k + 1)).any p = ((L.take k).any p || p x) := by
  rw [List.take_add_one, h, List.any_append]; simp
theorem closed_in {L : List Nat} {out : List Bool} {s : Nat} (hs : s < out.length) (hs2 : s < 4611686018427387904) (hL : ∀ x ∈ L, x < 4611686018427387904) (hl : L.length ≤ LIM) (h0 : out[s]? = some false) :
    (Comp.loop (fun st => colletref32_Closed_l3 (up L) (s : Int) st.1 st.2) (out, 0)).val = some (out.set s (under L s)) := by
  have hLt := LIM_lt
  have hst : (out, (0 : Int)) = (fun k : Nat => (out.set s ((L.take k).any fun l => decide (l &&& s = s)), (k : Int))) 0 := by
    show _ = (out.set s ((L.take 0).any fun l => decide (l &&& s = s)), ((0 : Nat) : Int))
    congr 1
    rw [List.take_zero, List.any_nil]
    refine List.ext_getElem? fun i => ?_
    rw [List.getElem?_set]
    split
    · rename_i hi; subst hi
      have h1 : out[s] = false := by rw [List.getElem?_eq_getElem hs] at h0; exact Option.some.inj h0
      simp [h1, hs]
    · rfl
  rw [hst]
  refine Comp.loop_seq (fun k : Nat => (out.set s ((L.take k).any fun l => decide (l &&& s = s)), (k : Int))) L.length _ ?_ ?_
  · intro k hk
    obtain ⟨x, hx⟩ : ∃ x, L[k]? = some x := ⟨L[k], List.getElem?_eq_getElem hk⟩
    have hx' : (up L)[k]? = some (x : Int) := by unfold up; rw [List.getElem?_map, hx]; rfl
    have h62 := hL x (List.mem_of_getElem? hx)
    show (colletref32_Closed_l3 (up L) (s : Int) (out.set s ((L.take k).any fun l => decide (l &&& s = s))) (k : Int)).val = _
    unfold colletref32_Closed_l3
    have hget : ∀ b, (out.set s b)[s]? = some b := fun b => by rw [List.getElem?_set]; simp [hs]
    have hhas : (colletref32_has (x : Int) (s : Int)).val = some (decide (x &&& s = s)) := by
      unfold colletref32_has
      rw [Comp.val_pure, andB_nat (by omega) (by omega)]
      congr 2; exact propext ⟨fun h => by omega, fun h => by rw [h]⟩
    rw [decide_lt_len, Comp.val_ite, if_pos (by simpa [up_len] using hk), any_take hx]
    cases hb : (L.take k).any fun l => decide (l &&& s = s) with
    | true =>
      rw [Comp.val_bind, idx_val (hget true), Option.bind_some, Comp.val_bind, Comp.val_gd, if_neg (by simp), Option.bind_some, Comp.val_bind, Comp.val_gd, if_neg (by simp), Option.bind_some, Comp.val_bind, idx_val (hget true), Option.bind_some, Comp.val_bind, upd_val (by simp; omega), Option.bind_some, Comp.val_pure, Comp.wrap_succ (by omega)]
      simp [List.set_set]
    | false =>
      rw [Comp.val_bind, idx_val (hget false), Option.bind_some, Comp.val_bind, Comp.val_gd, if_pos (by simp), idx_val hx', Option.bind_some, Comp.val_bind, Comp.val_gd, if_pos (by simp), hhas, Option.bind_some, Comp.val_bind, idx_val (hget false), Option.bind_some, Comp.val_bind, upd_val (by simp; omega), Option.bind_some, Comp.val_pure, Comp.wrap_succ (by omega)]
      simp [List.set_set]
  · show (colletref32_Closed_l3 (up L) (s : Int) (out.set s ((L.take L.length).any fun l => decide (l &&& s = s))) (L.length : Int)).val = _
    unfold colletref32_Closed_l3
    rw [Comp.val_ite, if_neg (by simp [up_len]), Comp.val_pure, List.take_length]; rfl
theorem closed_val {L : List Nat} {m : Nat} (hm : m ≤ 10) (hL : ∀ x ∈ L, x < 4611686018427387904) (hl : L.length ≤ LIM) : (colletref32_Closed (up L) (m : Int)).val = some (own (2 ^ m) (under L)) := by
  have hp : 2 ^ m ≤ 1024 := Nat.pow_le_pow_right (n := 2) (by omega) hm
  have hLIM : LIM = 1073741824 := rfl
  have hpos : 0 < 2 ^ m := Nat.two_pow_pos m
  unfold colletref32_Closed
  rw [Comp.val_bind, nonneg_val (by omega), Option.bind_some, shlF_nat (by omega), Comp.val_bind, mk_val (by omega), Option.bind_some, Comp.val_bind]
  have : (Comp.loop (fun s => colletref32_Closed_l2 (up L) s.1 s.2) ((fun i : Nat => (own i (under L) ++ List.replicate (2 ^ m - i) false, (i : Int))) 0)).val = some (own (2 ^ m) (under L)) := by
    refine Comp.loop_seq (fun i : Nat => (own i (under L) ++ List.replicate (2 ^ m - i) false, (i : Int))) (2 ^ m) _ ?_ ?_
    · intro i hi
      show (colletref32_Closed_l2 (up L) (own i (under L) ++ List.replicate (2 ^ m - i) false) (i : Int)).val = _
      unfold colletref32_Closed_l2
      rw [decide_lt_len, Comp.val_ite, if_pos (by simp [own_len]; omega), Comp.val_bind, closed_in (by simp [own_len]; omega) (by omega) hL hl (by rw [List.getElem?_append_right (by simp [own_len]), own_len, Nat.sub_self, List.getElem?_replicate, if_pos (by omega)]), Option.bind_some, Comp.val_pure, Comp.wrap_succ (by omega)]
      have e : (own i (under L) ++ List.replicate (2 ^ m - i) false).set i (under L i) = own (i + 1) (under L) ++ List.replicate (2 ^ m - (i + 1)) false := by
        rw [List.set_append_right _ _ (by simp [own_len]), own_len, Nat.sub_self]
        obtain ⟨k, hk⟩ : ∃ k, 2 ^ m - i = k + 1 := ⟨2 ^ m - i - 1, by omega⟩
        rw [hk, show 2 ^ m - (i + 1) = k by omega, List.replicate_succ, List.set_cons_zero]
        unfold own
        rw [List.range_succ, List.map_append, List.append_assoc]; rfl
      rw [e]
    · show (colletref32_Closed_l2 (up L) (own (2 ^ m) (under L) ++ List.replicate (2 ^ m - 2 ^ m) false) ((2 ^ m : Nat) : Int)).val = _
      unfold colletref32_Closed_l2
      rw [Comp.val_ite, if_neg (by simp [own_len]), Comp.val_pure]; simp
  have h0 : ((fun i : Nat => (own i (under L) ++ List.replicate (2 ^ m - i) false, (i : Int))) 0) = (List.replicate (((2 ^ m : Nat) : Int).toNat) false, 0) := by
    show (own 0 (under L) ++ List.replicate (2 ^ m - 0) false, ((0 : Nat) : Int)) = _
    rw [Int.toNat_natCast]; simp [own]
  rw [h0] at this
  rw [this, Option.bind_some]
  unfold colletref32_Closed_j1
  rw [Comp.val_pure]
def belowB (P : Nat → Bool) (m s : Nat) : Bool := (List.range m).all fun k => !s.testBit k || P (without s (2 ^ k))
theorem without_le (s t : Nat) : without s t ≤ s := Sub.le fun i hi => by rw [testBit_without] at hi; simp at hi; exact hi.1
theorem any_all_not {α : Type} (p : α → Bool) : ∀ l : List α, (!l.any p) = l.all fun x => !p x
  | [] => rfl
  | x :: l => by rw [List.any_cons, List.all_cons, Bool.not_or, any_all_not p l]
theorem below_val {P : Nat → Bool} {m s : Nat} {z : Int} (hz : z = (m : Int)) (hm : m ≤ 10) (hs : s < 2 ^ m) : (core_Conflicts_f1 (s : Int) z (own (2 ^ m) P)).val = some (belowB P m s) := by
  have hp : 2 ^ m ≤ 1024 := Nat.pow_le_pow_right (n := 2) (by omega) hm
  subst hz
  unfold core_Conflicts_f1
  have := Comp.loop_any (body := fun i => core_Conflicts_f1_l2 (m : Int) (s : Int) (own (2 ^ m) P) i) (List.range m) (fun k => s.testBit k && !P (without s (2 ^ k))) false
    (by
      intro i k hk
      obtain ⟨hi, rfl⟩ := range_get hk
      have h2 : 2 ^ k ≤ 1024 := Nat.pow_le_pow_right (n := 2) (by omega) (by omega : k ≤ 10)
      have hw := without_le s (2 ^ k)
      have e : (idx (own (2 ^ m) P) (andNotB .i64 (s : Int) (shlF .i64 1 (k : Int)))).val = some (P (without s (2 ^ k))) := by
        rw [shlF_nat (by omega), andNotB_nat (by omega) (by omega), idx_val (own_get (by omega))]
      unfold core_Conflicts_f1_l2
      rw [decide_lt_nat, Comp.val_ite, if_pos (by simpa using hi), Comp.val_bind, nonneg_val (by omega), Option.bind_some, bit_eq (by omega) (by omega)]
      cases ht : s.testBit k with
      | false => simp [Comp.val_bind, Comp.val_gd, Comp.wrap_succ (i := k) (by omega)]
      | true =>
        rw [Comp.val_bind, Comp.val_gd, if_pos (by simp), nonneg_val (by omega), Option.bind_some, Comp.val_bind, Comp.val_gd, if_pos (by simp), e, Option.bind_some, Comp.val_bind, Comp.val_pure, Option.bind_some, Comp.val_ite]
        cases P (without s (2 ^ k)) <;> simp [Comp.wrap_succ (i := k) (by omega)])
    (by
      unfold core_Conflicts_f1_l2
      rw [List.length_range, Comp.val_ite, if_neg (by simp), Comp.val_pure])
  rw [Comp.val_bind, this, Option.bind_some]
  have e : belowB P m s = !((List.range m).any fun k => s.testBit k && !P (without s (2 ^ k))) := by
    unfold belowB
    rw [any_all_not]
    congr 1; funext k
    cases s.testBit k <;> cases P (without s (2 ^ k)) <;> rfl
  rw [e]
  cases (List.range m).any fun k => s.testBit k && !P (without s (2 ^ k)) <;> simp [core_Conflicts_f1_j1]
theorem only_val {N : Nat} (hN : N ≤ 1024) {f : Int → Comp Bool} {p : Nat → Bool} (hf : ∀ x, x < N → (f (x : Int)).val = some (p x)) : (core_only (N : Int) f).val = some (up ((List.range N).filter p)) := by
  have hLIM : LIM = 1073741824 := rfl
  unfold core_only
  have := Comp.loop_fold (body := fun s => core_only_l2 (N : Int) f s.1 s.2) (List.range N) (fun acc x => acc ++ if p x = true then [(x : Int)] else []) id (fun a i => a.length ≤ i) []
    (by
      intro a i x hx hI
      obtain ⟨hi, rfl⟩ := range_get hx
      show (core_only_l2 (N : Int) f a (x : Int)).val = _
      unfold core_only_l2
      rw [decide_lt_nat, Comp.val_ite, if_pos (by simpa using hi), Comp.val_bind, hf x hi, Option.bind_some, Comp.val_ite]
      by_cases ht : p x = true
      · rw [if_pos ht, if_pos ht, Comp.val_bind, app_val (by simp; omega), Option.bind_some]
        simp only [core_only_j3, Comp.val_pure, Comp.wrap_succ (i := x) (by omega)]
      · rw [if_neg ht, if_neg ht, List.append_nil]
        simp only [core_only_j3, Comp.val_pure, Comp.wrap_succ (i := x) (by omega)])
    (by
      intro a i x _ hI
      show (a ++ if p x = true then [(x : Int)] else []).length ≤ _
      split
      · simp; omega
      · simp; omega)
    (by
      intro a _
      show (core_only_l2 (N : Int) f a ((List.range N).length : Int)).val = _
      unfold core_only_l2
      rw [List.length_range, Comp.val_ite, if_neg (by simp), Comp.val_pure]; rfl)
    (Nat.le_refl _)
  rw [Comp.val_bind, this, Option.bind_some, Comp.foldl_flatMap]
  unfold core_only_j1
  rw [Comp.val_pure]
  congr 1
  show [] ++ _ = _
  rw [List.nil_append]
  generalize List.range N = ks
  induction ks with
  | nil => rfl
  | cons k ks ih =>
    rw [List.flatMap_cons, List.filter_cons, ih]
    split <;> simp [up]
theorem pow_ok : ∀ m, m ≤ 6 → (bif (decide (((2 ^ m : Nat) : Int) = 0)) then true else (decide ((andB .i64 ((2 ^ m : Nat) : Int) (IntKind.wrap .i64 (((2 ^ m : Nat) : Int) - 1))) ≠ 0))) = false
  | 0, _ | 1, _ | 2, _ | 3, _ | 4, _ | 5, _ | 6, _ => by decide
  | m + 7, h => by omega
theorem len_val : ∀ m, m ≤ 6 → (math_bits_Len (IntKind.wrap .u64 ((2 ^ m : Nat) : Int))).val = some ((m + 1 : Nat) : Int)
  | 0, _ | 1, _ | 2, _ | 3, _ | 4, _ | 5, _ | 6, _ => Comp.val_run (n := 4) (by kernel_rfl)
  | m + 7, h => by omega
/-- the smallest sets that are not ok -/
def conf (P : Nat → Bool) (m : Nat) : List Nat := (List.range (2 ^ m)).filter fun s => !P s && belowB P m s
theorem conflicts_val {P : Nat → Bool} {m : Nat} (hm : m ≤ 6) (hd : ∀ s t, P s = true → Sub t s → P t = true) : (core_Conflicts (own (2 ^ m) P)).val = some (up (conf P m), 0) := by
  have hp : 2 ^ m ≤ 64 := Nat.pow_le_pow_right (n := 2) (by omega) hm
  unfold core_Conflicts
  rw [own_len, Comp.val_ite, if_neg (by rw [decide_eq_true_iff]; omega), pow_ok m hm, Comp.val_bind, Comp.val_pure, Option.bind_some, Comp.val_ite, if_neg (by simp), Comp.val_bind, len_val m hm, Option.bind_some]
  have hz : IntKind.wrap .i64 (((m + 1 : Nat) : Int) - 1) = (m : Int) := wrap_pred (by omega)
  have h2 : (core_only ((2 ^ m : Nat) : Int) (fun z0 => core_Conflicts_f2 z0 (own (2 ^ m) P) (fun z0 => core_Conflicts_f1 z0 (IntKind.wrap .i64 (((m + 1 : Nat) : Int) - 1)) (own (2 ^ m) P)))).val = some (up ((List.range (2 ^ m)).filter fun s => P s && !belowB P m s)) := by
    refine only_val (Nat.le_trans hp (by decide)) fun x hx => ?_
    unfold core_Conflicts_f2
    rw [Comp.val_bind, idx_val (own_get hx), Option.bind_some, Comp.val_bind, Comp.val_gd, below_val hz (by omega) hx]
    cases P x <;> simp
  have h3 : (core_only ((2 ^ m : Nat) : Int) (fun z0 => core_Conflicts_f3 z0 (own (2 ^ m) P) (fun z0 => core_Conflicts_f1 z0 (IntKind.wrap .i64 (((m + 1 : Nat) : Int) - 1)) (own (2 ^ m) P)))).val = some (up (conf P m)) := by
    refine only_val (Nat.le_trans hp (by decide)) fun x hx => ?_
    unfold core_Conflicts_f3
    rw [Comp.val_bind, idx_val (own_get hx), Option.bind_some, Comp.val_bind, Comp.val_gd, below_val hz (by omega) hx]
    cases P x <;> simp
  have e : (List.range (2 ^ m)).filter (fun s => P s && !belowB P m s) = [] := by
    rw [List.filter_eq_nil_iff]
    intro s _ h
    simp only [Bool.and_eq_true, Bool.not_eq_true'] at h
    have : belowB P m s = true := by
      unfold belowB
      rw [List.all_eq_true]
      intro k _
      rw [hd s (without s (2 ^ k)) h.1 (fun i hi => by rw [testBit_without] at hi; simp at hi; exact hi.1)]
      simp
    rw [this] at h; exact absurd h.2 (by simp)
  rw [e] at h2
  rw [Comp.val_bind, h2, Option.bind_some, Comp.val_ite, if_neg (by simp [up]), Comp.val_bind, h3, Option.bind_some, Comp.val_pure]
theorem mem_conf {P : Nat → Bool} {m x : Nat} (hd : ∀ s t, P s = true → Sub t s → P t = true) : x ∈ conf P m ↔ x < 2 ^ m ∧ Min (fun s => P s = false) x := by
  unfold conf
  rw [List.mem_filter, List.mem_range]
  refine and_congr_right fun hx => ?_
  simp only [Bool.and_eq_true, Bool.not_eq_true']
  refine and_congr_right fun hPx => ?_
  constructor
  · intro h g hg hs
    refine hs.antisymm fun k hk => ?_
    refine Classical.byContradiction fun hgk => ?_
    unfold belowB at h
    rw [List.all_eq_true] at h
    have := h k (List.mem_range.2 (bit_lt hx hk))
    simp only [hk, Bool.not_true, Bool.false_or] at this
    have h2 := hd _ g this fun i hi => by
      rw [testBit_without, testBit_pow, hs i hi]
      have : k ≠ i := fun e => hgk (e ▸ hi)
      simp [this]
    rw [h2] at hg; cases hg
  · intro h
    unfold belowB
    rw [List.all_eq_true]
    intro k _
    cases hk : x.testBit k with
    | false => rfl
    | true =>
      simp only [Bool.not_true, Bool.false_or]
      cases hP : P (without x (2 ^ k)) with
      | true => rfl
      | false =>
        have := h _ hP fun i hi => by rw [testBit_without] at hi; simp at hi; exact hi.1
        have h3 : (without x (2 ^ k)).testBit k = true := by rw [this]; exact hk
        rw [testBit_without, testBit_pow] at h3; simp at h3
theorem contains_iff {P : Nat → Bool} {m s : Nat} (hd : ∀ s t, P s = true → Sub t s → P t = true) (hs : s < 2 ^ m) : (∃ x ∈ conf P m, Sub x s) ↔ P s = false := by
  constructor
  · rintro ⟨x, h1, h2⟩
    cases hP : P s with
    | false => rfl
    | true =>
      have := hd s x hP h2
      rw [((mem_conf hd).1 h1).2.1] at this; cases this
  · intro h
    obtain ⟨x, h1, h2⟩ := exists_min (P := fun s => P s = false) s h
    exact ⟨x, (mem_conf hd).2 ⟨Nat.lt_of_le_of_lt h2.le hs, h1⟩, h2⟩
theorem compl_eq {n x : Nat} (hx : x < 2 ^ n) : compl n x = 2 ^ n - 1 - x := by
  refine Nat.eq_of_testBit_eq fun i => ?_
  rw [testBit_compl, show 2 ^ n - 1 - x = 2 ^ n - (x + 1) by omega, Nat.testBit_two_pow_sub_succ hx]
theorem compl_lt (n x : Nat) : compl n x < 2 ^ n := by
  have := without_le (2 ^ n - 1) x
  have := Nat.two_pow_pos n
  unfold compl; omega
theorem hits_compl {P : Nat → Bool} {m s : Nat} (hd : ∀ s t, P s = true → Sub t s → P t = true) (hs : s < 2 ^ m) : Hits (compl m s) (conf P m) ↔ P s = true := by
  have h := contains_iff hd hs
  constructor
  · intro hh
    cases hP : P s with
    | true => rfl
    | false =>
      obtain ⟨x, h1, h2⟩ := h.2 hP
      obtain ⟨i, h3, h4⟩ := hh x h1
      rw [testBit_compl, h2 i h4] at h3; simp at h3
  · intro hP x hx
    refine Classical.byContradiction fun hm => ?_
    have : Sub x s := by
      intro i hi
      refine Classical.byContradiction fun hsi => hm ⟨i, ?_, hi⟩
      rw [testBit_compl]; simp [bit_lt ((mem_conf hd).1 hx).1 hi]; simpa using hsi
    rw [h.1 ⟨x, hx, this⟩] at hP; cases hP
def greatest (P : Nat → Bool) (m s : Nat) : Bool := P s && (List.range m).all fun i => s.testBit i || !P (s ||| 2 ^ i)
theorem or_lt {m s i : Nat} (hs : s < 2 ^ m) (hi : i < m) : s ||| 2 ^ i < 2 ^ m := Nat.or_lt_two_pow hs (Nat.pow_lt_pow_right (by omega) hi)
theorem greatest_iff {P : Nat → Bool} {m s : Nat} (hd : ∀ s t, P s = true → Sub t s → P t = true) (hs : s < 2 ^ m) : greatest P m s = true ↔ Min (Hits · (conf P m)) (compl m s) := by
  rw [min_hits_iff (compl_lt m s), hits_compl hd hs]
  unfold greatest
  rw [Bool.and_eq_true, List.all_eq_true]
  refine and_congr_right fun _ => ?_
  have hw : ∀ k, k < m → without (compl m s) (2 ^ k) = compl m (s ||| 2 ^ k) := by
    intro k _
    refine Nat.eq_of_testBit_eq fun i => ?_
    rw [testBit_without, testBit_compl, testBit_compl, Nat.testBit_or, testBit_pow]
    cases decide (i < m) <;> cases s.testBit i <;> cases decide (k = i) <;> rfl
  constructor
  · intro h k hk hbit hh
    rw [hw k hk, hits_compl hd (or_lt hs hk)] at hh
    rw [testBit_compl] at hbit
    have := h k (List.mem_range.2 hk)
    rw [hh] at this
    simp [hk] at hbit
    simp [hbit] at this
  · intro h k hk
    have hk := List.mem_range.1 hk
    cases hsk : s.testBit k with
    | true => rfl
    | false =>
      have := h k hk (by rw [testBit_compl, hsk]; simp [hk])
      rw [hw k hk, hits_compl hd (or_lt hs hk)] at this
      simp at this
      simp [this]
end Go.Cor
