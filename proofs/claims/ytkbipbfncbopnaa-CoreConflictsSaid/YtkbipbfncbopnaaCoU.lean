/- Core: what the reference yields, plainly. No statement of the program stands here. -/
import Derived.Test.YtkbipbfncbopnaaCoT
set_option linter.unusedVariables false
set_option linter.unusedSimpArgs false
namespace Go.Cor
open Go Go.Lift Go.F
theorem idx_nat {α : Type} (xs : List α) (i : Nat) : (idx xs (i : Int)).val = xs[i]? := by
  cases h : xs[i]? with
  | some x => exact idx_val h
  | none => unfold idx; rw [if_pos (by omega)]; simp [h]
/-! ### counting -/
theorem low_bit {z : Int} {k : Nat} (hk : k < 64) : andB .i64 (shrF .i64 z (k : Int)) 1 = ((U z / 2 ^ k % 2 : Nat) : Int) := by
  have hp : (0 : Int) < 2 ^ k := Int.pow_pos (by omega)
  have hs : shrF .i64 z (k : Int) = z / 2 ^ k := by
    unfold shrF
    rw [bits64, Int.toNat_natCast, Nat.min_eq_left (by omega), Int.fdiv_eq_ediv_of_nonneg _ (Int.le_of_lt hp)]
  have h1 : U (andB .i64 (z / 2 ^ k) 1) = U (z / 2 ^ k) % 2 := by
    rw [U_and, show U 1 = 1 from rfl, Nat.and_one_is_mod]
  have h2 : andB .i64 (z / 2 ^ k) 1 = ((U (z / 2 ^ k) % 2 : Nat) : Int) := by
    refine U_inj (andB_i64 _ _) ⟨by omega, by omega⟩ ?_
    rw [h1]; unfold U; omega
  rw [hs, h2]
  congr 1
  have h3 : U (z / 2 ^ k) % 2 = ((z / 2 ^ k) % 2).toNat := by unfold U; omega
  rw [h3]
  have hq : (2 : Int) ^ 64 = 2 ^ k * (2 * 2 ^ (63 - k)) := by
    rw [← Int.pow_succ', ← Int.pow_add]; congr 1; omega
  have h4 : ((U z : Nat) : Int) = z % 18446744073709551616 := by unfold U; omega
  have h5 : z / 2 ^ k = ((U z : Nat) : Int) / 2 ^ k + 2 * (2 ^ (63 - k) * (z / 18446744073709551616)) := by
    have e : z = ((U z : Nat) : Int) + 2 ^ k * (2 * (2 ^ (63 - k) * (z / 18446744073709551616))) := by
      have e1 : 2 ^ k * (2 * (2 ^ (63 - k) * (z / 18446744073709551616))) = 18446744073709551616 * (z / 18446744073709551616) := by
        rw [show (18446744073709551616 : Int) = 2 ^ 64 from rfl, hq]
        simp only [Int.mul_assoc]
      rw [e1, h4]; omega
    conv => lhs; rw [e]
    rw [Int.add_mul_ediv_left _ _ (by omega)]
  have h6 : ((U z : Nat) : Int) / 2 ^ k = ((U z / 2 ^ k : Nat) : Int) := by simp
  rw [h5, h6]
  omega
theorem ref_count (z : Int) : (colletref32_Count z).val = some ((pop z : Nat) : Int) := by
  unfold colletref32_Count
  have := Comp.loop_seq (body := fun s : Int × Int => colletref32_Count_l2 z s.1 s.2) (fun i => (((popN i (U z) : Nat) : Int), (i : Int))) 64 ((pop z : Nat) : Int)
    (by
      intro i hi
      show (colletref32_Count_l2 z ((popN i (U z) : Nat) : Int) (i : Int)).val = _
      have h1 := popN_le i (U z)
      have h2 : popN (i + 1) (U z) = popN i (U z) + U z / 2 ^ i % 2 := by rw [popN_add i 1]; simp [popN]
      unfold colletref32_Count_l2
      rw [Comp.val_ite, if_pos (by rw [decide_eq_true_iff]; omega), Comp.val_bind, nonneg_val (by omega), Option.bind_some, low_bit hi, Comp.val_bind, Comp.val_pure, Option.bind_some, Comp.val_pure, Comp.wrap_succ (by omega), h2]
      have e : ((popN i (U z) : Nat) : Int) + ((U z / 2 ^ i % 2 : Nat) : Int) = ((popN i (U z) + U z / 2 ^ i % 2 : Nat) : Int) := by omega
      rw [e, wrap_nat (by omega)])
    (by
      show (colletref32_Count_l2 z ((popN 64 (U z) : Nat) : Int) (64 : Int)).val = _
      unfold colletref32_Count_l2
      rw [Comp.val_ite, if_neg (by simp), Comp.val_pure]; rfl)
  have h0 : (Comp.loop (fun s : Int × Int => colletref32_Count_l2 z s.1 s.2) (0, 0)).val = some ((pop z : Nat) : Int) := this
  rw [Comp.val_bind, h0, Option.bind_some]
  unfold colletref32_Count_j1
  rw [Comp.val_pure]
def leastP : List Int → Int × Bool
  | [] => (0, false)
  | x :: l => (first x l, true)
theorem least_val {l : List Int} (hl : l.length ≤ LIM) : (core_Least l).val = some (leastP l) := by
  unfold core_Least
  cases l with
  | nil => simp [Comp.val_ite, leastP]
  | cons x l => rw [Comp.val_ite, if_neg (by simp; omega), Comp.val_bind, min_val hl, Option.bind_some, Comp.val_pure]; rfl
theorem ref_least {l : List Int} (hl : l.length ≤ LIM) : (colletref32_Least l).val = some (leastP l) := by
  have hLt := LIM_lt
  unfold colletref32_Least
  cases l with
  | nil => simp [Comp.val_ite, leastP]
  | cons x l =>
    have h0 : (idx (x :: l) 0).val = some x := idx_val (i := 0) rfl
    rw [Comp.val_ite, if_neg (by simp; omega), Comp.val_bind, h0, Option.bind_some]
    generalize hL : x :: l = L at *
    have := Comp.loop_fold (body := fun s : Int × Int => colletref32_Least_l2 L s.1 s.2) L (fun b y => if pop y < pop b then y else b) id (fun _ _ => True) x
      (by
        intro b i y hy _
        have hi := getElem?_len hy
        show (colletref32_Least_l2 L b (i : Int)).val = _
        unfold colletref32_Least_l2
        rw [Comp.val_ite, if_pos (by rw [decide_eq_true_iff]; omega)]
        simp only [Comp.val_bind, idx_nat, hy, Option.bind_some, ref_count, Comp.val_ite, colletref32_Least_j3, Comp.val_pure, Comp.wrap_succ (i := i) (by omega)]
        by_cases h : pop y < pop b
        · rw [if_pos (by rw [decide_eq_true_iff]; omega), if_pos h]
        · rw [if_neg (by rw [decide_eq_true_iff]; omega), if_neg h])
      (fun _ _ _ _ _ => trivial)
      (by
        intro b _
        show (colletref32_Least_l2 L b (L.length : Int)).val = _
        unfold colletref32_Least_l2
        rw [Comp.val_ite, if_neg (by simp), Comp.val_pure]; rfl)
      trivial
    rw [Comp.val_bind, this, Option.bind_some]
    unfold colletref32_Least_j1
    rw [Comp.val_pure, ← hL]
    simp [leastP, first]
/-! ### a set put into an increasing list -/
theorem takeWhile_get {p : Int → Bool} : ∀ (l : List Int) (i : Nat), i < (l.takeWhile p).length → ∃ x, l[i]? = some x ∧ p x = true
  | [], i, h => by simp at h
  | y :: l, i, h => by
      rw [List.takeWhile_cons] at h
      split at h
      · rename_i hy
        cases i with
        | zero => exact ⟨y, rfl, hy⟩
        | succ i =>
          obtain ⟨x, h1, h2⟩ := takeWhile_get (p := p) l i (by simpa using h)
          exact ⟨x, by simpa using h1, h2⟩
      · simp at h
theorem takeWhile_end {p : Int → Bool} : ∀ (l : List Int) (x : Int), l[(l.takeWhile p).length]? = some x → p x = false
  | [], x, h => by simp at h
  | y :: l, x, h => by
      rw [List.takeWhile_cons] at h
      split at h
      · exact takeWhile_end (p := p) l x (by simpa using h)
      · rename_i hy
        simp at h; subst h; simpa using hy
theorem take_len (p : Int → Bool) : ∀ l : List Int, l.take (l.takeWhile p).length = l.takeWhile p
  | [] => rfl
  | y :: l => by
      rw [List.takeWhile_cons]
      split
      · simp [take_len p l]
      · simp
theorem drop_len (p : Int → Bool) : ∀ l : List Int, l.drop (l.takeWhile p).length = l.dropWhile p
  | [] => rfl
  | y :: l => by
      rw [List.takeWhile_cons, List.dropWhile_cons]
      split
      · simp [drop_len p l]
      · simp
theorem put_val {l : List Int} {x : Int} (hl : l.length < LIM) (hI : Inc l) : ∃ out, (colletref32_put l x).val = some out ∧ Inc out ∧ (∀ y, y ∈ out ↔ y = x ∨ y ∈ l) ∧ out.length ≤ l.length + 1 := by
  have hLt := LIM_lt
  let p : Int → Bool := fun y => decide (y < x)
  have hN : (l.takeWhile p).length ≤ l.length := by
    have := congrArg List.length (List.takeWhile_append_dropWhile (p := p) (l := l))
    rw [List.length_append] at this; omega
  have hloop := Comp.loop_seq (body := fun s => colletref32_put_l2 l x s) (fun i => (i : Int)) (l.takeWhile p).length (((l.takeWhile p).length : Nat) : Int)
    (by
      intro i hi
      obtain ⟨y, h1, h2⟩ := takeWhile_get l i hi
      have hil := getElem?_len h1
      unfold colletref32_put_l2
      have e : decide ((i : Int) < (l.length : Int)) = true := by rw [decide_eq_true_iff]; omega
      have h2' : decide (y < x) = true := h2
      simp only [e, Comp.val_bind, Comp.val_gd, idx_nat, h1, beq_self_eq_true, if_true, Option.bind_some, Comp.val_pure, cond_true, h2', Comp.val_ite, Comp.wrap_succ (i := i) (by omega)])
    (by
      show (colletref32_put_l2 l x (((l.takeWhile p).length : Nat) : Int)).val = _
      unfold colletref32_put_l2
      by_cases hlt : (l.takeWhile p).length < l.length
      · have e : decide ((((l.takeWhile p).length : Nat) : Int) < (l.length : Int)) = true := by rw [decide_eq_true_iff]; omega
        obtain ⟨y, hy⟩ : ∃ y, l[(l.takeWhile p).length]? = some y := ⟨_, List.getElem?_eq_getElem hlt⟩
        have h2 : decide (y < x) = false := takeWhile_end l y hy
        simp only [e, Comp.val_bind, Comp.val_gd, idx_nat, hy, beq_self_eq_true, if_true, Option.bind_some, Comp.val_pure, cond_true, h2, Comp.val_ite]
        rw [if_neg (by simp)]
      · have e : decide ((((l.takeWhile p).length : Nat) : Int) < (l.length : Int)) = false := by rw [decide_eq_false_iff_not]; omega
        simp only [e, Comp.val_bind, Comp.val_gd, Option.bind_some, Comp.val_pure, cond_false, Comp.val_ite]
        rw [if_neg (by simp), if_neg (by simp)]; rfl)
  have h0 : (Comp.loop (fun s => colletref32_put_l2 l x s) 0).val = some (((l.takeWhile p).length : Nat) : Int) := hloop
  unfold colletref32_put
  rw [Comp.val_bind, h0, Option.bind_some]
  unfold colletref32_put_j1
  have hsplit := List.takeWhile_append_dropWhile (p := p) (l := l)
  have hlow : ∀ y ∈ l.takeWhile p, y < x := by
    intro y hy
    obtain ⟨i, hi⟩ := List.mem_iff_getElem?.1 hy
    have hil := getElem?_len hi
    obtain ⟨z, h1, h2⟩ := takeWhile_get l i hil
    have : (l.takeWhile p)[i]? = l[i]? := by
      conv => rhs; rw [← hsplit]
      rw [List.getElem?_append_left hil]
    rw [this, h1] at hi; simp at hi; subst hi; simpa [p] using h2
  have hIs : Inc (l.takeWhile p ++ l.dropWhile p) := by rw [hsplit]; exact hI
  have hIp := List.pairwise_append.1 hIs
  cases hd : l.dropWhile p with
  | nil =>
    rw [hd, List.append_nil] at hsplit
    have hlen : (l.takeWhile p).length = l.length := by rw [hsplit]
    have e : decide ((((l.takeWhile p).length : Nat) : Int) < (l.length : Int)) = false := by rw [decide_eq_false_iff_not]; omega
    refine ⟨l ++ [x], ?_, ?_, ?_, by simp⟩
    · have s1 : (sub l 0 (((l.takeWhile p).length : Nat) : Int)).val = some l := by rw [sub_val (by omega)]; simp [hlen]
      have s2 : (sub l (((l.takeWhile p).length : Nat) : Int) (l.length : Int)).val = some [] := by rw [sub_val (by omega)]; simp [hlen]
      simp only [e, Comp.val_bind, Comp.val_gd, Option.bind_some, Comp.val_pure, cond_false, Comp.val_ite]
      rw [if_neg (by simp)]
      simp only [Option.bind_some]
      rw [if_neg (by simp), s1, Option.bind_some, app_val (xs := []) (ys := l) (by simp; omega), Option.bind_some, List.nil_append, app_val (by simp; omega), Option.bind_some, s2, Option.bind_some, app_val (by simp; omega), Option.bind_some, List.append_nil]
    · rw [hsplit] at hlow
      exact List.pairwise_append.2 ⟨hI, by simp, fun a ha b hb => by simp at hb; subst hb; exact hlow a ha⟩
    · intro y; simp [or_comm]
  | cons d ds =>
    have hlen : (l.takeWhile p).length < l.length := by
      have := congrArg List.length hsplit
      rw [hd, List.length_append, List.length_cons] at this; omega
    have e : decide ((((l.takeWhile p).length : Nat) : Int) < (l.length : Int)) = true := by rw [decide_eq_true_iff]; omega
    have hdx : l[(l.takeWhile p).length]? = some d := by
      have h1 : (l.drop (l.takeWhile p).length)[0]? = some d := by rw [drop_len, hd]; rfl
      rw [List.getElem?_drop] at h1
      simpa using h1
    have hge : ¬ d < x := by have := takeWhile_end l d hdx; simpa [p] using this
    by_cases hx : d = x
    · refine ⟨l, ?_, hI, ?_, by omega⟩
      · simp only [e, Comp.val_bind, Comp.val_gd, idx_nat, hdx, beq_self_eq_true, if_true, Option.bind_some, Comp.val_pure, cond_true, Comp.val_ite]
        rw [if_pos (by simpa using hx)]
      · intro y
        have : x ∈ l := by rw [← hx]; exact List.mem_of_getElem? hdx
        constructor
        · exact .inr
        · rintro (rfl | h)
          · exact this
          · exact h
    · refine ⟨l.takeWhile p ++ x :: (d :: ds), ?_, ?_, ?_, ?_⟩
      · have hl2 := congrArg List.length hsplit
        rw [hd, List.length_append] at hl2
        have s1 : (sub l 0 (((l.takeWhile p).length : Nat) : Int)).val = some (l.takeWhile p) := by rw [sub_val (by omega)]; simp [take_len]
        have s2 : (sub l (((l.takeWhile p).length : Nat) : Int) (l.length : Int)).val = some (d :: ds) := by
          rw [sub_val (by omega), Int.toNat_natCast, Int.toNat_natCast, List.take_length, drop_len, hd]
        simp only [e, Comp.val_bind, Comp.val_gd, idx_nat, hdx, beq_self_eq_true, if_true, Option.bind_some, Comp.val_pure, cond_true, Comp.val_ite]
        rw [if_neg (by simpa using hx), s1, Option.bind_some, app_val (xs := []) (by simp; omega), Option.bind_some, List.nil_append, app_val (by simp; omega), Option.bind_some, s2, Option.bind_some, app_val (by simp only [List.length_append, List.length_cons, List.length_nil] at hl2 ⊢; omega), Option.bind_some]
        simp
      · rw [hd] at hIp
        refine List.pairwise_append.2 ⟨hIp.1, List.pairwise_cons.2 ⟨fun b hb => ?_, hIp.2.1⟩, fun a ha b hb => ?_⟩
        · have h1 := List.pairwise_cons.1 hIp.2.1
          rcases List.mem_cons.1 hb with rfl | hb
          · omega
          · have := h1.1 b hb; omega
        · rcases List.mem_cons.1 hb with rfl | hb
          · exact hlow a ha
          · exact hIp.2.2 a ha b hb
      · intro y
        have : y ∈ l ↔ y ∈ l.takeWhile p ∨ y ∈ d :: ds := by
          conv => lhs; rw [← hsplit, hd]
          exact List.mem_append
        rw [List.mem_append, List.mem_cons, this]
        constructor
        · rintro (h | h | h)
          · exact .inr (.inl h)
          · exact .inl h
          · exact .inr (.inr h)
        · rintro (h | h | h)
          · exact .inr (.inl h)
          · exact .inl h
          · exact .inr (.inr h)
      · have hl2 := congrArg List.length hsplit
        rw [hd, List.length_append] at hl2
        rw [List.length_append]
        simp only [List.length_cons] at hl2 ⊢; omega
/-! ### Minimal -/
def isMinB (l : List Int) (x : Int) : Bool := l.all fun y => decide (y = x) || !decide (andB .i64 x y = y)
theorem isMinB_iff {l : List Int} {x : Int} (hx : x ∈ l) : isMinB l x = true ↔ IsMin l x := by
  unfold isMinB IsMin
  rw [List.all_eq_true]
  constructor
  · intro h
    refine ⟨hx, fun y hy hs => ?_⟩
    have := h y hy
    simp [hs] at this; exact this
  · rintro ⟨_, h⟩ y hy
    by_cases hs : andB .i64 x y = y
    · simp [h y hy hs]
    · simp [hs]
theorem ref_minimal {l : List Int} (hl : l.length ≤ LIM) : (colletref32_Minimal l).val = some (minimal l) := by
  have hLt := LIM_lt
  have hin : ∀ (k : Nat) x, l[k]? = some x → (Comp.loop (fun s : Bool × Int => colletref32_Minimal_l5 l (k : Int) s.1 s.2) (true, 0)).val = some (isMinB l x) := by
    intro k x hk
    have := Comp.loop_fold (body := fun s : Bool × Int => colletref32_Minimal_l5 l (k : Int) s.1 s.2) l (fun b y => b && (decide (y = x) || !decide (andB .i64 x y = y))) id (fun _ _ => True) true
      (by
        intro b i y hy _
        have hi := getElem?_len hy
        show (colletref32_Minimal_l5 l (k : Int) b (i : Int)).val = _
        unfold colletref32_Minimal_l5 colletref32_has
        rw [Comp.val_ite, if_pos (by rw [decide_eq_true_iff]; omega)]
        simp only [Comp.val_bind, Comp.val_gd, idx_nat, hy, hk, Comp.val_pure, Comp.wrap_succ (i := i) (by omega)]
        cases b with
        | false => rfl
        | true =>
          simp only [beq_self_eq_true, if_true, Option.bind_some, cond_true, Bool.true_and]
          by_cases hyx : y = x
          · simp [hyx]
          · simp [hyx])
      (fun _ _ _ _ _ => trivial)
      (by
        intro b _
        show (colletref32_Minimal_l5 l (k : Int) b (l.length : Int)).val = _
        unfold colletref32_Minimal_l5
        rw [Comp.val_ite, if_neg (by simp), Comp.val_pure]; rfl)
      trivial
    rw [Comp.foldl_all, Bool.true_and] at this
    exact this
  -- the outer loop
  have key : ∀ (M N : List Int) (acc : List Int), l = N ++ M → Inc acc → (∀ y, y ∈ acc ↔ y ∈ N ∧ IsMin l y) → acc.length ≤ N.length →
      ∃ out, (Comp.loop (fun s : List Int × Int => colletref32_Minimal_l2 l s.1 s.2) (acc, (N.length : Int))).val = some out ∧ Inc out ∧ ∀ y, y ∈ out ↔ IsMin l y := by
    intro M
    induction M with
    | nil =>
      intro N acc hN h1 h2 h3
      rw [List.append_nil] at hN; subst hN
      refine ⟨acc, ?_, h1, fun y => by rw [h2]; exact ⟨fun h => h.2, fun h => ⟨h.1, h⟩⟩⟩
      rw [Comp.val_loop]
      show (colletref32_Minimal_l2 l acc (l.length : Int)).val.bind _ = _
      unfold colletref32_Minimal_l2
      rw [Comp.val_ite, if_neg (by simp), Comp.val_pure]; rfl
    | cons x M ih =>
      intro N acc hN h1 h2 h3
      have hx : l[N.length]? = some x := by rw [hN]; simp
      have hxl := List.mem_of_getElem? hx
      have hNl := getElem?_len hx
      have hbody : ∃ acc', (colletref32_Minimal_l2 l acc (N.length : Int)).val = some (.next (acc', ((N.length + 1 : Nat) : Int))) ∧ Inc acc' ∧ (∀ y, y ∈ acc' ↔ y ∈ N ++ [x] ∧ IsMin l y) ∧ acc'.length ≤ N.length + 1 := by
        unfold colletref32_Minimal_l2
        rw [Comp.val_ite, if_pos (by rw [decide_eq_true_iff]; omega), Comp.val_bind, hin _ x hx, Option.bind_some]
        unfold colletref32_Minimal_j4 colletref32_Minimal_j3
        cases hb : isMinB l x with
        | true =>
          have hm := (isMinB_iff hxl).1 hb
          obtain ⟨out, p1, p2, p3, p4⟩ := put_val (l := acc) (x := x) (by omega) h1
          refine ⟨out, ?_, p2, fun y => ?_, by omega⟩
          · rw [Comp.val_ite, if_pos rfl, Comp.val_bind, idx_nat, hx, Option.bind_some, Comp.val_bind, p1, Option.bind_some, Comp.val_pure, Comp.wrap_succ (by omega)]
          · rw [p3, h2, List.mem_append, List.mem_singleton]
            constructor
            · rintro (rfl | h)
              · exact ⟨.inr rfl, hm⟩
              · exact ⟨.inl h.1, h.2⟩
            · rintro ⟨h | h, h'⟩
              · exact .inr ⟨h, h'⟩
              · exact .inl h
        | false =>
          refine ⟨acc, ?_, h1, fun y => ?_, by omega⟩
          · rw [Comp.val_ite, if_neg (by simp), Comp.val_pure, Comp.wrap_succ (by omega)]
          · rw [h2, List.mem_append, List.mem_singleton]
            constructor
            · exact fun h => ⟨.inl h.1, h.2⟩
            · rintro ⟨h | rfl, h'⟩
              · exact ⟨h, h'⟩
              · rw [(isMinB_iff hxl).2 h'] at hb; cases hb
      obtain ⟨acc', b1, b2, b3, b4⟩ := hbody
      obtain ⟨out, o1, o2⟩ := ih (N ++ [x]) acc' (by rw [hN]; simp) b2 b3 (by simpa using b4)
      refine ⟨out, ?_, o2⟩
      rw [Comp.val_loop]
      show (colletref32_Minimal_l2 l acc (N.length : Int)).val.bind _ = _
      rw [b1, Option.bind_some]
      simpa using o1
  obtain ⟨out, o1, o2, o3⟩ := key l [] [] rfl (by simp) (by simp) (Nat.le_refl _)
  unfold colletref32_Minimal
  have o1' : (Comp.loop (fun s : List Int × Int => colletref32_Minimal_l2 l s.1 s.2) ([], 0)).val = some out := o1
  rw [Comp.val_bind, o1', Option.bind_some]
  unfold colletref32_Minimal_j1
  rw [Comp.val_pure]
  congr 1
  exact inc_ext o2 (minimal_inc l) fun y => by rw [o3, minimal_mem]
end Go.Cor
