/- Core: what Hitting yields. No statement of the program stands here. -/
import Derived.Test.YtkbipbfncbopnaaCoM
set_option linter.unusedVariables false
set_option linter.unusedSimpArgs false
namespace Go.Cor
open Go Go.Lift Go.F
def up (L : List Nat) : List Int := L.map fun (x : Nat) => (x : Int)
theorem up_len (L : List Nat) : (up L).length = L.length := List.length_map _
theorem mem_up {L : List Nat} {x : Nat} : (x : Int) ∈ up L ↔ x ∈ L := by
  unfold up; rw [List.mem_map]
  exact ⟨fun ⟨y, h1, h2⟩ => by have : y = x := by omega
                               exact this ▸ h1, fun h => ⟨x, h, rfl⟩⟩
theorem mem_up' {L : List Nat} {z : Int} : z ∈ up L ↔ ∃ x : Nat, x ∈ L ∧ z = (x : Int) := by
  unfold up; rw [List.mem_map]
  exact ⟨fun ⟨y, h1, h2⟩ => ⟨y, h1, h2.symm⟩, fun ⟨y, h1, h2⟩ => ⟨y, h1, h2.symm⟩⟩
theorem up_get {L : List Nat} {i : Nat} {x : Int} (h : (up L)[i]? = some x) : ∃ y : Nat, L[i]? = some y ∧ x = (y : Int) := by
  unfold up at h; rw [List.getElem?_map] at h
  cases hy : L[i]? with
  | none => rw [hy] at h; cases h
  | some y => rw [hy] at h; exact ⟨y, rfl, (Option.some.inj h).symm⟩
theorem up_inj {L M : List Nat} (h : up L = up M) : L = M := by
  unfold up at h
  exact List.map_inj_right (fun x y h => by omega) |>.1 h
theorem inc_len {b : Int} : ∀ (l : List Int) (a : Int), Inc l → (∀ x ∈ l, a ≤ x ∧ x < b) → (l.length : Int) ≤ max 0 (b - a)
  | [], a, _, _ => by simp; omega
  | x :: l, a, h, hx => by
      have h1 := List.pairwise_cons.1 h
      have h2 := hx x (by simp)
      have := inc_len (b := b) l (x + 1) h1.2 fun y hy => ⟨by have := h1.1 y hy; omega, (hx y (List.mem_cons_of_mem _ hy)).2⟩
      simp only [List.length_cons]; omega
theorem inc_up_len {L : List Nat} {n : Nat} (h : Inc (up L)) (hn : ∀ x ∈ L, x < n) : L.length ≤ n := by
  have := inc_len (b := (n : Int)) (up L) 0 h fun x hx => by
    obtain ⟨y, h1, rfl⟩ := mem_up'.1 hx
    have := hn y h1; omega
  rw [up_len] at this; omega
theorem toNat_up {l : List Int} (h : ∀ x ∈ l, 0 ≤ x) : up (l.map Int.toNat) = l := by
  unfold up; rw [List.map_map]
  conv => rhs; rw [← List.map_id l]
  exact List.map_congr_left fun x hx => by simp [Int.toNat_of_nonneg (h x hx)]
theorem isMin_up {N : List Nat} (hN : ∀ x ∈ N, x < 4611686018427387904) (z : Int) : IsMin (up N) z ↔ ∃ h : Nat, z = (h : Int) ∧ Min (· ∈ N) h := by
  constructor
  · rintro ⟨h1, h2⟩
    obtain ⟨h, h3, rfl⟩ := mem_up'.1 h1
    refine ⟨h, rfl, h3, fun g hg hs => ?_⟩
    have := h2 g (mem_up.2 hg) (by rw [andB_nat (by have := hN h h3; omega) (by have := hN g hg; omega), sub_iff.2 hs])
    omega
  · rintro ⟨h, rfl, h1, h2⟩
    refine ⟨mem_up.2 h1, fun x hx hs => ?_⟩
    obtain ⟨g, hg, rfl⟩ := mem_up'.1 hx
    rw [andB_nat (by have := hN h h1; omega) (by have := hN g hg; omega)] at hs
    rw [h2 g hg (sub_iff.1 (by omega))]
theorem minimal_up {N : List Nat} (hN : ∀ x ∈ N, x < 4611686018427387904) : ∃ H, minimal (up N) = up H ∧ ∀ h, h ∈ H ↔ Min (· ∈ N) h := by
  have h0 : ∀ x ∈ minimal (up N), 0 ≤ x := by
    intro x hx
    obtain ⟨h, rfl, _⟩ := (isMin_up hN x).1 ((minimal_mem _ _).1 hx)
    omega
  refine ⟨(minimal (up N)).map Int.toNat, (toNat_up h0).symm, fun h => ?_⟩
  rw [← mem_up, toNat_up h0, minimal_mem, isMin_up hN]
  exact ⟨fun ⟨g, h1, h2⟩ => by have : g = h := by omega
                               exact this ▸ h2, fun h2 => ⟨h, rfl, h2⟩⟩
/-- what a set of the family becomes -/
def grown (n s h : Nat) : List Nat := if h &&& s ≠ 0 then [h] else ((List.range n).filter (s.testBit ·)).map fun k => h ||| 2 ^ k
theorem grown_len (n s h : Nat) : (grown n s h).length ≤ n + 1 := by
  unfold grown; split
  · simp
  · rw [List.length_map]; have := List.length_filter_le (s.testBit ·) (List.range n); rw [List.length_range] at this; omega
theorem up_append (a b : List Nat) : up (a ++ b) = up a ++ up b := List.map_append
theorem decide_lt_nat {i n : Nat} : (decide ((i : Int) < (n : Int))) = decide (i < n) := by
  congr 1; exact propext ⟨fun h => by omega, fun h => by omega⟩
theorem range_get {n i x : Nat} (h : (List.range n)[i]? = some x) : i < n ∧ x = i := by
  obtain ⟨h1, h2⟩ := List.getElem?_eq_some_iff.1 h
  simp at h1 h2; exact ⟨h1, h2.symm⟩
theorem l6_val {n s h : Nat} (hn : n ≤ 10) (hs : s < 2 ^ n) (hh : h < 2 ^ n) {acc : List Int} (ha : acc.length + n ≤ LIM) :
    (Comp.loop (fun st => core_Hitting_l6 n s h st.1 st.2) (acc, 0)).val = some (acc ++ up (((List.range n).filter (s.testBit ·)).map fun k => h ||| 2 ^ k)) := by
  have hb : 2 ^ n ≤ 1024 := Nat.pow_le_pow_right (n := 2) (by omega) hn
  have := Comp.loop_fold (body := fun st => core_Hitting_l6 n s h st.1 st.2) (List.range n) (fun acc k => acc ++ if s.testBit k = true then [((h ||| 2 ^ k : Nat) : Int)] else []) id (fun a i => a.length ≤ acc.length + i) acc
    (by
      intro a i x hx hI
      obtain ⟨hi, rfl⟩ := range_get hx
      show (core_Hitting_l6 n s h a (x : Int)).val = _
      unfold core_Hitting_l6
      rw [decide_lt_nat, Comp.val_ite, if_pos (by simpa using hi), Comp.val_bind, nonneg_val (by omega), Option.bind_some, Comp.val_bind, Comp.val_pure, Option.bind_some, bit_eq (by omega) (by omega), Comp.val_ite]
      by_cases ht : s.testBit x = true
      · rw [if_pos ht, if_pos ht, Comp.val_bind, nonneg_val (by omega), Option.bind_some, shlF_nat (by omega)]
        have h2 : 2 ^ x ≤ 1024 := Nat.pow_le_pow_right (n := 2) (by omega) (by omega : x ≤ 10)
        rw [orB_nat (by omega) (by omega), Comp.val_bind, app_val (by simp; omega), Option.bind_some]
        simp only [core_Hitting_j7, Comp.val_pure, Comp.wrap_succ (i := x) (by omega)]
      · rw [if_neg ht, if_neg ht, List.append_nil]
        simp only [core_Hitting_j7, Comp.val_pure, Comp.wrap_succ (i := x) (by omega)])
    (by
      intro a i x hx hI
      show (a ++ if s.testBit x = true then [((h ||| 2 ^ x : Nat) : Int)] else []).length ≤ _
      split
      · simp; omega
      · simp; omega)
    (by
      intro a _
      show (core_Hitting_l6 n s h a ((List.range n).length : Int)).val = _
      unfold core_Hitting_l6
      rw [List.length_range, Comp.val_ite, if_neg (by simp), Comp.val_pure]; rfl)
    (Nat.le_refl _)
  rw [this, Comp.foldl_flatMap]
  congr 1
  show _ ++ _ = _
  congr 1
  unfold up
  rw [List.map_map]
  generalize List.range n = ks
  induction ks with
  | nil => rfl
  | cons k ks ih =>
    rw [List.flatMap_cons, List.filter_cons, ih]
    split <;> simp
theorem l4_val {n s : Nat} (hn : n ≤ 10) (hs : s < 2 ^ n) {F : List Nat} (hF : ∀ h ∈ F, h < 2 ^ n) (hl : F.length ≤ 1024) :
    (Comp.loop (fun st => core_Hitting_l4 (up F) s n st.1 st.2) ([], 0)).val = some (up (F.flatMap (grown n s))) := by
  have hb : 2 ^ n ≤ 1024 := Nat.pow_le_pow_right (n := 2) (by omega) hn
  have := Comp.loop_fold (body := fun st => core_Hitting_l4 (up F) s n st.1 st.2) F (fun acc h => acc ++ up (grown n s h)) id (fun a i => a.length ≤ i * 11) []
    (by
      intro a i x hx hI
      have hi := getElem?_len hx
      have hxn := hF x (List.mem_of_getElem? hx)
      show (core_Hitting_l4 (up F) s n a (i : Int)).val = _
      have hx' : (up F)[i]? = some (x : Int) := by unfold up; rw [List.getElem?_map, hx]; rfl
      have hsm : LIM = 1073741824 := rfl
      unfold core_Hitting_l4
      rw [decide_lt_len, Comp.val_ite, if_pos (by simpa [up_len] using hi), Comp.val_bind, idx_val hx', Option.bind_some, andB_nat (by omega) (by omega), Comp.val_ite]
      unfold grown
      by_cases hm : x &&& s ≠ 0
      · rw [if_pos hm, if_pos (by simpa using hm), Comp.val_bind, app_val (by simp; omega), Option.bind_some]
        simp only [core_Hitting_j5, Comp.val_pure, Comp.wrap_succ (i := i) (by omega)]
        rfl
      · rw [if_neg hm, if_neg (by simpa using hm), Comp.val_bind, l6_val hn hs hxn (by omega), Option.bind_some]
        simp only [core_Hitting_j5, Comp.val_pure, Comp.wrap_succ (i := i) (by omega)])
    (by
      intro a i x hx hI
      show (a ++ up (grown n s x)).length ≤ _
      have := grown_len n s x
      rw [List.length_append, up_len]; omega)
    (by
      intro a _
      show (core_Hitting_l4 (up F) s n a (F.length : Int)).val = _
      unfold core_Hitting_l4
      rw [Comp.val_ite, if_neg (by simp [up_len]), Comp.val_pure]; rfl)
    (Nat.le_refl _)
  rw [this, Comp.foldl_flatMap]
  congr 1
  show [] ++ _ = _
  rw [List.nil_append]
  unfold up
  rw [List.map_flatMap]
/-- what is known of the family -/
structure Fam (n : Nat) (L : List Nat) (l : List Int) : Prop where
  ex : ∃ F, l = up F ∧ ∀ h, h ∈ F ↔ Min (Hits · L) h
  inc : Inc l
theorem Fam.lt {n : Nat} {L : List Nat} (hL : ∀ s ∈ L, s < 2 ^ n) {F : List Nat} (h : ∀ h, h ∈ F ↔ Min (Hits · L) h) : ∀ x ∈ F, x < 2 ^ n := fun x hx => min_hits_lt hL ((h x).1 hx)
/-- the minimal sets that meet all of L, in order; there is one such list -/
theorem Fam.unique {n : Nat} {L : List Nat} {l m : List Int} (h : Fam n L l) (k : Fam n L m) : l = m := by
  obtain ⟨F, rfl, hF⟩ := h.ex
  obtain ⟨G, rfl, hG⟩ := k.ex
  refine inc_ext h.inc k.inc fun x => ?_
  rw [mem_up', mem_up']
  exact ⟨fun ⟨y, h1, h2⟩ => ⟨y, (hG y).2 ((hF y).1 h1), h2⟩, fun ⟨y, h1, h2⟩ => ⟨y, (hF y).2 ((hG y).1 h1), h2⟩⟩
theorem contains_val {l : List Int} (hl : l.length ≤ LIM) {f : Int → Comp Bool} {p : Int → Bool} (hf : ∀ x ∈ l, (f x).val = some (p x)) : (slices_ContainsFunc_int_int l f).val = some (l.any p) := by
  unfold slices_ContainsFunc_int_int slices_IndexFunc_int_int
  have hL := LIM_lt
  have : ∃ e : Sum Int Unit, (Comp.loop (fun s => slices_IndexFunc_int_int_l2 l f s) 0).val = some e ∧ (l.any p = true → ∃ i : Nat, e = .inl (i : Int)) ∧ (l.any p = false → e = .inr ()) := by
    refine ⟨_, Comp.loop_foldE (σ := Nat) (fun _ i => ((i : Nat) : Int)) l (fun i x => if p x = true then .done (.inl (i : Int)) else .next (i + 1)) (fun _ => (.inr () : Sum Int Unit)) (fun j i => j = i) (body := fun s => slices_IndexFunc_int_int_l2 l f s) ?_ ?_ ?_ 0 rfl, ?_, ?_⟩
    · intro s i x hx he
      subst he
      have hi := getElem?_len hx
      unfold slices_IndexFunc_int_int_l2
      rw [decide_lt_len, Comp.val_ite, if_pos (by simpa using hi), Comp.val_bind, idx_val hx, Option.bind_some, Comp.val_bind, hf x (List.mem_of_getElem? hx), Option.bind_some, Comp.val_ite]
      by_cases h : p x = true
      · rw [if_pos h, if_pos h, Comp.val_pure]; rfl
      · rw [if_neg h, if_neg h, Comp.wrap_succ (by omega)]; simp [Comp.Step.map]
    · intro s i x s' _ he h
      by_cases hp : p x = true
      · simp [hp] at h
      · simp [hp] at h; omega
    · intro s he
      unfold slices_IndexFunc_int_int_l2
      rw [Comp.val_ite, if_neg (by simp), Comp.val_pure]
    · intro h
      have : ∀ (l : List Int) (j : Nat), l.any p = true → ∃ i : Nat, Comp.foldE (fun (i : Nat) x => if p x = true then Comp.Step.done (Sum.inl (i : Int)) else Comp.Step.next (i + 1)) (fun _ => (.inr () : Sum Int Unit)) j l = .inl (i : Int) := by
        intro l
        induction l with
        | nil => intro j h; simp at h
        | cons y l ih =>
          intro j h
          simp only [Comp.foldE]
          by_cases hy : p y = true
          · simp only [hy, if_true]; exact ⟨j, rfl⟩
          · simp only [hy]; exact ih (j + 1) (by simpa [hy] using h)
      exact this l 0 h
    · intro h
      have : ∀ (l : List Int) (j : Nat), l.any p = false → Comp.foldE (fun (i : Nat) x => if p x = true then Comp.Step.done (Sum.inl (i : Int)) else Comp.Step.next (i + 1)) (fun _ => (.inr () : Sum Int Unit)) j l = .inr () := by
        intro l
        induction l with
        | nil => intro j h; rfl
        | cons y l ih =>
          intro j h
          simp only [Comp.foldE]
          have h' : p y = false ∧ l.any p = false := by simpa using h
          simp only [h'.1]; exact ih (j + 1) h'.2
      exact this l 0 h
  obtain ⟨e, h1, h2, h3⟩ := this
  rw [Comp.val_bind, Comp.val_bind, h1, Option.bind_some]
  cases ha : l.any p with
  | true => obtain ⟨i, rfl⟩ := h2 ha; simp
  | false => rw [h3 ha]; simp [slices_IndexFunc_int_int_j1]
theorem hitting_val {n : Nat} {L : List Nat} (hn : n ≤ 10) (hL : ∀ s ∈ L, s < 2 ^ n) (hl : L.length ≤ LIM) : ∃ H, (core_Hitting (up L) n).val = some (H, 0) ∧ Fam n L H := by
  have hb : 2 ^ n ≤ 1024 := Nat.pow_le_pow_right (n := 2) (by omega) hn
  have hLt := LIM_lt
  unfold core_Hitting
  have e1 : (bif (decide ((n : Int) < 0)) then true else (decide ((n : Int) > 10))) = false := by
    rw [show decide ((n : Int) < 0) = false by rw [decide_eq_false_iff_not]; omega, show decide ((n : Int) > 10) = false by rw [decide_eq_false_iff_not]; omega]; rfl
  have hc : (slices_ContainsFunc_int_int (up L) (fun z0 => core_Hitting_f1 z0 n)).val = some ((up L).any fun _ => false) := by
    refine contains_val (by rw [up_len]; exact hl) fun x hx => ?_
    obtain ⟨y, hy, rfl⟩ := mem_up'.1 hx
    have := hL y hy
    unfold core_Hitting_f1
    rw [Comp.val_bind, Comp.val_gd, nonneg_val (by omega), shlF_nat (by omega)]
    have e2 : decide ((y : Int) < 0) = false := by rw [decide_eq_false_iff_not]; omega
    have e3 : decide ((y : Int) ≥ ((2 ^ n : Nat) : Int)) = false := by rw [decide_eq_false_iff_not]; omega
    simp only [e2, e3, Comp.val_bind, Comp.val_pure, Option.bind_some]
    rfl
  rw [e1, Comp.val_bind, Comp.val_pure, Option.bind_some, Comp.val_ite, if_neg (by simp), Comp.val_bind, hc]
  have e4 : (up L).any (fun _ => false) = false := by simp
  rw [e4, Option.bind_some, Comp.val_ite, if_neg (by simp), Comp.val_bind]
  have key : ∀ (M N : List Nat) (l : List Int), L = N ++ M → Fam n N l → ∃ H, (Comp.loop (fun s => core_Hitting_l2 (up L) n s.1 s.2) (l, (N.length : Int))).val = some H ∧ Fam n L H := by
    intro M
    induction M with
    | nil =>
      intro N l hN hf
      rw [List.append_nil] at hN; subst hN
      refine ⟨l, ?_, hf⟩
      rw [Comp.val_loop]
      show (core_Hitting_l2 (up L) n l (L.length : Int)).val.bind _ = _
      unfold core_Hitting_l2
      rw [Comp.val_ite, if_neg (by simp [up_len]), Comp.val_pure]; rfl
    | cons s M ih =>
      intro N l hN hf
      have hs : s ∈ L := by rw [hN]; simp
      have hNn : ∀ x ∈ N, x < 2 ^ n := fun x hx => hL x (by rw [hN]; simp [hx])
      have hNl : N.length < L.length := by rw [hN]; simp
      obtain ⟨F, rfl, hF⟩ := hf.ex
      have hFl := Fam.lt hNn hF
      have hlen := inc_up_len hf.inc hFl
      have hi : (up L)[N.length]? = some (s : Int) := by unfold up; rw [List.getElem?_map, hN]; simp
      have hnext : ∀ x ∈ F.flatMap (grown n s), x < 4611686018427387904 := by
        intro x hx
        obtain ⟨f, h1, h2⟩ := List.mem_flatMap.1 hx
        have hf2 := hFl f h1
        unfold grown at h2; split at h2
        · simp at h2; omega
        · obtain ⟨k, h3, rfl⟩ := List.mem_map.1 h2
          have hk := List.mem_range.1 (List.mem_filter.1 h3).1
          have : f ||| 2 ^ k < 2 ^ n := Nat.or_lt_two_pow hf2 (Nat.pow_lt_pow_right (by omega) hk)
          omega
      obtain ⟨G, hG, hGm⟩ := minimal_up hnext
      have hfam : Fam n (N ++ [s]) (up G) := ⟨⟨G, rfl, fun h => (hGm h).trans (step (hL s hs) hF h)⟩, by rw [← hG]; exact minimal_inc _⟩
      obtain ⟨H, h1, h2⟩ := ih (N ++ [s]) (up G) (by rw [hN]; simp) hfam
      refine ⟨H, ?_, h2⟩
      have hln : (F.flatMap (grown n s)).length ≤ LIM := by
        have : ∀ (F : List Nat), (F.flatMap (grown n s)).length ≤ F.length * 11 := by
          intro F
          induction F with
          | nil => simp
          | cons f F ih =>
            rw [List.flatMap_cons, List.length_append, List.length_cons]
            have := grown_len n s f
            omega
        have := this F
        have : LIM = 1073741824 := rfl
        omega
      rw [Comp.val_loop]
      show (core_Hitting_l2 (up L) n (up F) (N.length : Int)).val.bind _ = _
      unfold core_Hitting_l2
      rw [decide_lt_len, Comp.val_ite, if_pos (by simpa [up_len] using hNl), Comp.val_bind, idx_val hi, Option.bind_some, Comp.val_bind, l4_val hn (hL s hs) hFl (by omega), Option.bind_some]
      unfold core_Hitting_j3
      rw [Comp.val_bind, minimal_val (by rw [up_len]; exact hln), Option.bind_some, Comp.val_pure, Option.bind_some, hG, Comp.wrap_succ (by omega)]
      have e : (N.length + 1) = (N ++ [s]).length := by simp
      rw [e]; exact h1
  obtain ⟨H, h1, h2⟩ := key L [] [0] rfl ⟨⟨[0], rfl, fun h => by rw [min_hits_nil]; simp⟩, by simp [Inc]⟩
  refine ⟨H, ?_, h2⟩
  have h1' : (Comp.loop (fun s => core_Hitting_l2 (up L) n s.1 s.2) ([0], 0)).val = some H := h1
  rw [h1', Option.bind_some]
  unfold core_Hitting_j1
  rw [Comp.val_pure]
end Go.Cor
