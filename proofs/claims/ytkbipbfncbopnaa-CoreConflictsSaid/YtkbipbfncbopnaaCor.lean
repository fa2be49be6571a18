/- Sets as numbers: plain laws. No statement of the program stands here. -/
import Derived.Test.YtkbipbfncbopnaaLik
set_option linter.unusedVariables false
set_option linter.unusedSimpArgs false
namespace Go.Cor
open Go Go.Lift
/-! ### numbers as sets -/
theorem bits64 : IntKind.bits .i64 = 64 := rfl
theorem wrap_nat {n : Nat} (h : n < 9223372036854775808) : IntKind.wrap .i64 (n : Int) = (n : Int) := IntWalk.i64_in _ ⟨by omega, by omega⟩
theorem ofInt_nat (a : Nat) : BitVec.ofInt 64 (a : Int) = BitVec.ofNat 64 a := by simp
theorem andB_nat {a b : Nat} (ha : a < 9223372036854775808) (hb : b < 9223372036854775808) : andB .i64 (a : Int) (b : Int) = ((a &&& b : Nat) : Int) := by
  unfold andB
  rw [bits64, ofInt_nat, ofInt_nat, BitVec.toNat_and, BitVec.toNat_ofNat, BitVec.toNat_ofNat, Nat.mod_eq_of_lt (by omega), Nat.mod_eq_of_lt (by omega)]
  exact wrap_nat (Nat.lt_of_le_of_lt Nat.and_le_left ha)
theorem orB_nat {a b : Nat} (ha : a < 4611686018427387904) (hb : b < 4611686018427387904) : orB .i64 (a : Int) (b : Int) = ((a ||| b : Nat) : Int) := by
  unfold orB
  rw [bits64, ofInt_nat, ofInt_nat, BitVec.toNat_or, BitVec.toNat_ofNat, BitVec.toNat_ofNat, Nat.mod_eq_of_lt (by omega), Nat.mod_eq_of_lt (by omega)]
  have : a ||| b < 2 ^ 62 := Nat.or_lt_two_pow (by omega) (by omega)
  exact wrap_nat (by omega)
/-- a without b -/
def without (a b : Nat) : Nat := a ^^^ (a &&& b)
theorem testBit_without (a b i : Nat) : (without a b).testBit i = (a.testBit i && !b.testBit i) := by
  unfold without
  rw [Nat.testBit_xor, Nat.testBit_and]
  cases a.testBit i <;> cases b.testBit i <;> rfl
theorem andNotB_nat {a b : Nat} (ha : a < 9223372036854775808) (hb : b < 9223372036854775808) : andNotB .i64 (a : Int) (b : Int) = ((without a b : Nat) : Int) := by
  unfold andNotB
  rw [bits64, ofInt_nat, ofInt_nat]
  have h : (BitVec.ofNat 64 a &&& ~~~ BitVec.ofNat 64 b).toNat = without a b := by
    refine Nat.eq_of_testBit_eq fun i => ?_
    rw [testBit_without]
    by_cases hi : i < 64
    · rw [BitVec.testBit_toNat, BitVec.getLsbD_and, BitVec.getLsbD_not, BitVec.getLsbD_ofNat, BitVec.getLsbD_ofNat]
      simp [hi]
    · rw [BitVec.testBit_toNat, BitVec.getLsbD_of_ge _ _ (by omega)]
      rw [Nat.testBit_lt_two_pow (x := a) (i := i)]
      · rfl
      · exact Nat.lt_of_lt_of_le (by omega : a < 2 ^ 64) (Nat.pow_le_pow_right (by omega) (by omega))
  rw [h]
  refine wrap_nat (Nat.lt_of_le_of_lt (Nat.le_of_testBit ?_) ha) 
  intro i hi; rw [testBit_without] at hi; simp at hi; exact hi.1
theorem shrF_nat {a k : Nat} (hk : k < 64) : shrF .i64 (a : Int) (k : Int) = ((a >>> k : Nat) : Int) := by
  unfold shrF
  rw [bits64, Int.toNat_natCast, Nat.min_eq_left (by omega), Nat.shiftRight_eq_div_pow]
  rw [Int.fdiv_eq_ediv_of_nonneg _ (by exact Int.le_of_lt (Int.pow_pos (by omega)))]
  simp
theorem shlF_nat {k : Nat} (hk : k < 62) : shlF .i64 1 (k : Int) = ((2 ^ k : Nat) : Int) := by
  unfold shlF
  rw [bits64, Int.toNat_natCast, Nat.min_eq_left (by omega)]
  have : 2 ^ k < 2 ^ 62 := Nat.pow_lt_pow_right (by omega) hk
  have h2 : (1 : Int) * 2 ^ k = ((2 ^ k : Nat) : Int) := by simp
  rw [h2]; exact wrap_nat (by omega)
theorem bit_eq {a k : Nat} (ha : a < 4611686018427387904) (hk : k < 62) : (decide (andB .i64 (shrF .i64 (a : Int) (k : Int)) 1 = 1)) = a.testBit k := by
  rw [shrF_nat (by omega)]
  have h1 : a >>> k ≤ a := Nat.shiftRight_le a k
  have := andB_nat (a := a >>> k) (b := 1) (by omega) (by omega)
  rw [show ((1 : Nat) : Int) = 1 from rfl] at this
  rw [this, Nat.and_one_is_mod, Nat.testBit_eq_decide_div_mod_eq, Nat.shiftRight_eq_div_pow]
  congr 1
  exact propext ⟨fun h => by omega, fun h => by omega⟩

/-! ### sets -/
/-- b is a part of a -/
def Sub (b a : Nat) : Prop := ∀ i, b.testBit i = true → a.testBit i = true
theorem sub_iff {a b : Nat} : a &&& b = b ↔ Sub b a := by
  constructor
  · intro h i hi
    rw [← h, Nat.testBit_and] at hi
    simp at hi; exact hi.1
  · intro h
    refine Nat.eq_of_testBit_eq fun i => ?_
    rw [Nat.testBit_and]
    have := h i
    cases hb : b.testBit i with
    | true => simp [this hb]
    | false => simp
theorem Sub.refl (a : Nat) : Sub a a := fun _ h => h
theorem Sub.trans {a b c : Nat} (h : Sub a b) (k : Sub b c) : Sub a c := fun i hi => k i (h i hi)
theorem Sub.antisymm {a b : Nat} (h : Sub a b) (k : Sub b a) : a = b := by
  refine Nat.eq_of_testBit_eq fun i => ?_
  have := h i; have := k i
  cases ha : a.testBit i <;> cases hb : b.testBit i <;> simp_all
theorem Sub.le {a b : Nat} (h : Sub a b) : a ≤ b := Nat.le_of_testBit h
theorem Sub.lt {a b : Nat} (h : Sub a b) (hne : a ≠ b) : a < b := Nat.lt_of_le_of_ne h.le hne
/-- they have an element in common -/
def Meets (a b : Nat) : Prop := ∃ i, a.testBit i = true ∧ b.testBit i = true
theorem meets_iff {a b : Nat} : a &&& b ≠ 0 ↔ Meets a b := by
  constructor
  · intro h
    obtain ⟨i, hi⟩ := Nat.exists_testBit_of_ne_zero h
    rw [Nat.testBit_and] at hi; simp at hi
    exact ⟨i, hi⟩
  · rintro ⟨i, h1, h2⟩ h
    have : (a &&& b).testBit i = true := by rw [Nat.testBit_and, h1, h2]; rfl
    rw [h] at this; simp at this
theorem Meets.mono {a b c d : Nat} (h : Meets a b) (h1 : Sub a c) (h2 : Sub b d) : Meets c d := by
  obtain ⟨i, h3, h4⟩ := h; exact ⟨i, h1 i h3, h2 i h4⟩
def Hits (h : Nat) (L : List Nat) : Prop := ∀ s ∈ L, Meets h s
theorem Hits.mono {g h : Nat} {L : List Nat} (hg : Hits g L) (hs : Sub g h) : Hits h L := fun s hs' => (hg s hs').mono hs (Sub.refl s)
/-- a minimal one with a property -/
def Min (P : Nat → Prop) (h : Nat) : Prop := P h ∧ ∀ g, P g → Sub g h → g = h
/-- below each one with a property there is a minimal one -/
theorem exists_min {P : Nat → Prop} : ∀ h, P h → ∃ m, Min P m ∧ Sub m h := by
  intro h
  induction h using Nat.strongRecOn with
  | _ h ih =>
    intro hP
    by_cases hm : ∀ g, P g → Sub g h → g = h
    · exact ⟨h, ⟨hP, hm⟩, Sub.refl h⟩
    · simp only [Classical.not_forall] at hm
      obtain ⟨g, hg, hs, hne⟩ := hm
      obtain ⟨m, h1, h2⟩ := ih g (hs.lt hne) hg
      exact ⟨m, h1, h2.trans hs⟩
/-- what lies above a basis of a property has the basis' minimal ones -/
theorem min_basis {P : Nat → Prop} {N : Nat → Prop} (h1 : ∀ x, N x → P x) (h2 : ∀ h, P h → ∃ x, N x ∧ Sub x h) (h : Nat) : Min N h ↔ Min P h := by
  constructor
  · rintro ⟨h3, h4⟩
    refine ⟨h1 h h3, fun g hg hs => ?_⟩
    obtain ⟨x, h5, h6⟩ := h2 g hg
    have := h4 x h5 (h6.trans hs)
    subst this
    exact hs.antisymm h6
  · rintro ⟨h3, h4⟩
    obtain ⟨x, h5, h6⟩ := h2 h h3
    have := h4 x (h1 x h5) h6
    subst this
    exact ⟨h5, fun g hg hs => h4 g (h1 g hg) hs⟩
theorem testBit_pow {k i : Nat} : (2 ^ k).testBit i = decide (k = i) := Nat.testBit_two_pow
/-- one step: the minimal sets that meet all of L, and s -/
theorem step {L : List Nat} {s : Nat} {F : List Nat} {n : Nat} (hs : s < 2 ^ n) (hF : ∀ h, h ∈ F ↔ Min (Hits · L) h) (h : Nat) :
    Min (· ∈ F.flatMap fun h => if h &&& s ≠ 0 then [h] else ((List.range n).filter (s.testBit ·)).map fun k => h ||| 2 ^ k) h ↔ Min (Hits · (L ++ [s])) h := by
  refine min_basis (N := (· ∈ F.flatMap fun h => if h &&& s ≠ 0 then [h] else ((List.range n).filter (s.testBit ·)).map fun k => h ||| 2 ^ k)) ?_ ?_ h
  · intro x hx
    obtain ⟨f, hf, hx⟩ := List.mem_flatMap.1 hx
    have hf := ((hF f).1 hf).1
    intro t ht
    rcases List.mem_append.1 ht with ht | ht
    · split at hx
      · simp at hx; subst hx; exact hf t ht
      · obtain ⟨k, _, rfl⟩ := List.mem_map.1 hx
        exact (hf t ht).mono (fun i hi => by rw [Nat.testBit_or, hi]; rfl) (Sub.refl t)
    · simp at ht; subst ht
      split at hx
      · simp at hx; subst hx; exact meets_iff.1 ‹_›
      · obtain ⟨k, hk, rfl⟩ := List.mem_map.1 hx
        have := (List.mem_filter.1 hk).2
        exact ⟨k, by rw [Nat.testBit_or, testBit_pow]; simp, this⟩
  · intro g hg
    obtain ⟨m, h1, h2⟩ := exists_min (P := (Hits · L)) g (fun t ht => hg t (List.mem_append_left _ ht))
    have hm := (hF m).2 h1
    by_cases hc : m &&& s ≠ 0
    · exact ⟨m, List.mem_flatMap.2 ⟨m, hm, by rw [if_pos hc]; simp⟩, h2⟩
    · obtain ⟨k, h3, h4⟩ := hg s (by simp)
      have hk : k < n := by
        refine Classical.byContradiction fun hk => ?_
        rw [Nat.testBit_lt_two_pow (Nat.lt_of_lt_of_le hs (Nat.pow_le_pow_right (by omega) (by omega)))] at h4
        cases h4
      refine ⟨m ||| 2 ^ k, List.mem_flatMap.2 ⟨m, hm, ?_⟩, fun i hi => ?_⟩
      · rw [if_neg hc]
        exact List.mem_map.2 ⟨k, List.mem_filter.2 ⟨List.mem_range.2 hk, h4⟩, rfl⟩
      · rw [Nat.testBit_or, testBit_pow] at hi
        simp at hi
        rcases hi with hi | rfl
        · exact h2 i hi
        · exact h3
theorem min_hits_nil (h : Nat) : Min (Hits · []) h ↔ h = 0 := by
  constructor
  · rintro ⟨_, h2⟩
    exact (h2 0 (fun s hs => by cases hs) (fun i hi => by simp at hi)).symm
  · rintro rfl
    exact ⟨fun s hs => (by cases hs), fun g _ hs => Nat.le_zero.1 hs.le⟩
theorem min_hits_lt {n : Nat} {L : List Nat} (hL : ∀ s ∈ L, s < 2 ^ n) {h : Nat} (hm : Min (Hits · L) h) : h < 2 ^ n := by
  have := hm.2 (h % 2 ^ n) (fun s hs => ?_) (fun i hi => by rw [Nat.testBit_mod_two_pow] at hi; simp at hi; exact hi.2)
  · rw [← this]; exact Nat.mod_lt _ (Nat.two_pow_pos n)
  · obtain ⟨i, h1, h2⟩ := hm.1 s hs
    refine ⟨i, ?_, h2⟩
    rw [Nat.testBit_mod_two_pow, h1]
    have : i < n := by
      refine Classical.byContradiction fun hk => ?_
      rw [Nat.testBit_lt_two_pow (Nat.lt_of_lt_of_le (hL s hs) (Nat.pow_le_pow_right (by omega) (by omega)))] at h2
      cases h2
    simp [this]
/-- minimal among the sets that hit: no element can go -/
theorem min_hits_iff {n : Nat} {L : List Nat} {s : Nat} (hs : s < 2 ^ n) : Min (Hits · L) s ↔ Hits s L ∧ ∀ k, k < n → s.testBit k = true → ¬ Hits (without s (2 ^ k)) L := by
  constructor
  · rintro ⟨h1, h2⟩
    refine ⟨h1, fun k _ hk hh => ?_⟩
    have := h2 _ hh (fun i hi => by rw [testBit_without] at hi; simp at hi; exact hi.1)
    have h3 : (without s (2 ^ k)).testBit k = true := by rw [this]; exact hk
    rw [testBit_without, testBit_pow] at h3; simp at h3
  · rintro ⟨h1, h2⟩
    refine ⟨h1, fun g hg hgs => ?_⟩
    refine hgs.antisymm fun k hk => ?_
    refine Classical.byContradiction fun hgk => ?_
    have hkn : k < n := by
      refine Classical.byContradiction fun hkn => ?_
      rw [Nat.testBit_lt_two_pow (Nat.lt_of_lt_of_le hs (Nat.pow_le_pow_right (by omega) (by omega)))] at hk
      cases hk
    refine h2 k hkn hk (hg.mono fun i hi => ?_)
    rw [testBit_without, testBit_pow, hgs i hi]
    have : k ≠ i := fun e => hgk (e ▸ hi)
    simp [this]
/-! ### the duality -/
def compl (n g : Nat) : Nat := without (2 ^ n - 1) g
theorem testBit_compl (n g i : Nat) : (compl n g).testBit i = (decide (i < n) && !g.testBit i) := by
  unfold compl; rw [testBit_without, Nat.testBit_two_pow_sub_one]
theorem bit_lt {n s i : Nat} (hs : s < 2 ^ n) (h : s.testBit i = true) : i < n := by
  refine Classical.byContradiction fun hk => ?_
  rw [Nat.testBit_lt_two_pow (Nat.lt_of_lt_of_le hs (Nat.pow_le_pow_right (by omega) (by omega)))] at h
  cases h
theorem hits_dual {n : Nat} {L : List Nat} (hL : ∀ s ∈ L, s < 2 ^ n) {H : List Nat} (hH : ∀ h, h ∈ H ↔ Min (Hits · L) h) (g : Nat) : Hits g H ↔ ∃ s ∈ L, Sub s g := by
  constructor
  · intro hg
    refine Classical.byContradiction fun hno => ?_
    have : Hits (compl n g) L := by
      intro s hs
      refine Classical.byContradiction fun hm => hno ⟨s, hs, fun i hi => ?_⟩
      refine Classical.byContradiction fun hgi => hm ⟨i, ?_, hi⟩
      rw [testBit_compl]; simp [bit_lt (hL s hs) hi]; simpa using hgi
    obtain ⟨m, h1, h2⟩ := exists_min (P := (Hits · L)) _ this
    obtain ⟨i, h3, h4⟩ := hg m ((hH m).2 h1)
    have := h2 i h4
    rw [testBit_compl] at this; simp [h3] at this
  · rintro ⟨s, hs, hsub⟩ h hh
    obtain ⟨i, h1, h2⟩ := ((hH h).1 hh).1 s hs
    exact ⟨i, hsub i h2, h1⟩
theorem min_dual {n : Nat} {L : List Nat} (hL : ∀ s ∈ L, s < 2 ^ n) {H : List Nat} (hH : ∀ h, h ∈ H ↔ Min (Hits · L) h) (g : Nat) : Min (Hits · H) g ↔ Min (· ∈ L) g := by
  refine Iff.symm (min_basis (N := (· ∈ L)) (P := (Hits · H)) (fun x hx => (hits_dual hL hH x).2 ⟨x, hx, Sub.refl x⟩) (fun h hh => ?_) g)
  obtain ⟨s, h1, h2⟩ := (hits_dual hL hH h).1 hh
  exact ⟨s, h1, h2⟩
theorem hits_min {L M : List Nat} (hM : ∀ h, h ∈ M ↔ Min (· ∈ L) h) (g : Nat) : Hits g M ↔ Hits g L := by
  constructor
  · intro h s hs
    obtain ⟨m, h1, h2⟩ := exists_min (P := (· ∈ L)) s hs
    exact (h m ((hM m).2 h1)).mono (Sub.refl g) h2
  · intro h s hs; exact h s ((hM s).1 hs).1
theorem min_congr {P Q : Nat → Prop} (h : ∀ x, P x ↔ Q x) (g : Nat) : Min P g ↔ Min Q g := by
  have : P = Q := funext fun x => propext (h x)
  rw [this]
theorem min_min {P : Nat → Prop} (g : Nat) : Min (Min P) g ↔ Min P g :=
  ⟨fun h => h.1, fun h => ⟨h, fun x hx hs => h.2 x hx.1 hs⟩⟩
/-! ### increasing lists -/
abbrev Inc (l : List Int) : Prop := l.Pairwise (· < ·)
theorem inc_ext {l m : List Int} (hl : Inc l) (hm : Inc m) (h : ∀ x, x ∈ l ↔ x ∈ m) : l = m := by
  refine List.Perm.eq_of_pairwise (le := fun x y : Int => x < y) (fun a b _ _ h1 h2 => by omega) hl hm ?_
  have n1 : l.Nodup := hl.imp (fun h => by omega)
  have n2 : m.Nodup := hm.imp (fun h => by omega)
  exact (List.perm_ext_iff_of_nodup n1 n2).2 h
end Go.Cor
