/- For every case, change, declarations, measurements and numbers, CourtForms returns true, and its arguments read afterwards as before; no condition. -/
import Derived.Test.YtebmpjdegajhgaaKCFormsF
import Derived.SliceStrings
import Derived.ChangeSlices
import Derived.Lib.SmallJoins
import Derived.OpenShut
import Derived.ShutString
import Derived.ChangeOld
import Derived.Test.YtebmpjdegajhgaaRows
import Derived.WalkKit
import Derived.ProofKit
import Derived.Below
set_option linter.unusedSimpArgs false
set_option linter.unusedVariables false
section
set_option linter.unusedVariables false
set_option linter.unusedSimpArgs false
section
set_option linter.unusedVariables false
set_option linter.unusedSimpArgs false
namespace Go.Cor
open Go Go.Lift
theorem bits64 : IntKind.bits .i64 = 64 := rfl
theorem wrap_nat {n : Nat} (h : n < 9223372036854775808) : IntKind.wrap .i64 (n : Int) = (n : Int) := IntWalk.i64_in _ ⟨by omega, by omega⟩
theorem ofInt_nat (a : Nat) : BitVec.ofInt 64 (a : Int) = BitVec.ofNat 64 a := by simp
theorem andB_nat {a b : Nat} (ha : a < 9223372036854775808) (hb : b < 9223372036854775808) : andB .i64 (a : Int) (b : Int) = ((a &&& b : Nat) : Int) := by
 unfold andB
 rw [bits64, ofInt_nat, ofInt_nat, BitVec.toNat_and, BitVec.toNat_ofNat, BitVec.toNat_ofNat, Nat.mod_eq_of_lt (by omega), Nat.mod_eq_of_lt (by omega)]
 exact wrap_nat (Nat.lt_of_le_of_lt Nat.and_le_left ha)
theorem orB_nat {a b : Nat} (ha : a < 4611686018427387904) (hb : b < 4611686018427387904) : orB .i64 (a : Int) (b : Int) = ((a ||| b : Nat) : Int) := by
 unfold orB
 rw [bits64, ofInt_nat, ofInt_nat, BitVec.toNat_or, BitVec.toNat_ofNat, BitVec.toNat_ofNat, Nat.mod_eq_of_lt (by omega), Nat.mod_eq_of_lt (by omega)]
 have : a ||| b < 2 ^ 62 := Nat.or_lt_two_pow (by omega) (by omega)
 exact wrap_nat (by omega)
def kO (a b : Nat) : Nat := a ^^^ (a &&& b)
theorem testBit_without (a b i : Nat) : (kO a b).testBit i = (a.testBit i && !b.testBit i) := by
 unfold kO
 rw [Nat.testBit_xor, Nat.testBit_and]
 cases a.testBit i <;> cases b.testBit i <;> rfl
theorem andNotB_nat {a b : Nat} (ha : a < 9223372036854775808) (hb : b < 9223372036854775808) : andNotB .i64 (a : Int) (b : Int) = ((kO a b : Nat) : Int) := by
 unfold andNotB
 rw [bits64, ofInt_nat, ofInt_nat]
 have h : (BitVec.ofNat 64 a &&& ~~~ BitVec.ofNat 64 b).toNat = kO a b := by
  refine Nat.eq_of_testBit_eq fun i => ?_
  rw [testBit_without]
  by_cases hi : i < 64
  ·rw [BitVec.testBit_toNat, BitVec.getLsbD_and, BitVec.getLsbD_not, BitVec.getLsbD_ofNat, BitVec.getLsbD_ofNat]
   simp [hi]
  ·rw [BitVec.testBit_toNat, BitVec.getLsbD_of_ge _ _ (by omega)]
   rw [Nat.testBit_lt_two_pow (x := a) (i := i)]
   ·rfl
   ·exact Nat.lt_of_lt_of_le (by omega : a < 2 ^ 64) (Nat.pow_le_pow_right (by omega) (by omega))
 rw [h]
 refine wrap_nat (Nat.lt_of_le_of_lt (Nat.le_of_testBit ?_) ha) 
 intro i hi; rw [testBit_without] at hi; simp at hi; exact hi.1
theorem shrF_nat {a k : Nat} (hk : k < 64) : shrF .i64 (a : Int) (k : Int) = ((a >>> k : Nat) : Int) := by
 unfold shrF
 rw [bits64, Int.toNat_natCast, Nat.min_eq_left (by omega), Nat.shiftRight_eq_div_pow]
 rw [Int.fdiv_eq_ediv_of_nonneg _ (by exact Int.le_of_lt (Int.pow_pos (by omega)))]
 simp
theorem gz {k : Nat} (hk : k < 62) : shlF .i64 1 (k : Int) = ((2 ^ k : Nat) : Int) := by
 unfold shlF
 rw [bits64, Int.toNat_natCast, Nat.min_eq_left (by omega)]
 have : 2 ^ k < 2 ^ 62 := Nat.pow_lt_pow_right (by omega) hk
 have h2 : (1 : Int) * 2 ^ k = ((2 ^ k : Nat) : Int) := by simp
 rw [h2]; exact wrap_nat (by omega)
theorem bit_eq {a k : Nat} (ha : a < 4611686018427387904) (hk : k < 62) : (decide (andB .i64 (shrF .i64 (a : Int) (k : Int)) 1 = 1)) = a.testBit k := by
 rw [shrF_nat (by omega)]
 have h1 : a >>> k ≤ a := Nat.shiftRight_le a k
 have := andB_nat (a := a >>> k) (b := 1) (by omega) (by omega)
 rw [show ((1 : Nat) : Int) = 1 from rfl] at this
 rw [this, Nat.and_one_is_mod, Nat.testBit_eq_decide_div_mod_eq, Nat.shiftRight_eq_div_pow]
 congr 1
 exact propext ⟨fun h => by omega, fun h => by omega⟩
def Sub (b a : Nat) : Prop := ∀ i, b.testBit i = true → a.testBit i = true
theorem sub_iff {a b : Nat} : a &&& b = b ↔ Sub b a := by
 constructor
 ·intro h i hi
  rw [← h, Nat.testBit_and] at hi
  simp at hi; exact hi.1
 ·intro h
  refine Nat.eq_of_testBit_eq fun i => ?_
  rw [Nat.testBit_and]
  have := h i
  cases hb : b.testBit i with
  | true => simp [this hb]
  | false => simp
theorem Sub.refl (a : Nat) : Sub a a := fun _ h => h
theorem Sub.trans {a b c : Nat} (h : Sub a b) (k : Sub b c) : Sub a c := fun i hi => k i (h i hi)
theorem Sub.antisymm {a b : Nat} (h : Sub a b) (k : Sub b a) : a = b := by
 refine Nat.eq_of_testBit_eq fun i => ?_
 have := h i; have := k i
 cases ha : a.testBit i <;> cases hb : b.testBit i <;> simp_all
theorem Sub.le {a b : Nat} (h : Sub a b) : a ≤ b := Nat.le_of_testBit h
theorem Sub.lt {a b : Nat} (h : Sub a b) (hne : a ≠ b) : a < b := Nat.lt_of_le_of_ne h.le hne
def Meets (a b : Nat) : Prop := ∃ i, a.testBit i = true ∧ b.testBit i = true
theorem meets_iff {a b : Nat} : a &&& b ≠ 0 ↔ Meets a b := by
 constructor
 ·intro h
  obtain ⟨i, hi⟩ := Nat.exists_testBit_of_ne_zero h
  rw [Nat.testBit_and] at hi; simp at hi
  exact ⟨i, hi⟩
 ·rintro ⟨i, h1, h2⟩ h
  have : (a &&& b).testBit i = true := by rw [Nat.testBit_and, h1, h2]; rfl
  rw [h] at this; simp at this
theorem Meets.mono {a b c d : Nat} (h : Meets a b) (h1 : Sub a c) (h2 : Sub b d) : Meets c d := by
 obtain ⟨i, h3, h4⟩ := h; exact ⟨i, h1 i h3, h2 i h4⟩
def Hits (h : Nat) (L : List Nat) : Prop := ∀ s ∈ L, Meets h s
theorem Hits.mono {g h : Nat} {L : List Nat} (hg : Hits g L) (hs : Sub g h) : Hits h L := fun s hs' => (hg s hs').mono hs (Sub.refl s)
def Min (P : Nat → Prop) (h : Nat) : Prop := P h ∧ ∀ g, P g → Sub g h → g = h
theorem exists_min {P : Nat → Prop} : ∀ h, P h → ∃ m, Min P m ∧ Sub m h := by
 intro h
 induction h using Nat.strongRecOn with
 | _ h ih =>
  intro hP
  by_cases hm : ∀ g, P g → Sub g h → g = h
  ·exact ⟨h, ⟨hP, hm⟩, Sub.refl h⟩
  ·simp only [Classical.not_forall] at hm
   obtain ⟨g, hg, hs, hne⟩ := hm
   obtain ⟨m, h1, h2⟩ := ih g (hs.lt hne) hg
   exact ⟨m, h1, h2.trans hs⟩
theorem min_basis {P : Nat → Prop} {N : Nat → Prop} (h1 : ∀ x, N x → P x) (h2 : ∀ h, P h → ∃ x, N x ∧ Sub x h) (h : Nat) : Min N h ↔ Min P h := by
 constructor
 ·rintro ⟨h3, h4⟩
  refine ⟨h1 h h3, fun g hg hs => ?_⟩
  obtain ⟨x, h5, h6⟩ := h2 g hg
  have := h4 x h5 (h6.trans hs)
  subst this
  exact hs.antisymm h6
 ·rintro ⟨h3, h4⟩
  obtain ⟨x, h5, h6⟩ := h2 h h3
  have := h4 x (h1 x h5) h6
  subst this
  exact ⟨h5, fun g hg hs => h4 g (h1 g hg) hs⟩
theorem testBit_pow {k i : Nat} : (2 ^ k).testBit i = decide (k = i) := Nat.testBit_two_pow
theorem step {L : List Nat} {s : Nat} {F : List Nat} {n : Nat} (hs : s < 2 ^ n) (hF : ∀ h, h ∈ F ↔ Min (Hits · L) h) (h : Nat) :
  Min (· ∈ F.flatMap fun h => if h &&& s ≠ 0 then [h] else ((List.range n).filter (s.testBit ·)).map fun k => h ||| 2 ^ k) h ↔ Min (Hits · (L ++ [s])) h := by
 refine min_basis (N := (· ∈ F.flatMap fun h => if h &&& s ≠ 0 then [h] else ((List.range n).filter (s.testBit ·)).map fun k => h ||| 2 ^ k)) ?_ ?_ h
 ·intro x hx
  obtain ⟨f, hf, hx⟩ := List.mem_flatMap.1 hx
  have hf := ((hF f).1 hf).1
  intro t ht
  rcases List.mem_append.1 ht with ht | ht
  ·split at hx
   ·simp at hx; subst hx; exact hf t ht
   ·obtain ⟨k, _, rfl⟩ := List.mem_map.1 hx
    exact (hf t ht).mono (fun i hi => by rw [Nat.testBit_or, hi]; rfl) (Sub.refl t)
  ·simp at ht; subst ht
   split at hx
   ·simp at hx; subst hx; exact meets_iff.1 ‹_›
   ·obtain ⟨k, hk, rfl⟩ := List.mem_map.1 hx
    have := (List.mem_filter.1 hk).2
    exact ⟨k, by rw [Nat.testBit_or, testBit_pow]; simp, this⟩
 ·intro g hg
  obtain ⟨m, h1, h2⟩ := exists_min (P := (Hits · L)) g (fun t ht => hg t (List.mem_append_left _ ht))
  have hm := (hF m).2 h1
  by_cases hc : m &&& s ≠ 0
  ·exact ⟨m, List.mem_flatMap.2 ⟨m, hm, by rw [if_pos hc]; simp⟩, h2⟩
  ·obtain ⟨k, h3, h4⟩ := hg s (by simp)
   have hk : k < n := by
    refine Classical.byContradiction fun hk => ?_
    rw [Nat.testBit_lt_two_pow (Nat.lt_of_lt_of_le hs (Nat.pow_le_pow_right (by omega) (by omega)))] at h4
    cases h4
   refine ⟨m ||| 2 ^ k, List.mem_flatMap.2 ⟨m, hm, ?_⟩, fun i hi => ?_⟩
   ·rw [if_neg hc]
    exact List.mem_map.2 ⟨k, List.mem_filter.2 ⟨List.mem_range.2 hk, h4⟩, rfl⟩
   ·rw [Nat.testBit_or, testBit_pow] at hi
    simp at hi
    rcases hi with hi | rfl
    ·exact h2 i hi
    ·exact h3
theorem min_hits_nil (h : Nat) : Min (Hits · []) h ↔ h = 0 := by
 constructor
 ·rintro ⟨_, h2⟩
  exact (h2 0 (fun s hs => by cases hs) (fun i hi => by simp at hi)).symm
 ·rintro rfl
  exact ⟨fun s hs => (by cases hs), fun g _ hs => Nat.le_zero.1 hs.le⟩
theorem min_hits_lt {n : Nat} {L : List Nat} (hL : ∀ s ∈ L, s < 2 ^ n) {h : Nat} (hm : Min (Hits · L) h) : h < 2 ^ n := by
 have := hm.2 (h % 2 ^ n) (fun s hs => ?_) (fun i hi => by rw [Nat.testBit_mod_two_pow] at hi; simp at hi; exact hi.2)
 ·rw [← this]; exact Nat.mod_lt _ (Nat.two_pow_pos n)
 ·obtain ⟨i, h1, h2⟩ := hm.1 s hs
  refine ⟨i, ?_, h2⟩
  rw [Nat.testBit_mod_two_pow, h1]
  have : i < n := by
   refine Classical.byContradiction fun hk => ?_
   rw [Nat.testBit_lt_two_pow (Nat.lt_of_lt_of_le (hL s hs) (Nat.pow_le_pow_right (by omega) (by omega)))] at h2
   cases h2
  simp [this]
theorem min_hits_iff {n : Nat} {L : List Nat} {s : Nat} (hs : s < 2 ^ n) : Min (Hits · L) s ↔ Hits s L ∧ ∀ k, k < n → s.testBit k = true → ¬ Hits (kO s (2 ^ k)) L := by
 constructor
 ·rintro ⟨h1, h2⟩
  refine ⟨h1, fun k _ hk hh => ?_⟩
  have := h2 _ hh (fun i hi => by rw [testBit_without] at hi; simp at hi; exact hi.1)
  have h3 : (kO s (2 ^ k)).testBit k = true := by rw [this]; exact hk
  rw [testBit_without, testBit_pow] at h3; simp at h3
 ·rintro ⟨h1, h2⟩
  refine ⟨h1, fun g hg hgs => ?_⟩
  refine hgs.antisymm fun k hk => ?_
  refine Classical.byContradiction fun hgk => ?_
  have hkn : k < n := by
   refine Classical.byContradiction fun hkn => ?_
   rw [Nat.testBit_lt_two_pow (Nat.lt_of_lt_of_le hs (Nat.pow_le_pow_right (by omega) (by omega)))] at hk
   cases hk
  refine h2 k hkn hk (hg.mono fun i hi => ?_)
  rw [testBit_without, testBit_pow, hgs i hi]
  have : k ≠ i := fun e => hgk (e ▸ hi)
  simp [this]
abbrev Inc (l : List Int) : Prop := l.Pairwise (· < ·)
theorem inc_ext {l m : List Int} (hl : Inc l) (hm : Inc m) (h : ∀ x, x ∈ l ↔ x ∈ m) : l = m := by
 refine List.Perm.eq_of_pairwise (le := fun x y : Int => x < y) (fun a b _ _ h1 h2 => by omega) hl hm ?_
 have n1 : l.Nodup := hl.imp (fun h => by omega)
 have n2 : m.Nodup := hm.imp (fun h => by omega)
 exact (List.perm_ext_iff_of_nodup n1 n2).2 h
end Go.Cor
end
section
set_option linter.unusedVariables false
set_option linter.unusedSimpArgs false
namespace Go.Cor
open Go Go.Lift Go.F
theorem LIM_lt : LIM < 9223372036854775807 := by decide
theorem ya {α : Type} {i : Nat} {xs : List α} : (decide ((i : Int) < (xs.length : Int))) = decide (i < xs.length) := by
 congr 1; exact propext ⟨fun h => by omega, fun h => by omega⟩
def IsMin (l : List Int) (s : Int) : Prop := s ∈ l ∧ ∀ x ∈ l, andB .i64 s x = x → x = s
theorem sorted_get {d : Array Int} (h : d.toList.Pairwise (· ≤ ·)) {i j : Nat} (hij : i ≤ j) (hj : j < d.size) : d[i]! ≤ d[j]! := by
 have e : ∀ k, k < d.size → d[k]! = d.toList[k]! := by
  intro k hk; simp [hk]
 rw [e i (by omega), e j hj]
 rcases Nat.lt_or_eq_of_le hij with hlt | rfl
 ·have := List.pairwise_iff_getElem.1 h i j (by simp; omega) (by simpa using hj) hlt
  simpa [hj, show i < d.size by omega] using this
 ·exact Int.le_refl _
theorem keeps_iff {d : Array Int} {j : Nat} : Lib.keeps d j = true ↔ j = 0 ∨ d[j]! ≠ d[j - 1]! := by simp [Lib.keeps]
theorem compact_inc {l : List Int} (h : l.Pairwise (· ≤ ·)) : Inc (Lib.compact l) := by
 unfold Lib.compact Lib.compactUpTo Inc
 rw [List.pairwise_map]
 have hr : ((List.range l.length).filter (Lib.keeps l.toArray)).Pairwise (· < ·) := List.Pairwise.filter _ List.pairwise_lt_range
 refine List.Pairwise.imp_of_mem ?_ hr
 intro a b ha hb hab
 have hb1 := List.mem_filter.1 hb
 have hbl := List.mem_range.1 hb1.1
 have h1 := sorted_get (d := l.toArray) (by simpa using h) (i := a) (j := b - 1) (by omega) (by simp; omega)
 have h2 := sorted_get (d := l.toArray) (by simpa using h) (i := b - 1) (j := b) (by omega) (by simpa using hbl)
 rcases keeps_iff.1 hb1.2 with h3 | h3
 ·omega
 ·omega
theorem compact_mem {l : List Int} (x : Int) : x ∈ Lib.compact l ↔ x ∈ l := by
 unfold Lib.compact Lib.compactUpTo
 rw [List.mem_map]
 constructor
 ·rintro ⟨j, hj, rfl⟩
  have := List.mem_range.1 (List.mem_filter.1 hj).1
  simp [this]
 ·intro hx
  obtain ⟨i, hi, he⟩ := List.getElem_of_mem hx
  have hP : ∀ i, i < l.length → l.toArray[i]! = x → ∃ j, j ∈ (List.range l.length).filter (Lib.keeps l.toArray) ∧ l.toArray[j]! = x := by
   intro i
   induction i using Nat.strongRecOn with
   | _ i ih =>
    intro hi he
    by_cases hk : Lib.keeps l.toArray i = true
    ·exact ⟨i, List.mem_filter.2 ⟨List.mem_range.2 hi, hk⟩, he⟩
    ·have := mt keeps_iff.2 hk
     simp only [not_or, Decidable.not_not] at this
     exact ih (i - 1) (by omega) (by omega) (by rw [← this.2]; exact he)
  exact hP i hi (by simp [hi, he])
theorem compact_le {l : List Int} : (Lib.compact l).length ≤ l.length := compact_len l
theorem isort_len (l : List Int) : (isort l).length = l.length := (isort_perm l).length_eq
def lst (l : List Int) : List Int := Lib.compact (isort l)
theorem lst_inc (l : List Int) : Inc (lst l) := compact_inc (isort_sorted l)
theorem lst_mem (l : List Int) (x : Int) : x ∈ lst l ↔ x ∈ l := by unfold lst; rw [compact_mem]; exact (isort_perm l).mem_iff
theorem lst_le (l : List Int) : (lst l).length ≤ l.length := by have := compact_le (l := isort l); rw [isort_len] at this; exact this
def worse (l : List Int) (s : Int) : Bool := l.any fun x => decide (x ≠ s) && decide (andB .i64 s x = x)
def minimal (l : List Int) : List Int := (lst l).filter fun s => !worse (lst l) s
theorem minimal_inc (l : List Int) : Inc (minimal l) := List.Pairwise.filter _ (lst_inc l)
theorem minimal_mem (l : List Int) (s : Int) : s ∈ minimal l ↔ IsMin l s := by
 unfold minimal IsMin
 rw [List.mem_filter, lst_mem]
 refine and_congr_right fun _ => ?_
 unfold worse
 rw [Bool.not_eq_true', List.any_eq_false]
 constructor
 ·intro h x hx hs
  have := h x ((lst_mem l x).2 hx)
  simp [hs] at this; exact this
 ·intro h x hx
  have := h x ((lst_mem l x).1 hx)
  by_cases hs : andB .i64 s x = x
  ·simp [this hs]
  ·simp [hs]
theorem minimal_val {l : List Int} (hl : l.length ≤ LIM) : (core_Minimal l).val = some (minimal l) := by
 unfold core_Minimal vL
 have hL := LIM_lt
 have h1 := lst_le l
 simp only [Comp.zH, app_val (xs := ([] : List Int)) (ys := l) (by simpa using hl), Option.bind_some, Comp.zI, List.nil_append]
 have h2 : (sortI l).val = some (isort l) := by unfold sortI; rw [if_pos hl]; simp
 have h3 : (compactI (isort l)).val = some (lst l) := by unfold compactI; rw [if_pos (by rw [isort_len]; exact hl)]; simp [lst]
 rw [h2, Option.bind_some, h3, Option.bind_some]
 have hin : ∀ s, (Comp.loop (fun i => jl (lst l) s i) 0).val = some (if worse (lst l) s = true then .inl () else .inr ()) := by
  intro s
  refine Comp.loop_any (lst l) (fun x => decide (x ≠ s) && decide (andB .i64 s x = x)) () ?_ ?_
  ·intro i x hx
   have hi := zu hx
   unfold jl
   simp only [Comp.zL, Comp.zH, yh hx, Option.bind_some, Comp.zI, ya, Comp.zR (i := i) (by omega)]
   rw [if_pos (by simpa using hi), bif_ite]
   cases decide (x ≠ s) <;> cases decide (andB .i64 s x = x) <;> rfl
  ·unfold jl
   simp only [Comp.zL, Comp.zI]
   rw [if_neg (by simp)]
 have := Comp.loop_fold (body := fun s => gV (lst l) s.1 s.2) (lst l) (fun acc s => if (!worse (lst l) s) = true then acc ++ [s] else acc) id (fun acc i => acc.length ≤ i) []
  (by
   intro s i x hx hI
   have hi := zu hx
   show (gV (lst l) s (i : Int)).val = _
   unfold gV
   simp only [Comp.zL, Comp.zH, yh hx, Option.bind_some, hin]
   rw [if_pos (by simpa using hi)]
   cases hw : worse (lst l) x with
   | true => simp [core_Minimal_j3, Comp.zR (i := i) (by omega)]
   | false =>
    rw [if_neg (by simp)]
    show (core_Minimal_j4 s x (i : Int)).val = _
    unfold core_Minimal_j4 core_Minimal_j3
    rw [Comp.zH, app_val (xs := s) (ys := [x]) (by simp; omega), Option.bind_some, Comp.zI, Comp.zR (i := i) (by omega)]
    rfl)
  (by
   intro s i x _ hI
   show (if (!worse (lst l) x) = true then s ++ [x] else s).length ≤ _
   split
   ·simp; omega
   ·omega)
  (by
   intro s _
   show (gV (lst l) s ((lst l).length : Int)).val = _
   unfold gV
   simp only [Comp.zL, Comp.zI]
   rw [if_neg (by simp)]; rfl)
  (Nat.le_refl _)
 rw [this, Option.bind_some]
 simp only [core_Minimal_j1, Comp.zI, id, Comp.foldl_filter, List.nil_append]
 rfl
end Go.Cor
end
section
set_option linter.unusedVariables false
set_option linter.unusedSimpArgs false
namespace Go.Cor
open Go Go.Lift Go.F
def up (L : List Nat) : List Int := L.map fun (x : Nat) => (x : Int)
theorem up_len (L : List Nat) : (up L).length = L.length := List.length_map _
theorem mem_up {L : List Nat} {x : Nat} : (x : Int) ∈ up L ↔ x ∈ L := by
 unfold up; rw [List.mem_map]
 exact ⟨fun ⟨y, h1, h2⟩ => by
                have : y = x := by omega
                exact this ▸ h1, fun h => ⟨x, h, rfl⟩⟩
theorem mem_up' {L : List Nat} {z : Int} : z ∈ up L ↔ ∃ x : Nat, x ∈ L ∧ z = (x : Int) := by
 unfold up; rw [List.mem_map]
 exact ⟨fun ⟨y, h1, h2⟩ => ⟨y, h1, h2.symm⟩, fun ⟨y, h1, h2⟩ => ⟨y, h1, h2.symm⟩⟩
theorem inc_len {b : Int} : ∀ (l : List Int) (a : Int), Inc l → (∀ x ∈ l, a ≤ x ∧ x < b) → (l.length : Int) ≤ max 0 (b - a)
 | [], a, _, _ => by simp; omega
 | x :: l, a, h, hx => by
   have h1 := List.pairwise_cons.1 h
   have h2 := hx x (by simp)
   have := inc_len (b := b) l (x + 1) h1.2 fun y hy => ⟨by have := h1.1 y hy; omega, (hx y (List.mem_cons_of_mem _ hy)).2⟩
   simp only [List.length_cons]; omega
theorem inc_up_len {L : List Nat} {n : Nat} (h : Inc (up L)) (hn : ∀ x ∈ L, x < n) : L.length ≤ n := by
 have := inc_len (b := (n : Int)) (up L) 0 h fun x hx => by
  obtain ⟨y, h1, rfl⟩ := mem_up'.1 hx
  have := hn y h1; omega
 rw [up_len] at this; omega
theorem toNat_up {l : List Int} (h : ∀ x ∈ l, 0 ≤ x) : up (l.map Int.toNat) = l := by
 unfold up; rw [List.map_map]
 conv => rhs; rw [← List.map_id l]
 exact List.map_congr_left fun x hx => by simp [Int.toNat_of_nonneg (h x hx)]
theorem isMin_up {N : List Nat} (hN : ∀ x ∈ N, x < 4611686018427387904) (z : Int) : IsMin (up N) z ↔ ∃ h : Nat, z = (h : Int) ∧ Min (· ∈ N) h := by
 constructor
 ·rintro ⟨h1, h2⟩
  obtain ⟨h, h3, rfl⟩ := mem_up'.1 h1
  refine ⟨h, rfl, h3, fun g hg hs => ?_⟩
  have := h2 g (mem_up.2 hg) (by rw [andB_nat (by have := hN h h3; omega) (by have := hN g hg; omega), sub_iff.2 hs])
  omega
 ·rintro ⟨h, rfl, h1, h2⟩
  refine ⟨mem_up.2 h1, fun x hx hs => ?_⟩
  obtain ⟨g, hg, rfl⟩ := mem_up'.1 hx
  rw [andB_nat (by have := hN h h1; omega) (by have := hN g hg; omega)] at hs
  rw [h2 g hg (sub_iff.1 (by omega))]
theorem minimal_up {N : List Nat} (hN : ∀ x ∈ N, x < 4611686018427387904) : ∃ H, minimal (up N) = up H ∧ ∀ h, h ∈ H ↔ Min (· ∈ N) h := by
 have h0 : ∀ x ∈ minimal (up N), 0 ≤ x := by
  intro x hx
  obtain ⟨h, rfl, _⟩ := (isMin_up hN x).1 ((minimal_mem _ _).1 hx)
  omega
 refine ⟨(minimal (up N)).map Int.toNat, (toNat_up h0).symm, fun h => ?_⟩
 rw [← mem_up, toNat_up h0, minimal_mem, isMin_up hN]
 exact ⟨fun ⟨g, h1, h2⟩ => by
                have : g = h := by omega
                exact this ▸ h2, fun h2 => ⟨h, rfl, h2⟩⟩
def grown (n s h : Nat) : List Nat := if h &&& s ≠ 0 then [h] else ((List.range n).filter (s.testBit ·)).map fun k => h ||| 2 ^ k
theorem grown_len (n s h : Nat) : (grown n s h).length ≤ n + 1 := by
 unfold grown; split
 ·simp
 ·rw [List.length_map]; have := List.length_filter_le (s.testBit ·) (List.range n); rw [List.length_range] at this; omega
theorem up_append (a b : List Nat) : up (a ++ b) = up a ++ up b := List.map_append
theorem decide_lt_nat {i n : Nat} : (decide ((i : Int) < (n : Int))) = decide (i < n) := by
 congr 1; exact propext ⟨fun h => by omega, fun h => by omega⟩
theorem range_get {n i x : Nat} (h : (List.range n)[i]? = some x) : i < n ∧ x = i := by
 obtain ⟨h1, h2⟩ := List.getElem?_eq_some_iff.1 h
 simp at h1 h2; exact ⟨h1, h2.symm⟩
theorem l6_val {n s h : Nat} (hn : n ≤ 10) (hs : s < 2 ^ n) (hh : h < 2 ^ n) {acc : List Int} (ha : acc.length + n ≤ LIM) :
  (Comp.loop (fun st => gA n s h st.1 st.2) (acc, 0)).val = some (acc ++ up (((List.range n).filter (s.testBit ·)).map fun k => h ||| 2 ^ k)) := by
 have hb : 2 ^ n ≤ 1024 := Nat.pow_le_pow_right (n := 2) (by omega) hn
 have := Comp.loop_fold (body := fun st => gA n s h st.1 st.2) (List.range n) (fun acc k => acc ++ if s.testBit k = true then [((h ||| 2 ^ k : Nat) : Int)] else []) id (fun a i => a.length ≤ acc.length + i) acc
  (by
   intro a i x hx hI
   obtain ⟨hi, rfl⟩ := range_get hx
   show (gA n s h a (x : Int)).val = _
   unfold gA
   rw [decide_lt_nat, Comp.zL, if_pos (by simpa using hi), Comp.zH, vH (by omega), Option.bind_some, Comp.zH, Comp.zI, Option.bind_some, bit_eq (by omega) (by omega), Comp.zL]
   by_cases ht : s.testBit x = true
   ·rw [if_pos ht, if_pos ht, Comp.zH, vH (by omega), Option.bind_some, gz (by omega)]
    have h2 : 2 ^ x ≤ 1024 := Nat.pow_le_pow_right (n := 2) (by omega) (by omega : x ≤ 10)
    rw [orB_nat (by omega) (by omega), Comp.zH, app_val (by simp; omega), Option.bind_some]
    simp only [core_Hitting_j7, Comp.zI, Comp.zR (i := x) (by omega)]
   ·rw [if_neg ht, if_neg ht, List.append_nil]
    simp only [core_Hitting_j7, Comp.zI, Comp.zR (i := x) (by omega)])
  (by
   intro a i x hx hI
   show (a ++ if s.testBit x = true then [((h ||| 2 ^ x : Nat) : Int)] else []).length ≤ _
   split
   ·simp; omega
   ·simp; omega)
  (by
   intro a _
   show (gA n s h a ((List.range n).length : Int)).val = _
   unfold gA
   rw [List.length_range, Comp.zL, if_neg (by simp), Comp.zI]; rfl)
  (Nat.le_refl _)
 rw [this, Comp.foldl_flatMap]
 congr 1
 show _ ++ _ = _
 congr 1
 unfold up
 rw [List.map_map]
 generalize List.range n = ks
 induction ks with
 | nil => rfl
 | cons k ks ih =>
  rw [List.flatMap_cons, List.filter_cons, ih]
  split <;> simp
theorem l4_val {n s : Nat} (hn : n ≤ 10) (hs : s < 2 ^ n) {F : List Nat} (hF : ∀ h ∈ F, h < 2 ^ n) (hl : F.length ≤ 1024) :
  (Comp.loop (fun st => gB (up F) s n st.1 st.2) ([], 0)).val = some (up (F.flatMap (grown n s))) := by
 have hb : 2 ^ n ≤ 1024 := Nat.pow_le_pow_right (n := 2) (by omega) hn
 have := Comp.loop_fold (body := fun st => gB (up F) s n st.1 st.2) F (fun acc h => acc ++ up (grown n s h)) id (fun a i => a.length ≤ i * 11) []
  (by
   intro a i x hx hI
   have hi := zu hx
   have hxn := hF x (List.mem_of_getElem? hx)
   show (gB (up F) s n a (i : Int)).val = _
   have hx' : (up F)[i]? = some (x : Int) := by unfold up; rw [List.getElem?_map, hx]; rfl
   have hsm : LIM = 1073741824 := rfl
   unfold gB
   rw [ya, Comp.zL, if_pos (by simpa [up_len] using hi), Comp.zH, yh hx', Option.bind_some, andB_nat (by omega) (by omega), Comp.zL]
   unfold grown
   by_cases hm : x &&& s ≠ 0
   ·rw [if_pos hm, if_pos (by simpa using hm), Comp.zH, app_val (by simp; omega), Option.bind_some]
    simp only [core_Hitting_j5, Comp.zI, Comp.zR (i := i) (by omega)]
    rfl
   ·rw [if_neg hm, if_neg (by simpa using hm), Comp.zH, l6_val hn hs hxn (by omega), Option.bind_some]
    simp only [core_Hitting_j5, Comp.zI, Comp.zR (i := i) (by omega)])
  (by
   intro a i x hx hI
   show (a ++ up (grown n s x)).length ≤ _
   have := grown_len n s x
   rw [List.length_append, up_len]; omega)
  (by
   intro a _
   show (gB (up F) s n a (F.length : Int)).val = _
   unfold gB
   rw [Comp.zL, if_neg (by simp [up_len]), Comp.zI]; rfl)
  (Nat.le_refl _)
 rw [this, Comp.foldl_flatMap]
 congr 1
 show [] ++ _ = _
 rw [List.nil_append]
 unfold up
 rw [List.map_flatMap]
structure Fam (n : Nat) (L : List Nat) (l : List Int) : Prop where
 ex : ∃ F, l = up F ∧ ∀ h, h ∈ F ↔ Min (Hits · L) h
 inc : Inc l
theorem Fam.lt {n : Nat} {L : List Nat} (hL : ∀ s ∈ L, s < 2 ^ n) {F : List Nat} (h : ∀ h, h ∈ F ↔ Min (Hits · L) h) : ∀ x ∈ F, x < 2 ^ n := fun x hx => min_hits_lt hL ((h x).1 hx)
theorem Fam.unique {n : Nat} {L : List Nat} {l m : List Int} (h : Fam n L l) (k : Fam n L m) : l = m := by
 obtain ⟨F, rfl, hF⟩ := h.ex
 obtain ⟨G, rfl, hG⟩ := k.ex
 refine inc_ext h.inc k.inc fun x => ?_
 rw [mem_up', mem_up']
 exact ⟨fun ⟨y, h1, h2⟩ => ⟨y, (hG y).2 ((hF y).1 h1), h2⟩, fun ⟨y, h1, h2⟩ => ⟨y, (hF y).2 ((hG y).1 h1), h2⟩⟩
theorem contains_val {l : List Int} (hl : l.length ≤ LIM) {f : Int → Comp Bool} {p : Int → Bool} (hf : ∀ x ∈ l, (f x).val = some (p x)) : (zo l f).val = some (l.any p) := by
 unfold zo yy
 have hL := LIM_lt
 have : ∃ e : Sum Int Unit, (Comp.loop (fun s => zn l f s) 0).val = some e ∧ (l.any p = true → ∃ i : Nat, e = .inl (i : Int)) ∧ (l.any p = false → e = .inr ()) := by
  refine ⟨_, Comp.loop_foldE (σ := Nat) (fun _ i => ((i : Nat) : Int)) l (fun i x => if p x = true then .done (.inl (i : Int)) else .next (i + 1)) (fun _ => (.inr () : Sum Int Unit)) (fun j i => j = i) (body := fun s => zn l f s) ?_ ?_ ?_ 0 rfl, ?_, ?_⟩
  ·intro s i x hx he
   subst he
   have hi := zu hx
   unfold zn
   rw [ya, Comp.zL, if_pos (by simpa using hi), Comp.zH, yh hx, Option.bind_some, Comp.zH, hf x (List.mem_of_getElem? hx), Option.bind_some, Comp.zL]
   by_cases h : p x = true
   ·rw [if_pos h, if_pos h, Comp.zI]; rfl
   ·rw [if_neg h, if_neg h, Comp.zR (by omega)]; simp [Comp.Step.map]
  ·intro s i x s' _ he h
   by_cases hp : p x = true
   ·simp [hp] at h
   ·simp [hp] at h; omega
  ·intro s he
   unfold zn
   rw [Comp.zL, if_neg (by simp), Comp.zI]
  ·intro h
   have : ∀ (l : List Int) (j : Nat), l.any p = true → ∃ i : Nat, Comp.foldE (fun (i : Nat) x => if p x = true then Comp.Step.done (Sum.inl (i : Int)) else Comp.Step.next (i + 1)) (fun _ => (.inr () : Sum Int Unit)) j l = .inl (i : Int) := by
    intro l
    induction l with
    | nil => intro j h; simp at h
    | cons y l ih =>
     intro j h
     simp only [Comp.foldE]
     by_cases hy : p y = true
     ·simp only [hy, if_true]; exact ⟨j, rfl⟩
     ·simp only [hy]; exact ih (j + 1) (by simpa [hy] using h)
   exact this l 0 h
  ·intro h
   have : ∀ (l : List Int) (j : Nat), l.any p = false → Comp.foldE (fun (i : Nat) x => if p x = true then Comp.Step.done (Sum.inl (i : Int)) else Comp.Step.next (i + 1)) (fun _ => (.inr () : Sum Int Unit)) j l = .inr () := by
    intro l
    induction l with
    | nil => intro j h; rfl
    | cons y l ih =>
     intro j h
     simp only [Comp.foldE]
     have h' : p y = false ∧ l.any p = false := by simpa using h
     simp only [h'.1]; exact ih (j + 1) h'.2
   exact this l 0 h
 obtain ⟨e, h1, h2, h3⟩ := this
 rw [Comp.zH, Comp.zH, h1, Option.bind_some]
 cases ha : l.any p with
 | true => obtain ⟨i, rfl⟩ := h2 ha; simp
 | false => rw [h3 ha]; simp [vY]
theorem hitting_val {n : Nat} {L : List Nat} (hn : n ≤ 10) (hL : ∀ s ∈ L, s < 2 ^ n) (hl : L.length ≤ LIM) : ∃ H, (core_Hitting (up L) n).val = some (H, 0) ∧ Fam n L H := by
 have hb : 2 ^ n ≤ 1024 := Nat.pow_le_pow_right (n := 2) (by omega) hn
 have hLt := LIM_lt
 unfold core_Hitting
 have e1 : (bif (decide ((n : Int) < 0)) then true else (decide ((n : Int) > 10))) = false := by
  rw [show decide ((n : Int) < 0) = false by rw [decide_eq_false_iff_not]; omega, show decide ((n : Int) > 10) = false by rw [decide_eq_false_iff_not]; omega]; rfl
 have hc : (zo (up L) (fun z0 => gw z0 n)).val = some ((up L).any fun _ => false) := by
  refine contains_val (by rw [up_len]; exact hl) fun x hx => ?_
  obtain ⟨y, hy, rfl⟩ := mem_up'.1 hx
  have := hL y hy
  unfold gw
  rw [Comp.zH, Comp.jv, vH (by omega), gz (by omega)]
  have e2 : decide ((y : Int) < 0) = false := by rw [decide_eq_false_iff_not]; omega
  have e3 : decide ((y : Int) ≥ ((2 ^ n : Nat) : Int)) = false := by rw [decide_eq_false_iff_not]; omega
  simp only [e2, e3, Comp.zH, Comp.zI, Option.bind_some]
  rfl
 rw [e1, Comp.zH, Comp.zI, Option.bind_some, Comp.zL, if_neg (by simp), Comp.zH, hc]
 have e4 : (up L).any (fun _ => false) = false := by simp
 rw [e4, Option.bind_some, Comp.zL, if_neg (by simp), Comp.zH]
 have key : ∀ (M N : List Nat) (l : List Int), L = N ++ M → Fam n N l → ∃ H, (Comp.loop (fun s => gC (up L) n s.1 s.2) (l, (N.length : Int))).val = some H ∧ Fam n L H := by
  intro M
  induction M with
  | nil =>
   intro N l hN hf
   rw [List.append_nil] at hN; subst hN
   refine ⟨l, ?_, hf⟩
   rw [Comp.val_loop]
   show (gC (up L) n l (L.length : Int)).val.bind _ = _
   unfold gC
   rw [Comp.zL, if_neg (by simp [up_len]), Comp.zI]; rfl
  | cons s M ih =>
   intro N l hN hf
   have hs : s ∈ L := by rw [hN]; simp
   have hNn : ∀ x ∈ N, x < 2 ^ n := fun x hx => hL x (by rw [hN]; simp [hx])
   have hNl : N.length < L.length := by rw [hN]; simp
   obtain ⟨F, rfl, hF⟩ := hf.ex
   have hFl := Fam.lt hNn hF
   have hlen := inc_up_len hf.inc hFl
   have hi : (up L)[N.length]? = some (s : Int) := by unfold up; rw [List.getElem?_map, hN]; simp
   have hnext : ∀ x ∈ F.flatMap (grown n s), x < 4611686018427387904 := by
    intro x hx
    obtain ⟨f, h1, h2⟩ := List.mem_flatMap.1 hx
    have hf2 := hFl f h1
    unfold grown at h2; split at h2
    ·simp at h2; omega
    ·obtain ⟨k, h3, rfl⟩ := List.mem_map.1 h2
     have hk := List.mem_range.1 (List.mem_filter.1 h3).1
     have : f ||| 2 ^ k < 2 ^ n := Nat.or_lt_two_pow hf2 (Nat.pow_lt_pow_right (by omega) hk)
     omega
   obtain ⟨G, hG, hGm⟩ := minimal_up hnext
   have hfam : Fam n (N ++ [s]) (up G) := ⟨⟨G, rfl, fun h => (hGm h).trans (step (hL s hs) hF h)⟩, by rw [← hG]; exact minimal_inc _⟩
   obtain ⟨H, h1, h2⟩ := ih (N ++ [s]) (up G) (by rw [hN]; simp) hfam
   refine ⟨H, ?_, h2⟩
   have hln : (F.flatMap (grown n s)).length ≤ LIM := by
    have : ∀ (F : List Nat), (F.flatMap (grown n s)).length ≤ F.length * 11 := by
     intro F
     induction F with
     | nil => simp
     | cons f F ih =>
      rw [List.flatMap_cons, List.length_append, List.length_cons]
      have := grown_len n s f
      omega
    have := this F
    have : LIM = 1073741824 := rfl
    omega
   rw [Comp.val_loop]
   show (gC (up L) n (up F) (N.length : Int)).val.bind _ = _
   unfold gC
   rw [ya, Comp.zL, if_pos (by simpa [up_len] using hNl), Comp.zH, yh hi, Option.bind_some, Comp.zH, l4_val hn (hL s hs) hFl (by omega), Option.bind_some]
   unfold core_Hitting_j3
   rw [Comp.zH, minimal_val (by rw [up_len]; exact hln), Option.bind_some, Comp.zI, Option.bind_some, hG, Comp.zR (by omega)]
   have e : (N.length + 1) = (N ++ [s]).length := by simp
   rw [e]; exact h1
 obtain ⟨H, h1, h2⟩ := key L [] [0] rfl ⟨⟨[0], rfl, fun h => by rw [min_hits_nil]; simp⟩, by simp [Inc]⟩
 refine ⟨H, ?_, h2⟩
 have h1' : (Comp.loop (fun s => gC (up L) n s.1 s.2) ([0], 0)).val = some H := h1
 rw [h1', Option.bind_some]
 unfold core_Hitting_j1
 rw [Comp.zI]
end Go.Cor
end
section
set_option linter.unusedVariables false
set_option linter.unusedSimpArgs false
namespace Go.Cor
open Go Go.Lift Go.F
theorem wf_u8 {n : Int} (h : (Lit.int .u8 n).wf = true) : ∃ b : Nat, b < 256 ∧ n = (b : Int) := by
 have h2 : 0 ≤ n ∧ n < 256 := by
  simp [Lit.wf, IntKind.min, IntKind.max, IntKind.bits, IntKind.signed] at h
  omega
 exact ⟨n.toNat, by omega, by omega⟩
theorem mod_val {z : Int} {m : Nat} (hm : 0 < m) (hm2 : m ≤ 4611686018427387904) : ∃ k : Nat, k < m ∧ (yd z (m : Int)).val = some (k : Int) := by
 unfold yd
 have h1 : -(m : Int) < z.tmod m ∧ z.tmod m < m := ⟨Int.lt_tmod_of_pos _ (by omega), Int.tmod_lt_of_pos _ (by omega)⟩
 rw [Comp.zL, if_neg (by simp; omega), Comp.zH, rem_val (by omega), Option.bind_some, Comp.zH, rem_val (by omega), Option.bind_some, Comp.zI]
 rw [IntWalk.i64_in _ ⟨by omega, by omega⟩]
 have h2 : 0 ≤ z.tmod m + m := by omega
 refine ⟨((z.tmod m + m).tmod m).toNat, ?_, ?_⟩
 ·have h3 := Int.tmod_lt_of_pos (z.tmod m + m) (b := (m : Int)) (by omega)
  have h4 := Int.tmod_nonneg (m : Int) h2
  omega
 ·have h4 := Int.tmod_nonneg (m : Int) h2
  rw [Int.toNat_of_nonneg h4]
end Go.Cor
end
section
set_option linter.unusedVariables false
set_option linter.unusedSimpArgs false
namespace Go.Cor
open Go Go.Lift Go.F
def hitsB (s : Nat) (L : List Nat) : Bool := L.all fun x => decide (s &&& x ≠ 0)
theorem hitsB_iff {s : Nat} {L : List Nat} : hitsB s L = true ↔ Hits s L := by
 unfold hitsB Hits
 rw [List.all_eq_true]
 exact ⟨fun h x hx => meets_iff.1 (by simpa using h x hx), fun h x hx => by simpa using meets_iff.2 (h x hx)⟩
theorem hitsB_false {s : Nat} {L : List Nat} (h : ¬ Hits s L) : hitsB s L = false := by
 cases hb : hitsB s L with
 | false => rfl
 | true => exact absurd (hitsB_iff.1 hb) h
theorem wrap_pred {j : Nat} (h : j < 9223372036854775807) : IntKind.wrap .i64 (((j + 1 : Nat) : Int) - 1) = (j : Int) := by
 rw [IntWalk.i64_in _ ⟨by omega, by omega⟩]; omega
end Go.Cor
end
section
namespace Go.Cor
open Go Go.Lift Go.F
def own (N : Nat) (P : Nat → Bool) : List Bool := (List.range N).map P
theorem own_len (N : Nat) (P : Nat → Bool) : (own N P).length = N := by simp [own]
theorem own_get {N : Nat} {P : Nat → Bool} {s : Nat} (h : s < N) : (own N P)[s]? = some (P s) := by simp [own, h]
theorem any_take {α : Type} {p : α → Bool} {L : List α} {k : Nat} {x : α} (h : L[k]? = some x) : (L.take (k + 1)).any p = ((L.take k).any p || p x) := by
 rw [List.take_add_one, h, List.any_append]; simp
def belowB (P : Nat → Bool) (m s : Nat) : Bool := (List.range m).all fun k => !s.testBit k || P (kO s (2 ^ k))
theorem without_le (s t : Nat) : kO s t ≤ s := Sub.le fun i hi => by rw [testBit_without] at hi; simp at hi; exact hi.1
theorem any_all_not {α : Type} (p : α → Bool) : ∀ l : List α, (!l.any p) = l.all fun x => !p x
 | [] => rfl
 | x :: l => by rw [List.any_cons, List.all_cons, Bool.not_or, any_all_not p l]
theorem below_val {P : Nat → Bool} {m s : Nat} {z : Int} (hz : z = (m : Int)) (hm : m ≤ 10) (hs : s < 2 ^ m) : (yj (s : Int) z (own (2 ^ m) P)).val = some (belowB P m s) := by
 have hp : 2 ^ m ≤ 1024 := Nat.pow_le_pow_right (n := 2) (by omega) hm
 subst hz
 unfold yj
 have := Comp.loop_any (body := fun i => vj (m : Int) (s : Int) (own (2 ^ m) P) i) (List.range m) (fun k => s.testBit k && !P (kO s (2 ^ k))) false
  (by
   intro i k hk
   obtain ⟨hi, rfl⟩ := range_get hk
   have h2 : 2 ^ k ≤ 1024 := Nat.pow_le_pow_right (n := 2) (by omega) (by omega : k ≤ 10)
   have hw := without_le s (2 ^ k)
   have e : (idx (own (2 ^ m) P) (andNotB .i64 (s : Int) (shlF .i64 1 (k : Int)))).val = some (P (kO s (2 ^ k))) := by
    rw [gz (by omega), andNotB_nat (by omega) (by omega), yh (own_get (by omega))]
   unfold vj
   rw [decide_lt_nat, Comp.zL, if_pos (by simpa using hi), Comp.zH, vH (by omega), Option.bind_some, bit_eq (by omega) (by omega)]
   cases ht : s.testBit k with
   | false => simp [Comp.zH, Comp.jv, Comp.zR (i := k) (by omega)]
   | true =>
    rw [Comp.zH, Comp.jv, if_pos (by simp), vH (by omega), Option.bind_some, Comp.zH, Comp.jv, if_pos (by simp), e, Option.bind_some, Comp.zH, Comp.zI, Option.bind_some, Comp.zL]
    cases P (kO s (2 ^ k)) <;> simp [Comp.zR (i := k) (by omega)])
  (by
   unfold vj
   rw [List.length_range, Comp.zL, if_neg (by simp), Comp.zI])
 rw [Comp.zH, this, Option.bind_some]
 have e : belowB P m s = !((List.range m).any fun k => s.testBit k && !P (kO s (2 ^ k))) := by
  unfold belowB
  rw [any_all_not]
  congr 1; funext k
  cases s.testBit k <;> cases P (kO s (2 ^ k)) <;> rfl
 rw [e]
 cases (List.range m).any fun k => s.testBit k && !P (kO s (2 ^ k)) <;> simp [core_Conflicts_f1_j1]
theorem only_val {N : Nat} (hN : N ≤ 1024) {f : Int → Comp Bool} {p : Nat → Bool} (hf : ∀ x, x < N → (f (x : Int)).val = some (p x)) : (core_only (N : Int) f).val = some (up ((List.range N).filter p)) := by
 have hLIM : LIM = 1073741824 := rfl
 unfold core_only
 have := Comp.loop_fold (body := fun s => kA (N : Int) f s.1 s.2) (List.range N) (fun acc x => acc ++ if p x = true then [(x : Int)] else []) id (fun a i => a.length ≤ i) []
  (by
   intro a i x hx hI
   obtain ⟨hi, rfl⟩ := range_get hx
   show (kA (N : Int) f a (x : Int)).val = _
   unfold kA
   rw [decide_lt_nat, Comp.zL, if_pos (by simpa using hi), Comp.zH, hf x hi, Option.bind_some, Comp.zL]
   by_cases ht : p x = true
   ·rw [if_pos ht, if_pos ht, Comp.zH, app_val (by simp; omega), Option.bind_some]
    simp only [core_only_j3, Comp.zI, Comp.zR (i := x) (by omega)]
   ·rw [if_neg ht, if_neg ht, List.append_nil]
    simp only [core_only_j3, Comp.zI, Comp.zR (i := x) (by omega)])
  (by
   intro a i x _ hI
   show (a ++ if p x = true then [(x : Int)] else []).length ≤ _
   split
   ·simp; omega
   ·simp; omega)
  (by
   intro a _
   show (kA (N : Int) f a ((List.range N).length : Int)).val = _
   unfold kA
   rw [List.length_range, Comp.zL, if_neg (by simp), Comp.zI]; rfl)
  (Nat.le_refl _)
 rw [Comp.zH, this, Option.bind_some, Comp.foldl_flatMap]
 unfold core_only_j1
 rw [Comp.zI]
 congr 1
 show [] ++ _ = _
 rw [List.nil_append]
 generalize List.range N = ks
 induction ks with
 | nil => rfl
 | cons k ks ih =>
  rw [List.flatMap_cons, List.filter_cons, ih]
  split <;> simp [up]
def conf (P : Nat → Bool) (m : Nat) : List Nat := (List.range (2 ^ m)).filter fun s => !P s && belowB P m s
end Go.Cor
end
section
namespace Go.Cor
open Go Go.Lift Go.F
theorem mem_up_get {F : List Nat} {i x : Nat} (h : F[i]? = some x) : (up F)[i]? = some (x : Int) := by unfold up; rw [List.getElem?_map, h]; rfl
end Go.Cor
end
section
namespace Go.Cor
open Go Go.Lift Go.F
def popN : Nat → Nat → Nat
 | 0, _ => 0
 | k + 1, n => n % 2 + popN k (n / 2)
def sA (x m : Nat) : Nat := ((x / 2) &&& m) + (x &&& m)
def sB (x m : Nat) : Nat := ((x / 4) &&& m) + (x &&& m)
def bt (a : Nat) : Nat := sB (sA a 85) 51
end Go.Cor
end
section
namespace Go.Cor
open Go Go.Lift Go.F
def U (z : Int) : Nat := (z % 18446744073709551616).toNat
def pop (z : Int) : Nat := popN 64 (U z)
theorem wrapI_eq (z : Int) : (IntKind.wrap .i64 z) % 18446744073709551616 = z % 18446744073709551616 ∧ -9223372036854775808 ≤ IntKind.wrap .i64 z ∧ IntKind.wrap .i64 z ≤ 9223372036854775807 := by
 by_cases h : z % 18446744073709551616 ≥ 9223372036854775808
 ·have e : IntKind.wrap .i64 z = z % 18446744073709551616 - 18446744073709551616 := by simp [IntKind.wrap, IntKind.signed, IntKind.bits, h]
  rw [e]; omega
 ·have e : IntKind.wrap .i64 z = z % 18446744073709551616 := by simp [IntKind.wrap, IntKind.signed, IntKind.bits]; omega
  rw [e]; omega
theorem U_and (a b : Int) : U (andB .i64 a b) = U a &&& U b := by
 unfold andB
 unfold U
 rw [(wrapI_eq _).1, bits64, BitVec.toNat_and, BitVec.toNat_ofInt, BitVec.toNat_ofInt]
 have h : (a % 18446744073709551616).toNat &&& (b % 18446744073709551616).toNat < 2 ^ 64 := Nat.and_lt_two_pow _ (by omega)
 have e : (((a % ((2 ^ 64 : Nat) : Int)).toNat &&& (b % ((2 ^ 64 : Nat) : Int)).toNat : Nat) : Int) = (((a % 18446744073709551616).toNat &&& (b % 18446744073709551616).toNat : Nat) : Int) := rfl
 rw [e]
 omega
def I64 (z : Int) : Prop := -9223372036854775808 ≤ z ∧ z ≤ 9223372036854775807
theorem U_zero {z : Int} (h : I64 z) : U z = 0 ↔ z = 0 := by
 obtain ⟨h1, h2⟩ := h
 unfold U; omega
theorem U_inj {a b : Int} (ha : I64 a) (hb : I64 b) (h : U a = U b) : a = b := by
 obtain ⟨h1, h2⟩ := ha; obtain ⟨h3, h4⟩ := hb
 unfold U at h; omega
theorem andB_i64 (a b : Int) : I64 (andB .i64 a b) := by unfold andB; exact (wrapI_eq _).2
def first (b : Int) (l : List Int) : Int := l.foldl (fun b x => if pop x < pop b then x else b) b
end Go.Cor
end
section
set_option linter.unusedVariables false
set_option linter.unusedSimpArgs false
namespace Go.Cor
open Go Go.Lift Go.F
end Go.Cor
end
section
set_option linter.unusedVariables false
set_option linter.unusedSimpArgs false
namespace Go.Cor
open Go Go.Lift Go.F
theorem idx_nat {α : Type} (xs : List α) (i : Nat) : (idx xs (i : Int)).val = xs[i]? := by
 cases h : xs[i]? with
 | some x => exact yh h
 | none => unfold idx; rw [if_pos (by omega)]; simp [h]
theorem low_bit {z : Int} {k : Nat} (hk : k < 64) : andB .i64 (shrF .i64 z (k : Int)) 1 = ((U z / 2 ^ k % 2 : Nat) : Int) := by
 have hp : (0 : Int) < 2 ^ k := Int.pow_pos (by omega)
 have hs : shrF .i64 z (k : Int) = z / 2 ^ k := by
  unfold shrF
  rw [bits64, Int.toNat_natCast, Nat.min_eq_left (by omega), Int.fdiv_eq_ediv_of_nonneg _ (Int.le_of_lt hp)]
 have h1 : U (andB .i64 (z / 2 ^ k) 1) = U (z / 2 ^ k) % 2 := by
  rw [U_and, show U 1 = 1 from rfl, Nat.and_one_is_mod]
 have h2 : andB .i64 (z / 2 ^ k) 1 = ((U (z / 2 ^ k) % 2 : Nat) : Int) := by
  refine U_inj (andB_i64 _ _) ⟨by omega, by omega⟩ ?_
  rw [h1]; unfold U; omega
 rw [hs, h2]
 congr 1
 have h3 : U (z / 2 ^ k) % 2 = ((z / 2 ^ k) % 2).toNat := by unfold U; omega
 rw [h3]
 have hq : (2 : Int) ^ 64 = 2 ^ k * (2 * 2 ^ (63 - k)) := by
  rw [← Int.pow_succ', ← Int.pow_add]; congr 1; omega
 have h4 : ((U z : Nat) : Int) = z % 18446744073709551616 := by unfold U; omega
 have h5 : z / 2 ^ k = ((U z : Nat) : Int) / 2 ^ k + 2 * (2 ^ (63 - k) * (z / 18446744073709551616)) := by
  have e : z = ((U z : Nat) : Int) + 2 ^ k * (2 * (2 ^ (63 - k) * (z / 18446744073709551616))) := by
   have e1 : 2 ^ k * (2 * (2 ^ (63 - k) * (z / 18446744073709551616))) = 18446744073709551616 * (z / 18446744073709551616) := by
    rw [show (18446744073709551616 : Int) = 2 ^ 64 from rfl, hq]
    simp only [Int.mul_assoc]
   rw [e1, h4]; omega
  conv => lhs; rw [e]
  rw [Int.add_mul_ediv_left _ _ (by omega)]
 have h6 : ((U z : Nat) : Int) / 2 ^ k = ((U z / 2 ^ k : Nat) : Int) := by simp
 rw [h5, h6]
 omega
end Go.Cor
end
section
set_option linter.unusedVariables false
set_option linter.unusedSimpArgs false
namespace Go.Cor
open Go Go.Lift Go.F
theorem refmeets_val {s : Nat} {L : List Nat} (hs : s < 4611686018427387904) (hL : ∀ x ∈ L, x < 4611686018427387904) (hl : L.length ≤ LIM) : (gm (s : Int) (up L)).val = some (hitsB s L) := by
 have hLt := LIM_lt
 unfold gm
 have := Comp.loop_any (body := fun i => vm (up L) (s : Int) i) L (fun x => decide (s &&& x = 0)) false
  (by
   intro i x hx
   have hi := zu hx
   have hx' : (up L)[i]? = some (x : Int) := mem_up_get hx
   have h62 := hL x (List.mem_of_getElem? hx)
   unfold vm
   rw [ya, Comp.zL, if_pos (by simpa [up_len] using hi), Comp.zH, yh hx', Option.bind_some, andB_nat (by omega) (by omega), Comp.zL]
   by_cases h0 : s &&& x = 0
   ·rw [if_pos (by simpa using h0), if_pos (by simpa using h0), Comp.zI]
   ·rw [if_neg (by simpa using h0), if_neg (by simpa using h0), Comp.zI, Comp.zR (by omega)])
  (by
   unfold vm
   rw [Comp.zL, if_neg (by simp [up_len]), Comp.zI])
 rw [Comp.zH, this, Option.bind_some]
 have e : hitsB s L = !(L.any fun x => decide (s &&& x = 0)) := by
  unfold hitsB; rw [any_all_not]; simp
 rw [e]
 cases L.any fun x => decide (s &&& x = 0) <;> simp [colletref32_meets_j1]
def tight (n : Nat) (L : List Nat) (s : Nat) : Bool := (List.range n).all fun k => !s.testBit k || !hitsB (kO s (2 ^ k)) L
theorem tight_iff {n : Nat} {L : List Nat} {s : Nat} (hs : s < 2 ^ n) : (hitsB s L && tight n L s) = true ↔ Min (Hits · L) s := by
 rw [min_hits_iff hs, Bool.and_eq_true, hitsB_iff]
 refine and_congr_right fun _ => ?_
 unfold tight
 rw [List.all_eq_true]
 constructor
 ·intro h k hk hb hh
  have := h k (List.mem_range.2 hk)
  rw [hb, hitsB_iff.2 hh] at this; simp at this
 ·intro h k hk
  cases hb : s.testBit k with
  | false => rfl
  | true => rw [hitsB_false (h k (List.mem_range.1 hk) hb)]; rfl
theorem tight_val {n s : Nat} {L : List Nat} (hn : n ≤ 10) (hs : s < 2 ^ n) (hL : ∀ x ∈ L, x < 4611686018427387904) (hl : L.length ≤ LIM) :
  (Comp.loop (fun st : Bool × Int => yV (n : Int) (s : Int) (up L) st.1 st.2) (true, 0)).val = some (tight n L s) := by
 have hb : 2 ^ n ≤ 1024 := Nat.pow_le_pow_right (n := 2) (by omega) hn
 have := Comp.loop_fold (body := fun st : Bool × Int => yV (n : Int) (s : Int) (up L) st.1 st.2) (List.range n) (fun b k => b && (!s.testBit k || !hitsB (kO s (2 ^ k)) L)) id (fun _ _ => True) true
  (by
   intro b i k hk _
   obtain ⟨hi, rfl⟩ := range_get hk
   show (yV (n : Int) (s : Int) (up L) b (k : Int)).val = _
   unfold yV
   have hw : kO s (2 ^ k) ≤ s := without_le s (2 ^ k)
   have h2 : 2 ^ k ≤ 1024 := Nat.pow_le_pow_right (n := 2) (by omega) (by omega : k ≤ 10)
   have e : (gm (andNotB .i64 (s : Int) (shlF .i64 1 (k : Int))) (up L)).val = some (hitsB (kO s (2 ^ k)) L) := by
    rw [gz (by omega), andNotB_nat (by omega) (by omega), refmeets_val (by omega) hL hl]
   have e0 : decide (andB .i64 (shrF .i64 (s : Int) (k : Int)) 1 = 0) = !s.testBit k := by
    have h1 := bit_eq (a := s) (k := k) (by omega) (by omega)
    have h3 := low_bit (z := (s : Int)) (k := k) (by omega)
    rw [h3] at h1 ⊢
    rw [← h1]
    have : U (s : Int) / 2 ^ k % 2 < 2 := Nat.mod_lt _ (by omega)
    generalize U (s : Int) / 2 ^ k % 2 = q at this
    have : q = 0 ∨ q = 1 := by omega
    rcases this with rfl | rfl <;> rfl
   rw [Comp.zL, if_pos (by rw [decide_eq_true_iff]; omega)]
   simp only [Comp.zH, Comp.jv, vH (show (0 : Int) ≤ (k : Int) by omega), e, e0, Comp.zI, Comp.zR (i := k) (by omega)]
   cases b with
   | false => rfl
   | true =>
    cases s.testBit k with
    | false => rfl
    | true => simp)
  (fun _ _ _ _ _ => trivial)
  (by
   intro b _
   show (yV (n : Int) (s : Int) (up L) b ((List.range n).length : Int)).val = _
   unfold yV
   rw [List.length_range, Comp.zL, if_neg (by simp), Comp.zI]; rfl)
  trivial
 rw [Comp.foldl_all, Bool.true_and] at this
 exact this
theorem refhitting_in {n : Nat} {L : List Nat} (hn : n ≤ 10) (hL : ∀ s ∈ L, s < 2 ^ n) (hl : L.length ≤ LIM) : ∃ H, (gh (n : Int) (up L)).val = some (H, 0) ∧ Fam n L H := by
 have hb : 2 ^ n ≤ 1024 := Nat.pow_le_pow_right (n := 2) (by omega) hn
 have hL62 : ∀ x ∈ L, x < 4611686018427387904 := fun x hx => by have := hL x hx; omega
 have hLIM : LIM = 1073741824 := rfl
 have := Comp.loop_fold (body := fun s : List Int × Int => yW (n : Int) (up L) s.1 s.2) (List.range (2 ^ n)) (fun acc s => if (hitsB s L && tight n L s) = true then acc ++ [(s : Int)] else acc) id (fun acc i => acc.length ≤ i) []
  (by
   intro acc i s hs hI
   obtain ⟨hi, rfl⟩ := range_get hs
   show (yW (n : Int) (up L) acc (s : Int)).val = _
   unfold yW
   rw [Comp.zH, vH (by omega), Option.bind_some, gz (by omega), Comp.zL, if_pos (by rw [decide_eq_true_iff]; omega), Comp.zH, refmeets_val (by omega) hL62 hl, Option.bind_some, Comp.zL]
   unfold jt vt
   cases hh : hitsB s L with
   | false => simp [Comp.zR (i := s) (by omega)]
   | true =>
    rw [if_neg (by simp), Comp.zH, tight_val hn hi hL62 hl, Option.bind_some, Comp.zL]
    cases tight n L s with
    | false => simp [Comp.zR (i := s) (by omega)]
    | true => rw [if_pos rfl, if_pos (show (true && true) = true from rfl), Comp.zH, app_val (by simp; omega), Option.bind_some, Comp.zI, Comp.zR (by omega)])
  (by
   intro acc i s _ hI
   show (if (hitsB s L && tight n L s) = true then acc ++ [(s : Int)] else acc).length ≤ _
   split
   ·simp; omega
   ·omega)
  (by
   intro acc _
   show (yW (n : Int) (up L) acc ((List.range (2 ^ n)).length : Int)).val = _
   unfold yW
   rw [List.length_range, Comp.zH, vH (by omega), Option.bind_some, gz (by omega), Comp.zL, if_neg (by simp), Comp.zI]; rfl)
  (Nat.le_refl _)
 have e : ∀ (xs : List Nat) (ys : List Int), xs.foldl (fun acc s => if (hitsB s L && tight n L s) = true then acc ++ [(s : Int)] else acc) ys = ys ++ up (xs.filter fun s => hitsB s L && tight n L s) := by
  intro xs
  induction xs with
  | nil => intro ys; simp [up]
  | cons x xs ih =>
   intro ys
   rw [List.foldl_cons, ih, List.filter_cons]
   cases (hitsB x L && tight n L x) <;> simp [up]
 rw [e] at this
 have h0 : (Comp.loop (fun s : List Int × Int => yW (n : Int) (up L) s.1 s.2) ([], 0)).val = some (up ((List.range (2 ^ n)).filter fun s => hitsB s L && tight n L s)) := this
 refine ⟨up ((List.range (2 ^ n)).filter fun s => hitsB s L && tight n L s), ?_, ⟨_, rfl, fun h => ?_⟩, ?_⟩
 ·unfold gh
  rw [Comp.zH, h0, Option.bind_some]
  unfold ju
  rw [Comp.zI]
 ·rw [List.mem_filter, List.mem_range]
  constructor
  ·rintro ⟨h1, h2⟩; exact (tight_iff h1).1 h2
  ·intro h
   have hlt := min_hits_lt hL h
   exact ⟨hlt, (tight_iff hlt).2 h⟩
 ·unfold up Inc
  rw [List.pairwise_map]
  exact List.Pairwise.filter _ (List.pairwise_lt_range.imp fun h => by omega)
theorem hit_same {l : List Int} {z : Int} (hl : l.length ≤ LIM) : ∃ H e, (core_Hitting l z).val = some (H, e) ∧ (gH l z).val = some (H, e) ∧ H.length ≤ LIM := by
 have hLt := LIM_lt
 have hLIM : LIM = 1073741824 := rfl
 by_cases hz : 0 ≤ z ∧ z ≤ 10
 ·obtain ⟨n, rfl⟩ : ∃ n : Nat, z = (n : Int) := ⟨z.toNat, by omega⟩
  have hn : n ≤ 10 := by omega
  have hb : 2 ^ n ≤ 1024 := Nat.pow_le_pow_right (n := 2) (by omega) hn
  have e1 : decide ((n : Int) < 0) = false := by rw [decide_eq_false_iff_not]; omega
  have e2 : decide ((n : Int) > 10) = false := by rw [decide_eq_false_iff_not]; omega
  let bad : Int → Bool := fun x => decide (x < 0) || decide (x ≥ ((2 ^ n : Nat) : Int))
  have href : (Comp.loop (fun s => yu l (n : Int) s) 0).val = some (if l.any bad = true then (.inl (([] : List Int), (3 : Int)) : Sum (List Int × Int) Unit) else .inr ()) := by
   refine Comp.loop_any (body := fun s => yu l (n : Int) s) l bad (([] : List Int), (3 : Int)) ?_ ?_
   ·intro i x hx
    have hi := zu hx
    unfold yu
    rw [Comp.zL, if_pos (by rw [decide_eq_true_iff]; omega)]
    simp only [Comp.zH, Comp.jv, idx_nat, hx, vH (show (0 : Int) ≤ (n : Int) by omega), Option.bind_some, Comp.zI, gz (show n < 62 by omega), Comp.zL, Comp.zR (i := i) (by omega)]
    cases hneg : decide (x < 0) with
    | true => simp [bad, hneg]
    | false =>
     simp only [beq_self_eq_true, if_true, Option.bind_some, cond_false, bad, hneg, Bool.false_or]
     split <;> rfl
   ·unfold yu
    rw [Comp.zL, if_neg (by simp), Comp.zI]
  by_cases hbad : l.any bad = true
  ·refine ⟨[], 3, ?_, ?_, by simp⟩
   ·unfold core_Hitting
    have hc : (zo l (fun z0 => gw z0 (n : Int))).val = some (l.any bad) := by
     refine contains_val hl fun x hx => ?_
     unfold gw
     simp only [Comp.zH, Comp.jv, vH (show (0 : Int) ≤ (n : Int) by omega), Option.bind_some, Comp.zI, gz (show n < 62 by omega)]
     cases hneg : decide (x < 0) with
     | true => simp [bad, hneg]
     | false => simp [bad, hneg]
    simp only [e1, e2, Comp.zH, Comp.zI, Option.bind_some, cond_false, Comp.zL, hc, hbad]
    simp
   ·unfold gH
    simp only [e1, e2, Comp.zH, Comp.zI, Option.bind_some, cond_false, Comp.zL, href, hbad]
    simp
  ·have hgood : ∀ x ∈ l, 0 ≤ x ∧ x < ((2 ^ n : Nat) : Int) := by
    intro x hx
    have : bad x = false := by
     cases hbx : bad x with
     | false => rfl
     | true => exact absurd (List.any_eq_true.2 ⟨x, hx, hbx⟩) hbad
    simp only [bad, Bool.or_eq_false_iff, decide_eq_false_iff_not] at this
    omega
   obtain ⟨L, rfl⟩ : ∃ L, l = up L := ⟨l.map Int.toNat, (toNat_up fun x hx => (hgood x hx).1).symm⟩
   have hL : ∀ s ∈ L, s < 2 ^ n := fun s hs => by have := (hgood (s : Int) (mem_up.2 hs)).2; omega
   rw [up_len] at hl
   obtain ⟨H, h1, h2⟩ := hitting_val hn hL hl
   obtain ⟨G, h3, h4⟩ := refhitting_in hn hL hl
   have := Fam.unique h2 h4
   subst this
   refine ⟨H, 0, h1, ?_, ?_⟩
   ·unfold gH
    have hbf : (up L).any bad = false := by cases h : (up L).any bad with
     | false => rfl
     | true => exact absurd h hbad
    simp only [e1, e2, Comp.zH, Comp.zI, Option.bind_some, cond_false, Comp.zL, href, hbf]
    simpa using h3
   ·obtain ⟨F, rfl, hF⟩ := h2.ex
    rw [up_len]
    have := inc_up_len h2.inc (Fam.lt hL hF)
    omega
 ·refine ⟨[], 2, ?_, ?_, by simp⟩
  ·unfold core_Hitting
   have e : (bif (decide (z < 0)) then true else (decide (z > 10))) = true := by
    by_cases h : z < 0
    ·simp [h]
    ·simp [h]; omega
   simp only [e, Comp.zH, Comp.zI, Option.bind_some, Comp.zL]
   simp
  ·unfold gH
   have e : (bif (decide (z < 0)) then true else (decide (z > 10))) = true := by
    by_cases h : z < 0
    ·simp [h]
    ·simp [h]; omega
   simp only [e, Comp.zH, Comp.zI, Option.bind_some, Comp.zL]
   simp
end Go.Cor
end
section
set_option linter.unusedVariables false
set_option linter.unusedSimpArgs false
namespace Go.Cor
open Go Go.Lift Go.F
def oddLen (N : Nat) : Bool := (bif (decide ((N : Int) = 0)) then true else (decide ((andB .i64 (N : Int) (IntKind.wrap .i64 ((N : Int) - 1))) ≠ 0)))
set_option maxRecDepth 100000 in
theorem oddLen_dec : ∀ N, N < 1025 → oddLen N = !((List.range 11).any fun m => decide (N = 2 ^ m)) := by decide +kernel
theorem oddLen_pow {m : Nat} (hm : m ≤ 10) : oddLen (2 ^ m) = false := by
 have hp : 2 ^ m ≤ 1024 := Nat.pow_le_pow_right (n := 2) (by omega) hm
 rw [oddLen_dec _ (by omega), List.any_eq_true.2 ⟨m, List.mem_range.2 (by omega), by simp⟩]; rfl
theorem oddLen_no {N : Nat} (hN : N ≤ 1024) (h : ∀ m, m ≤ 10 → N ≠ 2 ^ m) : oddLen N = true := by
 rw [oddLen_dec _ (by omega), List.any_eq_false.2 fun m hm => by simpa using h m (by have := List.mem_range.1 hm; omega)]; rfl
theorem len_val10 : ∀ m, m ≤ 10 → (math_bits_Len (IntKind.wrap .u64 ((2 ^ m : Nat) : Int))).val = some ((m + 1 : Nat) : Int)
 | 0, _ | 1, _ | 2, _ | 3, _ | 4, _ | 5, _ | 6, _ | 7, _ | 8, _ | 9, _ | 10, _ => Comp.val_run (n := 4) (by kernel_rfl)
 | m + 11, h => by omega
def bad (P : Nat → Bool) (m : Nat) : List Nat := (List.range (2 ^ m)).filter fun s => P s && !belowB P m s
def confR (P : Nat → Bool) (m : Nat) : List Int × Int := if bad P m = [] then (up (conf P m), 0) else ([], 7)
theorem core_conf {P : Nat → Bool} {m : Nat} (hm : m ≤ 10) : (gT (own (2 ^ m) P)).val = some (confR P m) := by
 have hp : 2 ^ m ≤ 1024 := Nat.pow_le_pow_right (n := 2) (by omega) hm
 have hodd := oddLen_pow hm
 unfold oddLen at hodd
 unfold gT
 rw [own_len, Comp.zL, if_neg (by rw [decide_eq_true_iff]; omega), hodd, Comp.zH, Comp.zI, Option.bind_some, Comp.zL, if_neg (by simp), Comp.zH, len_val10 m hm, Option.bind_some]
 have hz : IntKind.wrap .i64 (((m + 1 : Nat) : Int) - 1) = (m : Int) := wrap_pred (by omega)
 have h2 : (core_only ((2 ^ m : Nat) : Int) (fun z0 => jh z0 (own (2 ^ m) P) (fun z0 => yj z0 (IntKind.wrap .i64 (((m + 1 : Nat) : Int) - 1)) (own (2 ^ m) P)))).val = some (up (bad P m)) := by
  refine only_val hp fun x hx => ?_
  unfold jh
  rw [Comp.zH, yh (own_get hx), Option.bind_some, Comp.zH, Comp.jv, below_val hz (by omega) hx]
  cases P x <;> simp
 have h3 : (core_only ((2 ^ m : Nat) : Int) (fun z0 => jg z0 (own (2 ^ m) P) (fun z0 => yj z0 (IntKind.wrap .i64 (((m + 1 : Nat) : Int) - 1)) (own (2 ^ m) P)))).val = some (up (conf P m)) := by
  refine only_val hp fun x hx => ?_
  unfold jg
  rw [Comp.zH, yh (own_get hx), Option.bind_some, Comp.zH, Comp.jv, below_val hz (by omega) hx]
  cases P x <;> simp
 rw [Comp.zH, h2, Option.bind_some, Comp.zL]
 unfold confR
 by_cases hb : bad P m = []
 ·rw [hb, if_neg (by simp [up]), if_pos rfl, Comp.zH, h3, Option.bind_some, Comp.zI]
 ·rw [if_neg hb, if_pos, Comp.zI]
  rw [decide_eq_true_iff, up_len]
  have := List.length_pos_iff.2 hb
  omega
theorem ref_below {P : Nat → Bool} {m s : Nat} (hm : m ≤ 10) (hs : s < 2 ^ m) : (Comp.loop (fun st : Bool × Int => yI (m : Int) (s : Int) (own (2 ^ m) P) st.1 st.2) (true, 0)).val = some (belowB P m s) := by
 have hp : 2 ^ m ≤ 1024 := Nat.pow_le_pow_right (n := 2) (by omega) hm
 have := Comp.loop_fold (body := fun st : Bool × Int => yI (m : Int) (s : Int) (own (2 ^ m) P) st.1 st.2) (List.range m) (fun b k => b && (!s.testBit k || P (kO s (2 ^ k)))) id (fun _ _ => True) true
  (by
   intro b i k hk _
   obtain ⟨hi, rfl⟩ := range_get hk
   show (yI (m : Int) (s : Int) (own (2 ^ m) P) b (k : Int)).val = _
   unfold yI
   have hw : kO s (2 ^ k) ≤ s := without_le s (2 ^ k)
   have h2 : 2 ^ k ≤ 1024 := Nat.pow_le_pow_right (n := 2) (by omega) (by omega : k ≤ 10)
   have e : (idx (own (2 ^ m) P) (andNotB .i64 (s : Int) (shlF .i64 1 (k : Int)))).val = some (P (kO s (2 ^ k))) := by
    rw [gz (by omega), andNotB_nat (by omega) (by omega), yh (own_get (by omega))]
   have e0 : decide (andB .i64 (shrF .i64 (s : Int) (k : Int)) 1 = 0) = !s.testBit k := by
    have h1 := bit_eq (a := s) (k := k) (by omega) (by omega)
    have h3 := low_bit (z := (s : Int)) (k := k) (by omega)
    rw [h3] at h1 ⊢
    rw [← h1]
    have : U (s : Int) / 2 ^ k % 2 < 2 := Nat.mod_lt _ (by omega)
    generalize U (s : Int) / 2 ^ k % 2 = q at this
    have : q = 0 ∨ q = 1 := by omega
    rcases this with rfl | rfl <;> rfl
   rw [Comp.zL, if_pos (by rw [decide_eq_true_iff]; omega)]
   simp only [Comp.zH, Comp.jv, vH (show (0 : Int) ≤ (k : Int) by omega), e, e0, Comp.zI, Comp.zR (i := k) (by omega)]
   cases b with
   | false => rfl
   | true =>
    cases s.testBit k with
    | false => rfl
    | true => simp)
  (fun _ _ _ _ _ => trivial)
  (by
   intro b _
   show (yI (m : Int) (s : Int) (own (2 ^ m) P) b ((List.range m).length : Int)).val = _
   unfold yI
   rw [List.length_range, Comp.zL, if_neg (by simp), Comp.zI]; rfl)
  trivial
 rw [Comp.foldl_all, Bool.true_and] at this
 exact this
theorem least_pow (N : Nat) : ∀ n, N ≤ 2 ^ n → ∃ k, k ≤ n ∧ (∀ i, i < k → 2 ^ i < N) ∧ N ≤ 2 ^ k := by
 intro n
 induction n with
 | zero => intro h; exact ⟨0, Nat.le_refl _, fun i hi => by omega, h⟩
 | succ n ih =>
  intro h
  by_cases h2 : N ≤ 2 ^ n
  ·obtain ⟨k, h3, h4⟩ := ih h2
   exact ⟨k, by omega, h4⟩
  ·refine ⟨n + 1, Nat.le_refl _, fun i hi => ?_, h⟩
   have : 2 ^ i ≤ 2 ^ n := Nat.pow_le_pow_right (by omega) (by omega)
   omega
theorem ref_len {x : List Bool} (hN : x.length ≤ 1024) : ∃ k : Nat, k ≤ 10 ∧ (∀ i, i < k → 2 ^ i < x.length) ∧ x.length ≤ 2 ^ k ∧ (Comp.loop (fun s => yR x s) 0).val = some (k : Int) := by
 obtain ⟨k, h1, h2, h3⟩ := least_pow x.length 10 hN
 refine ⟨k, h1, h2, h3, ?_⟩
 have := Comp.loop_seq (body := fun s => yR x s) (fun i => (i : Int)) k (k : Int)
  (by
   intro i hi
   have := h2 i hi
   unfold yR
   rw [Comp.zH, vH (by omega), Option.bind_some, gz (by omega), Comp.zH, Comp.zI, Option.bind_some, Comp.zL, if_pos (by rw [decide_eq_true_iff]; omega), Comp.zI, Comp.zR (by omega)])
  (by
   show (yR x (k : Int)).val = _
   unfold yR
   rw [Comp.zH, vH (by omega), Option.bind_some, gz (by omega), Comp.zH, Comp.zI, Option.bind_some, Comp.zL, if_neg (by rw [decide_eq_true_iff]; omega), Comp.zI])
 exact this
theorem foldE_find {p q : Nat → Bool} {c : List Int × Int} : ∀ (l : List Nat) (acc : List Int),
  Comp.foldE (fun (acc : List Int) s => if p s = true then (.done (.inl c) : Comp.Step (List Int) (Sum (List Int × Int) (List Int))) else .next (if q s = true then acc ++ [(s : Int)] else acc)) (fun acc => .inr acc) acc l =
   if l.filter p = [] then .inr (acc ++ up (l.filter q)) else .inl c
 | [], acc => by simp [Comp.foldE, up]
 | x :: l, acc => by
   simp only [Comp.foldE, List.filter_cons]
   by_cases h : p x = true
   ·simp [h]
   ·rw [if_neg h]
    simp only [h]
    rw [foldE_find l]
    by_cases hq : q x = true
    ·simp [hq, up]
    ·simp [hq]
theorem ref_conf {P : Nat → Bool} {m : Nat} (hm : m ≤ 10) : (vX (own (2 ^ m) P) (m : Int)).val = some (confR P m) := by
 have hp : 2 ^ m ≤ 1024 := Nat.pow_le_pow_right (n := 2) (by omega) hm
 have hLIM : LIM = 1073741824 := rfl
 unfold vX
 rw [Comp.zH, vH (by omega), Option.bind_some, gz (by omega), own_len, Comp.zH, Comp.zI, Option.bind_some, Comp.zL, if_neg (by simp), Comp.zH]
 have := Comp.loop_foldS (body := fun s : List Int × Int => yJ (own (2 ^ m) P) (m : Int) s.1 s.2) (List.range (2 ^ m))
  (fun (acc : List Int) s => if (P s && !belowB P m s) = true then (.done (.inl (([] : List Int), (7 : Int))) : Comp.Step (List Int) (Sum (List Int × Int) (List Int))) else .next (if (!P s && belowB P m s) = true then acc ++ [(s : Int)] else acc)) (fun acc => .inr acc) (fun acc i => acc.length ≤ i) []
  (by
   intro acc i s hs hI
   obtain ⟨hi, rfl⟩ := range_get hs
   show (yJ (own (2 ^ m) P) (m : Int) acc (s : Int)).val = _
   unfold yJ
   rw [Comp.zL, if_pos (by rw [decide_eq_true_iff, own_len]; omega), Comp.zH, ref_below hm hi, Option.bind_some]
   unfold jK gM
   rw [Comp.zH, yh (own_get hi), Option.bind_some, Comp.zL]
   cases hP : P s with
   | true =>
    cases belowB P m s with
    | true =>
     rw [if_neg (by simp), Comp.zH, yh (own_get hi), Option.bind_some, hP, Comp.zL, if_neg (by simp), Comp.zI, Comp.zR (by omega)]; rfl
    | false => rw [if_pos (by rfl), Comp.zI]; rfl
   | false =>
    rw [if_neg (by simp), Comp.zH, yh (own_get hi), Option.bind_some, hP, Comp.zL]
    cases belowB P m s with
    | true => rw [if_pos (by rfl), Comp.zH, app_val (by simp; omega), Option.bind_some, Comp.zI, Comp.zR (by omega)]; rfl
    | false => rw [if_neg (by simp), Comp.zI, Comp.zR (by omega)]; rfl)
  (by
   intro acc i s s' _ hI h
   by_cases h1 : (P s && !belowB P m s) = true
   ·simp only [h1, if_true] at h; cases h
   ·simp only [h1] at h
    have h' : (if (!P s && belowB P m s) = true then acc ++ [(s : Int)] else acc) = s' := by simpa using h
    subst h'
    split
    ·simp; omega
    ·omega)
  (by
   intro acc _
   show (yJ (own (2 ^ m) P) (m : Int) acc ((List.range (2 ^ m)).length : Int)).val = _
   unfold yJ
   rw [List.length_range, Comp.zL, if_neg (by rw [decide_eq_true_iff, own_len]; omega), Comp.zI])
  (Nat.le_refl _)
 rw [foldE_find] at this
 have h0 : (Comp.loop (fun s : List Int × Int => yJ (own (2 ^ m) P) (m : Int) s.1 s.2) ([], 0)).val = some (if bad P m = [] then .inr ([] ++ up (conf P m)) else .inl ([], 7)) := this
 rw [h0, Option.bind_some, List.nil_append]
 unfold confR
 by_cases hb : bad P m = []
 ·rw [if_pos hb, if_pos hb]
  show (gO (up (conf P m))).val = _
  unfold gO
  rw [Comp.zI]
 ·rw [if_neg hb, if_neg hb]
  show (Comp.pure (([] : List Int), (7 : Int))).val = _
  rw [Comp.zI]
theorem own_of (x : List Bool) : own x.length (fun s => x.getD s false) = x := by
 refine List.ext_getElem? fun i => ?_
 by_cases hi : i < x.length
 ·rw [own_get hi, List.getD_eq_getElem?_getD, List.getElem?_eq_getElem hi]; rfl
 ·rw [List.getElem?_eq_none (by rw [own_len]; omega), List.getElem?_eq_none (by omega)]
theorem conf_same {x : List Bool} : ∃ H e, (gT x).val = some (H, e) ∧ (yp x).val = some (H, e) ∧ H.length ≤ LIM := by
 have hLIM : LIM = 1073741824 := rfl
 by_cases hN : x.length ≤ 1024
 ·by_cases hpow : ∃ m, m ≤ 10 ∧ x.length = 2 ^ m
  ·obtain ⟨m, hm, hx⟩ := hpow
   have hp : 2 ^ m ≤ 1024 := Nat.pow_le_pow_right (n := 2) (by omega) hm
   have ho := own_of x
   rw [hx] at ho
   obtain ⟨k, h1, h2, h3, h4⟩ := ref_len hN
   have hk : k = m := by
    rcases Nat.lt_trichotomy k m with h | h | h
    ·have : 2 ^ k < 2 ^ m := Nat.pow_lt_pow_right (by omega) h
     omega
    ·exact h
    ·have := h2 m h; omega
   subst hk
   refine ⟨(confR (fun s => x.getD s false) k).1, (confR (fun s => x.getD s false) k).2, ?_, ?_, ?_⟩
   ·rw [← core_conf hm, ho]
   ·unfold yp
    rw [Comp.zL, if_neg (by rw [decide_eq_true_iff]; omega), Comp.zH, h4, Option.bind_some]
    have := ref_conf (P := fun s => x.getD s false) hm
    rw [ho] at this
    exact this
   ·unfold confR
    split
    ·show (up (conf _ k)).length ≤ _
     rw [up_len]
     have : (conf (fun s => x.getD s false) k).length ≤ (List.range (2 ^ k)).length := List.length_filter_le _ _
     rw [List.length_range] at this; omega
    ·simp
  ·have hno : ∀ m, m ≤ 10 → x.length ≠ 2 ^ m := fun m hm h => hpow ⟨m, hm, h⟩
   refine ⟨[], 4, ?_, ?_, by simp⟩
   ·have hodd := oddLen_no hN hno
    unfold oddLen at hodd
    unfold gT
    rw [Comp.zL, if_neg (by rw [decide_eq_true_iff]; omega), hodd, Comp.zH, Comp.zI, Option.bind_some, Comp.zL, if_pos rfl, Comp.zI]
   ·obtain ⟨k, h1, h2, h3, h4⟩ := ref_len hN
    unfold yp
    rw [Comp.zL, if_neg (by rw [decide_eq_true_iff]; omega), Comp.zH, h4, Option.bind_some]
    unfold vX
    have hne := hno k h1
    rw [Comp.zH, vH (by omega), Option.bind_some, gz (by omega), Comp.zH, Comp.zI, Option.bind_some, Comp.zL, if_pos (by rw [decide_eq_true_iff]; omega), Comp.zI]
 ·refine ⟨[], 2, ?_, ?_, by simp⟩
  ·unfold gT
   rw [Comp.zL, if_pos (by rw [decide_eq_true_iff]; omega), Comp.zI]
  ·unfold yp
   rw [Comp.zL, if_pos (by rw [decide_eq_true_iff]; omega), Comp.zI]
end Go.Cor
end
end
section
set_option linter.unusedVariables false
set_option linter.unusedSimpArgs false
namespace Go.Lift
open Go Go.Eng
variable {α β γ δ ε σ τ : Type}
def Ok (c : Comp α) (P : α → Prop) : Prop := ∃ a, c.val = some a ∧ P a
namespace Ok
theorem vd {c : Comp α} {a : α} {P : α → Prop} (h : c.val = some a) : Ok c P ↔ P a := by
 constructor
 ·rintro ⟨b, h1, h2⟩; rw [h] at h1; cases h1; exact h2
 ·exact fun hp => ⟨a, h, hp⟩
theorem val {c : Comp α} {a : α} (h : Ok c (fun x => x = a)) : c.val = some a := by
 obtain ⟨b, h1, h2⟩ := h; rw [h1, h2]
theorem mono {c : Comp α} {P Q : α → Prop} (h : Ok c P) (i : ∀ a, P a → Q a) : Ok c Q := by
 obtain ⟨a, h1, h2⟩ := h; exact ⟨a, h1, i a h2⟩
theorem pure {a : α} {P : α → Prop} : Ok (Comp.pure a) P ↔ P a := vd (Comp.zI a)
theorem bind {c : Comp α} {f : α → Comp β} {P : β → Prop} : Ok (c.bind f) P ↔ Ok c fun a => Ok (f a) P := by
 unfold Ok
 rw [Comp.zH]
 cases hc : c.val with
 | none => simp
 | some a => simp
theorem ite {p : Prop} [Decidable p] {c d : Comp α} {P : α → Prop} : Ok (if p then c else d) P ↔ if p then Ok c P else Ok d P := by split <;> rfl
theorem ite_i {p : Prop} [Decidable p] {c d : Comp α} {P : α → Prop} (h1 : p → Ok c P) (h2 : ¬ p → Ok d P) : Ok (if p then c else d) P := by
 split
 ·rename_i h; exact h1 h
 ·rename_i h; exact h2 h
theorem gd {g : Bool} {c : Comp α} {d : α} {P : α → Prop} : Ok (Comp.gd g c d) P ↔ if g = true then Ok c P else P d := by
 cases g with
 | true => exact Iff.rfl
 | false => exact pure
theorem idx {xs : List α} {i : Int} {P : α → Prop} {x : α} (h0 : 0 ≤ i) (h : xs[i.toNat]? = some x) : Ok (Lift.idx xs i) P ↔ P x := vd (idx_val' h0 h)
theorem idxn {xs : List α} {i : Nat} {P : α → Prop} {x : α} (h : xs[i]? = some x) : Ok (Lift.idx xs (i : Int)) P ↔ P x := vd (yh h)
theorem app {xs ys : List α} {P : List α → Prop} (h : xs.length + ys.length ≤ LIM) : Ok (Lift.app xs ys) P ↔ P (xs ++ ys) := vd (app_val h)
theorem sub {xs : List α} {l h : Int} {P : List α → Prop} (hr : 0 ≤ l ∧ l ≤ h ∧ h ≤ xs.length) : Ok (Lift.sub xs l h) P ↔ P ((xs.take h.toNat).drop l.toNat) := vd (sub_val hr)
theorem rem {a b : Int} {P : Int → Prop} (h : b ≠ 0) : Ok (Lift.rem a b) P ↔ P (a.tmod b) := vd (rem_val h)
theorem upd {xs : List α} {i : Int} {x : α} {P : List α → Prop} (h : 0 ≤ i ∧ i < xs.length) : Ok (Lift.upd xs i x) P ↔ P (xs.set i.toNat x) := vd (upd_val h)
theorem mk {n : Int} {z : α} {P : List α → Prop} (h : 0 ≤ n ∧ n ≤ LIM) : Ok (Lift.mk n z) P ↔ P (List.replicate n.toNat z) := vd (mk_val h)
theorem vo {n : Int} {P : Unit → Prop} (h : 0 ≤ n) : Ok (Lift.vo n) P ↔ P () := vd (vH h)
theorem loop {body : σ → Comp (Comp.Step σ ε)} (I : σ → Prop) (m : σ → Nat) {P : ε → Prop} {s : σ} (h0 : I s)
  (hb : ∀ s, I s → Ok (body s) fun t => match t with | .next s' => I s' ∧ m s' < m s | .done e => P e) : Ok (Comp.loop body s) P := by
 have key : ∀ k s, m s = k → I s → Ok (Comp.loop body s) P := by
  intro k
  induction k using Nat.strongRecOn with
  | _ k ih =>
   intro s hk hI
   obtain ⟨t, h1, h2⟩ := hb s hI
   cases t with
   | next s' =>
    obtain ⟨e, h3, h4⟩ := ih (m s') (by have := h2.2; omega) s' rfl h2.1
    exact ⟨e, by rw [Comp.val_loop, h1]; exact h3, h4⟩
   | done e => exact ⟨e, by rw [Comp.val_loop, h1]; rfl, h2⟩
 exact key _ s rfl h0
theorem count {body : σ → Comp (Comp.Step σ ε)} (N : Nat) (I : Nat → σ → Prop) {P : ε → Prop} {s : σ} (h0 : I 0 s)
  (hb : ∀ i s, i < N → I i s → Ok (body s) fun t => match t with | .next s' => I (i + 1) s' | .done e => P e)
  (he : ∀ s, I N s → Ok (body s) fun t => match t with | .next _ => False | .done e => P e) : Ok (Comp.loop body s) P := by
 have key : ∀ k i s, i + k = N → I i s → Ok (Comp.loop body s) P := by
  intro k
  induction k with
  | zero =>
   intro i s hi hI
   have : i = N := by omega
   subst this
   obtain ⟨t, h1, h2⟩ := he s hI
   cases t with
   | next _ => exact h2.elim
   | done e => exact ⟨e, by rw [Comp.val_loop, h1]; rfl, h2⟩
  | succ k ih =>
   intro i s hi hI
   obtain ⟨t, h1, h2⟩ := hb i s (by omega) hI
   cases t with
   | next s' =>
    obtain ⟨e, h3, h4⟩ := ih (i + 1) s' (by omega) h2
    exact ⟨e, by rw [Comp.val_loop, h1]; exact h3, h4⟩
   | done e => exact ⟨e, by rw [Comp.val_loop, h1]; rfl, h2⟩
 exact key N 0 s (by omega) h0
end Ok
theorem bif_or (b c : Bool) : (bif b then true else c) = (b || c) := by cases b <;> rfl
theorem bif_and (b c : Bool) : (bif b then c else false) = (b && c) := by cases b <;> rfl
end Go.Lift
end
section
set_option linter.unusedVariables false
set_option linter.unusedSimpArgs false
namespace Go.Crt
open Go Go.Lift Go.F Go.Cor
variable {α : Type}
theorem loop_find {xs : List α} (p : α → Bool) {body : Int → Comp (Comp.Step Int (Sum Int Unit))} (hb : ∀ (i : Nat) x, xs[i]? = some x → (body i).val = some (if p x = true then .done (.inl (i : Int)) else .next ((i + 1 : Nat) : Int)))
  (he : (body xs.length).val = some (.done (.inr ()))) :
  ∃ e, (Comp.loop body 0).val = some e ∧ ((e = .inr () ∧ xs.any p = false) ∨ ∃ i : Nat, e = .inl (i : Int) ∧ i < xs.length ∧ (∃ x, xs[i]? = some x ∧ p x = true) ∧ (xs.take i).any p = false) := by
 have key : Ok (Comp.loop body 0) (fun e => (e = .inr () ∧ xs.any p = false) ∨ ∃ i : Nat, e = .inl (i : Int) ∧ i < xs.length ∧ (∃ x, xs[i]? = some x ∧ p x = true) ∧ (xs.take i).any p = false) := by
  refine Ok.count xs.length (fun i (s : Int) => s = (i : Int) ∧ (xs.take i).any p = false) ⟨rfl, by simp⟩ ?_ ?_
  ·rintro i s hi ⟨rfl, ha⟩
   have hx := List.getElem?_eq_getElem hi
   rw [Ok.vd (hb i _ hx)]
   by_cases h : p xs[i] = true
   ·rw [if_pos h]; exact .inr ⟨i, rfl, hi, ⟨_, hx, h⟩, ha⟩
   ·rw [if_neg h]
    refine ⟨rfl, ?_⟩
    rw [List.take_succ_eq_append_getElem hi, List.any_append, ha]; simpa using h
  ·rintro s ⟨rfl, ha⟩
   rw [Ok.vd he]
   exact .inl ⟨rfl, by rwa [List.take_length] at ha⟩
 obtain ⟨e, h1, h2⟩ := key
 exact ⟨e, h1, h2⟩
theorem any_of_get {xs : List α} {p : α → Bool} {i : Nat} (h : ∃ x, xs[i]? = some x ∧ p x = true) : xs.any p = true := by
 obtain ⟨x, h1, h2⟩ := h
 exact List.any_eq_true.2 ⟨x, List.mem_of_getElem? h1, h2⟩
theorem contains_any (x : Int) : ∀ l : List Int, l.contains x = l.any fun y => decide (x = y)
 | [] => rfl
 | y :: l => by rw [List.contains_cons, List.any_cons, contains_any x l]; rfl
theorem has_val {l : List Int} (x : Int) (hl : l.length ≤ LIM) : (yk l x).val = some (l.contains x) := by
 have hL := LIM_lt
 obtain ⟨e, h1, h2⟩ := loop_find (xs := l) (fun y => decide (x = y)) (body := fun s => vI l x s) (by
  intro i y hy
  have hi := zu hy
  unfold vI
  rw [ya, Comp.zL, if_pos (by simpa using hi), Comp.zH, yh hy, Option.bind_some, Comp.zL]
  by_cases h : x = y
  ·simp [h]
  ·simp [h, Comp.zR (show i < 9223372036854775807 by omega)]) (by
  unfold vI
  rw [Comp.zL, if_neg (by simp), Comp.zI])
 have hc := contains_any x l
 unfold yk kU
 rw [Comp.zH, Comp.zH, h1, Option.bind_some, hc]
 rcases h2 with ⟨rfl, h3⟩ | ⟨i, rfl, _, h3, _⟩
 ·rw [h3]; simp [jX]
 ·rw [any_of_get h3]; simp
def incB : List Int → Bool
 | [] => true
 | [_] => true
 | x :: y :: l => decide (x < y) && incB (y :: l)
theorem incB_iff : ∀ {l : List Int}, incB l = true ↔ ∀ i, i + 1 < l.length → l[i]! < l[i + 1]!
 | [] => by simp [incB]
 | [_] => by simp [incB]
 | x :: y :: l => by
  rw [incB, Bool.and_eq_true, decide_eq_true_iff, incB_iff]
  constructor
  ·rintro ⟨h1, h2⟩ i hi
   cases i with
   | zero => simpa using h1
   | succ i => simpa using h2 i (by simpa using hi)
  ·intro h
   refine ⟨by simpa using h 0 (by simp), fun i hi => by simpa using h (i + 1) (by simpa using hi)⟩
theorem inc_val {l : List Int} (hl : l.length ≤ LIM) : (va l).val = some (incB l) := by
 have hL := LIM_lt
 have key : Ok (va l) (fun b => b = incB l) := by
  unfold va
  rw [Ok.bind]
  refine Ok.mono (P := fun e => (e = .inr () ∧ incB l = true) ∨ (e = .inl false ∧ incB l = false)) ?_ (fun e he => by
   rcases he with ⟨rfl, h⟩ | ⟨rfl, h⟩
   ·unfold jC; exact Ok.pure.2 h.symm
   ·exact Ok.pure.2 h.symm)
  refine Ok.loop (fun s : Int => ∃ i : Nat, 1 ≤ i ∧ s = (i : Int) ∧ ∀ j, j + 1 < i → j + 1 < l.length → l[j]! < l[j + 1]!) (fun s => l.length - s.toNat) ⟨1, by omega, rfl, fun j h _ => by omega⟩ ?_
  rintro s ⟨i, hi, rfl, h⟩
  unfold gI
  by_cases hlt : i < l.length
  ·have e1 : IntKind.wrap .i64 ((i : Int) - 1) = ((i - 1 : Nat) : Int) := by rw [IntWalk.i64_in _ ⟨by omega, by omega⟩]; omega
   have g1 : l[i]? = some l[i]! := by rw [getElem!_pos l i hlt]; exact List.getElem?_eq_getElem hlt
   have g2 : l[i - 1]? = some l[i - 1]! := by rw [getElem!_pos l (i - 1) (by omega)]; exact List.getElem?_eq_getElem (by omega)
   rw [Ok.ite, if_pos (by simp; omega), Ok.bind, Ok.idxn g1, Ok.bind, e1, Ok.idxn g2]
   refine Ok.ite_i (fun hc => ?_) (fun hc => ?_)
   ·rw [decide_eq_true_iff] at hc
    rw [Ok.pure]
    refine .inr ⟨rfl, ?_⟩
    cases hb : incB l with
    | false => rfl
    | true =>
     have := incB_iff.1 hb (i - 1) (by omega)
     rw [show i - 1 + 1 = i by omega] at this
     omega
   ·rw [decide_eq_true_iff] at hc
    rw [Ok.pure]
    refine ⟨⟨i + 1, by omega, Comp.zR (by omega), fun j hj hj2 => ?_⟩, ?_⟩
    ·by_cases hji : j + 1 = i
     ·subst hji; simpa using hc
     ·exact h j (by omega) hj2
    ·rw [Comp.zR (by omega)]; omega
  ·rw [Ok.ite, if_neg (by simp; omega), Ok.pure]
   exact .inl ⟨rfl, incB_iff.2 fun j hj => h j (by omega) hj⟩
 exact Ok.val key
theorem less_val (a b : Int) : (cmp_Less_int a b).val = some (decide (a < b)) := by
 unfold cmp_Less_int cmp_isNaN_int
 simp [Comp.zH, Comp.zI, Comp.gd]
def sortedB (l : List Int) : Bool := decide (∀ i, i < l.length - 1 → l[i]! ≤ l[i + 1]!)
theorem issorted_val {l : List Int} (hl : l.length ≤ LIM) : (ve l).val = some (sortedB l) := by
 have hL := LIM_lt
 have key : Ok (ve l) (fun b => b = sortedB l) := by
  unfold ve
  rw [Ok.bind, Ok.pure, Ok.bind]
  refine Ok.mono (P := fun e => (e = .inr () ∧ sortedB l = true) ∨ (e = .inl false ∧ sortedB l = false)) ?_ (fun e he => by
   rcases he with ⟨rfl, h⟩ | ⟨rfl, h⟩
   ·unfold ga; exact Ok.pure.2 h.symm
   ·exact Ok.pure.2 h.symm)
  refine Ok.loop (fun s : Int => s < l.length ∧ -1 ≤ s ∧ ∀ j : Nat, s ≤ (j : Int) → j + 1 < l.length → l[j]! ≤ l[j + 1]!) (fun s => (s + 1).toNat) ⟨?_, ?_, ?_⟩ ?_
  ·rw [IntWalk.i64_in _ ⟨by omega, by omega⟩]; omega
  ·rw [IntWalk.i64_in _ ⟨by omega, by omega⟩]; omega
  ·rw [IntWalk.i64_in _ ⟨by omega, by omega⟩]; intro j h1 h2; omega
  rintro s ⟨h1, h2, h3⟩
  unfold vi
  by_cases hs : 0 < s
  ·obtain ⟨i, rfl⟩ : ∃ i : Nat, s = (i : Int) := ⟨s.toNat, by omega⟩
   have hlt : i < l.length := by omega
   have e1 : IntKind.wrap .i64 ((i : Int) - 1) = ((i - 1 : Nat) : Int) := by rw [IntWalk.i64_in _ ⟨by omega, by omega⟩]; omega
   have g1 : l[i]? = some l[i]! := by rw [getElem!_pos l i hlt]; exact List.getElem?_eq_getElem hlt
   have g2 : l[i - 1]? = some l[i - 1]! := by rw [getElem!_pos l (i - 1) (by omega)]; exact List.getElem?_eq_getElem (by omega)
   rw [Ok.ite, if_pos (by simpa using hs), Ok.bind, Ok.idxn g1, Ok.bind, e1, Ok.idxn g2, Ok.bind, Ok.vd (less_val _ _)]
   refine Ok.ite_i (fun hc => ?_) (fun hc => ?_)
   ·rw [decide_eq_true_iff] at hc
    rw [Ok.pure]
    refine .inr ⟨rfl, ?_⟩
    unfold sortedB
    rw [decide_eq_false_iff_not]
    intro ha
    have := ha (i - 1) (by omega)
    rw [show i - 1 + 1 = i by omega] at this
    omega
   ·rw [decide_eq_true_iff] at hc
    rw [Ok.pure]
    refine ⟨⟨by omega, by omega, fun j hj hj2 => ?_⟩, by omega⟩
    by_cases hji : j + 1 = i
    ·subst hji; rw [show j + 1 - 1 = j by omega] at hc; omega
    ·exact h3 j (by omega) hj2
  ·rw [Ok.ite, if_neg (by simpa using hs), Ok.pure]
   refine .inl ⟨rfl, ?_⟩
   unfold sortedB
   rw [decide_eq_true_iff]
   intro j hj
   exact h3 j (by omega) (by omega)
 exact Ok.val key
theorem keeps_all {l : List Int} (hs : sortedB l = true) : (Lib.compact l).length = l.length ↔ incB l = true := by
 unfold sortedB at hs
 rw [decide_eq_true_iff] at hs
 have e : (Lib.compact l).length = l.length ↔ ∀ j ∈ List.range l.length, Lib.keeps l.toArray j = true := by
  have h := List.length_filter_eq_length_iff (l := List.range l.length) (p := fun j => Lib.keeps l.toArray j)
  rw [List.length_range] at h
  unfold Lib.compact Lib.compactUpTo
  rw [List.length_map]
  exact h
 rw [e, incB_iff]
 constructor
 ·intro h i hi
  have h1 := hs i (by omega)
  rcases keeps_iff.1 (h (i + 1) (List.mem_range.2 hi)) with h2 | h2
  ·omega
  ·have h3 : l[i + 1]! ≠ l[i]! := by simpa using h2
   omega
 ·intro h j hj
  rw [keeps_iff]
  have hj' := List.mem_range.1 hj
  by_cases h0 : j = 0
  ·exact .inl h0
  ·right
   have h1 := h (j - 1) (by omega)
   rw [show j - 1 + 1 = j by omega] at h1
   have h2 : l[j]! ≠ l[j - 1]! := by omega
   simpa using h2
theorem inc_sorted {l : List Int} (h : incB l = true) : sortedB l = true := by
 unfold sortedB
 rw [decide_eq_true_iff]
 intro i hi
 have := incB_iff.1 h i (by omega)
 omega
theorem sorted_val {l : List Int} (hl : l.length ≤ LIM) : (court_sorted l).val = some (incB l) := by
 unfold court_sorted
 rw [Comp.zH, issorted_val hl, Option.bind_some]
 cases hs : sortedB l with
 | false =>
  have hi : incB l = false := by
   cases h : incB l with
   | false => rfl
   | true => rw [inc_sorted h] at hs; cases hs
  simp [Comp.zH, Comp.gd, Comp.zI, hi]
 | true =>
  have hc : (vL l).val = some l := by
   unfold vL
   rw [Comp.zH, app_val (by simpa using hl), Option.bind_some, Comp.zI, List.nil_append]
  have hk : (compactI l).val = some (Lib.compact l) := by unfold compactI; rw [if_pos hl, Comp.zI]
  rw [show (true == true) = true from rfl, Comp.zH]
  show ((vL l).val.bind _) = _
  rw [hc, Option.bind_some, Comp.zH]
  show ((compactI l).val.bind _) = _
  rw [hk, Option.bind_some, Comp.zH, Comp.zI, Option.bind_some, Comp.zI]
  congr 1
  show decide (((Lib.compact l).length : Int) = (l.length : Int)) = incB l
  cases h : incB l with
  | true => rw [decide_eq_true_iff, (keeps_all hs).2 h]
  | false =>
   rw [decide_eq_false_iff_not]
   intro e
   have := (keeps_all hs).1 (by omega)
   rw [this] at h; cases h
theorem indexF_val {l : List Int} (hl : l.length ≤ LIM) {f : Int → Comp Bool} {p : Int → Bool} (hf : ∀ x ∈ l, (f x).val = some (p x)) :
  ∃ e, (yy l f).val = some e ∧ ((e = -1 ∧ l.any p = false) ∨ ∃ i : Nat, e = (i : Int) ∧ i < l.length ∧ (∃ x, l[i]? = some x ∧ p x = true) ∧ (l.take i).any p = false) := by
 have hL := LIM_lt
 obtain ⟨e, h1, h2⟩ := loop_find (xs := l) p (body := fun s => zn l f s) (by
  intro i y hy
  have hi := zu hy
  unfold zn
  rw [ya, Comp.zL, if_pos (by simpa using hi), Comp.zH, yh hy, Option.bind_some, Comp.zH, hf y (List.mem_of_getElem? hy), Option.bind_some, Comp.zL, Comp.zI, Comp.zI, Comp.zR (show i < 9223372036854775807 by omega)]
  by_cases h : p y = true <;> simp [h]) (by
  unfold zn
  rw [Comp.zL, if_neg (by simp), Comp.zI])
 unfold yy
 rw [Comp.zH, h1, Option.bind_some]
 rcases h2 with ⟨rfl, h3⟩ | ⟨i, rfl, h3, h4, h5⟩
 ·exact ⟨-1, by simp [vY], .inl ⟨rfl, h3⟩⟩
 ·exact ⟨(i : Int), by simp, .inr ⟨i, rfl, h3, h4, h5⟩⟩
theorem delete_val {l : List Int} (hl : l.length ≤ LIM) {f : Int → Comp Bool} {p : Int → Bool} (hf : ∀ x ∈ l, (f x).val = some (p x)) : (vu l f).val = some (l.filter fun x => !p x) := by
 have hL := LIM_lt
 obtain ⟨e, h1, h2⟩ := indexF_val hl hf
 unfold vu
 rw [Comp.zH, h1, Option.bind_some, Comp.zL]
 rcases h2 with ⟨rfl, h3⟩ | ⟨i, rfl, h3, h4, h5⟩
 ·rw [if_pos (by simp), Comp.zI]
  congr 1
  symm
  rw [List.filter_eq_self]
  intro x hx
  have := List.any_eq_false.1 h3 x hx
  simpa using this
 ·rw [if_neg (by simp), Comp.zR (by omega)]
  have key : Ok (Comp.loop (fun s : List Int × Int × Int => yZ f s.1 s.2.1 s.2.2) (l, (i : Int), ((i + 1 : Nat) : Int))) (fun r => ∃ k : Nat, r.2 = (k : Int) ∧ k ≤ l.length ∧ r.1.length = l.length ∧ r.1.take k = l.filter fun x => !p x) := by
   obtain ⟨x0, hx0, hp0⟩ := h4
   refine Ok.loop (fun s => ∃ k j : Nat, s.2.1 = (k : Int) ∧ s.2.2 = (j : Int) ∧ k < j ∧ j ≤ l.length ∧ s.1.length = l.length ∧ s.1.take k = (l.take j).filter (fun x => !p x) ∧ s.1.drop j = l.drop j) (fun s => l.length - s.2.2.toNat) ⟨i, i + 1, rfl, rfl, by omega, by omega, rfl, ?_, rfl⟩ ?_
   ·have hx1 : l[i] = x0 := by rw [List.getElem?_eq_getElem h3] at hx0; exact Option.some.inj hx0
    rw [List.take_succ_eq_append_getElem h3, List.filter_append, hx1]
    rw [List.filter_eq_self.2 (fun x hx => by have := List.any_eq_false.1 h5 x hx; simpa using this)]
    simp [hp0]
   ·rintro ⟨a, u, v⟩ ⟨k, j, rfl, rfl, hkj, hjl, hal, ht, hd⟩
    dsimp only at *
    unfold yZ
    by_cases hlt : j < l.length
    ·have hg : a[j]? = some l[j] := by
      have := congrArg (·[0]?) hd
      simpa [List.getElem?_drop, List.getElem?_eq_getElem hlt] using this
     have hx := List.getElem_mem hlt
     rw [Ok.ite, if_pos (by simp; omega), Ok.bind, Ok.idxn hg, Ok.bind, Ok.vd (hf _ hx)]
     have hd2 : ∀ b : List Int, b.length = l.length → (∀ m, j < m → b[m]? = a[m]?) → b.drop (j + 1) = l.drop (j + 1) := by
      intro b hb hm
      apply List.ext_getElem?
      intro m
      rw [List.getElem?_drop, List.getElem?_drop, hm _ (by omega)]
      have := congrArg (·[m + 1]?) hd
      simp only [List.getElem?_drop] at this
      rw [show j + 1 + m = j + (m + 1) by omega]; exact this
     refine Ok.ite_i (fun hc => ?_) (fun hc => ?_)
     ·have hp : p l[j] = false := by simpa using hc
      have hk : k < a.length := by omega
      rw [Ok.bind, Ok.idxn (List.getElem?_eq_getElem hk), Ok.bind, Ok.upd (by omega), Int.toNat_natCast]
      unfold yr
      rw [Ok.pure]
      refine ⟨⟨k + 1, j + 1, Comp.zR (by omega), Comp.zR (by omega), by omega, by omega, by simp [hal], ?_, hd2 _ (by simp [hal]) fun m hm => by rw [List.getElem?_set_ne (by omega)]⟩, ?_⟩
      ·rw [List.take_succ_eq_append_getElem (by simpa using hk), List.getElem_set_self, List.take_set_of_le (by omega), ht, List.take_succ_eq_append_getElem hlt, List.filter_append]
       simp [hp]
      ·show l.length - (IntKind.wrap .i64 ((j : Int) + 1)).toNat < l.length - ((j : Int)).toNat
       rw [Comp.zR (by omega)]; omega
     ·have hp : p l[j] = true := by simpa using hc
      unfold yr
      rw [Ok.pure]
      refine ⟨⟨k, j + 1, rfl, Comp.zR (by omega), by omega, by omega, hal, ?_, hd2 a hal fun m _ => rfl⟩, ?_⟩
      ·rw [ht, List.take_succ_eq_append_getElem hlt, List.filter_append]
       simp [hp]
      ·show l.length - (IntKind.wrap .i64 ((j : Int) + 1)).toNat < l.length - ((j : Int)).toNat
       rw [Comp.zR (by omega)]; omega
    ·rw [Ok.ite, if_neg (by simp; omega), Ok.pure]
     refine ⟨k, rfl, by omega, hal, ?_⟩
     rw [ht, List.take_of_length_le (by omega)]
  obtain ⟨⟨a, u⟩, h6, k, h7, h8, h9, h10⟩ := key
  dsimp only at h7 h9 h10
  subst h7
  rw [Comp.zH]
  show ((Comp.loop (fun s : List Int × Int × Int => yZ f s.1 s.2.1 s.2.2) (l, (i : Int), ((i + 1 : Nat) : Int))).val.bind _) = _
  rw [h6, Option.bind_some]
  show (vQ a (k : Int)).val = _
  unfold vQ
  rw [Comp.zH, sub_val ⟨by omega, by omega, by omega⟩, Option.bind_some, Comp.zH, sub_val ⟨by omega, by omega, by simp; omega⟩, Option.bind_some, Comp.zI]
  congr 1
  rw [Int.toNat_natCast, Int.toNat_zero, List.drop_zero, List.take_append_of_le_length (by simp; omega), List.take_take, Nat.min_self, h10]
end Go.Crt
end
section
set_option linter.unusedVariables false
set_option linter.unusedSimpArgs false
namespace Go.Crt
open Go Go.Lift Go.F Go.Cor
variable {α β : Type}
theorem contains_any' (x : Int) (l : List Int) : l.contains x = l.any fun y => decide (y = x) := by
 rw [contains_any]; congr 1; funext y; exact decide_eq_decide.2 eq_comm
theorem rhas_val {l : List Int} (x : Int) (hl : l.length ≤ LIM) : (jn l x).val = some (l.contains x) := by
 have hL := LIM_lt
 have := Comp.loop_any (body := fun s => vU l x s) l (fun y => decide (y = x)) true (by
  intro i y hy
  have hi := zu hy
  show (vU l x (i : Int)).val = _
  unfold vU
  rw [ya, Comp.zL, if_pos (by simpa using hi), Comp.zH, yh hy, Option.bind_some, Comp.zL, Comp.zI, Comp.zI, Comp.zR (by omega)]
  by_cases h : y = x <;> simp [h]) (by
  show (vU l x (l.length : Int)).val = _
  unfold vU
  rw [Comp.zL, if_neg (by simp), Comp.zI])
 unfold jn
 rw [Comp.zH, this, Option.bind_some, contains_any']
 cases l.any fun y => decide (y = x)
 ·simp [colletref43_has_j1]
 ·simp
def outB (m n : Int) : Bool := decide (n < 0) || decide (n ≥ m)
theorem outside_val {l : List Int} (m : Int) (hl : l.length ≤ LIM) : (court_outside l m).val = some (l.any (outB m)) := by
 unfold court_outside
 rw [Comp.zH, contains_val hl (p := outB m) (fun x _ => by unfold court_outside_f1; rw [Comp.zH, Comp.zI, Option.bind_some, Comp.zI, bif_or]; rfl), Option.bind_some, Comp.zI]
theorem rbelow_val {l : List Int} (m : Int) (hl : l.length ≤ LIM) : (ji l m).val = some (!l.any (outB m)) := by
 have hL := LIM_lt
 have := Comp.loop_any (body := fun s => yw l m s) l (outB m) false (by
  intro i y hy
  have hi := zu hy
  show (yw l m (i : Int)).val = _
  unfold yw
  rw [ya, Comp.zL, if_pos (by simpa using hi), Comp.zH, yh hy, Option.bind_some, Comp.zH, Comp.jv, yh hy]
  unfold outB
  by_cases h : y < 0
  ·simp [h, Comp.zH, Comp.zI, Comp.zL]
  ·simp [h, Comp.zH, Comp.zI, Comp.zL, Comp.zR (show i < 9223372036854775807 by omega)]
   split <;> rfl) (by
  show (yw l m (l.length : Int)).val = _
  unfold yw
  rw [Comp.zL, if_neg (by simp), Comp.zI])
 unfold ji
 rw [Comp.zH, this, Option.bind_some]
 cases l.any (outB m)
 ·simp [colletref43_below_j1]
 ·simp
def partB (l all : List Int) : Bool := !l.any fun n => !all.contains n
theorem rwithin_val {l all : List Int} (hl : l.length ≤ LIM) (ha : all.length ≤ LIM) : (kC l all).val = some (partB l all) := by
 have hL := LIM_lt
 have := Comp.loop_any (body := fun s => yl l all s) l (fun n => !all.contains n) false (by
  intro i y hy
  have hi := zu hy
  show (yl l all (i : Int)).val = _
  unfold yl
  rw [ya, Comp.zL, if_pos (by simpa using hi), Comp.zH, yh hy, Option.bind_some, Comp.zH, rhas_val y ha, Option.bind_some, Comp.zL, Comp.zI, Comp.zI, Comp.zR (by omega)]
  split <;> rfl) (by
  show (yl l all (l.length : Int)).val = _
  unfold yl
  rw [Comp.zL, if_neg (by simp), Comp.zI])
 unfold kC partB
 rw [Comp.zH, this, Option.bind_some]
 cases l.any fun n => !all.contains n
 ·simp [kB]
 ·simp
def SmallC (x : api_Claim) : Prop := x.Sure.length ≤ LIM ∧ x.Touched.length ≤ LIM
def p1 (x : api_Claim) : Bool := decide (x.Party < -1) || decide (x.Party ≥ 6)
def p2 (x : api_Claim) : Bool := decide (x.Kind < 1) || decide (x.Kind > 3)
def p6 (x : api_Claim) : Bool := decide (x.Gauge < 0) || decide (x.Gauge ≥ 8)
def claimE (x : api_Claim) (m : Int) : Int :=
 if p1 x = true then 55 else if p2 x = true then 4 else if (!incB x.Sure || !incB x.Touched) = true then 7 else if (x.Sure.any (outB m) || x.Touched.any (outB m)) = true then 3
 else if ((decide (x.Kind ≠ 3) && decide (x.Gauge ≠ 0)) || (decide (x.Kind ≠ 2) && decide ((x.Sure.length : Int) > 0)) || (decide (x.Kind = 3) && decide ((x.Touched.length : Int) > 0)) || !partB x.Sure x.Touched) = true then 4
 else if p6 x = true then 3 else 0
theorem check_val {x : api_Claim} (m : Int) (h : SmallC x) : (court_check x m).val = some (claimE x m) := by
 have h1 := sorted_val h.1
 have h2 := sorted_val h.2
 have h3 := outside_val m h.1
 have h4 := outside_val m h.2
 have h5 := contains_val h.1 (f := fun z0 => kR z0 x) (p := fun n => !x.Touched.contains n) (fun n _ => by unfold kR; rw [Comp.zH, has_val n h.2, Option.bind_some, Comp.zI])
 have h5' : (zo x.Sure (fun z0 => kR z0 x)).val = some (!partB x.Sure x.Touched) := by rw [h5]; unfold partB; rw [Bool.not_not]
 unfold court_check kQ claimE
 simp only [Comp.zH, Comp.zI, Option.bind_some, Comp.zL, Comp.jv, h1, h2, h3, h4, h5']
 rw [bif_or, bif_or, bif_or, bif_and, bif_and, bif_and]
 change (if p1 x = true then some 55 else if p2 x = true then some 4 else _) = _
 generalize p1 x = b1
 generalize p2 x = b2
 generalize incB x.Sure = b3
 generalize incB x.Touched = b4
 generalize x.Sure.any (outB m) = b5
 generalize x.Touched.any (outB m) = b6
 generalize (decide (x.Kind ≠ 3) && decide (x.Gauge ≠ 0)) = b7
 generalize (decide (x.Kind ≠ 2) && decide ((x.Sure.length : Int) > 0)) = b8
 generalize (decide (x.Kind = 3) && decide ((x.Touched.length : Int) > 0)) = b9
 generalize partB x.Sure x.Touched = b10
 have e6 : (bif decide (x.Gauge < 0) then true else decide (x.Gauge ≥ 8)) = p6 x := by rw [bif_or]; rfl
 have e6b : (decide (x.Gauge < 0) || decide (x.Gauge ≥ 8)) = p6 x := rfl
 first | rw [e6] | rw [e6b]
 generalize p6 x = b11
 cases b1; rotate_left; · rfl
 cases b2; rotate_left; · rfl
 cases b3; · rfl
 cases b4; · rfl
 cases b5; rotate_left; · rfl
 cases b6; rotate_left; · rfl
 cases b7; rotate_left; · rfl
 cases b8; rotate_left; · rfl
 cases b9; rotate_left; · rfl
 cases b10; · rfl
 cases b11 <;> rfl
theorem rclaim_val {x : api_Claim} (m : Int) (h : SmallC x) : (colletref43_claim x m).val = some (claimE x m) := by
 have h1 := inc_val h.1
 have h2 := inc_val h.2
 have h3 := rbelow_val m h.1
 have h4 := rbelow_val m h.2
 have h5 := rwithin_val h.1 h.2
 unfold colletref43_claim claimE
 simp only [Comp.zH, Comp.zI, Option.bind_some, Comp.zL, Comp.jv, h1, h2, h3, h4, h5]
 rw [bif_or, bif_or, bif_or, bif_and, bif_and, bif_and]
 change (if p1 x = true then some 55 else if p2 x = true then some 4 else _) = _
 rw [Bool.and_comm (decide (x.Gauge ≠ 0)), Bool.and_comm (decide ((x.Sure.length : Int) > 0)), Bool.and_comm (decide ((x.Touched.length : Int) > 0))]
 generalize p1 x = b1
 generalize p2 x = b2
 generalize incB x.Sure = b3
 generalize incB x.Touched = b4
 generalize x.Sure.any (outB m) = b5
 generalize x.Touched.any (outB m) = b6
 generalize (decide (x.Kind ≠ 3) && decide (x.Gauge ≠ 0)) = b7
 generalize (decide (x.Kind ≠ 2) && decide ((x.Sure.length : Int) > 0)) = b8
 generalize (decide (x.Kind = 3) && decide ((x.Touched.length : Int) > 0)) = b9
 generalize partB x.Sure x.Touched = b10
 have e6 : (bif decide (x.Gauge < 0) then true else decide (x.Gauge ≥ 8)) = p6 x := by rw [bif_or]; rfl
 have e6b : (decide (x.Gauge < 0) || decide (x.Gauge ≥ 8)) = p6 x := rfl
 first | rw [e6] | rw [e6b]
 generalize p6 x = b11
 cases b1; rotate_left; · rfl
 cases b2; rotate_left; · rfl
 cases b3; · rfl
 cases b4; · rfl
 cases b5; rotate_left; · rfl
 cases b6; rotate_left; · rfl
 cases b7; rotate_left; · rfl
 cases b8; rotate_left; · rfl
 cases b9; rotate_left; · rfl
 cases b10; · rfl
 cases b11 <;> rfl
structure GoodC (x : api_Claim) (m : Int) : Prop where
 party : -1 ≤ x.Party ∧ x.Party < 6
 kind : 1 ≤ x.Kind ∧ x.Kind ≤ 3
 gauge : x.Kind ≠ 3 → x.Gauge = 0
 sure : x.Kind ≠ 2 → x.Sure = []
 touched : x.Kind = 3 → x.Touched = []
 part : ∀ n, n ∈ x.Sure → n ∈ x.Touched
 range : 0 ≤ x.Gauge ∧ x.Gauge < 8
theorem goodC {x : api_Claim} {m : Int} (h : claimE x m = 0) : GoodC x m := by
 unfold claimE at h
 split at h; · cases h
 split at h; · cases h
 split at h; · cases h
 split at h; · cases h
 split at h; · cases h
 split at h; · cases h
 rename_i h1 h2 h3 h4 h5 h6
 simp only [p1, p2, p6, Bool.or_eq_true, Bool.and_eq_true, decide_eq_true_iff, not_or, not_and, Bool.not_eq_true', Bool.not_eq_false] at h1 h2 h5 h6
 obtain ⟨⟨⟨h7, h8⟩, h9⟩, h10⟩ := h5
 refine ⟨by omega, by omega, fun hk => by have := h7 hk; omega, fun hk => ?_, fun hk => ?_, ?_, by omega⟩
 ·have := h8 hk; exact List.eq_nil_of_length_eq_zero (by omega)
 ·have := h9 hk; exact List.eq_nil_of_length_eq_zero (by omega)
 ·intro n hn
  unfold partB at h10
  simp only [Bool.not_eq_true', List.any_eq_false, Bool.not_eq_true, Bool.not_eq_false'] at h10
  have := h10 n hn
  simpa using this
def dupB (pre : List api_Claim) (x : api_Claim) : Bool := pre.any fun y => decide (y.Kind = x.Kind) && (decide (x.Kind = 1) || (decide (x.Kind = 3) && decide (y.Gauge = x.Gauge)))
def goE (m : Int) : List api_Claim → List api_Claim → Option Int
 | _, [] => none
 | pre, x :: xs => if claimE x m ≠ 0 then some (claimE x m) else if dupB pre x = true then some 6 else goE m (pre ++ [x]) xs
theorem goE_cons (m : Int) (pre : List api_Claim) (x : api_Claim) (xs : List api_Claim) : goE m pre (x :: xs) = if claimE x m ≠ 0 then some (claimE x m) else if dupB pre x = true then some 6 else goE m (pre ++ [x]) xs := rfl
def toE : Option Int → Sum Int Unit
 | some c => .inl c
 | none => .inr ()
theorem drop_cons {C : List α} {i : Nat} (h : i < C.length) : C.drop i = C[i] :: C.drop (i + 1) := List.drop_eq_getElem_cons h
theorem take_snoc {C : List α} {i : Nat} (h : i < C.length) : C.take (i + 1) = C.take i ++ [C[i]] := List.take_succ_eq_append_getElem h
theorem rcheck_loop {C : List api_Claim} {m : Int} (hC : ∀ x ∈ C, SmallC x) (hl : C.length ≤ 10) : (Comp.loop (fun s => vO C m s) 0).val = some (toE (goE m [] C)) := by
 have key : Ok (Comp.loop (fun s => vO C m s) 0) (fun e => e = toE (goE m [] C)) := by
  refine Ok.count C.length (fun i s => s = (i : Int) ∧ goE m [] C = goE m (C.take i) (C.drop i)) ⟨rfl, by simp⟩ ?_ ?_
  ·rintro i s hi ⟨rfl, h⟩
   have hg := List.getElem?_eq_getElem hi
   unfold vO
   rw [Ok.ite, if_pos (by simp; omega), Ok.bind, Ok.idxn hg, Ok.bind, Ok.vd (rclaim_val m (hC _ (List.getElem_mem hi)))]
   rw [drop_cons hi, goE_cons] at h
   refine Ok.ite_i (fun hc => ?_) (fun hc => ?_)
   ·rw [decide_eq_true_iff] at hc
    rw [if_pos hc] at h
    rw [Ok.pure, h]; rfl
   ·rw [decide_eq_true_iff] at hc
    rw [if_neg hc] at h
    rw [Ok.bind]
    have hd : (Comp.loop (fun s => yf (i : Int) C s) 0).val = some (if dupB (C.take i) C[i] then .inl 6 else .inr ()) := by
     refine Comp.loop_any (body := fun s => yf (i : Int) C s) (C.take i) (fun y => decide (y.Kind = C[i].Kind) && (decide (C[i].Kind = 1) || (decide (C[i].Kind = 3) && decide (y.Gauge = C[i].Gauge)))) 6 ?_ ?_
     ·intro j y hy
      have hj : j < i := by have := zu hy; rw [List.length_take] at this; omega
      have hy' : C[j]? = some y := by rw [List.getElem?_take_of_lt hj] at hy; exact hy
      show (yf (i : Int) C (j : Int)).val = _
      unfold yf
      rw [Comp.zL, if_pos (by simp; omega)]
      simp only [Comp.zH, yh hy', yh hg, Option.bind_some, Comp.jv, Comp.zI, Comp.zL, Comp.zR (show j < 9223372036854775807 by omega)]
      by_cases a1 : y.Kind = C[i].Kind
      ·rw [decide_eq_true a1]
       by_cases a2 : C[i].Kind = 1 <;> by_cases a3 : C[i].Kind = 3 <;> by_cases a4 : y.Gauge = C[i].Gauge <;> first | omega | simp [a2, a3, a4]
      ·rw [decide_eq_false a1]; simp
     ·show (yf (i : Int) C ((C.take i).length : Int)).val = _
      unfold yf
      rw [Comp.zL, if_neg (by simp; omega), Comp.zI]
    rw [Ok.vd hd]
    by_cases hb : dupB (C.take i) C[i] = true
    ·rw [if_pos hb] at h
     rw [if_pos hb, h]
     exact Ok.pure.2 rfl
    ·rw [if_neg hb] at h
     rw [if_neg hb]
     refine Ok.pure.2 ⟨Comp.zR (by omega), ?_⟩
     rw [take_snoc hi]; exact h
  ·rintro s ⟨rfl, h⟩
   unfold vO
   rw [Ok.ite, if_neg (by simp), Ok.pure, h]
   rw [List.drop_length]; rfl
 exact Ok.val key
theorem mget_mput {κ ν : Type} [DecidableEq κ] (x y : κ) (v : ν) : ∀ m : List (κ × ν), mget (mput m x v) y = if y = x then some v else mget m y
 | [] => by
  unfold mput mget
  by_cases h : y = x
  ·simp [h]
  ·simp [h, mget]
 | p :: ps => by
  unfold mput
  by_cases h : x = p.1
  ·rw [if_pos h]
   by_cases h2 : y = x
   ·simp [mget, h2]
   ·simp [mget, h2, h ▸ h2]
  ·rw [if_neg h]
   unfold mget
   by_cases h2 : y = p.1
   ·rw [if_pos h2, if_pos h2, if_neg (fun e => h (by rw [← e, h2]))]
   ·rw [if_neg h2, if_neg h2]; exact mget_mput x y v ps
theorem v2_eq {a b c d : Int} : ((#v[a, b] : Vector Int 2) = #v[c, d]) ↔ a = c ∧ b = d := by
 constructor
 ·intro h
  have h1 := congrArg (fun v : Vector Int 2 => v[0]) h
  have h2 := congrArg (fun v : Vector Int 2 => v[1]) h
  exact ⟨by simpa using h1, by simpa using h2⟩
 ·rintro ⟨rfl, rfl⟩; rfl
def metB (pre : List api_Claim) (k g : Int) : Bool := pre.any fun y => decide (y.Kind ≠ 2) && (decide (k = y.Kind) && decide (g = y.Gauge))
theorem dup_met {pre : List api_Claim} {x : api_Claim} {m : Int} (hp : ∀ y ∈ pre, GoodC y m) (hx : GoodC x m) (hk : x.Kind ≠ 2) : dupB pre x = metB pre x.Kind x.Gauge := by
 unfold dupB metB
 rw [Bool.eq_iff_iff, List.any_eq_true, List.any_eq_true]
 have hx1 := hx.kind
 have hx2 := hx.gauge
 constructor
 ·rintro ⟨y, h1, h2⟩
  have hy := hp y h1
  have hy2 := hy.gauge
  refine ⟨y, h1, ?_⟩
  simp only [Bool.and_eq_true, Bool.or_eq_true, decide_eq_true_iff] at h2 ⊢
  omega
 ·rintro ⟨y, h1, h2⟩
  have hy := hp y h1
  have hy2 := hy.gauge
  refine ⟨y, h1, ?_⟩
  simp only [Bool.and_eq_true, Bool.or_eq_true, decide_eq_true_iff] at h2 ⊢
  omega
theorem dup_two {pre : List api_Claim} {x : api_Claim} (hk : x.Kind = 2) : dupB pre x = false := by
 unfold dupB
 rw [List.any_eq_false]
 intro y _ h
 simp only [Bool.and_eq_true, Bool.or_eq_true, decide_eq_true_iff] at h
 omega
theorem check_loop {C : List api_Claim} {m : Int} (hC : ∀ x ∈ C, SmallC x) (hl : C.length ≤ 10) : (Comp.loop (fun s : List (Vector Int 2 × Bool) × Int => gS C m s.1 s.2) ([], 0)).val = some (toE (goE m [] C)) := by
 have key : Ok (Comp.loop (fun s : List (Vector Int 2 × Bool) × Int => gS C m s.1 s.2) ([], 0)) (fun e => e = toE (goE m [] C)) := by
  refine Ok.count C.length (fun i s => s.2 = (i : Int) ∧ goE m [] C = goE m (C.take i) (C.drop i) ∧ (∀ y ∈ C.take i, GoodC y m) ∧ ∀ k g, (mget s.1 (#v[k, g] : Vector Int 2)).getD false = metB (C.take i) k g) ⟨rfl, by simp, by simp, fun k g => rfl⟩ ?_ ?_
  ·rintro i ⟨mp, s⟩ hi ⟨h0, h, hpre, hmet⟩
   dsimp only at h0 hmet
   subst h0
   have hg := List.getElem?_eq_getElem hi
   show Ok (gS C m mp (i : Int)) _
   unfold gS
   rw [Ok.ite, if_pos (by simp; omega), Ok.bind, Ok.idxn hg, Ok.bind, Ok.vd (check_val m (hC _ (List.getElem_mem hi)))]
   rw [drop_cons hi, goE_cons] at h
   refine Ok.ite_i (fun hc => ?_) (fun hc => ?_)
   ·rw [decide_eq_true_iff] at hc
    rw [if_pos hc] at h
    rw [Ok.pure, h]; rfl
   ·rw [decide_eq_true_iff] at hc
    rw [if_neg hc] at h
    have hx : GoodC C[i] m := goodC (by omega)
    have hpre2 : ∀ y ∈ C.take (i + 1), GoodC y m := by
     rw [take_snoc hi]
     intro y hy
     rcases List.mem_append.1 hy with h | h
     ·exact hpre y h
     ·rw [List.mem_singleton] at h; subst h; exact hx
    refine Ok.ite_i (fun hk => ?_) (fun hk => ?_)
    ·rw [decide_eq_true_iff] at hk
     rw [Ok.bind, Ok.pure, hmet, ← dup_met hpre hx hk]
     refine Ok.ite_i (fun hb => ?_) (fun hb => ?_)
     ·rw [if_pos hb] at h
      rw [Ok.pure, h]; rfl
     ·rw [if_neg hb] at h
      unfold court_Check_j3
      rw [Ok.pure]
      refine ⟨Comp.zR (by omega), by rw [take_snoc hi]; exact h, hpre2, fun k g => ?_⟩
      dsimp only
      rw [mget_mput, take_snoc hi]
      unfold metB
      rw [List.any_append]
      have hm2 := hmet k g
      unfold metB at hm2
      rw [← hm2]
      by_cases e : (#v[k, g] : Vector Int 2) = #v[C[i].Kind, C[i].Gauge]
      ·rw [if_pos e]
       rw [v2_eq] at e
       simp [e.1, e.2, hk]
      ·rw [if_neg e]
       rw [v2_eq] at e
       have : ([C[i]].any fun y => decide (y.Kind ≠ 2) && (decide (k = y.Kind) && decide (g = y.Gauge))) = false := by
        rw [List.any_eq_false]
        intro y hy
        rw [List.mem_singleton] at hy
        subst hy
        simp only [Bool.and_eq_true, decide_eq_true_iff]
        exact fun q => e q.2
       rw [this, Bool.or_false]
    ·rw [decide_eq_true_iff, ne_eq, Decidable.not_not] at hk
     rw [dup_two hk, if_neg (by simp)] at h
     unfold court_Check_j3
     rw [Ok.pure]
     refine ⟨Comp.zR (by omega), by rw [take_snoc hi]; exact h, hpre2, fun k g => ?_⟩
     dsimp only
     rw [hmet, take_snoc hi]
     unfold metB
     rw [List.any_append]
     simp [hk]
  ·rintro ⟨mp, s⟩ ⟨h0, h, _⟩
   dsimp only at h0
   subst h0
   show Ok (gS C m mp (C.length : Int)) _
   unfold gS
   rw [Ok.ite, if_neg (by simp), Ok.pure, h]
   rw [List.drop_length]; rfl
 exact Ok.val key
def farB (m : Int) (x : api_Sight) : Bool := ((decide (x.Gauge < 0) || decide (x.Gauge ≥ 8)) || decide (x.Cell < 0)) || decide (x.Cell ≥ m)
theorem sights_val {l : List api_Sight} {m : Int} (hl : l.length ≤ 40) : (court_Check_j1 l m).val = some (if l.any (farB m) then 3 else 0) := by
 have := Comp.loop_any (body := fun s => gt l m s) l (farB m) 3 (by
  intro i y hy
  have hi := zu hy
  show (gt l m (i : Int)).val = _
  unfold gt
  rw [ya, Comp.zL, if_pos (by simpa using hi), Comp.zH, yh hy, Option.bind_some, Comp.zH, Comp.zI, Option.bind_some, Comp.zL, Comp.zI, Comp.zI, Comp.zR (by omega), bif_or, bif_or, bif_or]
  unfold farB
  split <;> rfl) (by
  show (gt l m (l.length : Int)).val = _
  unfold gt
  rw [Comp.zL, if_neg (by simp), Comp.zI])
 unfold court_Check_j1
 rw [Comp.zH, this, Option.bind_some]
 cases l.any (farB m)
 ·simp [court_Check_j4]
 ·simp
theorem rsights_val {l : List api_Sight} {m : Int} (hl : l.length ≤ 40) : (jU l m).val = some (if l.any (farB m) then 3 else 0) := by
 have := Comp.loop_any (body := fun s => yx l m s) l (farB m) 3 (by
  intro i y hy
  have hi := zu hy
  show (yx l m (i : Int)).val = _
  unfold yx
  rw [ya, Comp.zL, if_pos (by simpa using hi)]
  simp only [Comp.zH, yh hy, Option.bind_some, Comp.jv, Comp.zI, Comp.zL, Comp.zR (show i < 9223372036854775807 by omega)]
  unfold farB
  by_cases a1 : y.Gauge < 0 <;> by_cases a2 : y.Gauge ≥ 8 <;> by_cases a3 : y.Cell < 0 <;> by_cases a4 : y.Cell ≥ m <;> simp only [a1, a2, a3, a4, decide_true, decide_false, cond_true, cond_false, beq_true, beq_false, Bool.not_true, Bool.not_false, Bool.false_eq_true, if_true, if_false, Option.bind_some, Bool.or_true, Bool.or_false, Bool.true_or, Bool.false_or]) (by
  show (yx l m (l.length : Int)).val = _
  unfold yx
  rw [Comp.zL, if_neg (by simp), Comp.zI])
 unfold jU
 rw [Comp.zH, this, Option.bind_some]
 cases l.any (farB m)
 ·simp [colletref43_Check_j4]
 ·simp
def checkE (C : List api_Claim) (l : List api_Sight) (m : Int) : Int :=
 if (decide (m < 1) || decide (m > 16)) = true then 3 else if (decide ((C.length : Int) > 10) || decide ((l.length : Int) > 40)) = true then 2
 else match goE m [] C with | some c => c | none => if l.any (farB m) then 3 else 0
theorem Check_val {C : List api_Claim} {l : List api_Sight} (m : Int) (hC : ∀ x ∈ C, SmallC x) : (court_Check C l m).val = some (checkE C l m) := by
 unfold court_Check checkE
 rw [Comp.zH, Comp.zI, Option.bind_some, Comp.zL, bif_or]
 split
 ·rw [Comp.zI]
 rw [Comp.zH, Comp.zI, Option.bind_some, Comp.zL, bif_or]
 split
 ·rw [Comp.zI]
 rename_i h1 h2
 simp only [Bool.or_eq_true, decide_eq_true_iff, not_or] at h2
 rw [Comp.zH, check_loop hC (by omega), Option.bind_some]
 cases goE m [] C with
 | some c => exact Comp.zI c
 | none => exact sights_val (by omega)
theorem rCheck_val {C : List api_Claim} {l : List api_Sight} (m : Int) (hC : ∀ x ∈ C, SmallC x) : (gl C l m).val = some (checkE C l m) := by
 unfold gl checkE
 rw [Comp.zH, Comp.zI, Option.bind_some, Comp.zL, bif_or]
 split
 ·rw [Comp.zI]
 rw [Comp.zH, Comp.zI, Option.bind_some, Comp.zL, bif_or]
 split
 ·rw [Comp.zI]
 rename_i h1 h2
 simp only [Bool.or_eq_true, decide_eq_true_iff, not_or] at h2
 rw [Comp.zH, rcheck_loop hC (by omega), Option.bind_some]
 cases goE m [] C with
 | some c => exact Comp.zI c
 | none => exact rsights_val (by omega)
structure GoodL (C : List api_Claim) (l : List api_Sight) (m : Int) : Prop where
 cells : 1 ≤ m ∧ m ≤ 16
 len : C.length ≤ 10 ∧ l.length ≤ 40
 each : ∀ x ∈ C, GoodC x m
 one : ∀ (i j : Nat) (x y : api_Claim), C[i]? = some x → C[j]? = some y → x.Kind = 1 → y.Kind = 1 → i = j
theorem goE_good {m : Int} : ∀ (C pre : List api_Claim), goE m pre C = none → (∀ x ∈ C, GoodC x m ∧ ∃ z, z = x) ∧ (∀ i x, C[i]? = some x → x.Kind = 1 → ∀ y, y ∈ pre ++ C.take i → y.Kind ≠ 1)
 | [], pre, _ => ⟨by simp, by simp⟩
 | x :: C, pre, h => by
  unfold goE at h
  split at h; · cases h
  split at h; · cases h
  rename_i h1 h2
  have ih := goE_good C (pre ++ [x]) h
  refine ⟨?_, ?_⟩
  ·intro y hy
   rcases List.mem_cons.1 hy with rfl | hy
   ·exact ⟨goodC (by simpa using h1), _, rfl⟩
   ·exact ih.1 y hy
  ·intro i y hy hk z hz
   cases i with
   | zero =>
    simp at hy; subst hy
    simp at hz
    intro hz1
    apply h2
    unfold dupB
    rw [List.any_eq_true]
    exact ⟨z, hz, by simp [hz1, hk]⟩
   | succ i =>
    exact ih.2 i y (by simpa using hy) hk z (by simpa using hz)
theorem goodL {C : List api_Claim} {l : List api_Sight} {m : Int} (h : checkE C l m = 0) : GoodL C l m := by
 unfold checkE at h
 split at h; · cases h
 split at h; · cases h
 rename_i h1 h2
 simp only [Bool.or_eq_true, decide_eq_true_iff, not_or] at h1 h2
 have hg : goE m [] C = none ∨ ∃ c, goE m [] C = some c ∧ c = 0 := by
  cases e : goE m [] C with
  | none => exact .inl rfl
  | some c => rw [e] at h; exact .inr ⟨c, rfl, h⟩
 have hno : ∀ (C pre : List api_Claim) c, goE m pre C = some c → c ≠ 0 := by
  intro C
  induction C with
  | nil => intro pre c h; cases h
  | cons x C ih =>
   intro pre c h
   unfold goE at h
   split at h
   ·rename_i hx; cases h; exact hx
   split at h
   ·cases h; decide
   ·exact ih _ _ h
 rcases hg with hg | ⟨c, hg, rfl⟩
 ·obtain ⟨h3, h4⟩ := goE_good C [] hg
  refine ⟨by omega, by omega, fun x hx => (h3 x hx).1, ?_⟩
  intro i j x y hx hy hkx hky
  rcases Nat.lt_trichotomy i j with hlt | he | hlt
  ·exact absurd hkx (h4 j y hy hky x (by
    rw [List.nil_append]
    have hj := zu hy
    exact List.mem_of_getElem? (i := i) (by rw [List.getElem?_take_of_lt hlt]; exact hx)))
  ·exact he
  ·exact absurd hky (h4 i x hx hkx y (by
    rw [List.nil_append]
    exact List.mem_of_getElem? (i := j) (by rw [List.getElem?_take_of_lt hlt]; exact hy)))
 ·exact absurd rfl (hno _ _ _ hg)
end Go.Crt
end
section
set_option linter.unusedVariables false
set_option linter.unusedSimpArgs false
namespace Go.Crt
open Go Go.Lift Go.F Go.Cor
variable {α β : Type}
def saidS (l : List api_Sight) (g c : Int) (t : Bool) : Bool := l.any fun s => (decide (s.Gauge = g) && decide (s.Cell = c)) && decide (s.There = t)
def qT (l : List api_Sight) (S : Nat) (c : Int) (t : Bool) (p : api_Claim × Nat) : Bool := (S.testBit p.2 && decide (p.1.Kind = 3)) && saidS l p.1.Gauge c t
def qS (S : Nat) (c : Int) (p : api_Claim × Nat) : Bool := (S.testBit p.2 && decide (p.1.Kind = 1)) && !p.1.Touched.contains c
def qE (S : Nat) (c : Int) (p : api_Claim × Nat) : Bool := (S.testBit p.2 && decide (p.1.Kind = 1)) && p.1.Touched.contains c
def qK (S : Nat) (c : Int) (p : api_Claim × Nat) : Bool := (S.testBit p.2 && decide (p.1.Kind = 2)) && p.1.Sure.contains c
def qL (S : Nat) (c : Int) (p : api_Claim × Nat) : Bool := decide (p.1.Kind = 2) && (!S.testBit p.2 || p.1.Touched.contains c)
def badB (C : List api_Claim) (l : List api_Sight) (S : Nat) (c : Int) : Bool :=
 (C.zipIdx.any (qT l S c true) && (C.zipIdx.any (qT l S c false) || C.zipIdx.any (qS S c) || C.zipIdx.any (qK S c))) || (C.zipIdx.any (qT l S c false) && C.zipIdx.any (qE S c) && !C.zipIdx.any (qL S c))
theorem zip_get {C : List α} {i : Nat} {x : α} (h : C[i]? = some x) : C.zipIdx[i]? = some (x, i) := by
 rw [List.getElem?_zipIdx, h]; simp
theorem zip_len (C : List α) : C.zipIdx.length = C.length := List.length_zipIdx
def jV (l : List api_Sight) (x : api_Claim) : court_voice :=
 if x.Kind = 1 then .c101 ⟨x.Touched⟩ else if x.Kind = 2 then .c96 ⟨x.Sure, x.Touched⟩ else .c102 (l.filter fun y => decide (y.Gauge = x.Gauge))
theorem own_val {l : List api_Sight} (x : api_Claim) (hl : l.length ≤ 40) : (Comp.loop (fun s : List api_Sight × Int => vv l x s.1 s.2) ([], 0)).val = some (l.filter fun y => decide (y.Gauge = x.Gauge)) := by
 have hL : LIM = 1073741824 := rfl
 have := Comp.loop_fold (body := fun s : List api_Sight × Int => vv l x s.1 s.2) l (fun acc y => if decide (y.Gauge = x.Gauge) = true then acc ++ [y] else acc) id (fun a i => a.length ≤ i) []
  (by
   intro a i y hy hI
   have hi := zu hy
   show (vv l x a (i : Int)).val = _
   unfold vv court_voices_j6
   rw [ya, Comp.zL, if_pos (by simpa using hi), Comp.zH, yh hy, Option.bind_some, Comp.zL]
   split
   ·rw [Comp.zH, app_val (by simp; omega), Option.bind_some, Comp.zI, Comp.zR (by omega)]
   ·rw [Comp.zI, Comp.zR (by omega)])
  (by
   intro a i y hy hI
   split
   ·simp; omega
   ·omega)
  (by
   intro a _
   show (vv l x a (l.length : Int)).val = _
   unfold vv
   rw [Comp.zL, if_neg (by simp), Comp.zI]; rfl)
  (Nat.le_refl _)
 rw [this, Comp.foldl_filter]; rfl
theorem voices_val {C : List api_Claim} {l : List api_Sight} (hC : C.length ≤ 10) (hl : l.length ≤ 40) : (court_voices C l).val = some (C.map (jV l)) := by
 have hL : LIM = 1073741824 := rfl
 have key : Ok (court_voices C l) (fun v => v = C.map (jV l)) := by
  unfold court_voices
  rw [Ok.bind]
  refine Ok.mono (P := fun v => v = C.map (jV l)) ?_ (fun v hv => by unfold court_voices_j1; exact Ok.pure.2 hv)
  refine Ok.count C.length (fun i s => s.2 = (i : Int) ∧ s.1 = (C.take i).map (jV l)) ⟨rfl, by simp⟩ ?_ ?_
  ·rintro i ⟨a, s⟩ hi ⟨h0, h1⟩
   dsimp only at h0 h1
   subst h0 h1
   have hg := List.getElem?_eq_getElem hi
   show Ok (gu C l ((C.take i).map (jV l)) (i : Int)) _
   have fin : ∀ v, v = jV l C[i] → (C.take i).map (jV l) ++ [v] = (C.take (i + 1)).map (jV l) := by
    intro v hv
    rw [take_snoc hi, List.map_append, hv]; rfl
   unfold gu jk
   rw [Ok.ite, if_pos (by simp; omega), Ok.bind, Ok.idxn hg]
   refine Ok.ite_i (fun hk => ?_) (fun hk => ?_)
   ·rw [decide_eq_true_iff] at hk
    rw [Ok.bind, Ok.app (by simp; omega), Ok.pure]
    exact ⟨Comp.zR (by omega), fin _ (by unfold jV; rw [if_pos hk])⟩
   ·rw [decide_eq_true_iff] at hk
    refine Ok.ite_i (fun hk2 => ?_) (fun hk2 => ?_)
    ·rw [decide_eq_true_iff] at hk2
     rw [Ok.bind, Ok.app (by simp; omega), Ok.pure]
     exact ⟨Comp.zR (by omega), fin _ (by unfold jV; rw [if_neg hk, if_pos hk2])⟩
    ·rw [decide_eq_true_iff] at hk2
     rw [Ok.bind, Ok.vd (own_val _ hl)]
     unfold court_voices_j4 jk
     rw [Ok.bind, Ok.app (by simp; omega), Ok.pure]
     exact ⟨Comp.zR (by omega), fin _ (by unfold jV; rw [if_neg hk, if_neg hk2])⟩
  ·rintro ⟨a, s⟩ ⟨h0, h1⟩
   dsimp only at h0 h1
   subst h0 h1
   show Ok (gu C l ((C.take C.length).map (jV l)) (C.length : Int)) _
   unfold gu
   rw [Ok.ite, if_neg (by simp), Ok.pure, List.take_length]
 exact Ok.val key
theorem gspeak_val {o : List api_Sight} (c : Int) (f : court_fate) (ho : o.length ≤ 40) :
  (gj o c f).val = some ⟨f.solid_, f.empty_, f.taken_, f.loose_, f.there_ || o.any (fun s => decide (s.Cell = c) && decide (s.There = true)), f.gone_ || o.any (fun s => decide (s.Cell = c) && decide (s.There = false))⟩ := by
 have key : Ok (gj o c f) (fun r => r = ⟨f.solid_, f.empty_, f.taken_, f.loose_, f.there_ || o.any (fun s => decide (s.Cell = c) && decide (s.There = true)), f.gone_ || o.any (fun s => decide (s.Cell = c) && decide (s.There = false))⟩) := by
  unfold gj
  rw [Ok.bind]
  refine Ok.mono (P := fun r => r = ⟨f.solid_, f.empty_, f.taken_, f.loose_, f.there_ || o.any (fun s => decide (s.Cell = c) && decide (s.There = true)), f.gone_ || o.any (fun s => decide (s.Cell = c) && decide (s.There = false))⟩) ?_ (fun r hr => Ok.pure.2 hr)
  refine Ok.count o.length (fun i s => s.1 = (i : Int) ∧ s.2 = ⟨f.solid_, f.empty_, f.taken_, f.loose_, f.there_ || (o.take i).any (fun s => decide (s.Cell = c) && decide (s.There = true)), f.gone_ || (o.take i).any (fun s => decide (s.Cell = c) && decide (s.There = false))⟩) ⟨rfl, by simp⟩ ?_ ?_
  ·rintro i ⟨s, a⟩ hi ⟨h0, h1⟩
   dsimp only at h0 h1
   subst h0 h1
   have hg := List.getElem?_eq_getElem hi
   show Ok (vM o c (i : Int) _) _
   unfold vM jS
   rw [Ok.ite, if_pos (by simp; omega), Ok.bind, Ok.idxn hg, any_take hg, any_take hg]
   refine Ok.ite_i (fun hk => ?_) (fun hk => ?_)
   ·rw [Ok.pure]
    refine ⟨Comp.zR (by omega), ?_⟩
    rw [decide_eq_true_iff] at hk
    cases o[i].There <;> simp [hk]
   ·rw [Ok.pure]
    refine ⟨Comp.zR (by omega), ?_⟩
    rw [decide_eq_true_iff] at hk
    simp [hk]
  ·rintro ⟨s, a⟩ ⟨h0, h1⟩
   dsimp only at h0 h1
   subst h0 h1
   show Ok (vM o c (o.length : Int) _) _
   unfold vM
   rw [Ok.ite, if_neg (by simp), Ok.pure, List.take_length]
 exact Ok.val key
def fateOf (l : List api_Sight) (S : Nat) (c : Int) (Z : List (api_Claim × Nat)) : court_fate :=
 ⟨!Z.any (qS S c), !Z.any (qE S c), Z.any (qK S c), Z.any (qL S c), Z.any (qT l S c true), Z.any (qT l S c false)⟩
theorem any_filter' (p q : α → Bool) : ∀ l : List α, (l.filter p).any q = l.any fun x => p x && q x
 | [] => rfl
 | x :: l => by
  rw [List.filter_cons, List.any_cons, ← any_filter' p q l]
  cases p x <;> simp
theorem fates_val {C : List api_Claim} {l : List api_Sight} {S : Nat} {m : Int} (c : Int) (hS : S < 1024) (hC : C.length ≤ 10) (hl : l.length ≤ 40) (hs : ∀ x ∈ C, SmallC x) (hg : ∀ x ∈ C, GoodC x m) :
  (Comp.loop (fun s : Int × court_fate => vw (C.map (jV l)) (S : Int) c s.1 s.2) (0, ⟨true, true, false, false, false, false⟩)).val = some (fateOf l S c C.zipIdx) := by
 have key : Ok (Comp.loop (fun s : Int × court_fate => vw (C.map (jV l)) (S : Int) c s.1 s.2) (0, ⟨true, true, false, false, false, false⟩)) (fun r => r = fateOf l S c C.zipIdx) := by
  refine Ok.count C.length (fun i s => s.1 = (i : Int) ∧ s.2 = fateOf l S c (C.zipIdx.take i)) ⟨rfl, by simp [fateOf]⟩ ?_ ?_
  ·rintro i ⟨s, a⟩ hi ⟨h0, h1⟩
   dsimp only at h0 h1
   subst h0 h1
   have hx := List.getElem?_eq_getElem hi
   have hz := zip_get hx
   have hv : (C.map (jV l))[i]? = some (jV l C[i]) := by rw [List.getElem?_map, hx]; rfl
   have hgx := hg _ (List.getElem_mem hi)
   have hsx := hs _ (List.getElem_mem hi)
   have hk := hgx.kind
   show Ok (vw (C.map (jV l)) (S : Int) c (i : Int) _) _
   have e : fateOf l S c (C.zipIdx.take (i + 1)) = ⟨!((C.zipIdx.take i).any (qS S c) || qS S c (C[i], i)), !((C.zipIdx.take i).any (qE S c) || qE S c (C[i], i)), (C.zipIdx.take i).any (qK S c) || qK S c (C[i], i), (C.zipIdx.take i).any (qL S c) || qL S c (C[i], i), (C.zipIdx.take i).any (qT l S c true) || qT l S c true (C[i], i), (C.zipIdx.take i).any (qT l S c false) || qT l S c false (C[i], i)⟩ := by
    unfold fateOf
    rw [any_take hz, any_take hz, any_take hz, any_take hz, any_take hz, any_take hz]
   rw [e]
   unfold fateOf
   generalize (C.zipIdx.take i).any (qS S c) = b1
   generalize (C.zipIdx.take i).any (qE S c) = b2
   generalize (C.zipIdx.take i).any (qK S c) = b3
   generalize (C.zipIdx.take i).any (qL S c) = b4
   generalize (C.zipIdx.take i).any (qT l S c true) = b5
   generalize (C.zipIdx.take i).any (qT l S c false) = b6
   unfold vw court_agrees_j5 qS qE qK qL qT
   dsimp only
   rw [Ok.ite, if_pos (by simp; omega), Ok.bind, Ok.idxn hv, Ok.bind, Ok.vo (by omega), Ok.bind, Ok.pure, bit_eq (by omega) (by omega)]
   unfold jV
   by_cases k1 : C[i].Kind = 1
   ·rw [if_pos k1]
    cases ht : S.testBit i with
    | true =>
     rw [Ok.ite, if_pos rfl, Ok.bind]
     show Ok (court_blank_speak ⟨C[i].Touched⟩ c _) _
     unfold court_blank_speak
     rw [Ok.bind, Ok.vd (has_val c hsx.2)]
     cases hc : C[i].Touched.contains c with
     | true => rw [Ok.ite, if_pos rfl, Ok.pure, Ok.pure]; exact ⟨Comp.zR (by omega), by simp [k1]⟩
     | false => rw [Ok.ite, if_neg (by simp), Ok.pure, Ok.pure]; exact ⟨Comp.zR (by omega), by simp [k1]⟩
    | false =>
     rw [Ok.ite, if_neg (by simp), Ok.ite, if_neg (by simp [court_voice.as96]), Ok.pure]
     exact ⟨Comp.zR (by omega), by simp [k1]⟩
   ·rw [if_neg k1]
    by_cases k2 : C[i].Kind = 2
    ·rw [if_pos k2]
     cases ht : S.testBit i with
     | true =>
      rw [Ok.ite, if_pos rfl, Ok.bind]
      show Ok (court_cut_speak ⟨C[i].Sure, C[i].Touched⟩ c _) _
      unfold court_cut_speak
      rw [Ok.bind, Ok.gd]
      cases b3 <;> cases b4 <;> simp only [beq_self_eq_true, Bool.true_eq_false, if_true, if_false, reduceIte, Bool.true_beq, Bool.false_eq_true]
      all_goals first | rw [Ok.vd (has_val c hsx.1)] | skip
      all_goals (rw [Ok.bind, Ok.gd]; simp only [beq_self_eq_true, Bool.true_eq_false, if_true, if_false, reduceIte, Bool.true_beq, Bool.false_eq_true])
      all_goals first | rw [Ok.vd (has_val c hsx.2)] | skip
      all_goals (rw [Ok.pure, Ok.pure]; exact ⟨Comp.zR (by omega), by simp [k2]⟩)
     | false =>
      rw [Ok.ite, if_neg (by simp), Ok.ite, if_pos (by simp [court_voice.as96]), Ok.pure]
      exact ⟨Comp.zR (by omega), by simp [k2]⟩
    ·rw [if_neg k2]
     have k3 : C[i].Kind = 3 := by omega
     cases ht : S.testBit i with
     | true =>
      rw [Ok.ite, if_pos rfl, Ok.bind]
      show Ok (gj (l.filter fun y => decide (y.Gauge = C[i].Gauge)) c _) _
      rw [Ok.vd (gspeak_val c _ (Nat.le_trans (List.length_filter_le _ _) hl)), Ok.pure, any_filter', any_filter']
      refine ⟨Comp.zR (by omega), ?_⟩
      simp [k3, saidS, Bool.and_assoc]
     | false =>
      rw [Ok.ite, if_neg (by simp), Ok.ite, if_neg (by simp [court_voice.as96]), Ok.pure]
      exact ⟨Comp.zR (by omega), by simp [k3]⟩
  ·rintro ⟨s, a⟩ ⟨h0, h1⟩
   dsimp only at h0 h1
   subst h0 h1
   show Ok (vw (C.map (jV l)) (S : Int) c (C.length : Int) _) _
   unfold vw
   rw [Ok.ite, if_neg (by simp), Ok.pure, ← zip_len C, List.take_length]
 exact Ok.val key
def agreeB (C : List api_Claim) (l : List api_Sight) (M S : Nat) : Bool := !(List.range M).any fun c => badB C l S (c : Int)
theorem agrees_val {C : List api_Claim} {l : List api_Sight} {M S : Nat} {m : Int} (hM : M ≤ 16) (hS : S < 1024) (hC : C.length ≤ 10) (hl : l.length ≤ 40) (hs : ∀ x ∈ C, SmallC x) (hg : ∀ x ∈ C, GoodC x m) :
  (court_agrees (C.map (jV l)) (M : Int) (S : Int)).val = some (agreeB C l M S) := by
 have key : Ok (court_agrees (C.map (jV l)) (M : Int) (S : Int)) (fun b => b = agreeB C l M S) := by
  unfold court_agrees
  rw [Ok.bind]
  refine Ok.mono (P := fun b => b = agreeB C l M S) ?_ (fun b hb => by unfold court_agrees_j1; exact Ok.pure.2 hb)
  refine Ok.count M (fun i s => s = (true, (i : Int)) ∧ (List.range i).any (fun c => badB C l S (c : Int)) = false) ⟨rfl, rfl⟩ ?_ ?_
  ·rintro i s hi ⟨rfl, h1⟩
   show Ok (gv (M : Int) (C.map (jV l)) (S : Int) true (i : Int)) _
   unfold gv
   rw [Ok.ite, if_pos (by simp; omega), Ok.bind, Ok.vd (fates_val (i : Int) hS hC hl hs hg)]
   unfold court_agrees_j3
   rw [Ok.bind, Ok.pure]
   have e : (bif (bif (fateOf l S (i : Int) C.zipIdx).there_ then (bif (bif (fateOf l S (i : Int) C.zipIdx).gone_ then true else (!(fateOf l S (i : Int) C.zipIdx).solid_)) then true else (fateOf l S (i : Int) C.zipIdx).taken_) else false) then true else (bif (bif (fateOf l S (i : Int) C.zipIdx).gone_ then (!(fateOf l S (i : Int) C.zipIdx).empty_) else false) then (!(fateOf l S (i : Int) C.zipIdx).loose_) else false)) = badB C l S (i : Int) := by
    unfold fateOf badB
    dsimp only
    rw [bif_or, bif_or, bif_or, bif_and, bif_and, bif_and, Bool.not_not, Bool.not_not]
   rw [e]
   have hr : (List.range (i + 1)).any (fun c => badB C l S (c : Int)) = badB C l S (i : Int) := by
    rw [List.range_succ, List.any_append, h1]; simp
   refine Ok.ite_i (fun hb => ?_) (fun hb => ?_)
   ·rw [Ok.pure]
    show false = agreeB C l M S
    unfold agreeB
    symm
    rw [Bool.not_eq_false', List.any_eq_true]
    exact ⟨i, List.mem_range.2 hi, hb⟩
   ·rw [Ok.pure]
    refine ⟨by rw [Comp.zR (by omega)], ?_⟩
    rw [hr]; simpa using hb
  ·rintro s ⟨rfl, h1⟩
   show Ok (gv (M : Int) (C.map (jV l)) (S : Int) true (M : Int)) _
   unfold gv
   rw [Ok.ite, if_neg (by simp), Ok.pure]
   unfold agreeB
   rw [h1]; rfl
 exact Ok.val key
theorem bit_zero {a k : Nat} (ha : a < 4611686018427387904) (hk : k < 62) : (decide (andB .i64 (shrF .i64 (a : Int) (k : Int)) 1 = 0)) = !a.testBit k := by
 rw [← bit_eq ha hk, low_bit (by omega)]
 have : U (a : Int) / 2 ^ k % 2 < 2 := Nat.mod_lt _ (by omega)
 generalize U (a : Int) / 2 ^ k % 2 = n at this
 rcases (by omega : n = 0 ∨ n = 1) with rfl | rfl <;> rfl
theorem said_val {C : List api_Claim} {l : List api_Sight} {S : Nat} (c : Int) (t : Bool) (hS : S < 1024) (hC : C.length ≤ 10) (hl : l.length ≤ 40) :
  (jy C l (S : Int) c t).val = some (C.zipIdx.any (qT l S c t)) := by
 have := Comp.loop_any (body := fun s => vJ C (S : Int) l c t s) C.zipIdx (qT l S c t) true (by
  rintro i ⟨x, j⟩ hx
  have hi : i < C.length := by have := zu hx; rwa [zip_len] at this
  have hg := List.getElem?_eq_getElem hi
  rw [zip_get hg] at hx
  obtain ⟨rfl, rfl⟩ : C[i] = x ∧ i = j := by cases hx; exact ⟨rfl, rfl⟩
  show (vJ C (S : Int) l c t (i : Int)).val = _
  unfold vJ jm
  rw [ya, Comp.zL, if_pos (by simpa using hi), Comp.zH, vH (by omega), Option.bind_some, bit_zero (by omega) (by omega)]
  have hq : (Comp.loop (fun s => yq l C (i : Int) c t s) 0).val = some (if saidS l C[i].Gauge c t then .inl true else .inr ()) := by
   refine Comp.loop_any (body := fun s => yq l C (i : Int) c t s) l (fun s => (decide (s.Gauge = C[i].Gauge) && decide (s.Cell = c)) && decide (s.There = t)) true ?_ ?_
   ·intro j y hy
    have hj := zu hy
    show (yq l C (i : Int) c t (j : Int)).val = _
    unfold yq
    rw [ya, Comp.zL, if_pos (by simpa using hj)]
    simp only [Comp.zH, yh hy, yh hg, Option.bind_some, Comp.jv, Comp.zI, Comp.zL, Comp.zR (show j < 9223372036854775807 by omega)]
    by_cases a1 : y.Gauge = C[i].Gauge <;> by_cases a2 : y.Cell = c <;> by_cases a3 : y.There = t <;> simp only [a1, a2, a3, decide_true, decide_false, cond_true, cond_false, beq_true, beq_false, Bool.not_true, Bool.not_false, Bool.false_eq_true, if_true, if_false, Option.bind_some, Bool.or_true, Bool.or_false, Bool.true_or, Bool.false_or, Bool.and_true, Bool.and_false, Bool.true_and, Bool.false_and]
   ·show (yq l C (i : Int) c t (l.length : Int)).val = _
    unfold yq
    rw [Comp.zL, if_neg (by simp), Comp.zI]
  unfold qT
  cases ht : S.testBit i with
  | false => simp [Comp.zH, Comp.jv, Comp.zI, Comp.zL, Comp.zR (show i < 9223372036854775807 by omega)]
  | true =>
   by_cases k3 : C[i].Kind = 3
   ·simp only [Comp.zH, Comp.jv, yh hg, Comp.zI, Comp.zL, Option.bind_some, k3, Bool.not_true, beq_self_eq_true, if_true, cond_false, ne_eq, not_true, decide_false, Bool.false_eq_true, if_false, decide_true, Bool.true_and, hq]
    cases saidS l C[i].Gauge c t with
    | true => exact Comp.zI _
    | false => rw [if_neg (by simp)]; exact (Comp.zI _).trans (by rw [Comp.zR (by omega)]; rfl)
   ·simp [Comp.zH, Comp.jv, yh hg, Comp.zI, Comp.zL, k3, Comp.zR (show i < 9223372036854775807 by omega)]) (by
  show (vJ C (S : Int) l c t (C.zipIdx.length : Int)).val = _
  unfold vJ
  rw [zip_len, Comp.zL, if_neg (by simp), Comp.zI])
 unfold jy
 rw [Comp.zH, this, Option.bind_some]
 cases C.zipIdx.any (qT l S c t)
 ·simp [colletref43_said_j1]
 ·simp
def matI (a b : Bool) : Int := if a = true then -1 else if b = true then 1 else 0
theorem qK_qL {C : List api_Claim} {S : Nat} {c m : Int} (hg : ∀ x ∈ C, GoodC x m) (h : C.zipIdx.any (qK S c) = true) : C.zipIdx.any (qL S c) = true := by
 rw [List.any_eq_true] at h ⊢
 obtain ⟨⟨x, i⟩, h1, h2⟩ := h
 refine ⟨(x, i), h1, ?_⟩
 unfold qK at h2
 unfold qL
 simp only [Bool.and_eq_true, Bool.or_eq_true, decide_eq_true_iff, Bool.not_eq_true', List.contains_iff_mem] at h2 ⊢
 have hx : x ∈ C := by
  obtain ⟨j, hj⟩ := List.getElem?_of_mem h1
  rw [List.getElem?_zipIdx] at hj
  cases hc : C[j]? with
  | none => rw [hc] at hj; cases hj
  | some y => rw [hc] at hj; simp at hj; rw [← hj.1]; exact List.mem_of_getElem? hc
 exact ⟨h2.1.2, .inr ((hg x hx).part c h2.2)⟩
theorem can_val {C : List api_Claim} {l : List api_Sight} {S : Nat} {m : Int} (c : Int) (t : Bool) (hS : S < 1024) (hG : GoodL C l m) (hs : ∀ x ∈ C, SmallC x) :
  (jo C (S : Int) c t).val = some (if t = true then (!C.zipIdx.any (qS S c) && !C.zipIdx.any (qK S c)) else (!C.zipIdx.any (qE S c) || C.zipIdx.any (qL S c))) := by
 have hC := hG.len.1
 have key : Ok (jo C (S : Int) c t) (fun b => b = (if t = true then (!C.zipIdx.any (qS S c) && !C.zipIdx.any (qK S c)) else (!C.zipIdx.any (qE S c) || C.zipIdx.any (qL S c)))) := by
  unfold jo
  rw [Ok.bind]
  refine Ok.mono (P := fun r => r = (matI (C.zipIdx.any (qS S c)) (C.zipIdx.any (qE S c)), (if C.zipIdx.any (qK S c) = true then (1 : Int) else if C.zipIdx.any (qL S c) = true then 0 else -1)) ∧ ¬ (C.zipIdx.any (qS S c) = true ∧ C.zipIdx.any (qE S c) = true)) ?_ ?_
  ·refine Ok.count C.length (fun i s => s = (matI ((C.zipIdx.take i).any (qS S c)) ((C.zipIdx.take i).any (qE S c)), (if (C.zipIdx.take i).any (qK S c) = true then (1 : Int) else if (C.zipIdx.take i).any (qL S c) = true then 0 else -1), (i : Int)) ∧ ¬ ((C.zipIdx.take i).any (qS S c) = true ∧ (C.zipIdx.take i).any (qE S c) = true)) ⟨by simp [matI], by simp⟩ ?_ ?_
   ·rintro i s hi ⟨rfl, hno⟩
    have hg := List.getElem?_eq_getElem hi
    have hz := zip_get hg
    have hsx := hs _ (List.getElem_mem hi)
    have hk := (hG.each _ (List.getElem_mem hi)).kind
    have hone : C[i].Kind = 1 → (C.zipIdx.take i).any (qS S c) = false ∧ (C.zipIdx.take i).any (qE S c) = false := by
     intro hk1
     have : ∀ p ∈ C.zipIdx.take i, p.1.Kind ≠ 1 := by
      intro p hp hp1
      obtain ⟨j, hj⟩ := List.getElem?_of_mem hp
      have hji : j < i := by have := zu hj; rw [List.length_take] at this; omega
      rw [List.getElem?_take_of_lt hji, List.getElem?_zipIdx] at hj
      cases hc : C[j]? with
      | none => rw [hc] at hj; cases hj
      | some y =>
       rw [hc] at hj
       simp at hj
       rw [← hj] at hp1
       have := hG.one j i y C[i] hc hg hp1 hk1
       omega
     constructor <;>
     ·rw [List.any_eq_false]
      intro p hp
      simp [qS, qE, this p hp]
    rw [any_take hz, any_take hz, any_take hz, any_take hz]
    show Ok (vp C (S : Int) c _ _ (i : Int)) _
    generalize (C.zipIdx.take i).any (qS S c) = b1 at *
    generalize (C.zipIdx.take i).any (qE S c) = b2 at *
    generalize (C.zipIdx.take i).any (qK S c) = b3 at *
    generalize (C.zipIdx.take i).any (qL S c) = b4 at *
    unfold vp jE kF jF qS qE qK qL
    rw [Ok.ite, if_pos (by simp; omega), Ok.bind, Ok.vo (by omega), Ok.bind, Ok.pure, bit_eq (by omega) (by omega), Ok.bind, Ok.idxn hg, Ok.bind, Ok.vd (rhas_val c hsx.2), Ok.bind, Ok.idxn hg, Ok.bind, Ok.pure]
    have hsure := rhas_val c hsx.1
    generalize C[i].Touched.contains c = bt at *
    generalize C[i].Sure.contains c = bs at *
    generalize S.testBit i = bi at *
    have hw := Comp.zR (show i < 9223372036854775807 by omega)
    rcases (by omega : C[i].Kind = 1 ∨ C[i].Kind = 2 ∨ C[i].Kind = 3) with k | k | k
    ·obtain ⟨rfl, rfl⟩ := hone k
     dsimp only
     cases bi <;> cases bt <;> simp [k, Ok.ite, Ok.bind, Ok.idxn hg, Ok.pure, hw, matI]
    ·cases bi <;> cases bs <;> cases bt <;> cases b3 <;> cases b4 <;> simp [k, Ok.ite, Ok.bind, Ok.idxn hg, Ok.pure, hw, Ok.gd, Ok.vd hsure, hno] <;> simpa using hno
    ·cases bi <;> cases bt <;> simp [k, Ok.ite, Ok.bind, Ok.idxn hg, Ok.pure, hw] <;> simpa using hno
   ·rintro s ⟨rfl, hno⟩
    show Ok (vp C (S : Int) c _ _ (C.length : Int)) _
    unfold vp
    rw [Ok.ite, if_neg (by simp), Ok.pure]
    rw [← zip_len C, List.take_length] at hno ⊢
    exact ⟨rfl, hno⟩
  ·rintro r ⟨rfl, hno⟩
   show Ok (kG t _ _) _
   have hKL := qK_qL (S := S) (c := c) hG.each
   unfold kG matI
   generalize C.zipIdx.any (qS S c) = b1 at *
   generalize C.zipIdx.any (qE S c) = b2 at *
   generalize C.zipIdx.any (qK S c) = b3 at *
   generalize C.zipIdx.any (qL S c) = b4 at *
   cases t <;> cases b1 <;> cases b2 <;> cases b3 <;> cases b4 <;> simp [Ok.ite, Ok.bind, Ok.pure] at hno hKL ⊢
 exact Ok.val key
theorem ragrees_val {C : List api_Claim} {l : List api_Sight} {M S : Nat} (hM : M ≤ 16) (hS : S < 1024) (hG : GoodL C l (M : Int)) (hs : ∀ x ∈ C, SmallC x) :
  (jG C l (M : Int) (S : Int)).val = some (agreeB C l M S) := by
 have hC := hG.len.1
 have hl := hG.len.2
 have := Comp.loop_any (body := fun s => yn (M : Int) C l (S : Int) s) (List.range M) (fun c => badB C l S (c : Int)) false (by
  intro i x hx
  obtain ⟨hi, rfl⟩ := range_get hx
  show (yn (M : Int) C l (S : Int) (x : Int)).val = _
  unfold yn
  rw [decide_lt_nat, Comp.zL, if_pos (by simpa using hi)]
  simp only [Comp.zH, said_val (x : Int) _ hS hC hl, can_val (x : Int) _ hS hG hs, Option.bind_some, Comp.jv, Comp.zI, Comp.zL, Comp.zR (show x < 9223372036854775807 by omega)]
  unfold badB
  generalize C.zipIdx.any (qS S (x : Int)) = b1
  generalize C.zipIdx.any (qE S (x : Int)) = b2
  generalize C.zipIdx.any (qK S (x : Int)) = b3
  generalize C.zipIdx.any (qL S (x : Int)) = b4
  generalize C.zipIdx.any (qT l S (x : Int) true) = b5
  generalize C.zipIdx.any (qT l S (x : Int) false) = b6
  cases b5 <;> cases b6 <;> cases b1 <;> cases b2 <;> cases b3 <;> cases b4 <;> rfl) (by
  show (yn (M : Int) C l (S : Int) ((List.range M).length : Int)).val = _
  unfold yn
  rw [List.length_range, Comp.zL, if_neg (by simp), Comp.zI])
 unfold jG agreeB
 rw [Comp.zH, this, Option.bind_some]
 cases (List.range M).any fun c => badB C l S (c : Int)
 ·simp [kJ]
 ·simp
end Go.Crt
end
section
set_option linter.unusedVariables false
set_option linter.unusedSimpArgs false
namespace Go.Crt
open Go Go.Lift Go.F Go.Cor
variable {α β : Type}
def SmallL (C : List api_Claim) : Prop := ∀ x ∈ C, SmallC x
theorem pow_len {n : Nat} (h : n ≤ 10) : 2 ^ n ≤ 1024 := Nat.pow_le_pow_right (n := 2) (by omega) h
def agreesE (C : List api_Claim) (l : List api_Sight) (m s : Int) : Bool := decide (checkE C l m = 0) && decide (s ≥ 0) && decide (s < ((2 ^ C.length : Nat) : Int)) && agreeB C l m.toNat s.toNat
theorem Agrees_val {C : List api_Claim} {l : List api_Sight} (m s : Int) (hs : SmallL C) : (court_Agrees C l m s).val = some (agreesE C l m s) := by
 unfold court_Agrees agreesE
 rw [Comp.zH, Check_val m hs, Option.bind_some]
 simp only [bif_and, Comp.zH, Comp.jv, Comp.zI]
 by_cases h : checkE C l m = 0
 ·have hG := goodL h
  have hC := hG.len.1
  have hp := pow_len hC
  have hp0 := Nat.two_pow_pos C.length
  rw [decide_eq_true h, gz (by omega), vH (by omega), voices_val hC hG.len.2]
  by_cases h2 : s ≥ 0
  ·rw [decide_eq_true h2]
   by_cases h3 : s < ((2 ^ C.length : Nat) : Int)
   ·rw [decide_eq_true h3]
    have hv := agrees_val (C := C) (l := l) (M := m.toNat) (S := s.toNat) (m := m) (by have := hG.cells; omega) (by omega) hC hG.len.2 hs hG.each
    rw [show ((m.toNat : Nat) : Int) = m by have := hG.cells; omega, show ((s.toNat : Nat) : Int) = s by omega] at hv
    simp [hv]
   ·rw [decide_eq_false h3]; simp
  ·rw [decide_eq_false h2]; simp
 ·rw [decide_eq_false h]; simp
theorem rAgrees_val {C : List api_Claim} {l : List api_Sight} (m s : Int) (hs : SmallL C) : (kN C l m s).val = some (agreesE C l m s) := by
 unfold kN agreesE
 rw [Comp.zH, rCheck_val m hs, Option.bind_some]
 simp only [bif_and, Comp.zH, Comp.jv, Comp.zI]
 by_cases h : checkE C l m = 0
 ·have hG := goodL h
  have hC := hG.len.1
  have hp := pow_len hC
  have hp0 := Nat.two_pow_pos C.length
  rw [decide_eq_true h, gz (by omega), vH (by omega)]
  by_cases h2 : s ≥ 0
  ·rw [decide_eq_true h2]
   by_cases h3 : s < ((2 ^ C.length : Nat) : Int)
   ·rw [decide_eq_true h3]
    have hm : ((m.toNat : Nat) : Int) = m := by have := hG.cells; omega
    have hv := ragrees_val (C := C) (l := l) (M := m.toNat) (S := s.toNat) (by have := hG.cells; omega) (by omega) (by rw [hm]; exact hG) hs
    rw [hm, show ((s.toNat : Nat) : Int) = s by omega] at hv
    simp [hv]
   ·rw [decide_eq_false h3]; simp
  ·rw [decide_eq_false h2]; simp
 ·rw [decide_eq_false h]; simp
def okL (C : List api_Claim) (l : List api_Sight) (m : Int) : List Bool := own (2 ^ C.length) (agreeB C l m.toNat)
theorem Conflicts_bad {C : List api_Claim} {l : List api_Sight} {m : Int} (hs : SmallL C) (h : checkE C l m ≠ 0) : (vy C l m).val = some ([], checkE C l m) ∧ (yo C l m).val = some ([], checkE C l m) := by
 unfold vy yo
 rw [Comp.zH, Check_val m hs, Option.bind_some, Comp.zL, if_pos (by simpa using h), Comp.zI, Comp.zH, rCheck_val m hs, Option.bind_some, Comp.zL, if_pos (by simpa using h), Comp.zI]
 exact ⟨rfl, rfl⟩
theorem own_succ (i : Nat) (P : Nat → Bool) : own (i + 1) P = own i P ++ [P i] := by
 unfold own
 rw [List.range_succ, List.map_append]; rfl
theorem Conflicts_val {C : List api_Claim} {l : List api_Sight} {m : Int} (hs : SmallL C) (h : checkE C l m = 0) : (vy C l m).val = (gT (okL C l m)).val := by
 have hG := goodL h
 have hC := hG.len.1
 have hp := pow_len hC
 have hp0 := Nat.two_pow_pos C.length
 have hm : ((m.toNat : Nat) : Int) = m := by have := hG.cells; omega
 have hL : LIM = 1073741824 := rfl
 have key : Ok (Comp.loop (fun s : List Bool × Int => vS (List.replicate (2 ^ C.length) false) (C.map (jV l)) m s.1 s.2) (List.replicate (2 ^ C.length) false, 0)) (fun r => r = okL C l m) := by
  refine Ok.count (2 ^ C.length) (fun i s => s.2 = (i : Int) ∧ s.1.length = 2 ^ C.length ∧ s.1.take i = own i (agreeB C l m.toNat)) ⟨rfl, by simp, by simp [own]⟩ ?_ ?_
  ·rintro i ⟨a, s⟩ hi ⟨h0, h1, h2⟩
   dsimp only at h0 h1 h2
   subst h0
   show Ok (vS _ _ m a (i : Int)) _
   have hv := agrees_val (C := C) (l := l) (M := m.toNat) (S := i) (m := m) (by have := hG.cells; omega) (by omega) hC hG.len.2 hs hG.each
   rw [hm] at hv
   have hx : i < a.length := by omega
   unfold vS
   rw [Ok.ite, if_pos (by rw [decide_eq_true_iff, List.length_replicate]; omega), Ok.bind, Ok.vd hv, Ok.bind, Ok.idxn (List.getElem?_eq_getElem hx), Ok.bind, Ok.upd (by omega), Int.toNat_natCast, Ok.pure]
   refine ⟨Comp.zR (by omega), by simp [h1], ?_⟩
   rw [List.take_succ_eq_append_getElem (by simpa using hx), List.getElem_set_self, List.take_set_of_le (by omega), h2, own_succ]
  ·rintro ⟨a, s⟩ ⟨h0, h1, h2⟩
   dsimp only at h0 h1 h2
   subst h0
   show Ok (vS _ _ m a ((2 ^ C.length : Nat) : Int)) _
   unfold vS
   rw [Ok.ite, if_neg (by rw [decide_eq_true_iff, List.length_replicate]; omega), Ok.pure]
   rw [← h1, List.take_length, h1] at h2
   exact h2
 unfold vy
 rw [Comp.zH, Check_val m hs, Option.bind_some, h, Comp.zL, if_neg (by simp), Comp.zH, voices_val hC hG.len.2, Option.bind_some, Comp.zH, vH (by omega), Option.bind_some, gz (by omega), Comp.zH, mk_val (by omega), Option.bind_some, Int.toNat_natCast, Comp.zH, Ok.val key, Option.bind_some]
 unfold court_Conflicts_j1
 rw [Comp.zH]
 cases (gT (okL C l m)).val with
 | none => rfl
 | some r => rw [Option.bind_some, Comp.zI]
theorem rConflicts_val {C : List api_Claim} {l : List api_Sight} {m : Int} (hs : SmallL C) (h : checkE C l m = 0) : (yo C l m).val = (yp (okL C l m)).val := by
 have hG := goodL h
 have hC := hG.len.1
 have hp := pow_len hC
 have hp0 := Nat.two_pow_pos C.length
 have hm : ((m.toNat : Nat) : Int) = m := by have := hG.cells; omega
 have hL : LIM = 1073741824 := rfl
 have key : Ok (Comp.loop (fun s : List Bool × Int => yQ C l m s.1 s.2) ([], 0)) (fun r => r = okL C l m) := by
  refine Ok.count (2 ^ C.length) (fun i s => s.2 = (i : Int) ∧ s.1 = own i (agreeB C l m.toNat)) ⟨rfl, rfl⟩ ?_ ?_
  ·rintro i ⟨a, s⟩ hi ⟨h0, h1⟩
   dsimp only at h0 h1
   subst h0 h1
   show Ok (yQ C l m _ (i : Int)) _
   have hv := ragrees_val (C := C) (l := l) (M := m.toNat) (S := i) (by have := hG.cells; omega) (by omega) (by rw [hm]; exact hG) hs
   rw [hm] at hv
   unfold yQ
   rw [Ok.bind, Ok.vo (by omega), Ok.bind, Ok.pure, gz (by omega), Ok.ite, if_pos (by rw [decide_eq_true_iff]; omega), Ok.bind, Ok.vd hv, Ok.bind, Ok.app (by rw [own_len]; simp; omega), Ok.pure]
   exact ⟨Comp.zR (by omega), (own_succ _ _).symm⟩
  ·rintro ⟨a, s⟩ ⟨h0, h1⟩
   dsimp only at h0 h1
   subst h0 h1
   show Ok (yQ C l m _ ((2 ^ C.length : Nat) : Int)) _
   unfold yQ
   rw [Ok.bind, Ok.vo (by omega), Ok.bind, Ok.pure, gz (by omega), Ok.ite, if_neg (by rw [decide_eq_true_iff]; omega), Ok.pure]
   rfl
 unfold yo
 rw [Comp.zH, rCheck_val m hs, Option.bind_some, h, Comp.zL, if_neg (by simp), Comp.zH, Ok.val key, Option.bind_some]
 unfold jI
 rw [Comp.zH]
 cases (yp (okL C l m)).val with
 | none => rfl
 | some r => rw [Option.bind_some, Comp.zI]
theorem conflicts_same {C : List api_Claim} {l : List api_Sight} (m : Int) (hs : SmallL C) : ∃ H e, (vy C l m).val = some (H, e) ∧ (yo C l m).val = some (H, e) ∧ H.length ≤ LIM ∧ (e = 0 → checkE C l m = 0) := by
 by_cases h : checkE C l m = 0
 ·obtain ⟨H, e, h1, h2, h3⟩ := conf_same (x := okL C l m)
  exact ⟨H, e, by rw [Conflicts_val hs h, h1], by rw [rConflicts_val hs h, h2], h3, fun _ => h⟩
 ·obtain ⟨h1, h2⟩ := Conflicts_bad hs h
  exact ⟨[], _, h1, h2, by simp, id⟩
def bitZ (z : Int) (k : Nat) : Bool := (U z).testBit k
theorem bitZ_eq {z : Int} {k : Nat} (hk : k < 64) : andB .i64 (shrF .i64 z (k : Int)) 1 = if bitZ z k = true then 1 else 0 := by
 rw [low_bit hk]
 unfold bitZ
 rw [Nat.testBit_eq_decide_div_mod_eq]
 have : U z / 2 ^ k % 2 < 2 := Nat.mod_lt _ (by omega)
 generalize U z / 2 ^ k % 2 = n at this
 rcases (by omega : n = 0 ∨ n = 1) with rfl | rfl <;> rfl
theorem bitZ_one {z : Int} {k : Nat} (hk : k < 64) : decide (andB .i64 (shrF .i64 z (k : Int)) 1 = 1) = bitZ z k := by
 rw [bitZ_eq hk]; cases bitZ z k <;> rfl
def gN (z : Int) (Z : List (api_Claim × Nat)) : Nat := Z.countP fun p => decide (p.1.Kind = 3) && bitZ z p.2
theorem countP_take {p : α → Bool} {L : List α} {k : Nat} {x : α} (h : L[k]? = some x) : (L.take (k + 1)).countP p = (L.take k).countP p + if p x = true then 1 else 0 := by
 have hk := zu h
 rw [List.take_succ_eq_append_getElem hk, List.countP_append]
 have : L[k] = x := by rw [List.getElem?_eq_getElem hk] at h; exact Option.some.inj h
 rw [this, List.countP_cons, List.countP_nil]; omega
theorem gauges_val {C : List api_Claim} (z : Int) (hC : C.length ≤ 10) : (jD C z).val = some (gN z C.zipIdx : Int) := by
 have key : Ok (jD C z) (fun n => n = (gN z C.zipIdx : Int)) := by
  unfold jD
  rw [Ok.bind]
  refine Ok.mono (P := fun n => n = (gN z C.zipIdx : Int)) ?_ (fun n hn => by unfold kD; exact Ok.pure.2 hn)
  refine Ok.count C.length (fun i s => s = ((gN z (C.zipIdx.take i) : Int), (i : Int)) ∧ gN z (C.zipIdx.take i) ≤ i) ⟨rfl, by simp [gN]⟩ ?_ ?_
  ·rintro i s hi ⟨rfl, hle⟩
   have hg := List.getElem?_eq_getElem hi
   have hz := zip_get hg
   have hn : gN z (C.zipIdx.take (i + 1)) = gN z (C.zipIdx.take i) + if (decide (C[i].Kind = 3) && bitZ z i) = true then 1 else 0 := countP_take hz
   show Ok (vD C z _ (i : Int)) _
   unfold vD gx
   rw [Ok.ite, if_pos (by simp; omega), Ok.bind, Ok.vo (by omega), bitZ_one (by omega), Ok.bind, Ok.gd, hn]
   have hw := Comp.zR (show i < 9223372036854775807 by omega)
   have hw2 := Comp.zR (show gN z (C.zipIdx.take i) < 9223372036854775807 by omega)
   cases hb : bitZ z i with
   | true =>
    rw [if_pos (by rfl), Ok.idxn hg, Ok.bind, Ok.pure]
    by_cases k : C[i].Kind = 3
    ·rw [Ok.ite, if_pos (by simp [k]), Ok.pure]
     simp only [k, decide_true, Bool.and_self, if_true]
     exact ⟨by rw [hw, hw2], by omega⟩
    ·rw [Ok.ite, if_neg (by simp [k]), Ok.pure]
     simp only [k, decide_false, Bool.false_and, Bool.false_eq_true, if_false]
     exact ⟨by rw [hw]; rfl, by omega⟩
   | false =>
    rw [if_neg (by simp), Ok.bind, Ok.pure, Ok.ite, if_neg (by simp), Ok.pure]
    simp only [Bool.and_false, Bool.false_eq_true, if_false]
    exact ⟨by rw [hw]; rfl, by omega⟩
  ·rintro s ⟨rfl, hle⟩
   show Ok (vD C z _ (C.length : Int)) _
   unfold vD
   rw [Ok.ite, if_neg (by simp), Ok.pure, ← zip_len C, List.take_length]
 exact Ok.val key
theorem f1_val {C : List api_Claim} (z : Int) (n : Int) (hC : C.length ≤ 10) : (gk z C n).val = some (decide ((gN z C.zipIdx : Int) > n)) := by
 have key : Ok (gk z C n) (fun b => b = decide ((gN z C.zipIdx : Int) > n)) := by
  unfold gk
  rw [Ok.bind]
  refine Ok.mono (P := fun n => n = (gN z C.zipIdx : Int)) ?_ (fun r hr => by unfold kW; rw [hr]; exact Ok.pure.2 rfl)
  refine Ok.count C.length (fun i s => s = ((gN z (C.zipIdx.take i) : Int), (i : Int)) ∧ gN z (C.zipIdx.take i) ≤ i) ⟨rfl, by simp [gN]⟩ ?_ ?_
  ·rintro i s hi ⟨rfl, hle⟩
   have hg := List.getElem?_eq_getElem hi
   have hz := zip_get hg
   have hn : gN z (C.zipIdx.take (i + 1)) = gN z (C.zipIdx.take i) + if (decide (C[i].Kind = 3) && bitZ z i) = true then 1 else 0 := countP_take hz
   show Ok (vN C z _ (i : Int)) _
   unfold vN jT
   rw [Ok.ite, if_pos (by simp; omega), Ok.bind, Ok.idxn hg, hn]
   have hw := Comp.zR (show i < 9223372036854775807 by omega)
   have hw2 := Comp.zR (show gN z (C.zipIdx.take i) < 9223372036854775807 by omega)
   by_cases k : C[i].Kind = 3
   ·rw [Ok.ite, if_pos (by simp [k]), Ok.bind, Ok.vo (by omega), Ok.bind, Ok.pure, Ok.pure, bitZ_eq (by omega)]
    cases hb : bitZ z i with
    | true =>
     simp only [k, decide_true, Bool.and_self, if_true]
     exact ⟨by rw [hw, hw2], by omega⟩
    | false =>
     simp only [Bool.and_false, Bool.false_eq_true, if_false]
     exact ⟨by rw [hw, IntWalk.i64_in _ ⟨by omega, by omega⟩]; simp, by omega⟩
   ·rw [Ok.ite, if_neg (by simp [k]), Ok.pure]
    simp only [k, decide_false, Bool.false_and, Bool.false_eq_true, if_false]
    exact ⟨by rw [hw]; rfl, by omega⟩
  ·rintro s ⟨rfl, hle⟩
   show Ok (vN C z _ (C.length : Int)) _
   unfold vN
   rw [Ok.ite, if_neg (by simp), Ok.pure, ← zip_len C, List.take_length]
 exact Ok.val key
def fewG (C : List api_Claim) (n : Int) (z : Int) : Bool := decide ((gN z C.zipIdx : Int) ≤ n)
theorem explains_same {C : List api_Claim} {l : List api_Sight} (m n : Int) (hs : SmallL C) : ∃ H e, (kS C l m n).val = some (H, e) ∧ (gX C l m n).val = some (H, e) ∧ H.length ≤ LIM ∧ (e = 0 → checkE C l m = 0) := by
 obtain ⟨H, e, h1, h2, h3, h4⟩ := conflicts_same (l := l) m hs
 unfold kS gX
 rw [Comp.zH, h1, Option.bind_some, Comp.zH, h2, Option.bind_some, Comp.zL, Comp.zL]
 dsimp only
 by_cases he : e = 0
 ·rw [if_neg (by simpa using he), if_neg (by simpa using he), Comp.zH, Comp.zI, Option.bind_some, Comp.zH, Comp.zI, Option.bind_some, Comp.zL, Comp.zL]
  by_cases hn : (bif decide (n < 0) then true else decide (n > 3)) = true
  ·rw [if_pos hn, if_pos hn, Comp.zI]
   exact ⟨[], 3, rfl, rfl, by simp, fun h => by cases h⟩
  ·rw [if_neg hn, if_neg hn]
   obtain ⟨W, f, h5, h6, h7⟩ := hit_same (z := (C.length : Int)) h3
   rw [Comp.zH, h5, Option.bind_some, Comp.zH, h6, Option.bind_some, Comp.zL, Comp.zL]
   dsimp only
   have hC := (goodL (h4 he)).len.1
   by_cases hf : f = 0
   ·rw [if_neg (by simpa using hf), if_neg (by simpa using hf)]
    refine ⟨W.filter (fewG C n), 0, ?_, ?_, Nat.le_trans (List.length_filter_le _ _) h7, fun _ => h4 he⟩
    ·rw [Comp.zH, delete_val h7 (p := fun z => decide ((gN z C.zipIdx : Int) > n)) (fun z _ => f1_val z n hC), Option.bind_some, Comp.zI]
     congr 3
     funext z
     unfold fewG
     rw [← decide_not]
     exact decide_eq_decide.2 (by omega)
    ·have := Comp.loop_fold (body := fun s : List Int × Int => yb (W, f) C n s.1 s.2) W (fun acc z => if fewG C n z = true then acc ++ [z] else acc) id (fun a i => a.length ≤ i) []
      (by
       intro a i y hy hI
       have hi := zu hy
       have hL := LIM_lt
       show (yb (W, f) C n a (i : Int)).val = _
       unfold yb gW
       rw [ya, Comp.zL, if_pos (by simpa using hi), Comp.zH, yh hy, Option.bind_some, Comp.zH, gauges_val y hC, Option.bind_some, Comp.zL]
       show (if fewG C n y = true then _ else _) = _
       split
       ·rw [Comp.zH, yh hy, Option.bind_some, Comp.zH, app_val (by simp; omega), Option.bind_some, Comp.zI, Comp.zR (by omega)]
       ·rw [Comp.zI, Comp.zR (by omega)])
      (by
       intro a i y hy hI
       split
       ·simp; omega
       ·omega)
      (by
       intro a _
       show (yb (W, f) C n a (W.length : Int)).val = _
       unfold yb
       rw [Comp.zL, if_neg (by simp), Comp.zI]; rfl)
      (Nat.le_refl _)
     rw [Comp.zH, this, Option.bind_some, Comp.foldl_filter]
     exact Comp.zI _
   ·rw [if_pos (by simpa using hf), if_pos (by simpa using hf), Comp.zI]
    exact ⟨[], f, rfl, rfl, by simp, fun h => absurd h hf⟩
 ·rw [if_pos (by simpa using he), if_pos (by simpa using he), Comp.zI]
  exact ⟨[], e, rfl, rfl, by simp, fun h => absurd h he⟩
def blameB (C : List api_Claim) (p z : Int) : Bool := C.zipIdx.any fun q => bitZ z q.2 && decide (q.1.Party = p)
theorem blames_val {C : List api_Claim} (z p : Int) (hC : C.length ≤ 10) : (kI C z p).val = some (blameB C p z) := by
 have := Comp.loop_any (body := fun s => ym C z p s) C.zipIdx (fun q => bitZ z q.2 && decide (q.1.Party = p)) true (by
  rintro i ⟨x, j⟩ hx
  have hi : i < C.length := by have := zu hx; rwa [zip_len] at this
  have hg := List.getElem?_eq_getElem hi
  rw [zip_get hg] at hx
  obtain ⟨rfl, rfl⟩ : C[i] = x ∧ i = j := by cases hx; exact ⟨rfl, rfl⟩
  show (ym C z p (i : Int)).val = _
  unfold ym
  rw [ya, Comp.zL, if_pos (by simpa using hi), Comp.zH, vH (by omega), Option.bind_some, bitZ_one (by omega), Comp.zH, Comp.jv, yh hg]
  have hw := Comp.zR (show i < 9223372036854775807 by omega)
  cases bitZ z i with
  | true => simp only [beq_self_eq_true, if_true, Option.bind_some, Comp.zH, Comp.zI, cond_true, Comp.zL, hw, Bool.true_and]; split <;> rfl
  | false => simp [Comp.zH, Comp.zI, Comp.zL, hw]) (by
  show (ym C z p (C.zipIdx.length : Int)).val = _
  unfold ym
  rw [zip_len, Comp.zL, if_neg (by simp), Comp.zI])
 unfold kI blameB
 rw [Comp.zH, this, Option.bind_some]
 cases C.zipIdx.any fun q => bitZ z q.2 && decide (q.1.Party = p)
 ·simp [kH]
 ·simp
theorem mask_val {C : List api_Claim} (p : Int) (hC : C.length ≤ 10) : ∃ w : Nat, w < 2 ^ C.length ∧ (Comp.loop (fun s : Int × Int => vb C p s.1 s.2) (0, 0)).val = some (w : Int) ∧ ∀ k, w.testBit k = C.zipIdx.any fun q => decide (q.2 = k) && decide (q.1.Party = p) := by
 have hp := pow_len hC
 have hp0 := Nat.two_pow_pos C.length
 have key : Ok (Comp.loop (fun s : Int × Int => vb C p s.1 s.2) (0, 0)) (fun r => ∃ w : Nat, w < 2 ^ C.length ∧ r = (w : Int) ∧ ∀ k, w.testBit k = C.zipIdx.any fun q => decide (q.2 = k) && decide (q.1.Party = p)) := by
  refine Ok.count C.length (fun i s => s.1 = (i : Int) ∧ ∃ w : Nat, w < 2 ^ C.length ∧ s.2 = (w : Int) ∧ ∀ k, w.testBit k = (C.zipIdx.take i).any fun q => decide (q.2 = k) && decide (q.1.Party = p)) ⟨rfl, 0, by omega, rfl, by simp⟩ ?_ ?_
  ·rintro i ⟨s, a⟩ hi ⟨h0, w, hw, h1, h2⟩
   dsimp only at h0 h1
   subst h0 h1
   have hg := List.getElem?_eq_getElem hi
   have hz := zip_get hg
   show Ok (vb C p (i : Int) (w : Int)) _
   unfold vb court_Certain_j6
   rw [Ok.ite, if_pos (by simp; omega), Ok.bind, Ok.idxn hg]
   refine Ok.ite_i (fun hc => ?_) (fun hc => ?_)
   ·have hc' := of_decide_eq_true hc
    have hpi : 2 ^ i < 2 ^ C.length := Nat.pow_lt_pow_right (by omega) hi
    rw [Ok.bind, Ok.vo (by omega), Ok.pure, gz (by omega), orB_nat (by omega) (by omega)]
    refine ⟨Comp.zR (by omega), w ||| 2 ^ i, Nat.or_lt_two_pow hw hpi, rfl, fun k => ?_⟩
    rw [any_take hz, Nat.testBit_or, h2, testBit_pow]
    simp [hc']
   ·have hc' : C[i].Party ≠ p := by simpa using hc
    rw [Ok.pure]
    refine ⟨Comp.zR (by omega), w, hw, rfl, fun k => ?_⟩
    rw [any_take hz, h2]
    simp [hc']
  ·rintro ⟨s, a⟩ ⟨h0, w, hw, h1, h2⟩
   dsimp only at h0 h1
   subst h0 h1
   show Ok (vb C p (C.length : Int) (w : Int)) _
   unfold vb
   rw [Ok.ite, if_neg (by simp), Ok.pure]
   rw [← zip_len C, List.take_length] at h2
   exact ⟨w, hw, rfl, h2⟩
 obtain ⟨r, h1, w, hw, rfl, h2⟩ := key
 exact ⟨w, hw, h1, h2⟩
theorem mask_zero {C : List api_Claim} {p z : Int} {w : Nat} (hw : w < 4611686018427387904) (h : ∀ k, w.testBit k = C.zipIdx.any fun q => decide (q.2 = k) && decide (q.1.Party = p)) : decide (andB .i64 z (w : Int) = 0) = !blameB C p z := by
 have hU : U (w : Int) = w := by unfold U; omega
 have e : andB .i64 z (w : Int) = 0 ↔ blameB C p z = false := by
  rw [← U_zero (andB_i64 _ _), U_and, hU]
  rw [← Decidable.not_iff_not, ← ne_eq, meets_iff]
  unfold Meets blameB
  rw [Bool.not_eq_false, List.any_eq_true]
  constructor
  ·rintro ⟨k, h1, h2⟩
   rw [h, List.any_eq_true] at h2
   obtain ⟨q, h3, h4⟩ := h2
   simp only [Bool.and_eq_true, decide_eq_true_iff] at h4
   exact ⟨q, h3, by simp [bitZ, h4.1, h4.2, h1]⟩
  ·rintro ⟨q, h3, h4⟩
   simp only [Bool.and_eq_true, decide_eq_true_iff] at h4
   refine ⟨q.2, h4.1, ?_⟩
   rw [h, List.any_eq_true]
   exact ⟨q, h3, by simp [h4.2]⟩
 cases hb : blameB C p z with
 | false => exact decide_eq_true (e.2 hb)
 | true => exact decide_eq_false fun q => by rw [e.1 q] at hb; cases hb
def namesOf (C : List api_Claim) (W : List Int) (i : Nat) : List Int := ((List.range i).filter fun (j : Nat) => W.all fun z => blameB C ((j : Int) - 1) z).map fun (j : Nat) => (j : Int) - 1
theorem namesOf_succ (C : List api_Claim) (W : List Int) (i : Nat) : namesOf C W (i + 1) = if (W.all fun z => blameB C ((i : Int) - 1) z) = true then namesOf C W i ++ [(i : Int) - 1] else namesOf C W i := by
 unfold namesOf
 rw [List.range_succ, List.filter_append, List.map_append, List.filter_cons, List.filter_nil]
 split <;> simp
theorem namesOf_len (C : List api_Claim) (W : List Int) (i : Nat) : (namesOf C W i).length ≤ i := by
 unfold namesOf
 rw [List.length_map]
 exact Nat.le_trans (List.length_filter_le _ _) (by simp)
theorem cnames_val {C : List api_Claim} {W : List Int} {f : Int} (hC : C.length ≤ 10) (hW : W.length ≤ LIM) : (Comp.loop (fun s : List Int × Int => vc C (W, f) s.1 s.2) ([], -1)).val = some (namesOf C W 7) := by
 have hL : LIM = 1073741824 := rfl
 have key : Ok (Comp.loop (fun s : List Int × Int => vc C (W, f) s.1 s.2) ([], -1)) (fun r => r = namesOf C W 7) := by
  refine Ok.count 7 (fun i s => s = (namesOf C W i, (i : Int) - 1)) rfl ?_ ?_
  ·rintro i s hi rfl
   obtain ⟨w, hw, h1, h2⟩ := mask_val (C := C) ((i : Int) - 1) hC
   have hp := pow_len hC
   have hp0 := Nat.two_pow_pos C.length
   show Ok (vc C (W, f) _ ((i : Int) - 1)) _
   have hl := namesOf_len C W i
   unfold vc
   rw [Ok.ite, if_pos (by rw [decide_eq_true_iff]; omega), Ok.bind, Ok.vd h1]
   unfold court_Certain_j4 court_Certain_j3
   have hc := contains_val hW (f := fun z0 => jx z0 (w : Int)) (p := fun z => !blameB C ((i : Int) - 1) z) (fun z _ => by unfold jx; rw [Comp.zI, mask_zero (by omega) h2])
   rw [Ok.bind, Ok.vd hc]
   have e : (!W.any fun z => !blameB C ((i : Int) - 1) z) = W.all fun z => blameB C ((i : Int) - 1) z := by
    rw [any_all_not]; simp
   rw [e]
   have hw' : IntKind.wrap .i64 ((i : Int) - 1 + 1) = ((i + 1 : Nat) : Int) - 1 := by rw [IntWalk.i64_in _ ⟨by omega, by omega⟩]; omega
   refine Ok.ite_i (fun hb => ?_) (fun hb => ?_)
   ·rw [Ok.bind, Ok.app (by simp; omega), Ok.pure, namesOf_succ, if_pos hb, hw']
   ·rw [Ok.pure, namesOf_succ, if_neg hb, hw']
  ·rintro s rfl
   show Ok (vc C (W, f) _ (((7 : Nat) : Int) - 1)) _
   unfold vc
   rw [Ok.ite, if_neg (by decide), Ok.pure]
 exact Ok.val key
theorem rnames_val {C : List api_Claim} {W : List Int} {f : Int} (hC : C.length ≤ 10) (hW : W.length ≤ LIM) : (Comp.loop (fun s : List Int × Int => yU (W, f) C s.1 s.2) ([], -1)).val = some (namesOf C W 7) := by
 have hL : LIM = 1073741824 := rfl
 have key : Ok (Comp.loop (fun s : List Int × Int => yU (W, f) C s.1 s.2) ([], -1)) (fun r => r = namesOf C W 7) := by
  refine Ok.count 7 (fun i s => s = (namesOf C W i, (i : Int) - 1)) rfl ?_ ?_
  ·rintro i s hi rfl
   show Ok (yU (W, f) C _ ((i : Int) - 1)) _
   have hl := namesOf_len C W i
   have hin := Comp.loop_fold (body := fun s : Bool × Int => yT (W, f) C ((i : Int) - 1) s.1 s.2) W (fun b z => b && blameB C ((i : Int) - 1) z) id (fun _ _ => True) true
    (by
     intro b j z hz _
     have hj := zu hz
     show (yT (W, f) C ((i : Int) - 1) b (j : Int)).val = _
     unfold yT
     rw [ya, Comp.zL, if_pos (by simpa using hj), Comp.zH, Comp.jv, yh hz]
     have hw := Comp.zR (show j < 9223372036854775807 by omega)
     cases b with
     | true => simp only [beq_self_eq_true, if_true, Option.bind_some, Comp.zH, Comp.jv, blames_val z _ hC, Comp.zI, cond_true, hw, Bool.true_and]
     | false => simp [Comp.zH, Comp.jv, Comp.zI, hw])
    (fun _ _ _ _ _ => trivial)
    (by
     intro b _
     show (yT (W, f) C ((i : Int) - 1) b (W.length : Int)).val = _
     unfold yT
     rw [Comp.zL, if_neg (by simp), Comp.zI]; rfl)
    trivial
   rw [Comp.foldl_all, Bool.true_and] at hin
   replace hin : (Comp.loop (fun s : Bool × Int => yT (W, f) C ((i : Int) - 1) s.1 s.2) (true, 0)).val = some (W.all fun z => blameB C ((i : Int) - 1) z) := hin
   unfold yU
   rw [Ok.ite, if_pos (by rw [decide_eq_true_iff]; omega), Ok.bind, Ok.vd hin]
   unfold js gg
   have hw' : IntKind.wrap .i64 ((i : Int) - 1 + 1) = ((i + 1 : Nat) : Int) - 1 := by rw [IntWalk.i64_in _ ⟨by omega, by omega⟩]; omega
   refine Ok.ite_i (fun hb => ?_) (fun hb => ?_)
   ·rw [Ok.bind, Ok.app (by simp; omega), Ok.pure, namesOf_succ, if_pos hb, hw']
   ·rw [Ok.pure, namesOf_succ, if_neg hb, hw']
  ·rintro s rfl
   show Ok (yU (W, f) C _ (((7 : Nat) : Int) - 1)) _
   unfold yU
   rw [Ok.ite, if_neg (by decide), Ok.pure]
 exact Ok.val key
theorem certain_same {C : List api_Claim} {l : List api_Sight} (m n : Int) (hs : SmallL C) : ∃ H e, (court_Certain C l m n).val = some (H, e) ∧ (jp C l m n).val = some (H, e) ∧ H.length ≤ LIM := by
 obtain ⟨W, e, h1, h2, h3, h4⟩ := explains_same (l := l) m n hs
 unfold court_Certain jp
 rw [Comp.zH, h1, Option.bind_some, Comp.zH, h2, Option.bind_some, Comp.zL, Comp.zL]
 dsimp only
 by_cases he : e = 0
 ·have hC := (goodL (h4 he)).len.1
  have he1 : ¬ decide (e ≠ 0) = true := by simpa using he
  rw [if_neg he1, if_neg he1]
  simp only [Comp.zL]
  by_cases hW : decide ((W.length : Int) = 0) = true
  ·rw [if_pos hW, if_pos hW, Comp.zI]
   exact ⟨[], 21, rfl, rfl, by simp⟩
  ·rw [if_neg hW, if_neg hW, Comp.zH, cnames_val hC h3, Option.bind_some, Comp.zH, rnames_val hC h3, Option.bind_some]
   have := namesOf_len C W 7
   exact ⟨namesOf C W 7, 0, Comp.zI _, Comp.zI _, by unfold LIM; omega⟩
 ·rw [if_pos (by simpa using he), if_pos (by simpa using he), Comp.zI]
  exact ⟨[], e, rfl, rfl, by simp⟩
theorem sameInts_val {H : List Int} (h : H.length ≤ LIM) : (yg H H).val = some true := by
 have hL := LIM_lt
 unfold yg
 rw [Comp.zH, Comp.zI, Option.bind_some, Comp.zL, if_neg (by simp), Comp.zH]
 have := Comp.loop_any (body := fun s => yc H H s) H (fun _ => false) false (by
  intro i y hy
  have hi := zu hy
  show (yc H H (i : Int)).val = _
  unfold yc
  rw [ya, Comp.zL, if_pos (by simpa using hi), Comp.zH, yh hy, Option.bind_some, Comp.zH, yh hy, Option.bind_some, Comp.zL, if_neg (by simp), Comp.zI, Comp.zR (by omega)]; rfl) (by
  show (yc H H (H.length : Int)).val = _
  unfold yc
  rw [Comp.zL, if_neg (by simp), Comp.zI])
 rw [this, Option.bind_some]
 simp [jc]
end Go.Crt
end
section
set_option linter.unusedVariables false
set_option linter.unusedSimpArgs false
namespace Go.Crt
open Go Go.Lift Go.F Go.Cor
variable {α β : Type}
theorem next_val {L : List Int} {A : Int} {n : Nat} (hA : 0 ≤ A ∧ A ≤ 100) (hL : L.length ≤ 100) (hn : 0 < n) (hn2 : n ≤ 4611686018427387904) :
  ∃ (A' : Int) (k : Nat), (zq ⟨L, A⟩ (n : Int)).val = some (⟨L, A'⟩, (k : Int)) ∧ k < n ∧ 0 ≤ A' ∧ A' ≤ 100 := by
 unfold zq
 rw [Comp.zL]
 by_cases h : decide (A ≥ (L.length : Int)) = true
 ·rw [if_pos h, Comp.zI]
  exact ⟨A, 0, rfl, hn, hA⟩
 ·rw [if_neg h]
  have h' : A < (L.length : Int) := by simpa using h
  dsimp only
  obtain ⟨a, rfl⟩ : ∃ a : Nat, A = (a : Int) := ⟨A.toNat, by omega⟩
  have ha : a < L.length := by omega
  obtain ⟨k, hk, hm⟩ := mod_val (z := L[a]) hn hn2
  rw [Comp.zR (by omega), show IntKind.wrap .i64 (((a + 1 : Nat) : Int) - 1) = (a : Int) by rw [IntWalk.i64_in _ ⟨by omega, by omega⟩]; omega, Comp.zH, yh (List.getElem?_eq_getElem ha), Option.bind_some, Comp.zH, hm, Option.bind_some, Comp.zI]
  exact ⟨_, k, rfl, hk, by omega, by omega⟩
theorem inc_pw : ∀ {l : List Int}, l.Pairwise (· < ·) → incB l = true
 | [], _ => rfl
 | [_], _ => rfl
 | x :: y :: l, h => by
  rw [incB, Bool.and_eq_true, decide_eq_true_iff]
  exact ⟨List.rel_of_pairwise_cons h (by simp), inc_pw (List.Pairwise.of_cons h)⟩
def bitsL (b M : Nat) : List Int := up ((List.range M).filter (b.testBit ·))
theorem bitsL_mem {b M : Nat} {z : Int} : z ∈ bitsL b M ↔ ∃ k : Nat, z = (k : Int) ∧ k < M ∧ b.testBit k = true := by
 unfold bitsL
 rw [mem_up']
 constructor
 ·rintro ⟨x, h1, h2⟩
  rw [List.mem_filter, List.mem_range] at h1
  exact ⟨x, h2, h1⟩
 ·rintro ⟨k, h1, h2⟩
  exact ⟨k, by rw [List.mem_filter, List.mem_range]; exact h2, h1⟩
theorem bitsL_len (b M : Nat) : (bitsL b M).length ≤ M := by
 unfold bitsL
 rw [up_len]
 exact Nat.le_trans (List.length_filter_le _ _) (by simp)
theorem bitsL_inc (b M : Nat) : incB (bitsL b M) = true := by
 refine inc_pw ?_
 unfold bitsL up
 rw [List.pairwise_map]
 exact (List.Pairwise.filter _ List.pairwise_lt_range).imp (fun h => by omega)
theorem bitsL_in (b M : Nat) : (bitsL b M).any (outB (M : Int)) = false := by
 rw [List.any_eq_false]
 intro z hz
 obtain ⟨k, rfl, hk, _⟩ := bitsL_mem.1 hz
 unfold outB
 simp only [Bool.or_eq_true, decide_eq_true_iff]
 omega
theorem subset_val {b M : Nat} (hb : b < 4611686018427387904) (hM : M ≤ 60) : (vq (b : Int) (M : Int)).val = some (bitsL b M) := by
 have hL : LIM = 1073741824 := rfl
 have key : Ok (vq (b : Int) (M : Int)) (fun r => r = bitsL b M) := by
  unfold vq
  rw [Ok.bind]
  refine Ok.mono (P := fun r => r = bitsL b M) ?_ (fun r hr => by unfold kK; exact Ok.pure.2 hr)
  refine Ok.count M (fun i s => s = (bitsL b i, (i : Int))) rfl ?_ ?_
  ·rintro i s hi rfl
   have hl := bitsL_len b i
   show Ok (vE (M : Int) (b : Int) (bitsL b i) (i : Int)) _
   have hs : bitsL b (i + 1) = if b.testBit i = true then bitsL b i ++ [(i : Int)] else bitsL b i := by
    unfold bitsL
    rw [List.range_succ, List.filter_append, up_append, List.filter_cons, List.filter_nil]
    split <;> simp [up]
   unfold vE gy
   rw [Ok.ite, if_pos (by simp; omega), Ok.bind, Ok.vo (by omega), Ok.bind, Ok.pure, bit_eq hb (by omega)]
   refine Ok.ite_i (fun h => ?_) (fun h => ?_)
   ·rw [Ok.bind, Ok.app (by simp; omega), Ok.pure, hs, if_pos h, Comp.zR (by omega)]
   ·rw [Ok.pure, hs, if_neg h, Comp.zR (by omega)]
  ·rintro s rfl
   show Ok (vE (M : Int) (b : Int) (bitsL b M) (M : Int)) _
   unfold vE
   rw [Ok.ite, if_neg (by simp), Ok.pure]
 exact Ok.val key
def TinyL (C : List api_Claim) : Prop := ∀ x ∈ C, x.Sure.length ≤ 16 ∧ x.Touched.length ≤ 16
theorem TinyL.small {C : List api_Claim} (h : TinyL C) : SmallL C := fun x hx => by
 have := h x hx
 unfold SmallC LIM
 omega
theorem goE_snoc {m : Int} (x : api_Claim) : ∀ (C pre : List api_Claim), goE m pre C = none → claimE x m = 0 → dupB (pre ++ C) x = false → goE m pre (C ++ [x]) = none
 | [], pre, _, h1, h2 => by
  rw [List.nil_append, goE_cons, if_neg (by simpa using h1), if_neg (by rw [List.append_nil] at h2; simp [h2])]; rfl
 | y :: C, pre, h0, h1, h2 => by
  rw [goE_cons] at h0
  rw [List.cons_append, goE_cons]
  split at h0; · cases h0
  split at h0; · cases h0
  rename_i h3 h4
  rw [if_neg h3, if_neg h4]
  exact goE_snoc x C (pre ++ [y]) h0 h1 (by rw [List.append_assoc]; exact h2)
structure MadeC (M : Nat) (C : List api_Claim) (b : Bool) (g : Int) : Prop where
 tiny : TinyL C
 good : goE (M : Int) [] C = none
 blank : b = false → ∀ y ∈ C, y.Kind ≠ 1
 gauge : ∀ y ∈ C, y.Kind = 3 → y.Gauge < g
 num : 0 ≤ g ∧ g ≤ C.length
theorem MadeC.nil (M : Nat) : MadeC M [] false 0 := ⟨(by intro x hx; cases hx), rfl, by simp, by simp, by simp⟩
theorem MadeC.snoc {M : Nat} {C : List api_Claim} {b b' : Bool} {g g' : Int} (h : MadeC M C b g) (x : api_Claim) (hx : x.Sure.length ≤ 16 ∧ x.Touched.length ≤ 16) (hc : claimE x (M : Int) = 0) (hd : dupB C x = false)
  (hb : b' = false → b = false ∧ x.Kind ≠ 1) (hg : g ≤ g' ∧ g' ≤ g + 1 ∧ (x.Kind = 3 → x.Gauge < g')) : MadeC M (C ++ [x]) b' g' := by
 have hall : ∀ {P : api_Claim → Prop}, (∀ y ∈ C, P y) → P x → ∀ y ∈ C ++ [x], P y := by
  intro P h1 h2 y hy
  rcases List.mem_append.1 hy with h | h
  ·exact h1 y h
  ·rw [List.mem_singleton] at h; rw [h]; exact h2
 have hn := h.num
 refine ⟨hall h.tiny hx, goE_snoc x C [] h.good hc hd, fun e => hall (h.blank (hb e).1) (hb e).2, hall (fun y hy hk => by have := h.gauge y hy hk; omega) hg.2.2, by simp; omega⟩
theorem claim_zero {x : api_Claim} {m : Int} (h1 : -1 ≤ x.Party ∧ x.Party < 6) (h2 : 1 ≤ x.Kind ∧ x.Kind ≤ 3) (h3 : incB x.Sure = true) (h4 : incB x.Touched = true) (h5 : x.Sure.any (outB m) = false) (h6 : x.Touched.any (outB m) = false)
  (h7 : x.Kind ≠ 3 → x.Gauge = 0) (h8 : x.Kind ≠ 2 → x.Sure = []) (h9 : x.Kind = 3 → x.Touched = []) (h10 : ∀ n ∈ x.Sure, n ∈ x.Touched) (h11 : 0 ≤ x.Gauge ∧ x.Gauge < 8) : claimE x m = 0 := by
 unfold claimE
 rw [if_neg (by unfold p1; simp; omega), if_neg (by unfold p2; simp; omega), if_neg (by simp [h3, h4]), if_neg (by simp [h5, h6]), if_neg, if_neg (by unfold p6; simp; omega)]
 have hp : partB x.Sure x.Touched = true := by
  unfold partB
  rw [Bool.not_eq_true', List.any_eq_false]
  intro n hn
  simp [h10 n hn]
 rw [hp]
 simp only [Bool.or_eq_true, Bool.and_eq_true, decide_eq_true_iff, Bool.not_true, Bool.false_eq_true, or_false, not_or, not_and]
 refine ⟨⟨fun hk => by have := h7 hk; omega, fun hk => by rw [h8 hk]; simp⟩, fun hk => by rw [h9 hk]; simp⟩
theorem claims_val {M most : Nat} (hM : 1 ≤ M ∧ M ≤ 4) (hmost : most ≤ 6) {L : List (List Int)} (hl : L.length ≤ 6) (hL : ∀ x ∈ L, x.length ≤ 5) :
  ∃ C b g, (jJ L (M : Int) (most : Int)).val = some C ∧ MadeC M C b g ∧ C.length ≤ most := by
 have hLIM : LIM = 1073741824 := rfl
 have hp16 : 2 ^ M ≤ 16 := Nat.pow_le_pow_right (n := 2) (by omega) hM.2
 have hp1 := Nat.two_pow_pos M
 have key : Ok (jJ L (M : Int) (most : Int)) (fun C => ∃ b g, MadeC M C b g ∧ C.length ≤ most) := by
  unfold jJ
  rw [Ok.bind]
  refine Ok.mono (P := fun C => ∃ b g, MadeC M C b g ∧ C.length ≤ most) ?_ (fun r hr => by unfold kM; exact Ok.pure.2 hr)
  refine Ok.loop (fun s : List api_Claim × Bool × Int × Int => ∃ i : Nat, s.2.2.2 = (i : Int) ∧ i ≤ L.length ∧ MadeC M s.1 s.2.1 s.2.2.1 ∧ s.1.length ≤ most) (fun s => L.length - s.2.2.2.toNat) ⟨0, rfl, by omega, MadeC.nil M, by simp⟩ ?_
  rintro ⟨C, b, g, s⟩ ⟨i, h0, hi0, hC, hlen⟩
  dsimp only at h0 hC hlen
  subst h0
  show Ok (gK L (most : Int) (M : Int) C b g (i : Int)) _
  unfold gK
  rw [Ok.bind, Ok.pure, bif_and]
  refine Ok.ite_i (fun hc => ?_) (fun hc => ?_)
  rotate_left
  ·rw [Ok.pure]; exact ⟨b, g, hC, hlen⟩
  rw [Bool.and_eq_true, decide_eq_true_iff, decide_eq_true_iff] at hc
  have hi : i < L.length := by omega
  have hx := List.getElem?_eq_getElem hi
  have hxl := hL _ (List.getElem_mem hi)
  have hw := Comp.zR (show i < 9223372036854775807 by omega)
  obtain ⟨A1, k1, n1, hk1, ha1, hb1⟩ := next_val (L := L[i]) (A := 0) (n := 4) ⟨by omega, by omega⟩ (by omega) (by omega) (by omega)
  obtain ⟨A2, k2, n2, hk2, ha2, hb2⟩ := next_val (L := L[i]) (A := A1) (n := 5) ⟨ha1, hb1⟩ (by omega) (by omega) (by omega)
  obtain ⟨A3, k3, n3, hk3, ha3, hb3⟩ := next_val (L := L[i]) (A := A2) (n := 2 ^ M) ⟨ha2, hb2⟩ (by omega) (by omega) (by omega)
  obtain ⟨A4, k4, n4, hk4, ha4, hb4⟩ := next_val (L := L[i]) (A := A3) (n := 2 ^ M) ⟨ha3, hb3⟩ (by omega) (by omega) (by omega)
  replace n1 : (zq ⟨L[i], 0⟩ 4).val = some (⟨L[i], A1⟩, (k1 : Int)) := n1
  replace n2 : (zq ⟨L[i], A1⟩ 5).val = some (⟨L[i], A2⟩, (k2 : Int)) := n2
  have hkind : ∃ kd : Int, [(2 : Int), 2, 3, 1][k1]? = some kd ∧ (kd = 1 ∨ kd = 2 ∨ kd = 3) := by
   rcases (by omega : k1 = 0 ∨ k1 = 1 ∨ k1 = 2 ∨ k1 = 3) with rfl | rfl | rfl | rfl
   ·exact ⟨2, rfl, by omega⟩
   ·exact ⟨2, rfl, by omega⟩
   ·exact ⟨3, rfl, by omega⟩
   ·exact ⟨1, rfl, by omega⟩
  obtain ⟨kd, hkd, hkd3⟩ := hkind
  have hsh : shlF .i64 1 (M : Int) = ((2 ^ M : Nat) : Int) := gz (by omega)
  have hparty : IntKind.wrap .i64 ((k2 : Int) - 1) = (k2 : Int) - 1 := IntWalk.i64_in _ ⟨by omega, by omega⟩
  have stepM : ∀ C' b' g', MadeC M C' b' g' → C'.length ≤ most → Ok (gL (i : Int) C' b' g') (fun t => match t with
    | .next s' => (∃ i : Nat, s'.2.2.2 = (i : Int) ∧ i ≤ L.length ∧ MadeC M s'.1 s'.2.1 s'.2.2.1 ∧ s'.1.length ≤ most) ∧ L.length - s'.2.2.2.toNat < L.length - ((i : Int)).toNat
    | .done e => ∃ b g, MadeC M e b g ∧ e.length ≤ most) := by
   intro C' b' g' h1 h2
   unfold gL
   rw [Ok.pure, hw]
   exact ⟨⟨i + 1, rfl, by omega, h1, h2⟩, by show L.length - (((i + 1 : Nat) : Int)).toNat < _; omega⟩
  have stepX : ∀ b' g' (x : api_Claim), MadeC M (C ++ [x]) b' g' → Ok (vF C (i : Int) b' g' x.Party x.Kind x.Gauge x.Sure x.Touched) (fun t => match t with
    | .next s' => (∃ i : Nat, s'.2.2.2 = (i : Int) ∧ i ≤ L.length ∧ MadeC M s'.1 s'.2.1 s'.2.2.1 ∧ s'.1.length ≤ most) ∧ L.length - s'.2.2.2.toNat < L.length - ((i : Int)).toNat
    | .done e => ∃ b g, MadeC M e b g ∧ e.length ≤ most) := by
   intro b' g' x h1
   unfold vF
   rw [Ok.bind, Ok.app (by simp; omega)]
   exact stepM _ _ _ h1 (by simp; omega)
  rw [Ok.bind, Ok.idxn hx, Ok.bind, Ok.vd n1, Ok.bind, Ok.idxn hkd, Ok.bind, Ok.vd n2, Ok.bind, Ok.vo (by omega), Ok.bind, hsh, Ok.vd n3, Ok.bind, Ok.vo (by omega), Ok.bind, Ok.vd n4]
  dsimp only
  have ho : k3 ||| k4 < 2 ^ M := Nat.or_lt_two_pow hk3 hk4
  have hn : k3 &&& k4 < 2 ^ M := Nat.lt_of_le_of_lt Nat.and_le_left hk3
  have hnum := hC.num
  rw [hparty]
  rcases hkd3 with rfl | rfl | rfl
  ·rw [Ok.ite, if_pos (by rfl)]
   refine Ok.ite_i (fun hb => ?_) (fun hb => ?_)
   ·exact Ok.mono (stepM C b g hC hlen) (fun t ht => by cases t <;> exact ht)
   ·have hbf : b = false := by simpa using hb
    rw [orB_nat (by omega) (by omega), Ok.bind, Ok.vd (subset_val (by omega) (by omega))]
    have hl1 := bitsL_len (k3 ||| k4) M
    refine Ok.mono (stepX true g ⟨(k2 : Int) - 1, 1, 0, [], bitsL (k3 ||| k4) M⟩ (hC.snoc _ ⟨by simp, by dsimp only; omega⟩ ?_ ?_ (fun e => by cases e) ⟨by omega, by omega, fun e => by cases e⟩)) (fun t ht => by cases t <;> exact ht)
    ·exact claim_zero (by dsimp only; omega) (by dsimp only; omega) rfl (bitsL_inc _ _) rfl (bitsL_in _ _) (fun _ => rfl) (fun _ => rfl) (fun e => by cases e) (fun n hn => by cases hn) (by dsimp only; omega)
    ·unfold dupB
     rw [List.any_eq_false]
     intro y hy
     have := hC.blank hbf y hy
     simp [this]
  ·rw [Ok.ite, if_neg (by decide), Ok.ite, if_pos (by rfl), andB_nat (by omega) (by omega), Ok.bind, Ok.vd (subset_val (by omega) (by omega)), Ok.bind, Ok.vd (subset_val (by omega) (by omega))]
   have hl1 := bitsL_len (k3 &&& k4) M
   have hl2 := bitsL_len k3 M
   refine Ok.mono (stepX b g ⟨(k2 : Int) - 1, 2, 0, bitsL (k3 &&& k4) M, bitsL k3 M⟩ (hC.snoc _ ⟨by dsimp only; omega, by dsimp only; omega⟩ ?_ (dup_two rfl) (fun e => ⟨e, by simp⟩) ⟨by omega, by omega, fun e => by cases e⟩)) (fun t ht => by cases t <;> exact ht)
   refine claim_zero (by dsimp only; omega) (by dsimp only; omega) (bitsL_inc _ _) (bitsL_inc _ _) (bitsL_in _ _) (bitsL_in _ _) (fun _ => rfl) (fun e => absurd rfl e) (fun e => by cases e) (fun n hn => ?_) (by dsimp only; omega)
   obtain ⟨k, rfl, h1, h2⟩ := bitsL_mem.1 hn
   rw [Nat.testBit_and, Bool.and_eq_true] at h2
   exact bitsL_mem.2 ⟨k, rfl, h1, h2.1⟩
  ·have hg1 : IntKind.wrap .i64 (g + 1) = g + 1 := IntWalk.i64_in _ ⟨by omega, by omega⟩
   rw [Ok.ite, if_neg (by decide), Ok.ite, if_neg (by decide), Ok.ite, if_pos (by rfl), hg1]
   refine Ok.mono (stepX b (g + 1) ⟨(k2 : Int) - 1, 3, g, [], []⟩ (hC.snoc _ ⟨by simp, by simp⟩ ?_ ?_ (fun e => ⟨e, by simp⟩) ⟨by omega, by omega, fun _ => by dsimp only; omega⟩)) (fun t ht => by cases t <;> exact ht)
   ·exact claim_zero (by dsimp only; omega) (by dsimp only; omega) rfl rfl rfl rfl (fun e => absurd rfl e) (fun _ => rfl) (fun _ => rfl) (fun n hn => by cases hn) (by dsimp only; omega)
   ·unfold dupB
    rw [List.any_eq_false]
    intro y hy h
    simp only [Bool.and_eq_true, Bool.or_eq_true, decide_eq_true_iff] at h
    have := hC.gauge y hy h.1
    omega
 obtain ⟨C, h1, b, g, h2, h3⟩ := key
 exact ⟨C, b, g, h1, h2, h3⟩
theorem sightsM_val {M : Nat} (hM : 1 ≤ M ∧ M ≤ 4) {L : List Int} (hl : L.length ≤ 30) :
  ∃ l, (jH L (M : Int)).val = some l ∧ l.length ≤ 10 ∧ l.any (farB (M : Int)) = false := by
 have hLIM : LIM = 1073741824 := rfl
 have key : Ok (jH L (M : Int)) (fun l => l.length ≤ 10 ∧ l.any (farB (M : Int)) = false) := by
  unfold jH
  rw [Ok.bind]
  refine Ok.mono (P := fun l => l.length ≤ 10 ∧ l.any (farB (M : Int)) = false) ?_ (fun r hr => by unfold kL; exact Ok.pure.2 hr)
  refine Ok.loop (fun s : List api_Sight × Int × List Int × Int => ∃ i : Nat, s.2.1 = ((3 * i : Nat) : Int) ∧ i ≤ 10 ∧ s.1.length = i ∧ s.2.2.1 = L ∧ 0 ≤ s.2.2.2 ∧ s.2.2.2 ≤ 100 ∧ s.1.any (farB (M : Int)) = false) (fun s => 30 - s.2.1.toNat) ⟨0, rfl, by omega, rfl, rfl, by simp, by simp, rfl⟩ ?_
  rintro ⟨l, s, K, A⟩ ⟨i, h0, hi0, h1, h2, h3, h4, h5⟩
  dsimp only at h0 h1 h2 h3 h4 h5
  subst h0 h2
  show Ok (gJ K (M : Int) l ((3 * i : Nat) : Int) K A) _
  unfold gJ
  rw [Ok.bind, Ok.pure, bif_and]
  refine Ok.ite_i (fun hc => ?_) (fun hc => ?_)
  rotate_left
  ·rw [Ok.pure]; exact ⟨by omega, h5⟩
  rw [Bool.and_eq_true, decide_eq_true_iff, decide_eq_true_iff] at hc
  obtain ⟨A1, k1, n1, hk1, ha1, hb1⟩ := next_val (L := K) (A := A) (n := 4) ⟨h3, h4⟩ (by omega) (by omega) (by omega)
  obtain ⟨A2, k2, n2, hk2, ha2, hb2⟩ := next_val (L := K) (A := A1) (n := M) ⟨ha1, hb1⟩ (by omega) (by omega) (by omega)
  obtain ⟨A3, k3, n3, hk3, ha3, hb3⟩ := next_val (L := K) (A := A2) (n := 2) ⟨ha2, hb2⟩ (by omega) (by omega) (by omega)
  replace n1 : (zq ⟨K, A⟩ 4).val = some (⟨K, A1⟩, (k1 : Int)) := n1
  replace n3 : (zq ⟨K, A2⟩ 2).val = some (⟨K, A3⟩, (k3 : Int)) := n3
  have hg : ∃ kd : Int, [(0 : Int), 0, 1, 2][k1]? = some kd ∧ 0 ≤ kd ∧ kd < 8 := by
   rcases (by omega : k1 = 0 ∨ k1 = 1 ∨ k1 = 2 ∨ k1 = 3) with rfl | rfl | rfl | rfl
   ·exact ⟨0, rfl, by omega⟩
   ·exact ⟨0, rfl, by omega⟩
   ·exact ⟨1, rfl, by omega⟩
   ·exact ⟨2, rfl, by omega⟩
  obtain ⟨kd, hkd, hkd2⟩ := hg
  have hw : IntKind.wrap .i64 (((3 * i : Nat) : Int) + 3) = ((3 * (i + 1) : Nat) : Int) := by rw [IntWalk.i64_in _ ⟨by omega, by omega⟩]; omega
  rw [Ok.bind, Ok.vd n1, Ok.bind, Ok.idxn hkd, Ok.bind, Ok.vd n2, Ok.bind, Ok.vd n3, Ok.bind, Ok.app (by simp; omega), Ok.pure, hw]
  refine ⟨⟨i + 1, rfl, by omega, by simp [h1], rfl, ha3, hb3, ?_⟩, ?_⟩
  ·rw [List.any_append, h5, Bool.false_or, List.any_cons, List.any_nil, Bool.or_false]
   unfold farB
   simp only [Bool.or_eq_false_iff, decide_eq_false_iff_not]
   omega
  ·show 30 - (((3 * (i + 1) : Nat) : Int)).toNat < 30 - (((3 * i : Nat) : Int)).toNat
   omega
 obtain ⟨l, h1, h2, h3⟩ := key
 exact ⟨l, h1, h2, h3⟩
structure Made (most : Nat) (C : List api_Claim) (l : List api_Sight) (M : Nat) : Prop where
 cells : 1 ≤ M ∧ M ≤ 4
 len : C.length ≤ most ∧ l.length ≤ 10
 tiny : TinyL C
 check : checkE C l (M : Int) = 0
theorem Made.small {most : Nat} {C : List api_Claim} {l : List api_Sight} {M : Nat} (h : Made most C l M) : SmallL C := h.tiny.small
theorem made_val {x : colletlaw43_Case} {b most : Nat} (hb : x.Cells = (b : Int)) (hb2 : b < 256) (hmost : most ≤ 6) : ∃ (C : List api_Claim) (l : List api_Sight) (M : Nat), (gP x (most : Int)).val = some (C, l, (M : Int)) ∧ Made most C l M ∧ M = 1 + b % 4 := by
 have hLIM : LIM = 1073741824 := rfl
 have hcells : IntKind.wrap .i64 (1 + Int.tmod (IntKind.wrap .i64 x.Cells) 4) = ((1 + b % 4 : Nat) : Int) := by
  have h1 : IntKind.wrap .i64 (b : Int) = (b : Int) := wrap_nat (by omega)
  rw [hb, h1, show Int.tmod (b : Int) 4 = ((b % 4 : Nat) : Int) by rw [Int.tmod_eq_emod_of_nonneg (by omega)]; omega, IntWalk.i64_in _ ⟨by omega, by omega⟩]; omega
 have hcut : Ok (Comp.loop (fun s : List (List Int) × Int => vA x s.1 s.2) ([], 0)) (fun L => L.length ≤ 6 ∧ ∀ y ∈ L, y.length ≤ 5) := by
  refine Ok.loop (fun s : List (List Int) × Int => ∃ i : Nat, s.2 = (i : Int) ∧ i ≤ 6 ∧ s.1.length = i ∧ ∀ y ∈ s.1, y.length ≤ 5) (fun s => 6 - s.2.toNat) ⟨0, rfl, by omega, rfl, by simp⟩ ?_
  rintro ⟨L, s⟩ ⟨i, h0, hi, h1, h2⟩
  dsimp only at h0 h1 h2
  subst h0
  show Ok (vA x L (i : Int)) _
  unfold vA
  rw [Ok.bind, Ok.pure, bif_and]
  refine Ok.ite_i (fun hc => ?_) (fun hc => ?_)
  ·rw [Bool.and_eq_true, decide_eq_true_iff, decide_eq_true_iff] at hc
   have hi : i < x.Claims.length := by omega
   have hx := List.getElem?_eq_getElem hi
   rw [Ok.bind, Ok.idxn hx, Ok.bind, Ok.idxn hx, Ok.bind, Ok.sub (by omega), Ok.bind, Ok.app (by simp; omega), Ok.pure, Comp.zR (by omega)]
   refine ⟨⟨i + 1, rfl, by omega, by simp [h1], ?_⟩, ?_⟩
   ·intro y hy
    rcases List.mem_append.1 hy with h | h
    ·exact h2 y h
    ·rw [List.mem_singleton] at h
     rw [h]
     simp only [Int.toNat_zero, List.drop_zero, List.length_take]
     omega
   ·show 6 - (((i + 1 : Nat) : Int)).toNat < 6 - ((i : Int)).toNat
    omega
  ·rw [Ok.pure]; exact ⟨by omega, h2⟩
 obtain ⟨L, hL, hL1, hL2⟩ := hcut
 have hM : 1 ≤ 1 + b % 4 ∧ 1 + b % 4 ≤ 4 := by omega
 obtain ⟨C, bl, g, hC, hmade, hlen⟩ := claims_val hM hmost hL1 hL2
 have hsub : (sub x.Sights 0 (min (x.Sights.length : Int) 30)).val = some (x.Sights.take (min (x.Sights.length : Int) 30).toNat) := by
  rw [sub_val (by omega)]; rfl
 obtain ⟨l, hl, hl1, hl2⟩ := sightsM_val hM (L := x.Sights.take (min (x.Sights.length : Int) 30).toNat) (by rw [List.length_take]; omega)
 refine ⟨C, l, 1 + b % 4, ?_, ⟨hM, ⟨hlen, hl1⟩, hmade.tiny, ?_⟩, rfl⟩
 ·unfold gP
  rw [Comp.zH, Comp.zI, Option.bind_some, hcells, Comp.zH, hL, Option.bind_some]
  unfold jM
  rw [Comp.zH, hC, Option.bind_some, Comp.zH, hsub, Option.bind_some, Comp.zH, hl, Option.bind_some, Comp.zI]
 ·unfold checkE
  rw [if_neg (by simp; omega), if_neg (by simp; omega), hmade.good, hl2]; rfl
theorem few_val (R : List api_Claim) : ∃ C, (colletlaw43_few R).val = some C ∧ C.length ≤ 5 ∧ TinyL C := by
 have hLIM : LIM = 1073741824 := rfl
 have key : Ok (colletlaw43_few R) (fun C => C.length ≤ 5 ∧ TinyL C) := by
  unfold colletlaw43_few
  rw [Ok.bind]
  refine Ok.mono (P := fun C => C.length ≤ 5 ∧ TinyL C) ?_ (fun r hr => by unfold colletlaw43_few_j1; exact Ok.pure.2 hr)
  refine Ok.loop (fun s : List api_Claim × Int => ∃ i : Nat, s.2 = (i : Int) ∧ i ≤ 5 ∧ s.1.length = i ∧ TinyL s.1) (fun s => 5 - s.2.toNat) ⟨0, rfl, by omega, rfl, (by intro x hx; cases hx)⟩ ?_
  rintro ⟨C, s⟩ ⟨i, h0, hi, h1, h2⟩
  dsimp only at h0 h1 h2
  subst h0
  show Ok (jL R C (i : Int)) _
  unfold jL
  rw [Ok.bind, Ok.pure, bif_and]
  refine Ok.ite_i (fun hc => ?_) (fun hc => ?_)
  ·rw [Bool.and_eq_true, decide_eq_true_iff, decide_eq_true_iff] at hc
   have hi : i < R.length := by omega
   have hx := List.getElem?_eq_getElem hi
   rw [Ok.bind, Ok.idxn hx, Ok.bind, Ok.sub (by omega), Ok.bind, Ok.sub (by omega), Ok.bind, Ok.app (by simp; omega), Ok.pure, Comp.zR (by omega)]
   refine ⟨⟨i + 1, rfl, by omega, by simp [h1], ?_⟩, ?_⟩
   ·intro y hy
    rcases List.mem_append.1 hy with h | h
    ·exact h2 y h
    ·rw [List.mem_singleton] at h
     rw [h]
     simp only [Int.toNat_zero, List.drop_zero, List.length_take]
     omega
   ·show 5 - (((i + 1 : Nat) : Int)).toNat < 5 - ((i : Int)).toNat
    omega
  ·rw [Ok.pure]; exact ⟨by omega, h2⟩
 obtain ⟨C, h1, h2, h3⟩ := key
 exact ⟨C, h1, h2, h3⟩
theorem vidx (v : Vector Int 3) {i : Nat} (hi : i < 3) : ∃ z, (idx v.toList (i : Int)).val = some z := ⟨v.toList[i]'(by simpa using hi), yh (List.getElem?_eq_getElem (by simpa using hi))⟩
theorem odd_val {x : api_Claim} (q : Vector Int 3) (h : x.Sure.length ≤ 16 ∧ x.Touched.length ≤ 16) : ∃ y, (colletref43_Odd x q).val = some y ∧ SmallC y := by
 have hLIM : LIM = 1073741824 := rfl
 have key : Ok (colletref43_Odd x q) (fun y => SmallC y) := by
  obtain ⟨z2, hz2⟩ := vidx q (i := 2) (by omega)
  obtain ⟨z1, hz1⟩ := vidx q (i := 1) (by omega)
  obtain ⟨z0, hz0⟩ := vidx q (i := 0) (by omega)
  obtain ⟨k, hk, hm⟩ := mod_val (z := z1) (m := 14) (by omega) (by omega)
  obtain ⟨k', hk', hm'⟩ := mod_val (z := z0) (m := 5) (by omega) (by omega)
  replace hz2 : (idx q.toList 2).val = some z2 := hz2
  replace hz1 : (idx q.toList 1).val = some z1 := hz1
  replace hz0 : (idx q.toList 0).val = some z0 := hz0
  replace hm : (yd z1 14).val = some (k : Int) := hm
  replace hm' : (yd z0 5).val = some (k' : Int) := hm'
  unfold colletref43_Odd
  have hg : ([z2, 0, 1, 2, 3, 4, 5, 6, 7, 8, 15, 16, (-1), (-2)] : List Int)[k]? = some (([z2, 0, 1, 2, 3, 4, 5, 6, 7, 8, 15, 16, (-1), (-2)] : List Int)[k]'(by simpa using hk)) := List.getElem?_eq_getElem (by simpa using hk)
  generalize ([z2, 0, 1, 2, 3, 4, 5, 6, 7, 8, 15, 16, (-1), (-2)] : List Int)[k]'(by simpa using hk) = v at hg
  rw [Ok.bind, Ok.vd hz2, Ok.bind, Ok.vd hz1, Ok.bind, Ok.vd hm, Ok.bind, Ok.idxn hg, Ok.bind, Ok.vd hz0, Ok.bind, Ok.vd hm']
  unfold vV
  refine Ok.ite_i (fun _ => ?_) (fun _ => Ok.ite_i (fun _ => ?_) (fun _ => Ok.ite_i (fun _ => ?_) (fun _ => Ok.ite_i (fun _ => ?_) (fun _ => Ok.ite_i (fun _ => ?_) (fun _ => ?_)))))
  ·rw [Ok.pure]; unfold SmallC; dsimp only; omega
  ·rw [Ok.pure]; unfold SmallC; dsimp only; omega
  ·rw [Ok.pure]; unfold SmallC; dsimp only; omega
  ·rw [Ok.bind, Ok.app (by simp; omega), Ok.bind, Ok.app (by simp; omega), Ok.pure]; unfold SmallC; simp; omega
  ·rw [Ok.bind, Ok.app (by simp; omega), Ok.bind, Ok.app (by simp; omega), Ok.pure]; unfold SmallC; simp; omega
  ·rw [Ok.pure]; unfold SmallC; dsimp only; omega
 obtain ⟨y, h1, h2⟩ := key
 exact ⟨y, h1, h2⟩
end Go.Crt
end
section
set_option linter.unusedVariables false
set_option linter.unusedSimpArgs false
namespace Go.Crt
open Go Go.Lift Go.F Go.Cor
variable {α β : Type}
set_option maxRecDepth 100000 in
theorem sanity_val : colletlaw43_sanity.val = some true := Comp.val_run (n := 2000) (by kernel_rfl)
theorem loop_none {body : Int → Comp (Comp.Step Int (Sum β Unit))} (xs : List α) (hb : ∀ (i : Nat) x, xs[i]? = some x → (body i).val = some (.next ((i + 1 : Nat) : Int)))
  (he : (body xs.length).val = some (.done (.inr ()))) : (Comp.loop body 0).val = some (.inr ()) := by
 have key : Ok (Comp.loop body 0) (fun e => e = .inr ()) := by
  refine Ok.count xs.length (fun i s => s = (i : Int)) rfl ?_ ?_
  ·rintro i s hi rfl
   rw [Ok.vd (hb i _ (List.getElem?_eq_getElem hi))]
  ·rintro s rfl
   rw [Ok.vd he]
 exact Ok.val key
theorem l7_val {C : List api_Claim} {s : List api_Sight} {m a b : Int} (hs : SmallL C) : (Comp.loop (fun t => yC ([a, b, (IntKind.wrap .i64 ((shlF .i64 1 (C.length : Int)) - 1))].length : Int) a b C s m t) 0).val = some (.inr ()) := by
 refine loop_none (body := fun t => yC ([a, b, (IntKind.wrap .i64 ((shlF .i64 1 (C.length : Int)) - 1))].length : Int) a b C s m t) [a, b, (IntKind.wrap .i64 ((shlF .i64 1 (C.length : Int)) - 1))] ?_ ?_
 ·intro i x hx
  have hi := zu hx
  show (yC _ a b C s m (i : Int)).val = _
  unfold yC
  rw [Comp.zL, if_pos (by rw [decide_eq_true_iff]; omega), Comp.zH, yh hx, Option.bind_some, Comp.zH, Agrees_val m x hs, Option.bind_some, Comp.zH, rAgrees_val m x hs, Option.bind_some, Comp.zL, if_neg (by simp), Comp.zI, Comp.zR (by simp at hi; omega)]
 ·show (yC _ a b C s m (([a, b, (IntKind.wrap .i64 ((shlF .i64 1 (C.length : Int)) - 1))].length : Nat) : Int)).val = _
  unfold yC
  rw [Comp.zL, if_neg (by simp), Comp.zI]
theorem l6_none {X : List api_Claim × List api_Sight × Int} {C : List api_Claim} {s : List api_Sight} {a b : Int} (n : Vector Int 3) (hs : SmallL C) : (Comp.loop (fun t => yD X a b C s n t) 0).val = some (.inr ()) := by
 obtain ⟨z, hz⟩ := vidx n (i := 2) (by omega)
 replace hz : (idx n.toList 2).val = some z := hz
 obtain ⟨k, hk, hm⟩ := mod_val (z := z) (m := 70) (by omega) (by omega)
 replace hm : (yd z 70).val = some (k : Int) := hm
 refine loop_none (body := fun t => yD X a b C s n t) [X.2.2, a, b] ?_ ?_
 ·intro i x hx
  have hi := zu hx
  show (yD X a b C s n (i : Int)).val = _
  unfold yD
  rw [Comp.zH, Comp.zI, Option.bind_some, Comp.zL, if_pos (by rw [decide_eq_true_iff]; omega), Comp.zH, yh hx, Option.bind_some, Comp.zH, Check_val x hs, Option.bind_some, Comp.zH, rCheck_val x hs, Option.bind_some, Comp.zL, if_neg (by simp), Comp.zH, hz, Option.bind_some, Comp.zH, hz, Option.bind_some, Comp.zH, hm, Option.bind_some, Comp.zH, vH (by omega), Option.bind_some, Comp.zH, Comp.zI, Option.bind_some, Comp.zH, l7_val hs, Option.bind_some]
  exact (Comp.zI _).trans (by rw [Comp.zR (by simp at hi; omega)])
 ·show (yD X a b C s n (([X.2.2, a, b].length : Nat) : Int)).val = _
  unfold yD
  rw [Comp.zH, Comp.zI, Option.bind_some, Comp.zL, if_neg (by simp), Comp.zI]
theorem l9_none {X : List api_Claim × List api_Sight × Int} {C : List api_Claim} {s : List api_Sight} {a b : Int} (hs : SmallL C) : (Comp.loop (fun t => yB a b C s X t) 0).val = some (.inr ()) := by
 refine loop_none (body := fun t => yB a b C s X t) [a, b] ?_ ?_
 ·intro i x hx
  have hi := zu hx
  obtain ⟨H, e, h1, h2, h3, h4⟩ := explains_same (l := s) X.2.2 x hs
  obtain ⟨G, f, g1, g2, g3⟩ := certain_same (l := s) X.2.2 x hs
  show (yB a b C s X (i : Int)).val = _
  unfold yB
  rw [Comp.zH, Comp.zI, Option.bind_some, Comp.zL, if_pos (by rw [decide_eq_true_iff]; omega), Comp.zH, yh hx, Option.bind_some, Comp.zH, h1, Option.bind_some, Comp.zH, h2, Option.bind_some, Comp.zH, g1, Option.bind_some, Comp.zH, g2, Option.bind_some]
  have hw := Comp.zR (i := i) (by simp at hi; omega)
  simp [Comp.zH, Comp.jv, Comp.zI, Comp.zL, sameInts_val h3, sameInts_val g3, hw]
 ·show (yB a b C s X (([a, b].length : Nat) : Int)).val = _
  unfold yB
  rw [Comp.zH, Comp.zI, Option.bind_some, Comp.zL, if_neg (by simp), Comp.zI]
theorem j5_val {X : List api_Claim × List api_Sight × Int} {C : List api_Claim} {s : List api_Sight} (n : Vector Int 3) {i : Nat} (hi : i < 1000) (hs : SmallL C) : (gE n C s X (i : Int)).val = some (.next ((i + 1 : Nat) : Int)) := by
 obtain ⟨z, hz⟩ := vidx n (i := 1) (by omega)
 replace hz : (idx n.toList 1).val = some z := hz
 obtain ⟨k, hk, hm⟩ := mod_val (z := z) (m := 5) (by omega) (by omega)
 replace hm : (yd z 5).val = some (k : Int) := hm
 obtain ⟨H, e, h1, h2, h3, h4⟩ := conflicts_same (l := s) X.2.2 hs
 unfold gE
 rw [Comp.zH, hz, Option.bind_some, Comp.zH, hz, Option.bind_some, Comp.zH, hm, Option.bind_some, Comp.zH, l9_none hs, Option.bind_some]
 show (gD C s X (i : Int)).val = _
 unfold gD
 rw [Comp.zH, h1, Option.bind_some, Comp.zH, h2, Option.bind_some]
 have hw := Comp.zR (i := i) (by omega)
 simp [Comp.zH, Comp.jv, Comp.zI, Comp.zL, sameInts_val h3, hw]
theorem l4_none {X : List api_Claim × List api_Sight × Int} {C : List api_Claim} {t : List api_Sight} (n : Vector Int 3) (hs : SmallL C) : (Comp.loop (fun u => yE X t n C u) 0).val = some (.inr ()) := by
 obtain ⟨z, hz⟩ := vidx n (i := 0) (by omega)
 replace hz : (idx n.toList 0).val = some z := hz
 obtain ⟨k, hk, hm⟩ := mod_val (z := z) (m := 20) (by omega) (by omega)
 replace hm : (yd z 20).val = some (k : Int) := hm
 refine loop_none (body := fun u => yE X t n C u) [X.2.1, t] ?_ ?_
 ·intro i x hx
  have hi := zu hx
  show (yE X t n C (i : Int)).val = _
  unfold yE
  rw [Comp.zH, Comp.zI, Option.bind_some, Comp.zL, if_pos (by rw [decide_eq_true_iff]; omega), Comp.zH, yh hx, Option.bind_some, Comp.zH, hz, Option.bind_some, Comp.zH, hz, Option.bind_some, Comp.zH, hm, Option.bind_some, Comp.zH, l6_none n hs, Option.bind_some]
  exact j5_val n (by simp at hi; omega) hs
 ·show (yE X t n C (([X.2.1, t].length : Nat) : Int)).val = _
  unfold yE
  rw [Comp.zH, Comp.zI, Option.bind_some, Comp.zL, if_neg (by simp), Comp.zI]
theorem l3_none {X : List api_Claim × List api_Sight × Int} {a b c : List api_Claim} {s : List api_Sight} (n : Vector Int 3) (h : ∀ C ∈ [X.1, a, b, c], SmallL C) (hl : X.2.1.length ≤ 10) (hs : s.length ≤ 5) : (Comp.loop (fun u => yF X a b c s n u) 0).val = some (.inr ()) := by
 have hLIM : LIM = 1073741824 := rfl
 refine loop_none (body := fun u => yF X a b c s n u) [X.1, a, b, c] ?_ ?_
 ·intro i x hx
  have hi := zu hx
  show (yF X a b c s n (i : Int)).val = _
  unfold yF
  rw [Comp.zH, Comp.zI, Option.bind_some, Comp.zL, if_pos (by rw [decide_eq_true_iff]; omega), Comp.zH, yh hx, Option.bind_some, Comp.zH, app_val (by simp; omega), Option.bind_some, Comp.zH, app_val (by simp; omega), Option.bind_some, Comp.zH, l4_none n (h x (List.mem_of_getElem? hx)), Option.bind_some]
  exact (Comp.zI _).trans (by rw [Comp.zR (by simp at hi; omega)])
 ·show (yF X a b c s n (([X.1, a, b, c].length : Nat) : Int)).val = _
  unfold yF
  rw [Comp.zH, Comp.zI, Option.bind_some, Comp.zL, if_neg (by simp), Comp.zI]
theorem forms_val {x : colletlaw43_Case} {b a : Nat} (hb : x.Cells = (b : Int)) (hb2 : b < 256) (ha : a < 256) (q : Vector Int 3) (R : List api_Claim) (l0 : List api_Sight) (n : Vector Int 3) : (gi x (a : Int) q R l0 n).val = some true := by
 have hLIM : LIM = 1073741824 := rfl
 obtain ⟨C, l, M, hC, hmade, _⟩ := made_val (most := 6) hb hb2 (by omega)
 replace hC : (gP x 6).val = some (C, l, (M : Int)) := hC
 have ha1 : IntKind.wrap .i64 (a : Int) = (a : Int) := wrap_nat (by omega)
 have hlen := hmade.len
 have hM := hmade.cells
 have key : ∀ D : List api_Claim, SmallL D → (vK l0 R (a : Int) (C, l, (M : Int)) n true D).val = some true := by
  intro D hD
  obtain ⟨E, hE, hE1, hE2⟩ := few_val R
  have ha2 : IntKind.wrap .i64 (10 + Int.tmod (IntKind.wrap .i64 (a : Int)) 2) = ((10 + a % 2 : Nat) : Int) := by
   rw [ha1, show Int.tmod (a : Int) 2 = ((a % 2 : Nat) : Int) by rw [Int.tmod_eq_emod_of_nonneg (by omega)]; omega, IntWalk.i64_in _ ⟨by omega, by omega⟩]; omega
  have hsub : (sub l0 0 (min (l0.length : Int) 5)).val = some (l0.take (min (l0.length : Int) 5).toNat) := by
   rw [sub_val (by omega)]; rfl
  unfold vK
  rw [Comp.zH, hsub, Option.bind_some, Comp.zH, hE, Option.bind_some, Comp.zH, ha2, mk_val (by omega), Option.bind_some, Comp.zH, l3_none n ?_ hlen.2 (by rw [List.length_take]; omega), Option.bind_some]
  ·show (gF true (C, l, (M : Int))).val = _
   unfold gF
   have hck : (court_Check C (List.replicate 41 (api_Sight.mk 0 0 false)) (M : Int)).val = some 2 := by
    rw [Check_val _ hmade.small]
    unfold checkE
    rw [if_neg (by simp; omega), if_pos (by simp)]
   have hmk : (mk 41 (api_Sight.mk 0 0 false)).val = some (List.replicate 41 (api_Sight.mk 0 0 false)) := mk_val (by omega)
   rw [Comp.zH, Comp.jv, if_pos (by rfl), hmk, Option.bind_some, Comp.zH, Comp.jv, if_pos (by rfl), hck, Option.bind_some]
   simp [Comp.zH, Comp.zI]
  ·intro K hK
   simp only [List.mem_cons, List.not_mem_nil, or_false] at hK
   rcases hK with rfl | rfl | rfl | rfl
   ·exact hmade.small
   ·exact hD
   ·exact hE2.small
   ·intro y hy
    rw [List.mem_replicate] at hy
    rw [hy.2]
    unfold SmallC
    simp
 unfold gi
 rw [Comp.zH, sanity_val, Option.bind_some, Comp.zH, hC, Option.bind_some, Comp.zH, app_val (by simp; omega), Option.bind_some, List.nil_append, Comp.zL]
 dsimp only
 by_cases h0 : decide ((C.length : Int) > 0) = true
 ·rw [if_pos h0]
  rw [decide_eq_true_iff] at h0
  have hr : (rem (a : Int) (C.length : Int)).val = some ((a % C.length : Nat) : Int) := by
   rw [rem_val (by omega), Int.tmod_eq_emod_of_nonneg (by omega)]; simp
  have hlt : a % C.length < C.length := Nat.mod_lt _ (by omega)
  have hg := List.getElem?_eq_getElem hlt
  obtain ⟨y, hy, hy2⟩ := odd_val q (hmade.tiny _ (List.getElem_mem hlt))
  rw [ha1, Comp.zH, hr, Option.bind_some, Comp.zH, hr, Option.bind_some, Comp.zH, yh hg, Option.bind_some, Comp.zH, hy, Option.bind_some, Comp.zH, yh hg, Option.bind_some, Comp.zH, upd_val (by omega), Option.bind_some]
  refine key _ ?_
  intro z hz
  rcases List.mem_or_eq_of_mem_set hz with h | h
  ·exact hmade.small z h
  ·rw [h]; exact hy2
 ·rw [if_neg h0]
  exact key _ hmade.small
end Go.Crt
end
section
set_option linter.unusedVariables false
set_option linter.unusedSimpArgs false
namespace Go.Crt
open Go Go.Lift Go.F Go.Cor
theorem law_CourtForms {x : colletlaw43_Case} {a : Int} (hc : (Lit.int .u8 x.Cells).wf = true) (ha : (Lit.int .u8 a).wf = true) (q : Vector Int 3) (R : List api_Claim) (l : List api_Sight) (n : Vector Int 3) : (gi x a q R l n).val = some true := by
 obtain ⟨b, hb, hb2⟩ := wf_u8 hc
 obtain ⟨c, hc, rfl⟩ := wf_u8 ha
 exact forms_val hb2 hb hc q R l n
end Go.Crt
end
section
set_option linter.unusedVariables false
set_option linter.unusedSimpArgs false
namespace Go.Lift
open Go Go.RowKit Go.Eng Go.ChangeShapes Go.WideShapes Go.ChangeAt Go.Joins Go.Deep Go.WideElems
variable {H : Type} {enc : TypeId × Value → H} {P : Program} {w : World} {base : Nat} {sp : Nat → Bool} {held : Bool} {α β γ : Type}
abbrev O0 : Tags := fun _ => 0
structure Opens (enc : TypeId × Value → H) (P : Program) (w : World) (base : Nat) (sp : Nat → Bool) (held : Bool) (t : Nat) (r : GR α) (Q : α → Prop) : Prop where
 size : P.cellsOf t = r.sz
 fits : r.fits
 op : ∀ fuel cs x, DataW.trod enc P w base sp held fuel t cs = some x → ∃ y, r.rel O0 w cs y ∧ Q y
theorem opens_int {t : Nat} {k : IntKind} (ht : P.underlying t = some (.int k)) (hs : P.cellsOf t = 1) : Opens enc P w base sp held t (rInt k) fun n => (Lit.int k n).wf = true :=
 ⟨hs, fun _ => rfl, fun fuel cs x h => by obtain ⟨n, h1, _, h2⟩ := DataW.trod_int ht h; exact ⟨n, h1, h2⟩⟩
theorem opens_bool {t : Nat} (ht : P.underlying t = some .bool) (hs : P.cellsOf t = 1) : Opens enc P w base sp held t rBool fun _ => True :=
 ⟨hs, fun _ => rfl, fun fuel cs x h => by obtain ⟨n, h1, _⟩ := DataW.trod_bool ht h; exact ⟨n, h1, trivial⟩⟩
theorem relL_of {r : GR α} {O : Tags} {Q : α → Prop} : ∀ {vs : List Value}, (∀ v ∈ vs, ∃ y, r.v O w v y ∧ Q y) → ∃ ys, RelL r O w vs ys ∧ ∀ y ∈ ys, Q y
 | [], _ => ⟨[], trivial, by simp⟩
 | v :: vs, h => by
   obtain ⟨y, h1, h2⟩ := h v (by simp)
   obtain ⟨ys, h3, h4⟩ := relL_of (vs := vs) fun u hu => h u (List.mem_cons_of_mem _ hu)
   exact ⟨y :: ys, ⟨h1, h3⟩, fun z hz => (List.mem_cons.1 hz).elim (fun e => by rw [e]; exact h2) (h4 z)⟩
theorem opens_slice {t e : Nat} {r : GR α} {Q : α → Prop} (ht : P.underlying t = some (.slice e)) (hs : P.cellsOf t = 1) (hE : Opens enc P w base sp held e r Q) (hpos : 0 < r.sz) : Opens enc P w base sp held t (rSl r) fun xs => (∀ x ∈ xs, Q x) ∧ xs.length ≤ maxLen := by
 refine ⟨hs, fun _ => rfl, fun fuel cs x h => ?_⟩
 rcases DataW.trod_slice ht h with ⟨rfl, _⟩ | ⟨a, len, cap, elems, rest, n, _, rfl, _, hb, hl, hm, hlen, hel, _, _⟩
 ·exact ⟨[], ⟨_, [], rfl, ⟨none, 0, rfl, by simp, by simp, .inl rfl⟩, trivial, fun h => absurd rfl h⟩, by simp, by simp⟩
 ·have each : ∀ i, i < len → ∃ cs, w.cells? base (a.add (i * r.sz)) r.sz = some cs ∧ ∃ y, r.rel O0 w cs y ∧ Q y := by
   intro i hi
   have := hel i hi
   rw [List.getElem?_eq_getElem (by omega), hE.size, Option.bind_eq_some_iff] at this
   obtain ⟨cs, h1, h2⟩ := this
   exact ⟨cs, h1, hE.op n cs _ h2⟩
  let f : Nat → Value := fun i => packV r.agg ((w.cells? base (a.add (i * r.sz)) r.sz).getD [])
  have hf : ∀ i, i < len → ∃ y, r.v O0 w (f i) y ∧ Q y := by
   intro i hi
   obtain ⟨cs, h1, y, h2, h3⟩ := each i hi
   exact ⟨y, ⟨cs, h2, by show packV r.agg ((w.cells? base (a.add (i * r.sz)) r.sz).getD []) = _; rw [h1]; rfl⟩, h3⟩
  have hfc : ∀ i, i < len → ∀ j, j < r.sz → w.cell? (a.add (i * r.sz + j)) = (f i).cells[j]? := by
   intro i hi j hj
   obtain ⟨cs, h1, y, h2, _⟩ := each i hi
   have h4 := (World.cells?_some h1).2.2 j hj
   have h5 : (f i).cells = cs.toArray := by
    show (packV r.agg ((w.cells? base (a.add (i * r.sz)) r.sz).getD [])).cells = _
    rw [h1]
    exact cells_pack (fun ha => by show cs.length = 1; rw [r.len h2, hE.fits ha]) (r.one h2)
   rw [h5, List.getElem?_toArray, ← h4]
   rw [_root_.Go.Addr.add_add]
  obtain ⟨ys, h1, h2⟩ := relL_of (r := r) (O := O0) (w := w) (Q := Q) (vs := (List.range len).map f) (by
   intro v hv
   obtain ⟨i, hi, rfl⟩ := List.mem_map.1 hv
   exact hf i (List.mem_range.1 hi))
  have hyl : ys.length = len := by have := h1.len; simpa using this.symm
  refine ⟨ys, ⟨_, (List.range len).map f, rfl, ⟨some a, cap, by simp, by simpa using hl, ?_, ?_⟩, h1, ?_⟩, h2, by omega⟩
  ·intro v hv
   obtain ⟨y, hy⟩ : ∃ y, r.v O0 w v y := by
    obtain ⟨i, hi, rfl⟩ := List.mem_map.1 hv
    obtain ⟨y, hy, _⟩ := hf i (List.mem_range.1 hi); exact ⟨y, hy⟩
   exact r.cells_size hE.fits hy
  ·by_cases h0 : len = 0
   ·left; simp [h0]
   ·right
    obtain ⟨b, off, spot⟩ := a
    have hc0 : (w.cell? (Addr.add ⟨b, off, spot⟩ (0 * r.sz + 0))).isSome = true := by
     rw [hfc 0 (by omega) 0 hpos]
     obtain ⟨y, hy, _⟩ := hf 0 (by omega)
     have := r.cells_size hE.fits hy
     rw [Array.getElem?_eq_getElem (by omega)]; rfl
    obtain ⟨v0, hv0⟩ := Option.isSome_iff_exists.1 hc0
    have hspot : spot = none := by simpa [Addr.add] using World.cell?_spot hv0
    subst hspot
    refine ⟨b, off, rfl, fun i x hx j hj => ?_⟩
    have hi : i < len := by have := (List.getElem?_eq_some_iff.1 hx).1; simpa using this
    have hx' : x = f i := by
     rw [List.getElem?_map, List.getElem?_range hi] at hx
     simpa using hx.symm
    rw [hx', ← hfc i hi j hj]
    unfold Addr.add
    split
    ·rename_i h0; congr 1; simp [h0]
    ·rfl
  ·intro hne g hg
   have h0 : 0 < len := by
    rcases Nat.eq_zero_or_pos len with h0 | h0
    ·subst h0; exact absurd rfl hne
    ·exact h0
   have hgb : g = a.block := by
    have : (Value.slice (some a) len cap).ownBlock = some a.block := rfl
    rw [this] at hg; exact (Option.some.inj hg).symm
   subst hgb
   refine ⟨?_, rfl⟩
   obtain ⟨cs, h3, _⟩ := each 0 h0
   have h4 := (World.cells?_some h3)
   have h5 := h4.2.2 0 hpos
   rw [List.getElem?_eq_getElem (by omega)] at h5
   have he : (a.add (0 * r.sz)).add 0 = a := by simp [Addr.add]
   rw [he] at h5
   exact World.block_lt_of_cell? _ _ h5
theorem open_top {t : Nat} {r : GR α} {Q : α → Prop} {v : Value} {d : DataW H} {ps : List MemPlace} (hE : Opens enc P w base sp held t r Q) (hv : packV r.agg v.cells.toList = v) (h : DataW.Trod enc P w base sp held t v d ps) : ∃ x, r.v O0 w v x ∧ Q x := by
 obtain ⟨fuel, hf⟩ := h
 obtain ⟨y, h1, h2⟩ := hE.op fuel _ _ hf
 exact ⟨y, ⟨_, h1, hv.symm⟩, h2⟩
theorem open_rsl {t e : Nat} {r : GR α} {Q : α → Prop} {re : Reach} {b0 : Nat} {v : Value} {d : DataW H} {ps : List MemPlace} (ht : P.underlying t = some (.slice e)) (hs : P.cellsOf t = 1) (hE : Opens enc P w base sp held e r Q) (hpos : 0 < r.sz) (hval : Value.okWide P w re b0 t v) (h : DataW.Trod enc P w base sp held t v d ps) :
  ∃ xs, (rSl r).v O0 w v xs ∧ (∀ x ∈ xs, Q x) ∧ xs.length ≤ maxLen := by
 obtain ⟨a, len, cap, rfl⟩ := okWide_slice ht hval
 exact open_top (opens_slice ht hs hE hpos) (by simp [Value.cells, packV, rSl]) h
theorem okO_O0 : OkO O0 w := fun _ _ => rfl
end Go.Lift
end
section
set_option linter.unusedVariables false
set_option linter.unusedSimpArgs false
namespace Go.Lift
open Go Go.RowKit Go.Eng Go.ChangeShapes Go.WideShapes Go.ChangeAt Go.Joins Go.Deep Go.WideElems
variable {H : Type} {enc : TypeId × Value → H} {P : Program} {w : World} {base : Nat} {sp : Nat → Bool} {held : Bool} {α β γ : Type}
theorem chop (cs : List Value) (off s : Nat) : cs.drop off = (cs.drop off).take s ++ cs.drop (off + s) := by
 rw [← List.drop_drop, List.take_append_drop]
theorem Opens.at_ {t : Nat} {r : GR α} {Q : α → Prop} (hE : Opens enc P w base sp held t r Q) {off n : Nat} {cs : List Value} {y} (h : DataW.trod enc P w base sp held n t ((cs.drop off).take (P.cellsOf t)) = some y) : ∃ a, r.rel O0 w ((cs.drop off).take r.sz) a ∧ Q a := by
 rw [hE.size] at h; exact hE.op n _ _ h
theorem rows_of {f : α → List Value} {Q : α → Prop} {k : Nat} : ∀ (n : Nat) (cs : List Value), cs.length = n * k → (∀ i, i < n → ∃ y, (cs.drop (i * k)).take k = f y ∧ Q y) → ∃ ys : List α, ys.length = n ∧ cs = ys.flatMap f ∧ ∀ y ∈ ys, Q y
 | 0, cs, h, _ => ⟨[], rfl, by rw [Nat.zero_mul] at h; rw [List.eq_nil_of_length_eq_zero h]; rfl, by simp⟩
 | n + 1, cs, h, hh => by
  obtain ⟨y, h1, h2⟩ := hh 0 (by omega)
  rw [Nat.zero_mul, List.drop_zero] at h1
  obtain ⟨ys, h3, h4, h5⟩ := rows_of (f := f) (Q := Q) (k := k) n (cs.drop k) (by rw [List.length_drop, h, Nat.add_mul]; omega) (fun i hi => by
   obtain ⟨z, h6, h7⟩ := hh (i + 1) (by omega)
   exact ⟨z, by rw [List.drop_drop, ← h6, Nat.add_mul, Nat.one_mul, Nat.add_comm], h7⟩)
  refine ⟨y :: ys, by simp [h3], ?_, ?_⟩
  ·rw [List.flatMap_cons, ← h1, ← h4, List.take_append_drop]
  ·intro z hz
   rcases List.mem_cons.1 hz with rfl | hz
   ·exact h2
   ·exact h5 z hz
theorem opens_vec {t e n k : Nat} {agg : Bool} {f : α → List Value} {hl ho hl' ho'} {Q : α → Prop} (ht : P.underlying t = some (.array n e)) (hs : P.cellsOf t = n * k) (hE : Opens enc P w base sp held e (rC agg k f hl ho) Q) : Opens enc P w base sp held t (rVec n k f hl' ho') fun x => ∀ y ∈ x.toList, Q y := by
 refine ⟨hs, (fun h => by cases h), fun fuel cs x h => ?_⟩
 obtain ⟨xs, m, rfl, rfl, hlen, hxl, hel⟩ := DataW.trod_array ht h
 obtain ⟨ys, h1, h2, h3⟩ := rows_of (f := f) (Q := Q) (k := k) n cs (by rw [hlen, hs]) (fun i hi => by
  have := hel i hi
  rw [List.getElem?_eq_getElem (by omega)] at this
  have hc : P.cellsOf e = k := hE.size
  rw [hc] at this
  have h4 : (cs.drop (i * k)).take k = (cs.drop (i * k)).take (P.cellsOf e) := by rw [hc]
  rw [h4] at this
  obtain ⟨a, h5, h6⟩ := hE.at_ this
  exact ⟨a, h5, h6⟩)
 exact ⟨⟨ys.toArray, by simpa using h1⟩, h2, by simpa using h3⟩
theorem okWide_array {n e : Nat} {t : TypeId} {r : Reach} {b : Nat} {v : Value} (ht : P.underlying t = some (.array n e)) (h : Value.okWide P w r b t v) : ∃ cs, v = .agg cs ∧ cs.size = P.cellsOf t := by
 simp only [Value.okWide, ht] at h
 obtain ⟨cs, h1, h2, _⟩ := h
 exact ⟨cs, h1, h2⟩
theorem open_struct {t : Nat} {fs : Array Field} {r : GR α} {Q : α → Prop} {re : Reach} {b0 : Nat} {v : Value} {d : DataW H} {ps : List MemPlace} (ht : P.underlying t = some (.struct fs)) (hE : Opens enc P w base sp held t r Q) (ha : r.agg = true) (hval : Value.okWide P w re b0 t v) (h : DataW.Trod enc P w base sp held t v d ps) : ∃ x, r.v O0 w v x ∧ Q x := by
 obtain ⟨cs, rfl, _⟩ := okWide_struct ht hval
 exact open_top hE (by simp [Value.cells, packV, ha]) h
theorem open_array {t n e : Nat} {r : GR α} {Q : α → Prop} {re : Reach} {b0 : Nat} {v : Value} {d : DataW H} {ps : List MemPlace} (ht : P.underlying t = some (.array n e)) (hE : Opens enc P w base sp held t r Q) (ha : r.agg = true) (hval : Value.okWide P w re b0 t v) (h : DataW.Trod enc P w base sp held t v d ps) : ∃ x, r.v O0 w v x ∧ Q x := by
 obtain ⟨cs, rfl, _⟩ := okWide_array ht hval
 exact open_top hE (by simp [Value.cells, packV, ha]) h
end Go.Lift
end
section
namespace Go.Proofs.Ytebmpjdegajhgaa.courtFormsDone
open Go Go.ChangeShapes Go.WideShapes Go.ChangeAt Go.RowKit Go.Eng Go.Lift Go.Joins Go.F
open Go.ChangeMaps (open_string shut_string)
open Go.Proofs.Ytebmpjdegajhgaa
set_option linter.unusedVariables false
set_option linter.unusedSimpArgs false
theorem op_3 {H : Type} {enc : TypeId × Value → H} {w : World} {base : Nat} {sp : Nat → Bool} {held : Bool} : Opens enc Try.prog w base sp held 3 (rInt .i64) (fun z => (Lit.int .i64 z).wf = true) := opens_int Try.underlying3 (by kernel_rfl)
theorem op_23 {H : Type} {enc : TypeId × Value → H} {w : World} {base : Nat} {sp : Nat → Bool} {held : Bool} : Opens enc Try.prog w base sp held 23 (rSl (rInt .i64)) (fun z => (∀ y ∈ z, (fun z => (Lit.int .i64 z).wf = true) y) ∧ z.length ≤ maxLen) := opens_slice Try.underlying23 (by kernel_rfl) op_3 (by decide)
theorem op_22 {H : Type} {enc : TypeId × Value → H} {w : World} {base : Nat} {sp : Nat → Bool} {held : Bool} : Opens enc Try.prog w base sp held 22 (rSl (rSl (rInt .i64))) (fun z => (∀ y ∈ z, (fun z => (∀ y ∈ z, (fun z => (Lit.int .i64 z).wf = true) y) ∧ z.length ≤ maxLen) y) ∧ z.length ≤ maxLen) := opens_slice Try.underlying22 (by kernel_rfl) op_23 (by decide)
theorem op_5 {H : Type} {enc : TypeId × Value → H} {w : World} {base : Nat} {sp : Nat → Bool} {held : Bool} : Opens enc Try.prog w base sp held 5 (rInt .u8) (fun z => (Lit.int .u8 z).wf = true) := opens_int Try.underlying5 (by kernel_rfl)
def Q_colletlaw43_Case (x : colletlaw43_Case) : Prop := ((∀ y ∈ x.Claims, (fun z => (∀ y ∈ z, (fun z => (Lit.int .i64 z).wf = true) y) ∧ z.length ≤ maxLen) y) ∧ x.Claims.length ≤ maxLen) ∧ ((Lit.int .u8 x.Cells).wf = true) ∧ ((∀ y ∈ x.Sights, (fun z => (Lit.int .i64 z).wf = true) y) ∧ x.Sights.length ≤ maxLen) ∧ True
theorem op_25 {H : Type} {enc : TypeId × Value → H} {w : World} {base : Nat} {sp : Nat → Bool} {held : Bool} : Opens enc Try.prog w base sp held 25 ze Q_colletlaw43_Case := by
 refine ⟨by kernel_rfl, yX, fun fuel cs x h => ?_⟩
 obtain ⟨xs, n, rfl, rfl, hl, hlen, hf⟩ := DataW.trod_struct Try.underlying25 h
 have hl' : cs.length = 3 := hl.trans (by kernel_rfl)
 obtain ⟨y0, hy0⟩ : ∃ y, xs[0]? = some y := ⟨_, List.getElem?_eq_getElem (by rw [hlen]; decide)⟩
 obtain ⟨a0, k0, q0⟩ := Opens.at_ (off := 0) (n := n) (cs := cs) (op_22 (enc := enc) (w := w) (base := base) (sp := sp) (held := held)) ((hf 0 _ rfl).trans hy0)
 obtain ⟨y1, hy1⟩ : ∃ y, xs[1]? = some y := ⟨_, List.getElem?_eq_getElem (by rw [hlen]; decide)⟩
 obtain ⟨a1, k1, q1⟩ := Opens.at_ (off := 1) (n := n) (cs := cs) (op_5 (enc := enc) (w := w) (base := base) (sp := sp) (held := held)) ((hf 1 _ rfl).trans hy1)
 obtain ⟨y2, hy2⟩ : ∃ y, xs[2]? = some y := ⟨_, List.getElem?_eq_getElem (by rw [hlen]; decide)⟩
 obtain ⟨a2, k2, q2⟩ := Opens.at_ (off := 2) (n := n) (cs := cs) (op_23 (enc := enc) (w := w) (base := base) (sp := sp) (held := held)) ((hf 2 _ rfl).trans hy2)
 exact ⟨⟨a0, a1, a2⟩, ⟨_, _, chop cs 0 1, k0, ⟨_, _, chop cs 1 1, k1, ⟨_, _, chop cs 2 1, k2, List.drop_of_length_le (by rw [hl']; decide)⟩⟩⟩, ⟨q0, q1, q2, trivial⟩⟩
theorem op_26 {H : Type} {enc : TypeId × Value → H} {w : World} {base : Nat} {sp : Nat → Bool} {held : Bool} : Opens enc Try.prog w base sp held 26 (rVec 3 1 (fun x => [.int .i64 x]) (fun _ => rfl) (fun _ => by simp [Value.oneCell'])) (fun z => ∀ y ∈ z.toList, (fun z => (Lit.int .i64 z).wf = true) y) := opens_vec Try.underlying26 (by kernel_rfl) op_3
def Q_api_Claim (x : api_Claim) : Prop := ((Lit.int .i64 x.Party).wf = true) ∧ ((Lit.int .i64 x.Kind).wf = true) ∧ ((Lit.int .i64 x.Gauge).wf = true) ∧ ((∀ y ∈ x.Sure, (fun z => (Lit.int .i64 z).wf = true) y) ∧ x.Sure.length ≤ maxLen) ∧ ((∀ y ∈ x.Touched, (fun z => (Lit.int .i64 z).wf = true) y) ∧ x.Touched.length ≤ maxLen) ∧ True
theorem op_33 {H : Type} {enc : TypeId × Value → H} {w : World} {base : Nat} {sp : Nat → Bool} {held : Bool} : Opens enc Try.prog w base sp held 33 zA Q_api_Claim := by
 refine ⟨by kernel_rfl, zK, fun fuel cs x h => ?_⟩
 obtain ⟨xs, n, rfl, rfl, hl, hlen, hf⟩ := DataW.trod_struct Try.underlying33 h
 have hl' : cs.length = 5 := hl.trans (by kernel_rfl)
 obtain ⟨y0, hy0⟩ : ∃ y, xs[0]? = some y := ⟨_, List.getElem?_eq_getElem (by rw [hlen]; decide)⟩
 obtain ⟨a0, k0, q0⟩ := Opens.at_ (off := 0) (n := n) (cs := cs) (op_3 (enc := enc) (w := w) (base := base) (sp := sp) (held := held)) ((hf 0 _ rfl).trans hy0)
 obtain ⟨y1, hy1⟩ : ∃ y, xs[1]? = some y := ⟨_, List.getElem?_eq_getElem (by rw [hlen]; decide)⟩
 obtain ⟨a1, k1, q1⟩ := Opens.at_ (off := 1) (n := n) (cs := cs) (op_3 (enc := enc) (w := w) (base := base) (sp := sp) (held := held)) ((hf 1 _ rfl).trans hy1)
 obtain ⟨y2, hy2⟩ : ∃ y, xs[2]? = some y := ⟨_, List.getElem?_eq_getElem (by rw [hlen]; decide)⟩
 obtain ⟨a2, k2, q2⟩ := Opens.at_ (off := 2) (n := n) (cs := cs) (op_3 (enc := enc) (w := w) (base := base) (sp := sp) (held := held)) ((hf 2 _ rfl).trans hy2)
 obtain ⟨y3, hy3⟩ : ∃ y, xs[3]? = some y := ⟨_, List.getElem?_eq_getElem (by rw [hlen]; decide)⟩
 obtain ⟨a3, k3, q3⟩ := Opens.at_ (off := 3) (n := n) (cs := cs) (op_23 (enc := enc) (w := w) (base := base) (sp := sp) (held := held)) ((hf 3 _ rfl).trans hy3)
 obtain ⟨y4, hy4⟩ : ∃ y, xs[4]? = some y := ⟨_, List.getElem?_eq_getElem (by rw [hlen]; decide)⟩
 obtain ⟨a4, k4, q4⟩ := Opens.at_ (off := 4) (n := n) (cs := cs) (op_23 (enc := enc) (w := w) (base := base) (sp := sp) (held := held)) ((hf 4 _ rfl).trans hy4)
 exact ⟨⟨a0, a1, a2, a3, a4⟩, ⟨_, _, chop cs 0 1, k0, ⟨_, _, chop cs 1 1, k1, ⟨_, _, chop cs 2 1, k2, ⟨_, _, chop cs 3 1, k3, ⟨_, _, chop cs 4 1, k4, List.drop_of_length_le (by rw [hl']; decide)⟩⟩⟩⟩⟩, ⟨q0, q1, q2, q3, q4, trivial⟩⟩
theorem op_4 {H : Type} {enc : TypeId × Value → H} {w : World} {base : Nat} {sp : Nat → Bool} {held : Bool} : Opens enc Try.prog w base sp held 4 rBool (fun z => True) := opens_bool Try.underlying4 (by kernel_rfl)
def Q_api_Sight (x : api_Sight) : Prop := ((Lit.int .i64 x.Gauge).wf = true) ∧ ((Lit.int .i64 x.Cell).wf = true) ∧ (True) ∧ True
theorem op_64 {H : Type} {enc : TypeId × Value → H} {w : World} {base : Nat} {sp : Nat → Bool} {held : Bool} : Opens enc Try.prog w base sp held 64 zD Q_api_Sight := by
 refine ⟨by kernel_rfl, yv, fun fuel cs x h => ?_⟩
 obtain ⟨xs, n, rfl, rfl, hl, hlen, hf⟩ := DataW.trod_struct Try.underlying64 h
 have hl' : cs.length = 3 := hl.trans (by kernel_rfl)
 obtain ⟨y0, hy0⟩ : ∃ y, xs[0]? = some y := ⟨_, List.getElem?_eq_getElem (by rw [hlen]; decide)⟩
 obtain ⟨a0, k0, q0⟩ := Opens.at_ (off := 0) (n := n) (cs := cs) (op_3 (enc := enc) (w := w) (base := base) (sp := sp) (held := held)) ((hf 0 _ rfl).trans hy0)
 obtain ⟨y1, hy1⟩ : ∃ y, xs[1]? = some y := ⟨_, List.getElem?_eq_getElem (by rw [hlen]; decide)⟩
 obtain ⟨a1, k1, q1⟩ := Opens.at_ (off := 1) (n := n) (cs := cs) (op_3 (enc := enc) (w := w) (base := base) (sp := sp) (held := held)) ((hf 1 _ rfl).trans hy1)
 obtain ⟨y2, hy2⟩ : ∃ y, xs[2]? = some y := ⟨_, List.getElem?_eq_getElem (by rw [hlen]; decide)⟩
 obtain ⟨a2, k2, q2⟩ := Opens.at_ (off := 2) (n := n) (cs := cs) (op_4 (enc := enc) (w := w) (base := base) (sp := sp) (held := held)) ((hf 2 _ rfl).trans hy2)
 have e : cs = (cs.drop 0).take 1 ++ ((cs.drop 1).take 1 ++ ((cs.drop 2).take 1 ++ ([]))) := ((chop cs 0 1).trans (congrArg ((cs.drop 0).take 1 ++ ·) ((chop cs 1 1).trans (congrArg ((cs.drop 1).take 1 ++ ·) ((chop cs 2 1).trans (congrArg ((cs.drop 2).take 1 ++ ·) (List.drop_of_length_le (by rw [hl']; decide))))))))
 have k0' : (cs.drop 0).take 1 = [.int .i64 a0] := k0
 have k1' : (cs.drop 1).take 1 = [.int .i64 a1] := k1
 have k2' : (cs.drop 2).take 1 = [.bool a2] := k2
 refine ⟨⟨a0, a1, a2⟩, ?_, ⟨q0, q1, q2, trivial⟩⟩
 show cs = [.int .i64 a0, .int .i64 a1, .bool a2]
 rw [e, k0', k1', k2']
 first | done | rfl | simp
theorem own : ownKnob Try.prog.godebug = none := by kernel_rfl
theorem laidOut : laidOutB Try.prog = true := by kernel_rfl
set_option maxRecDepth 100000 in
theorem lifted (os : Os) (started : os.Started) (H : Type) (enc : TypeId × Value → H) :
  ReturnsInHanded {} Try.checked os 3 .any (Rows.courtFormsSpec.pre6 enc Try.prog Try.f3 Rows.courtFormsRow.domain false) (Rows.courtFormsSpec.post enc Try.prog Try.f3 false true false false) := by
 refine returnsInHanded_of_change (C := Try.checked) own started (by kernel_rfl) Try.func3
  (ChangeSpec.witness6 (enc := enc) (C := Try.checked) false ⟨#[], #[.agg #[.slice none 0 0, .int .u8 0, .slice none 0 0], .int .u8 0, .agg #[.int .i64 0, .int .i64 0, .int .i64 0], .slice none 0 0, .slice none 0 0, .agg #[.int .i64 0, .int .i64 0, .int .i64 0]], []⟩ 8 (by kernel_rfl) (by kernel_rfl) (by kernel_rfl) (by kernel_rfl)) ?_
 intro W base args ds gs before hval0 hW hcnd _
 have hval : ∀ (j : Nat) t v, Try.f3.params[j]? = some t → args[j]? = some v → Value.okWide Try.prog W .any base t v := hval0
 have hW' := hW
 obtain ⟨p, q, hA0, hV, rfl, hfz, hnd⟩ := hW
 have hA : DataW.TrodAll enc Try.prog W 0 (fun _ => true) true Try.f3.params.toList args.toList ds p := hA0
 rw [Try.params3] at hA hval
 obtain ⟨v0, vs0, d0, ds0, p0, q0_, hargs, rfl, rfl, h0, r0⟩ := trodAll_cons hA
 obtain ⟨v1, vs1, d1, ds1, p1, q1_, rfl, rfl, rfl, h1, r1⟩ := trodAll_cons r0
 obtain ⟨v2, vs2, d2, ds2, p2, q2_, rfl, rfl, rfl, h2, r2⟩ := trodAll_cons r1
 obtain ⟨v3, vs3, d3, ds3, p3, q3_, rfl, rfl, rfl, h3, r3⟩ := trodAll_cons r2
 obtain ⟨v4, vs4, d4, ds4, p4, q4_, rfl, rfl, rfl, h4, r4⟩ := trodAll_cons r3
 obtain ⟨v5, vs5, d5, ds5, p5, q5_, rfl, rfl, rfl, h5, r5⟩ := trodAll_cons r4
 obtain ⟨rfl, rfl, rfl⟩ := trodAll_nil r5
 obtain rfl : args = #[v0, v1, v2, v3, v4, v5] := by cases args; simp_all
 obtain ⟨rfl, rfl⟩ := trodVars_none hV
 have k0 := h0
 have lt0 : ∀ x ∈ p0, x.block < W.heap.size := by obtain ⟨m, hm⟩ := k0; exact DataW.trod_lt m _ _ _ hm
 have k1 := h1
 have lt1 : ∀ x ∈ p1, x.block < W.heap.size := by obtain ⟨m, hm⟩ := k1; exact DataW.trod_lt m _ _ _ hm
 have k2 := h2
 have lt2 : ∀ x ∈ p2, x.block < W.heap.size := by obtain ⟨m, hm⟩ := k2; exact DataW.trod_lt m _ _ _ hm
 have k3 := h3
 have lt3 : ∀ x ∈ p3, x.block < W.heap.size := by obtain ⟨m, hm⟩ := k3; exact DataW.trod_lt m _ _ _ hm
 have k4 := h4
 have lt4 : ∀ x ∈ p4, x.block < W.heap.size := by obtain ⟨m, hm⟩ := k4; exact DataW.trod_lt m _ _ _ hm
 have k5 := h5
 have lt5 : ∀ x ∈ p5, x.block < W.heap.size := by obtain ⟨m, hm⟩ := k5; exact DataW.trod_lt m _ _ _ hm
 obtain ⟨x0, hr0, q0⟩ := open_struct Try.underlying25 op_25 rfl (hval 0 25 v0 rfl rfl) h0
 obtain ⟨x1, e1, _, _, q1⟩ := open_int Try.underlying5 (hval 1 5 v1 rfl rfl) h1
 obtain ⟨x2, hr2, q2⟩ := open_array Try.underlying26 op_26 rfl (hval 2 26 v2 rfl rfl) h2
 have e2 : v2 = .agg (jN (fun x => [.int .i64 x]) x2).toArray := rC_v.1 hr2
 obtain ⟨x3, hr3, q3⟩ := open_rsl Try.underlying27 (by kernel_rfl) op_33 (by decide) (hval 3 27 v3 rfl rfl) h3
 obtain ⟨x4, hr4, q4⟩ := open_rsl Try.underlying28 (by kernel_rfl) op_64 (by decide) (hval 4 28 v4 rfl rfl) h4
 obtain ⟨x5, hr5, q5⟩ := open_array Try.underlying26 op_26 rfl (hval 5 26 v5 rfl rfl) h5
 have e5 : v5 = .agg (jN (fun x => [.int .i64 x]) x5).toArray := rC_v.1 hr5
 clear hA0 hval0
 obtain ⟨n_, hn_⟩ := Comp.val_some.1 (Go.Crt.law_CourtForms q0.2.1 q1 x2 x3 x4 x5)
 have walk := ok_colletlaw43_CourtForms (w0 := W) okO_O0 hr0 hr3 hr4 hn_
 refine Calls.mono (R := fun e W' => e = .returned (.bool true) ∧ Below W.heap.size W W') ?_ fun e W' ⟨he, bel⟩ => ?_
 ·rw [e1]; rw [e2]; rw [e5]; exact Calls.mono walk fun e W' ⟨_, h1, h2, h3⟩ => ⟨by rw [h1]; exact congrArg _ h3, h2⟩
 ·subst he
  exact ⟨_, rfl, _, _, _, [], _, [], hW', trodAll_mk1 (shut_bool Try.underlying4 _), (trodAll_cons_mk (Below.trod laidOut (by kernel_rfl) (of_decide_eq_true (by kernel_rfl)) k0 bel lt0) (trodAll_cons_mk (Below.trod laidOut (by kernel_rfl) (of_decide_eq_true (by kernel_rfl)) k1 bel lt1) (trodAll_cons_mk (Below.trod laidOut (by kernel_rfl) (of_decide_eq_true (by kernel_rfl)) k2 bel lt2) (trodAll_cons_mk (Below.trod laidOut (by kernel_rfl) (of_decide_eq_true (by kernel_rfl)) k3 bel lt3) (trodAll_cons_mk (Below.trod laidOut (by kernel_rfl) (of_decide_eq_true (by kernel_rfl)) k4 bel lt4) (trodAll_cons_mk (Below.trod laidOut (by kernel_rfl) (of_decide_eq_true (by kernel_rfl)) k5 bel lt5) trodAll_mk0)))))), rfl, bel.frame _, fun h => by cases h⟩
theorem proved : Rows.CourtFormsSaid :=
 OpenClaim.holds_of_wide 3 Try.f3 rfl rfl rfl rfl rfl rfl rfl ⟨rfl, rfl, rfl, rfl, rfl⟩ rfl rfl rfl rfl rfl (by kernel_rfl) Try.func3 (by kernel_rfl)
  (of_decide_eq_true (by kernel_rfl)) (by unfold Func.isWrapper; first | (rw [if_pos (by decide +kernel)]; kernel_rfl) | (rw [if_neg (by decide +kernel)]; exact ⟨rfl, rfl⟩))
  (fun os started H enc _ => lifted os started H enc)
#print axioms proved
end Go.Proofs.Ytebmpjdegajhgaa.courtFormsDone
end
