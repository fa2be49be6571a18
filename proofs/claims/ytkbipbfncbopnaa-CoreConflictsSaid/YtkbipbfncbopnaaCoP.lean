/- Counting the elements of a set, plainly. No statement of the program stands here. -/
import Derived.Test.YtkbipbfncbopnaaCoD
namespace Go.Cor
open Go Go.Lift Go.F
/-- how many of the k lowest bits are set -/
def popN : Nat → Nat → Nat
  | 0, _ => 0
  | k + 1, n => n % 2 + popN k (n / 2)
theorem popN_zero : ∀ k, popN k 0 = 0
  | 0 => rfl
  | k + 1 => by simp [popN, popN_zero k]
theorem popN_add (a b : Nat) : ∀ n, popN (a + b) n = popN a n + popN b (n / 2 ^ a) := by
  induction a with
  | zero => intro n; simp [popN]
  | succ a ih =>
    intro n
    rw [Nat.succ_add]
    simp only [popN]
    rw [ih, Nat.pow_succ, Nat.mul_comm (2 ^ a) 2, Nat.div_div_eq_div_mul]
    omega
theorem popN_le (k : Nat) : ∀ n, popN k n ≤ k := by
  induction k with
  | zero => intro n; exact Nat.le_refl _
  | succ k ih => intro n; simp only [popN]; have := ih (n / 2); omega
theorem popN_mod (k : Nat) : ∀ n, popN k (n % 2 ^ k) = popN k n := by
  induction k with
  | zero => intro n; rfl
  | succ k ih =>
    intro n
    simp only [popN]
    have h1 : n % 2 ^ (k + 1) / 2 = n / 2 % 2 ^ k := by
      rw [Nat.pow_succ, Nat.mul_comm, Nat.mod_mul_right_div_self]
    have h2 : n % 2 ^ (k + 1) % 2 = n % 2 := by
      rw [Nat.pow_succ, Nat.mul_comm, Nat.mod_mul_right_mod]
    rw [h1, h2, ih]
theorem testBit_div2 (n i : Nat) : (n / 2).testBit i = n.testBit (i + 1) := by rw [Nat.testBit_succ]
theorem bit0 (n : Nat) : n.testBit 0 = decide (n % 2 = 1) := Nat.testBit_zero n
/-- a part has fewer elements -/
theorem popN_sub (k : Nat) : ∀ a b, Sub a b → popN k a ≤ popN k b ∧ (popN k a = popN k b → ∀ i, i < k → a.testBit i = b.testBit i) := by
  induction k with
  | zero => intro a b _; exact ⟨Nat.le_refl _, fun _ i hi => by omega⟩
  | succ k ih =>
    intro a b h
    have hs : Sub (a / 2) (b / 2) := fun i hi => by rw [testBit_div2] at hi ⊢; exact h _ hi
    obtain ⟨h1, h2⟩ := ih _ _ hs
    have h0 := h 0
    rw [bit0, bit0, decide_eq_true_iff, decide_eq_true_iff] at h0
    simp only [popN]
    refine ⟨by omega, fun he i hi => ?_⟩
    cases i with
    | zero => rw [bit0, bit0]; congr 1; exact propext ⟨fun h => by omega, fun h => by omega⟩
    | succ i => rw [← testBit_div2, ← testBit_div2]; exact h2 (by omega) i (by omega)
theorem and_div2 (a b : Nat) : (a &&& b) / 2 = a / 2 &&& b / 2 := by
  refine Nat.eq_of_testBit_eq fun i => ?_
  rw [testBit_div2, Nat.testBit_and, Nat.testBit_and, testBit_div2, testBit_div2]
theorem and_mod2 (a b : Nat) : (a &&& b) % 2 = if a % 2 = 1 ∧ b % 2 = 1 then 1 else 0 := by
  have h := Nat.testBit_and a b 0
  rw [bit0, bit0, bit0] at h
  split
  · rename_i hc
    rw [hc.1, hc.2] at h
    exact of_decide_eq_true h
  · rename_i hc
    have : ¬ ((a &&& b) % 2 = 1) := by
      intro he
      rw [decide_eq_true he] at h
      simp at h; exact hc h
    omega
/-- without its lowest element a set has one element less -/
theorem pop_pred (k : Nat) : ∀ n, 0 < n → n < 2 ^ k → popN k (n &&& (n - 1)) + 1 = popN k n := by
  induction k with
  | zero => intro n h1 h2; simp at h2; omega
  | succ k ih =>
    intro n h1 h2
    simp only [popN]
    rw [and_div2, and_mod2]
    rw [Nat.pow_succ] at h2
    rcases Nat.mod_two_eq_zero_or_one n with h | h
    · rw [if_neg (by omega), show (n - 1) / 2 = n / 2 - 1 by omega]
      have := ih (n / 2) (by omega) (by omega)
      omega
    · rw [if_neg (by omega), show (n - 1) / 2 = n / 2 by omega, Nat.and_self]
      omega
/-! ### the count by additions -/
theorem and_split {a b X Y : Nat} (ha : a < 256) (hb : b < 256) : (a + 256 * X) &&& (b + 256 * Y) = (a &&& b) + 256 * (X &&& Y) := by
  have hab : a &&& b < 2 ^ 8 := Nat.and_lt_two_pow _ (by omega)
  have e : ∀ u V, u < 2 ^ 8 → ∀ i, (u + 256 * V).testBit i = if i < 8 then u.testBit i else V.testBit (i - 8) := by
    intro u V hu i
    rw [Nat.add_comm, show 256 * V = 2 ^ 8 * V from rfl, Nat.testBit_two_pow_mul_add _ hu]
  refine Nat.eq_of_testBit_eq fun i => ?_
  rw [Nat.testBit_and, e a X ha, e b Y hb, e _ _ hab]
  split <;> rw [Nat.testBit_and]
def sA (x m : Nat) : Nat := ((x / 2) &&& m) + (x &&& m)
def sB (x m : Nat) : Nat := ((x / 4) &&& m) + (x &&& m)
def sC (x m : Nat) : Nat := (x / 16 + x) &&& m
set_option maxRecDepth 100000 in
theorem sA_byte : ∀ a, a < 256 → ∀ c, c < 2 → ((a / 2 + 128 * c) &&& 85) = ((a / 2) &&& 85) ∧ sA a 85 < 256 := by decide +kernel
set_option maxRecDepth 100000 in
theorem sB_byte : ∀ a, a < 256 → ∀ c, c < 4 → ((a / 4 + 64 * c) &&& 51) = ((a / 4) &&& 51) ∧ sB a 51 < 256 := by decide +kernel
theorem sA_step {a U M : Nat} (ha : a < 256) : sA (a + 256 * U) (85 + 256 * M) = sA a 85 + 256 * sA U M := by
  unfold sA
  have h1 : (a + 256 * U) / 2 = (a / 2 + 128 * (U % 2)) + 256 * (U / 2) := by omega
  rw [h1, and_split (by omega) (by omega), and_split ha (by omega), (sA_byte a ha (U % 2) (by omega)).1]
  omega
theorem sB_step {a U M : Nat} (ha : a < 256) : sB (a + 256 * U) (51 + 256 * M) = sB a 51 + 256 * sB U M := by
  unfold sB
  have h1 : (a + 256 * U) / 4 = (a / 4 + 64 * (U % 4)) + 256 * (U / 4) := by omega
  rw [h1, and_split (by omega) (by omega), and_split ha (by omega), (sB_byte a ha (U % 4) (by omega)).1]
  omega
def bt (a : Nat) : Nat := sB (sA a 85) 51
set_option maxRecDepth 100000 in
theorem bt_byte : ∀ a, a < 256 → bt a / 16 ≤ 4 ∧ bt a % 16 ≤ 4 ∧ bt a < 80 ∧ bt a / 16 + bt a % 16 = popN 8 a := by decide +kernel
/-- a byte, k times -/
def mk8 : Nat → Nat → Nat
  | 0, _ => 0
  | k + 1, c => c + 256 * mk8 k c
def tw (k u : Nat) : Nat := sB (sA u (mk8 k 85)) (mk8 k 51)
theorem tw_step {k a U : Nat} (ha : a < 256) : tw (k + 1) (a + 256 * U) = bt a + 256 * tw k U := by
  unfold tw bt
  simp only [mk8]
  rw [sA_step ha, sB_step (sA_byte a ha 0 (by omega)).2]
theorem tw_low (k u : Nat) : tw k u % 16 ≤ 4 := by
  cases k with
  | zero => simp [tw, mk8, sB, sA]
  | succ k =>
    have h : u = u % 256 + 256 * (u / 256) := by omega
    rw [h, tw_step (by omega)]
    have := bt_byte (u % 256) (by omega)
    omega
def cnt (k u : Nat) : Nat := sC (tw k u) (mk8 k 15)
theorem cnt_step {k a U : Nat} (ha : a < 256) : cnt (k + 1) (a + 256 * U) = popN 8 a + 256 * cnt k U := by
  unfold cnt
  rw [tw_step ha]
  have hb := bt_byte a ha
  have hl := tw_low k U
  unfold sC
  simp only [mk8]
  generalize bt a = b at *
  generalize tw k U = X at *
  have h1 : (b + 256 * X) / 16 + (b + 256 * X) = (b / 16 + b + 16 * (X % 16)) + 256 * (X / 16 + X) := by omega
  rw [h1, and_split (by omega) (by omega)]
  have h2 : (b / 16 + b + 16 * (X % 16)) &&& 15 = popN 8 a := by
    rw [show (15 : Nat) = 2 ^ 4 - 1 from rfl, Nat.and_two_pow_sub_one_eq_mod]
    omega
  rw [h2]
theorem cnt_zero (u : Nat) : cnt 0 u = 0 := by simp [cnt, sC, mk8]
theorem byte_split (u : Nat) : u = u % 256 + 256 * (u / 256) := by omega
/-- the bytes' counts, and their sum -/
theorem cnt_sum (u : Nat) (hu : u < 18446744073709551616) : ∃ c0 c1 c2 c3 c4 c5 c6 c7 : Nat, c0 ≤ 8 ∧ c1 ≤ 8 ∧ c2 ≤ 8 ∧ c3 ≤ 8 ∧ c4 ≤ 8 ∧ c5 ≤ 8 ∧ c6 ≤ 8 ∧ c7 ≤ 8 ∧
    cnt 8 u = c0 + 256 * (c1 + 256 * (c2 + 256 * (c3 + 256 * (c4 + 256 * (c5 + 256 * (c6 + 256 * c7)))))) ∧ popN 64 u = c0 + c1 + c2 + c3 + c4 + c5 + c6 + c7 := by
  have step : ∀ k v, cnt (k + 1) v = popN 8 (v % 256) + 256 * cnt k (v / 256) := fun k v => by
    conv => lhs; rw [byte_split v]
    exact cnt_step (by omega)
  have pstep : ∀ k v, popN (8 + k) v = popN 8 (v % 256) + popN k (v / 256) := fun k v => by
    rw [popN_add, show (256 : Nat) = 2 ^ 8 from rfl, popN_mod]
  refine ⟨popN 8 (u % 256), popN 8 (u / 256 % 256), popN 8 (u / 256 / 256 % 256), popN 8 (u / 256 / 256 / 256 % 256), popN 8 (u / 256 / 256 / 256 / 256 % 256), popN 8 (u / 256 / 256 / 256 / 256 / 256 % 256), popN 8 (u / 256 / 256 / 256 / 256 / 256 / 256 % 256), popN 8 (u / 256 / 256 / 256 / 256 / 256 / 256 / 256 % 256), popN_le 8 _, popN_le 8 _, popN_le 8 _, popN_le 8 _, popN_le 8 _, popN_le 8 _, popN_le 8 _, popN_le 8 _, ?_, ?_⟩
  · rw [step, step, step, step, step, step, step, step, cnt_zero, Nat.mul_zero, Nat.add_zero]
  · rw [show (64 : Nat) = 8 + (8 + (8 + (8 + (8 + (8 + (8 + (8 + 0))))))) from rfl, pstep, pstep, pstep, pstep, pstep, pstep, pstep, pstep]
    simp only [popN, Nat.add_zero, Nat.add_assoc]
theorem andU_nat {a b : Nat} (ha : a < 18446744073709551616) (hb : b < 18446744073709551616) : andB .u64 (a : Int) (b : Int) = ((a &&& b : Nat) : Int) := by
  unfold andB
  rw [show IntKind.bits .u64 = 64 from rfl, ofInt_nat, ofInt_nat, BitVec.toNat_and, BitVec.toNat_ofNat, BitVec.toNat_ofNat, Nat.mod_eq_of_lt (by omega), Nat.mod_eq_of_lt (by omega)]
  have : a &&& b ≤ a := Nat.and_le_left
  exact IntWalk.u64_in _ ⟨by omega, by omega⟩
theorem shrU_nat {a k : Nat} (hk : k < 64) : shrF .u64 (a : Int) (k : Int) = ((a / 2 ^ k : Nat) : Int) := by
  unfold shrF
  rw [show IntKind.bits .u64 = 64 from rfl, Int.toNat_natCast, Nat.min_eq_left (by omega)]
  rw [Int.fdiv_eq_ediv_of_nonneg _ (by exact Int.le_of_lt (Int.pow_pos (by omega)))]
  simp
theorem wrapU {n : Nat} (h : n < 18446744073709551616) : IntKind.wrap .u64 (n : Int) = (n : Int) := IntWalk.u64_in _ ⟨by omega, by omega⟩
theorem m85 : mk8 8 85 = 6148914691236517205 := by decide
theorem m51 : mk8 8 51 = 3689348814741910323 := by decide
theorem m15 : mk8 8 15 = 1085102592571150095 := by decide
theorem sum_low {c0 c1 c2 c3 c4 c5 c6 c7 x : Nat} (h0 : c0 ≤ 8) (h1 : c1 ≤ 8) (h2 : c2 ≤ 8) (h3 : c3 ≤ 8) (h4 : c4 ≤ 8) (h5 : c5 ≤ 8) (h6 : c6 ≤ 8) (h7 : c7 ≤ 8)
    (hx : x = c0 + 256 * (c1 + 256 * (c2 + 256 * (c3 + 256 * (c4 + 256 * (c5 + 256 * (c6 + 256 * c7))))))) :
    x + x / 256 < 1152921504606846976 ∧ x + x / 256 = (c0 + c1) + 256 * ((c1 + c2) + 256 * ((c2 + c3) + 256 * ((c3 + c4) + 256 * ((c4 + c5) + 256 * ((c5 + c6) + 256 * ((c6 + c7) + 256 * c7)))))) := by omega
theorem sum_low2 {d0 d1 d2 d3 d4 d5 d6 d7 x : Nat} (h0 : d0 ≤ 16) (h1 : d1 ≤ 16) (h2 : d2 ≤ 16) (h3 : d3 ≤ 16) (h4 : d4 ≤ 16) (h5 : d5 ≤ 16) (h6 : d6 ≤ 16) (h7 : d7 ≤ 16)
    (hx : x = d0 + 256 * (d1 + 256 * (d2 + 256 * (d3 + 256 * (d4 + 256 * (d5 + 256 * (d6 + 256 * d7))))))) :
    x + x / 65536 < 2305843009213693952 ∧ x + x / 65536 = (d0 + d2) + 256 * ((d1 + d3) + 256 * ((d2 + d4) + 256 * ((d3 + d5) + 256 * ((d4 + d6) + 256 * ((d5 + d7) + 256 * (d6 + 256 * d7)))))) := by omega
theorem sum_low3 {e0 e1 e2 e3 e4 e5 e6 e7 x : Nat} (h0 : e0 ≤ 32) (h1 : e1 ≤ 32) (h2 : e2 ≤ 32) (h3 : e3 ≤ 32) (h4 : e4 ≤ 32) (h5 : e5 ≤ 32) (h6 : e6 ≤ 32) (h7 : e7 ≤ 32) (hs : e0 + e4 ≤ 64)
    (hx : x = e0 + 256 * (e1 + 256 * (e2 + 256 * (e3 + 256 * (e4 + 256 * (e5 + 256 * (e6 + 256 * e7))))))) :
    x + x / 4294967296 < 4611686018427387904 ∧ (x + x / 4294967296) % 128 = e0 + e4 := by
  have hq : x / 4294967296 = e4 + 256 * (e5 + 256 * (e6 + 256 * e7)) := by omega
  rw [hq]
  refine ⟨by omega, ?_⟩
  have : x + (e4 + 256 * (e5 + 256 * (e6 + 256 * e7))) = (e0 + e4) + 128 * (2 * ((e1 + 256 * (e2 + 256 * (e3 + 256 * (e4 + 256 * (e5 + 256 * (e6 + 256 * e7)))))) + (e5 + 256 * (e6 + 256 * e7)))) := by omega
  rw [this, Nat.add_mul_mod_self_left, Nat.mod_eq_of_lt (by omega)]
theorem addU {a b : Nat} (h : a + b < 18446744073709551616) : IntKind.wrap .u64 ((a : Int) + (b : Int)) = ((a + b : Nat) : Int) := by
  rw [← wrapU h]; rfl
theorem one_a {u : Nat} (hu : u < 18446744073709551616) : IntKind.wrap .u64 (andB .u64 (shrF .u64 (u : Int) 1) 6148914691236517205 + andB .u64 (u : Int) 6148914691236517205) = ((sA u 6148914691236517205 : Nat) : Int) ∧ sA u 6148914691236517205 < 18446744073709551616 := by
  have a1 : (u / 2) &&& 6148914691236517205 ≤ 6148914691236517205 := Nat.and_le_right
  have a2 : u &&& 6148914691236517205 ≤ 6148914691236517205 := Nat.and_le_right
  have s1 : shrF .u64 (u : Int) 1 = ((u / 2 : Nat) : Int) := shrU_nat (k := 1) (by omega)
  have s2 : andB .u64 ((u / 2 : Nat) : Int) 6148914691236517205 = (((u / 2) &&& 6148914691236517205 : Nat) : Int) := andU_nat (b := 6148914691236517205) (by omega) (by omega)
  have s3 : andB .u64 (u : Int) 6148914691236517205 = ((u &&& 6148914691236517205 : Nat) : Int) := andU_nat (b := 6148914691236517205) hu (by omega)
  rw [s1, s2, s3]
  unfold sA
  exact ⟨addU (by omega), by omega⟩
theorem one_b {u : Nat} (hu : u < 18446744073709551616) : IntKind.wrap .u64 (andB .u64 (shrF .u64 (u : Int) 2) 3689348814741910323 + andB .u64 (u : Int) 3689348814741910323) = ((sB u 3689348814741910323 : Nat) : Int) ∧ sB u 3689348814741910323 ≤ 7378697629483820646 := by
  have a1 : (u / 4) &&& 3689348814741910323 ≤ 3689348814741910323 := Nat.and_le_right
  have a2 : u &&& 3689348814741910323 ≤ 3689348814741910323 := Nat.and_le_right
  have s1 : shrF .u64 (u : Int) 2 = ((u / 4 : Nat) : Int) := shrU_nat (k := 2) (by omega)
  have s2 : andB .u64 ((u / 4 : Nat) : Int) 3689348814741910323 = (((u / 4) &&& 3689348814741910323 : Nat) : Int) := andU_nat (b := 3689348814741910323) (by omega) (by omega)
  have s3 : andB .u64 (u : Int) 3689348814741910323 = ((u &&& 3689348814741910323 : Nat) : Int) := andU_nat (b := 3689348814741910323) hu (by omega)
  rw [s1, s2, s3]
  unfold sB
  exact ⟨addU (by omega), by omega⟩
theorem one_c {x : Nat} (hx : x ≤ 7378697629483820646) : andB .u64 (IntKind.wrap .u64 (shrF .u64 (x : Int) 4 + (x : Int))) 1085102592571150095 = ((sC x 1085102592571150095 : Nat) : Int) := by
  have s1 : shrF .u64 (x : Int) 4 = ((x / 16 : Nat) : Int) := shrU_nat (k := 4) (by omega)
  have s2 : IntKind.wrap .u64 (((x / 16 : Nat) : Int) + (x : Int)) = ((x / 16 + x : Nat) : Int) := addU (by omega)
  rw [s1, s2]
  exact andU_nat (b := 1085102592571150095) (by omega) (by omega)
theorem one_d {y : Nat} (h : y + y / 256 < 18446744073709551616) : IntKind.wrap .u64 ((y : Int) + shrF .u64 (y : Int) 8) = ((y + y / 256 : Nat) : Int) := by
  have s1 : shrF .u64 (y : Int) 8 = ((y / 256 : Nat) : Int) := shrU_nat (k := 8) (by omega)
  rw [s1]; exact addU h
theorem one_e {y : Nat} (h : y + y / 65536 < 18446744073709551616) : IntKind.wrap .u64 ((y : Int) + shrF .u64 (y : Int) 16) = ((y + y / 65536 : Nat) : Int) := by
  have s1 : shrF .u64 (y : Int) 16 = ((y / 65536 : Nat) : Int) := shrU_nat (k := 16) (by omega)
  rw [s1]; exact addU h
theorem one_f {y : Nat} (h : y + y / 4294967296 < 18446744073709551616) : IntKind.wrap .u64 ((y : Int) + shrF .u64 (y : Int) 32) = ((y + y / 4294967296 : Nat) : Int) := by
  have s1 : shrF .u64 (y : Int) 32 = ((y / 4294967296 : Nat) : Int) := shrU_nat (k := 32) (by omega)
  rw [s1]; exact addU h
theorem one_g {y : Nat} (h : y < 4611686018427387904) : andB .i64 (IntKind.wrap .i64 (y : Int)) 127 = ((y % 128 : Nat) : Int) := by
  rw [wrap_nat (by omega)]
  have : andB .i64 (y : Int) 127 = ((y &&& 127 : Nat) : Int) := andB_nat (b := 127) (by omega) (by omega)
  rw [this, show (127 : Nat) = 2 ^ 7 - 1 from rfl, Nat.and_two_pow_sub_one_eq_mod]
theorem tail_val {y p : Nat} (h : ∃ c0 c1 c2 c3 c4 c5 c6 c7 : Nat, c0 ≤ 8 ∧ c1 ≤ 8 ∧ c2 ≤ 8 ∧ c3 ≤ 8 ∧ c4 ≤ 8 ∧ c5 ≤ 8 ∧ c6 ≤ 8 ∧ c7 ≤ 8 ∧
    y = c0 + 256 * (c1 + 256 * (c2 + 256 * (c3 + 256 * (c4 + 256 * (c5 + 256 * (c6 + 256 * c7)))))) ∧ p = c0 + c1 + c2 + c3 + c4 + c5 + c6 + c7) :
    ∃ y4 y5 y6 : Nat, y4 = y + y / 256 ∧ y5 = y4 + y4 / 65536 ∧ y6 = y5 + y5 / 4294967296 ∧ y4 < 18446744073709551616 ∧ y5 < 18446744073709551616 ∧ y6 < 4611686018427387904 ∧ y6 % 128 = p := by
  obtain ⟨c0, c1, c2, c3, c4, c5, c6, c7, h0, h1, h2, h3, h4, h5, h6, h7, hc, hp⟩ := h
  obtain ⟨b4, f4⟩ := sum_low h0 h1 h2 h3 h4 h5 h6 h7 hc
  have g0 : c0 + c1 ≤ 16 := Nat.add_le_add h0 h1
  have g1 : c1 + c2 ≤ 16 := Nat.add_le_add h1 h2
  have g2 : c2 + c3 ≤ 16 := Nat.add_le_add h2 h3
  have g3 : c3 + c4 ≤ 16 := Nat.add_le_add h3 h4
  have g4 : c4 + c5 ≤ 16 := Nat.add_le_add h4 h5
  have g5 : c5 + c6 ≤ 16 := Nat.add_le_add h5 h6
  have g6 : c6 + c7 ≤ 16 := Nat.add_le_add h6 h7
  have g7 : c7 ≤ 16 := Nat.le_trans h7 (by decide)
  obtain ⟨b5, f5⟩ := sum_low2 g0 g1 g2 g3 g4 g5 g6 g7 f4
  have k0 : (c0 + c1) + (c2 + c3) ≤ 32 := Nat.add_le_add g0 g2
  have k4 : (c4 + c5) + (c6 + c7) ≤ 32 := Nat.add_le_add g4 g6
  obtain ⟨b6, f6⟩ := sum_low3 k0 (Nat.add_le_add g1 g3) (Nat.add_le_add g2 g4) (Nat.add_le_add g3 g5) k4 (Nat.add_le_add g5 g7) (Nat.le_trans g6 (by decide)) (Nat.le_trans g7 (by decide)) (Nat.add_le_add k0 k4) f5
  refine ⟨_, _, _, rfl, rfl, rfl, Nat.lt_trans b4 (by decide), Nat.lt_trans b5 (by decide), b6, ?_⟩
  rw [f6, hp]
  clear f4 f5 f6 b4 b5 b6 hc
  omega
theorem ones_val {u : Nat} (hu : u < 18446744073709551616) : (math_bits_OnesCount64 (u : Int)).val = some ((popN 64 u : Nat) : Int) := by
  obtain ⟨e1, l1⟩ := one_a hu
  obtain ⟨e2, l2⟩ := one_b l1
  have e3 := one_c l2
  have hc : sC (sB (sA u 6148914691236517205) 3689348814741910323) 1085102592571150095 = cnt 8 u := by
    unfold cnt tw; rw [m85, m51, m15]
  rw [hc] at e3
  obtain ⟨y4, y5, y6, h4, h5, h6, b4, b5, b6, hp⟩ := tail_val (cnt_sum u hu)
  have e4 := one_d (y := cnt 8 u) (by rw [← h4]; exact b4)
  rw [← h4] at e4
  have e5 := one_e (y := y4) (by rw [← h5]; exact b5)
  rw [← h5] at e5
  have e6 := one_f (y := y5) (by rw [← h6]; exact Nat.lt_trans b6 (by decide))
  rw [← h6] at e6
  have e7 := one_g b6
  rw [hp] at e7
  unfold math_bits_OnesCount64
  rw [e1, Comp.val_bind, Comp.val_pure, Option.bind_some, e2, Comp.val_bind, Comp.val_pure, Option.bind_some, e3, Comp.val_bind, Comp.val_pure, Option.bind_some, e4, Comp.val_bind, Comp.val_pure, Option.bind_some, e5, Comp.val_bind, Comp.val_pure, Option.bind_some, e6, Comp.val_bind, Comp.val_pure, Option.bind_some, Comp.val_pure, e7]
end Go.Cor
