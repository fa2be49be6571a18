/- Trees of digests as plain functions. No statement of the program stands here. -/
import Derived.Test.YtbkmnghnjajdmaaDig
namespace Go.Dig
open Go Go.RowKit Go.Eng

abbrev Bytes := List UInt8
def leafD (s : Bytes) : Bytes := D (leafL s)
def missD : Bytes := D missL
def innerD (a b : Bytes) : Bytes := D (innerL a b)
/-- the next level -/
def up1 : List Bytes → List Bytes
  | a :: b :: r => innerD a b :: up1 r
  | _ => []
theorem up1_length : ∀ l : List Bytes, (up1 l).length = l.length / 2
  | [] => rfl
  | [_] => by simp [up1]
  | a :: b :: r => by simp only [up1, List.length_cons, up1_length r]; omega
/-- the root of a level, by fuel -/
def rtF : Nat → List Bytes → Bytes
  | 0, l => l.headD []
  | n + 1, l => if l.length ≤ 1 then l.headD [] else rtF n (up1 l)
def rt (l : List Bytes) : Bytes := rtF l.length l
theorem rtF_fuel : ∀ (n m : Nat) (l : List Bytes), l.length ≤ n → l.length ≤ m → rtF n l = rtF m l := by
  intro n
  induction n with
  | zero =>
    intro m l h _
    cases m with
    | zero => rfl
    | succ m => simp only [rtF]; rw [if_pos (by omega)]
  | succ n ih =>
    intro m l h h'
    cases m with
    | zero => simp only [rtF]; rw [if_pos (by omega)]
    | succ m =>
      simp only [rtF]
      split
      · rfl
      · exact ih m _ (by rw [up1_length]; omega) (by rw [up1_length]; omega)
theorem rt_up {l : List Bytes} (h : 1 < l.length) : rt l = rt (up1 l) := by
  unfold rt
  obtain ⟨n, hn⟩ : ∃ n, l.length = n + 1 := ⟨l.length - 1, by omega⟩
  rw [hn, rtF, if_neg (by omega)]
  exact rtF_fuel _ _ _ (by rw [up1_length]; omega) (Nat.le_refl _)
theorem rt_one {l : List Bytes} (h : l.length = 1) : rt l = l.headD [] := by
  unfold rt; rw [h]; simp only [rtF]; rw [if_pos (by omega)]

/-- the least power of two that is not less -/
def lg (n : Nat) : Nat := if n ≤ 1 then 0 else if n ≤ 2 then 1 else if n ≤ 4 then 2 else if n ≤ 8 then 3 else if n ≤ 16 then 4 else 5
theorem lg_spec (n : Nat) (h : n ≤ 32) : n ≤ 2 ^ lg n ∧ (lg n = 0 ∨ 2 ^ (lg n - 1) < n) := by
  unfold lg
  repeat' split
  all_goals simp
  all_goals omega
theorem lg_uniq {n j : Nat} (h : n ≤ 32) (h1 : n ≤ 2 ^ j) (h2 : j = 0 ∨ 2 ^ (j - 1) < n) : j = lg n := by
  obtain ⟨h3, h4⟩ := lg_spec n h
  rcases Nat.lt_trichotomy j (lg n) with hlt | rfl | hgt
  · exfalso
    rcases h4 with h4 | h4
    · omega
    · have : 2 ^ j ≤ 2 ^ (lg n - 1) := Nat.pow_le_pow_right (by decide) (by omega)
      omega
  · rfl
  · exfalso
    rcases h2 with h2 | h2
    · omega
    · have : 2 ^ lg n ≤ 2 ^ (j - 1) := Nat.pow_le_pow_right (by decide) (by omega)
      omega
theorem lg_le (n : Nat) : lg n ≤ 5 := by unfold lg; repeat' split
                                         all_goals omega
/-- level 0 -/
def base (ss : List Bytes) : List Bytes := ss.map leafD ++ List.replicate (2 ^ lg ss.length - ss.length) missD
theorem base_length (ss : List Bytes) (h : ss.length ≤ 32) : (base ss).length = 2 ^ lg ss.length := by
  have := (lg_spec ss.length h).1
  simp [base]; omega
def rootD (ss : List Bytes) : Bytes := rt (base ss)
/-- digests as Go's strings, and as arrays -/
def sv (d : Bytes) : Value := .string (str d)
def av (d : Bytes) : Value := .agg (bv d).toArray
def bss (ss : List ByteArray) : List Bytes := ss.map bs
theorem get_sv {l : List Bytes} {i : Nat} (h : i < l.length) : (l.map sv)[((i : Nat) : Int).toNat]? = some (sv l[i]) := by simp [h]
theorem get_sv1 {l : List Bytes} {i : Nat} (h : i + 1 < l.length) : (l.map sv)[((i : Int) + 1).toNat]? = some (sv l[i + 1]) := by
  have e : ((i : Int) + 1).toNat = i + 1 := by omega
  rw [e]; simp [h]
/-- up1, k pairs in -/
theorem up1_take : ∀ (l : List Bytes) (k : Nat), 2 * k + 1 < l.length → (up1 l).take (k + 1) = (up1 l).take k ++ [innerD (l.getD (2 * k) []) (l.getD (2 * k + 1) [])]
  | [], k, h => by simp at h
  | [_], k, h => by simp at h
  | a :: b :: r, 0, _ => by simp [up1]
  | a :: b :: r, k + 1, h => by
      have := up1_take r k (by simp at h; omega)
      have e : 2 * (k + 1) = 2 * k + 1 + 1 := by omega
      have e2 : 2 * (k + 1) + 1 = 2 * k + 1 + 1 + 1 := by omega
      simp only [up1, List.take_succ_cons, this, List.cons_append, e]
      simp
theorem sv_len {l : List Bytes} (h : ∀ d ∈ l, d.length = 8) {i : Nat} (hi : i < l.length) : (str l[i]).size ≤ 1099511627776 := by
  rw [str_size, h _ (List.getElem_mem hi)]; decide
theorem base_len8 (ss : List Bytes) : ∀ d ∈ base ss, d.length = 8 := by
  intro d hd
  unfold base at hd
  rw [List.mem_append, List.mem_map, List.mem_replicate] at hd
  rcases hd with ⟨s, _, rfl⟩ | ⟨_, rfl⟩ <;> rfl
theorem up1_len8 : ∀ l : List Bytes, ∀ d ∈ up1 l, d.length = 8
  | [] => by simp [up1]
  | [_] => by simp [up1]
  | a :: b :: r => by
      intro d hd
      simp only [up1, List.mem_cons] at hd
      rcases hd with rfl | hd
      · rfl
      · exact up1_len8 r d hd
end Go.Dig
