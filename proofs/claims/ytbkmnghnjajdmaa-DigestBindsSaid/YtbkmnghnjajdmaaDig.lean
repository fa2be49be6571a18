/- Digests as plain functions on lists of bytes. No statement of the program stands here. -/
import Derived.Test.YtbkmnghnjajdmaaSto
namespace Go.Dig
open Go Go.RowKit Go.Eng

def stepX (x : Nat) (c : UInt8) : Nat := (48271 * x + c.toNat + 1) % 2147483629
def stepY (y : Nat) (c : UInt8) : Nat := (69621 * y + c.toNat + 1) % 2147483587
def dx (l : List UInt8) : Nat := l.foldl stepX 17
def dy (l : List UInt8) : Nat := l.foldl stepY 29
def be4 (n : Nat) : List UInt8 := [UInt8.ofNat (n / 16777216), UInt8.ofNat (n / 65536), UInt8.ofNat (n / 256), UInt8.ofNat n]
def le4 (n : Nat) : List UInt8 := [UInt8.ofNat n, UInt8.ofNat (n / 256), UInt8.ofNat (n / 65536), UInt8.ofNat (n / 16777216)]
/-- the eight bytes -/
def D (l : List UInt8) : List UInt8 := be4 (dx l) ++ be4 (dy l)
def str (l : List UInt8) : ByteArray := ⟨l.toArray⟩
abbrev bs (s : ByteArray) : List UInt8 := s.data.toList
theorem str_bs (s : ByteArray) : str (bs s) = s := by cases s; rfl
theorem bs_str (l : List UInt8) : bs (str l) = l := rfl
theorem bs_length (s : ByteArray) : (bs s).length = s.size := Array.length_toList
theorem dl_length (s : ByteArray) : s.data.toList.length = s.size := Array.length_toList
theorem bs_append (s t : ByteArray) : bs (s ++ t) = bs s ++ bs t := by
  show (s ++ t).data.toList = s.data.toList ++ t.data.toList
  rw [ByteArray.data_append, Array.toList_append]
theorem bs_inj {s t : ByteArray} (h : bs s = bs t) : s = t := by rw [← str_bs s, h, str_bs]
theorem str_append (l m : List UInt8) : str l ++ str m = str (l ++ m) := by apply bs_inj; rw [bs_append, bs_str, bs_str, bs_str]
theorem str_size (l : List UInt8) : (str l).size = l.length := by rw [← bs_length, bs_str]
theorem size1 (c : UInt8) : (⟨#[c]⟩ : ByteArray).size = 1 := rfl
theorem bs1 (c : UInt8) : bs ⟨#[c]⟩ = [c] := rfl
theorem bs0 : bs ⟨#[]⟩ = [] := rfl
theorem size0 : (⟨#[]⟩ : ByteArray).size = 0 := rfl
theorem D_length (l : List UInt8) : (D l).length = 8 := rfl

theorem stepX_lt (x : Nat) (c : UInt8) : stepX x c < 2147483629 := Nat.mod_lt _ (by decide)
theorem stepY_lt (x : Nat) (c : UInt8) : stepY x c < 2147483587 := Nat.mod_lt _ (by decide)
theorem foldX_lt : ∀ (l : List UInt8) (x : Nat), x < 2147483629 → l.foldl stepX x < 2147483629
  | [], _, h => h
  | c :: l, x, _ => foldX_lt l _ (stepX_lt x c)
theorem foldY_lt : ∀ (l : List UInt8) (x : Nat), x < 2147483587 → l.foldl stepY x < 2147483587
  | [], _, h => h
  | c :: l, x, _ => foldY_lt l _ (stepY_lt x c)
theorem dx_lt (l : List UInt8) : dx l < 2147483629 := foldX_lt l 17 (by decide)
theorem dy_lt (l : List UInt8) : dy l < 2147483587 := foldY_lt l 29 (by decide)
theorem dx_snoc (l : List UInt8) (c : UInt8) : dx (l ++ [c]) = (48271 * dx l + c.toNat + 1) % 2147483629 := by
  simp [dx, stepX]
theorem dy_snoc (l : List UInt8) (c : UInt8) : dy (l ++ [c]) = (69621 * dy l + c.toNat + 1) % 2147483587 := by
  simp [dy, stepY]
theorem take_snoc (s : ByteArray) (k : Nat) (h : k < s.size) : (bs s).take (k + 1) = (bs s).take k ++ [byteAt s k] := by
  have h' : k < (bs s).length := by rw [bs_length]; exact h
  rw [List.take_succ_eq_append_getElem h', byteAt, List.getD_eq_getElem?_getD, List.getElem?_eq_getElem h']; rfl
theorem u8_lt (c : UInt8) : c.toNat < 256 := c.toNat_lt
theorem dxi (l : List UInt8) (c : UInt8) : (48271 * (dx l : Int) + (c.toNat : Int) + 1) % 2147483629 = ((dx (l ++ [c]) : Nat) : Int) := by
  rw [dx_snoc]; omega
theorem dyi (l : List UInt8) (c : UInt8) : (69621 * (dy l : Int) + (c.toNat : Int) + 1) % 2147483587 = ((dy (l ++ [c]) : Nat) : Int) := by
  rw [dy_snoc]; omega
theorem ofNat_i (m : Nat) : ((UInt8.ofNat m).toNat : Int) = (m : Int) % 256 := by
  rw [UInt8.toNat_ofNat']; simp
theorem shr_i (n : Nat) (j : Nat) : (n : Int).fdiv (2 ^ j) = ((n / 2 ^ j : Nat) : Int) := by
  rw [Int.fdiv_eq_ediv_of_nonneg _ (by exact_mod_cast Nat.zero_le _)]; norm_cast
theorem slv_cast {w : World} {E : Nat} {u : Value} {xs ys : List Value} (h : xs = ys) (hs : SlV w E u xs) : SlV w E u ys := h ▸ hs
theorem be4_bv (n : Nat) : [Value.int .u8 ((n : Int).fdiv (2 ^ min (24 : Int).toNat IntKind.i64.bits) % 256), .int .u8 ((n : Int).fdiv (2 ^ min (16 : Int).toNat IntKind.i64.bits) % 256), .int .u8 ((n : Int).fdiv (2 ^ min (8 : Int).toNat IntKind.i64.bits) % 256), .int .u8 ((n : Int) % 256)] = bv (be4 n) := by
  have e1 : min (24 : Int).toNat IntKind.i64.bits = 24 := by decide
  have e2 : min (16 : Int).toNat IntKind.i64.bits = 16 := by decide
  have e3 : min (8 : Int).toNat IntKind.i64.bits = 8 := by decide
  simp only [bv, be4, List.map, ofNat_i, e1, e2, e3, shr_i]
theorem le4_bv (n : Nat) : [Value.int .u8 ((n : Int) % 256), .int .u8 ((n : Int).fdiv (2 ^ min (8 : Int).toNat IntKind.i64.bits) % 256), .int .u8 ((n : Int).fdiv (2 ^ min (16 : Int).toNat IntKind.i64.bits) % 256), .int .u8 ((n : Int).fdiv (2 ^ min (24 : Int).toNat IntKind.i64.bits) % 256)] = bv (le4 n) := by
  have e1 : min (24 : Int).toNat IntKind.i64.bits = 24 := by decide
  have e2 : min (16 : Int).toNat IntKind.i64.bits = 16 := by decide
  have e3 : min (8 : Int).toNat IntKind.i64.bits = 8 := by decide
  simp only [bv, le4, List.map, ofNat_i, e1, e2, e3, shr_i]
/-- the parts as strings -/
inductive Strs : List Value → List ByteArray → Prop
  | nil : Strs [] []
  | cons (s : ByteArray) {xs ss} (h : Strs xs ss) : Strs (.string s :: xs) (s :: ss)
theorem Strs.map {xs : List Value} {ss : List ByteArray} (h : Strs xs ss) : xs = ss.map .string := by
  induction h with
  | nil => rfl
  | cons s _ ih => simp [ih]
theorem strs_map (ss : List ByteArray) : Strs (ss.map .string) ss := by
  induction ss with
  | nil => exact .nil
  | cons s ss ih => exact .cons s ih
def cat (ss : List ByteArray) : List UInt8 := ss.flatMap bs
theorem cat_take (ss : List ByteArray) (i : Nat) (h : i < ss.length) : cat (ss.take (i + 1)) = cat (ss.take i) ++ bs ss[i] := by
  rw [List.take_succ_eq_append_getElem h]; unfold cat; rw [List.flatMap_append]; simp
theorem dx_catj (l : List UInt8) (s : ByteArray) (j : Nat) (h : j < s.size) : (48271 * (dx (l ++ (bs s).take j) : Int) + ((byteAt s j).toNat : Int) + 1) % 2147483629 = ((dx (l ++ (bs s).take (j + 1)) : Nat) : Int) := by
  rw [dxi, take_snoc s j h, List.append_assoc]
theorem dy_catj (l : List UInt8) (s : ByteArray) (j : Nat) (h : j < s.size) : (69621 * (dy (l ++ (bs s).take j) : Int) + ((byteAt s j).toNat : Int) + 1) % 2147483587 = ((dy (l ++ (bs s).take (j + 1)) : Nat) : Int) := by
  rw [dyi, take_snoc s j h, List.append_assoc]
theorem get_bv (s : ByteArray) (j : Nat) (h : j < s.size) : (bv s.data.toList)[((j : Nat) : Int).toNat]? = some (.int .u8 ((byteAt s j).toNat : Int)) := by
  have h' : j < s.data.toList.length := by rw [Array.length_toList]; exact h
  simp only [Int.toNat_natCast, bv, List.getElem?_map, byteAt, List.getD_eq_getElem?_getD, List.getElem?_eq_getElem h', Option.map_some, Option.getD_some]
theorem get_str (ss : List ByteArray) (i : Nat) (h : i < ss.length) : (ss.map Value.string)[((i : Nat) : Int).toNat]? = some (.string ss[i]) := by
  simp [h]
/-! the strings that are digested -/
def lenL (l : List UInt8) : List UInt8 := le4 l.length
theorem lenL_bs (s : ByteArray) : lenL (bs s) = le4 s.size := by unfold lenL; rw [bs_length]
def leafL (s : List UInt8) : List UInt8 := [1] ++ s
def innerL (l r : List UInt8) : List UInt8 := [2] ++ l ++ r
def missL : List UInt8 := [3]
def chainL (b s : List UInt8) : List UInt8 := [4] ++ lenL b ++ b ++ s
def markL (k m : List UInt8) : List UInt8 := [5] ++ lenL k ++ k ++ lenL m ++ m ++ k
def checkB (k m x : ByteArray) : Bool := decide (k ≠ ⟨#[]⟩) && decide (x = str (D (markL (bs k) (bs m))))
/-- byte k of a number, most significant first -/
def nb (X k : Nat) : Value := .int .u8 ((X : Int).fdiv (2 ^ (min ((24 : Int) - 8 * (k : Int)).toNat IntKind.u64.bits)) % 256)
def dcell (X Y n j : Nat) : Value := if j < 4 then (if j < n then nb X j else .int .u8 0) else (if j - 4 < n then nb Y (j - 4) else .int .u8 0)
/-- the digest's array after n rounds -/
def darr (X Y n : Nat) : Array Value := #[dcell X Y n 0, dcell X Y n 1, dcell X Y n 2, dcell X Y n 3, dcell X Y n 4, dcell X Y n 5, dcell X Y n 6, dcell X Y n 7]
theorem darr_size (X Y n : Nat) : (darr X Y n).size = 8 := rfl
theorem darr_step (X Y k : Nat) (h : k < 4) : ((darr X Y k).setIfInBounds k (nb X k)).setIfInBounds (4 + k) (nb Y k) = darr X Y (k + 1) := by
  obtain rfl | rfl | rfl | rfl : k = 0 ∨ k = 1 ∨ k = 2 ∨ k = 3 := by omega
  all_goals simp [darr, dcell, nb]
theorem dcell_one (X Y n j : Nat) : (dcell X Y n j).oneCell' = true := by
  unfold dcell; split <;> split <;> rfl
theorem darr_one (X Y n : Nat) : ∀ v ∈ (darr X Y n).toList, v.oneCell' = true := by
  intro v hv
  simp only [darr, List.mem_cons, List.not_mem_nil, or_false] at hv
  rcases hv with rfl | rfl | rfl | rfl | rfl | rfl | rfl | rfl <;> exact dcell_one _ _ _ _
theorem fd24 (n : Nat) : (n : Int).fdiv 16777216 = (n : Int) / 16777216 := Int.fdiv_eq_ediv_of_nonneg _ (by decide)
theorem fd16 (n : Nat) : (n : Int).fdiv 65536 = (n : Int) / 65536 := Int.fdiv_eq_ediv_of_nonneg _ (by decide)
theorem fd8 (n : Nat) : (n : Int).fdiv 256 = (n : Int) / 256 := Int.fdiv_eq_ediv_of_nonneg _ (by decide)
theorem darr_four (X Y : Nat) : darr X Y 4 = (bv (be4 X ++ be4 Y)).toArray := by
  have hb : IntKind.u64.bits = 64 := rfl
  simp only [darr, dcell, nb, bv, be4, List.map, List.cons_append, List.nil_append, ofNat_i, hb]
  simp [fd24, fd16, fd8]
theorem bv_scalar {l : List UInt8} : ∀ v ∈ bv l, v.cells = #[v] := by
  intro v hv
  unfold bv at hv; rw [List.mem_map] at hv
  obtain ⟨b, _, rfl⟩ := hv; rfl
theorem bv_one (l : List UInt8) : ∀ v ∈ (bv l).toArray.toList, v.oneCell' = true := by
  intro v hv
  rw [List.toList_toArray] at hv
  unfold bv at hv; rw [List.mem_map] at hv
  obtain ⟨b, _, rfl⟩ := hv; rfl
def iv (l : List UInt8) : List Int := l.map fun b => (b.toNat : Int)
theorem bv_iv (l : List UInt8) : bv l = (iv l).map (Value.int .u8) := by simp [bv, iv]
theorem agg_ints (l : List UInt8) : Value.agg (bv l).toArray = .agg ((iv l).map (Value.int .u8)).toArray := by rw [bv_iv]
theorem iv_inj {l m : List UInt8} : iv l = iv m ↔ l = m := by
  constructor
  · intro h
    unfold iv at h
    refine (List.map_inj_right ?_).1 h
    intro a b hab
    exact UInt8.toNat_inj.1 (Int.ofNat.inj hab)
  · rintro rfl; rfl
theorem check_eq (s t m : ByteArray) : (decide (s ≠ ⟨#[]⟩) && decide ((m.size : Int) = 8) && decide (iv m.data.toList = iv (D (markL (bs s) (bs t))))) = checkB s t m := by
  unfold checkB
  rw [Bool.eq_iff_iff]
  simp only [Bool.and_eq_true, decide_eq_true_eq, iv_inj]
  constructor
  · rintro ⟨⟨h1, _⟩, h3⟩
    exact ⟨h1, by rw [← h3]; exact (str_bs m).symm⟩
  · rintro ⟨h1, h2⟩
    refine ⟨⟨h1, ?_⟩, ?_⟩
    · rw [h2, str_size]; rfl
    · rw [h2]; rfl
end Go.Dig
