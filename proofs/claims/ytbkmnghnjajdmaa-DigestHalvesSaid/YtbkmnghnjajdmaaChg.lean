/- A change of a string: a store into a row of bytes, and what it computes. No statement of the program stands here. -/
import Derived.Test.YtbkmnghnjajdmaaLaw
namespace Go.Eng
open Go Go.RowKit
section ops
variable {P : Program} {a : Act} {w : World} {d : Option Tmp} {T : TypeId} {pos : String} {aft : Array Edge} {g : Option (Nat × Bool)}
theorem ok_loadB {x : Operand} {X T' : TypeId} {dd z sz by_} {b off cap n : Nat} {l : List UInt8} (hT : Ty P X dd z sz by_) (hd : isAggD dd = false) (hx : a.eval x = .pointer (some ⟨b, off, none⟩)) (hO : BytesRow w T' b cap l) (hn : off = n) (hlt : n < l.length) :
    Ok P ⟨d, .load X x, T, pos, aft, g⟩ a w (SP.isv (.int .u8 ((l.getD n 0).toNat : Int))).holds := by
  subst hn
  obtain ⟨cs, h1, h2, h3, h4⟩ := hO
  refine ok_loadCell hT hd hx ?_
  rw [h1.cell]
  exact h4 off _ (by rw [List.getD_eq_getElem?_getD, List.getElem?_eq_getElem hlt]; rfl)
end ops
section tails
variable {P : Program} {a : Act} {w : World} {T : TypeId} {pos : String} {aft : Array Edge} {ops : Array Oper} {Q : Exit → Act → World → Prop} {rest : List Oper}
theorem t_storeB {x y : Operand} {X T' b off cap n : Nat} {l : List UInt8} {v : UInt8} {m : Int} {dd z by_} (hT : Ty P X dd z 1 by_) (hx : a.eval x = .pointer (some ⟨b, off, none⟩)) (hn : off = n) (hy : a.eval y = .int .u8 m) (hm : m = (v.toNat : Int))
    (hO : BytesRow w T' b cap l) (hlt : n < l.length) (hK : ∀ w', But b w w' → BytesRow w' T' b cap (l.set n v) → wpList P ops Q rest a w') : wpList P ops Q (⟨none, .store X x y, T, pos, aft, none⟩ :: rest) a w := by
  subst hn; subst hm
  obtain ⟨cs, h1, h2, h3, h4⟩ := hO
  refine t_store1 hT hx hy rfl rfl h1 (by omega) fun w' hE hO' => hK w' hE ⟨_, hO', by simpa using h2, by simpa using h3, fun j x hj => ?_⟩
  by_cases hjo : j = off
  · subst hjo
    rw [List.getElem?_set_self hlt] at hj
    cases hj
    rw [Array.getElem?_setIfInBounds_self_of_lt (by omega)]
  · rw [List.getElem?_set_ne (Ne.symm hjo)] at hj
    rw [Array.getElem?_setIfInBounds_ne (Ne.symm hjo)]
    exact h4 j x hj
end tails
theorem wrap_add_u8 (x y : UInt8) : IntKind.u8.wrap ((x.toNat : Int) + (y.toNat : Int)) = ((x + y).toNat : Int) := by
  rw [IntKind.wrap_u8, UInt8.toNat_add]; omega
theorem idx_eq (m n : Nat) : 0 + ((m : Int) % (n : Int)).toNat * 1 = m % n := by
  rw [Nat.zero_add, Nat.mul_one]; rfl
end Go.Eng
namespace Go.Dig
open Go Go.RowKit Go.Eng
/-- the byte at the index at (by its remainder) made greater by b -/
def bump (a b : UInt8) (l : Bytes) : Bytes := l.set (a.toNat % l.length) (l.getD (a.toNat % l.length) 0 + b)
theorem bump_nil (a b : UInt8) (l : Bytes) (h : l.length = 0) : bump a b l = l := by
  obtain rfl := List.eq_nil_of_length_eq_zero h; rfl
theorem bump_length (a b : UInt8) (l : Bytes) : (bump a b l).length = l.length := by simp [bump]
def chg (a b : UInt8) (u s : ByteArray) : ByteArray := str (bump a b (bs s) ++ (bs u).take 4)
theorem bs_chg (a b : UInt8) (u s : ByteArray) : bs (chg a b u s) = bump a b (bs s) ++ (bs u).take 4 := bs_str _
theorem chg_size (a b : UInt8) (u s : ByteArray) : (chg a b u s).size ≤ s.size + 4 := by
  unfold chg; rw [str_size, List.length_append, bump_length, List.length_take, bs_length]; omega
theorem chg_eq (a b : UInt8) (u s : ByteArray) : str (bump a b (bs s)) ++ u.extract 0 (min (u.size : Int) 4).toNat = chg a b u s := by
  rw [show u.extract 0 (min (u.size : Int) 4).toNat = cut 4 u from extract_cut u 4]
  apply bs_inj
  rw [bs_append, bs_str, bs_cut, bs_chg]
theorem keys_a (S T : ByteArray) (h : S = ⟨#[]⟩) : (true && !checkB S T (str (D (markL (bs S) (bs T))))) = true := by
  subst h; simp [checkB]
theorem keys_b (S T O X : ByteArray) (h : ¬ S = ⟨#[]⟩) : (true && checkB S T (str (D (markL (bs S) (bs T)))) && !checkB S T (str (D (markL (bs S) (bs T))) ++ ⟨#[120]⟩) &&
    decide (checkB O X (str (D (markL (bs S) (bs T)))) = (decide (str (D (markL (bs O) (bs X))) = str (D (markL (bs S) (bs T)))) && decide (O ≠ ⟨#[]⟩)))) = true := by
  have h1 : ∀ m : ByteArray, m.size = 8 → m ++ (⟨#[120]⟩ : ByteArray) ≠ m := by
    intro m hm e
    have := congrArg ByteArray.size e
    rw [ByteArray.size_append, size1, hm] at this
    omega
  have h2 := h1 (str (D (markL (bs S) (bs T)))) (by rw [str_size]; rfl)
  have h3 : checkB O X (str (D (markL (bs S) (bs T)))) = (decide (str (D (markL (bs O) (bs X))) = str (D (markL (bs S) (bs T)))) && decide (O ≠ ⟨#[]⟩)) := by
    unfold checkB
    rw [Bool.and_comm]
    congr 1
    exact decide_eq_decide.2 ⟨fun h => h.symm, fun h => h.symm⟩
  have h4 : checkB S T (str (D (markL (bs S) (bs T)))) = true := by simp [checkB, h]
  have h5 : checkB S T (str (D (markL (bs S) (bs T))) ++ ⟨#[120]⟩) = false := by simp [checkB, h2]
  rw [h4, h5, decide_eq_true h3]; rfl
end Go.Dig
