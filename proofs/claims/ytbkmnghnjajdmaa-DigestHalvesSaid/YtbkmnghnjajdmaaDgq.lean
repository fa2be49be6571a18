/- Digests: three laws, plainly. No statement of the program stands here. -/
import Derived.Test.YtbkmnghnjajdmaaDgp
import Derived.Test.YtbkmnghnjajdmaaDgc
set_option linter.unusedVariables false
set_option linter.unusedSimpArgs false
namespace Go.Dgp
open Go Go.Lift Go.F
open Go.Dig hiding Bytes cat
set_option maxRecDepth 100000 in
theorem sanity_val : (colletlaw02_sanity).val = some true := Comp.val_run (n := 64) (by kernel_rfl)
theorem sub0_val {α : Type} (l : List α) (k : Nat) : (sub l 0 (min (l.length : Int) (k : Int))).val = some (l.take k) := by
  rw [sub_val ⟨by omega, by omega, by omega⟩]
  simp only [Int.toNat_zero, List.drop_zero]
  congr 1
  by_cases h : l.length ≤ k
  · rw [List.take_of_length_le h, List.take_of_length_le (by omega)]
  · congr 1; omega
theorem short_val (s : Bytes) : (colletlaw02_short s).val = some (s.take 60) := by
  unfold colletlaw02_short
  have := sub0_val s 60
  rw [show ((60 : Nat) : Int) = 60 from rfl] at this
  rw [Comp.val_bind, this, Option.bind_some, Comp.val_pure]
structure CW (c : colletlaw02_Change) : Prop where
  a : 0 ≤ c.At ∧ c.At < 256
  b : 0 ≤ c.Byte ∧ c.Byte < 256
  t : c.Tail.length ≤ 9223372036854775807
theorem cw_of (a b : UInt8) (s : ByteArray) (h : s.size ≤ 9223372036854775807) : CW ⟨(a.toNat : Int), (b.toNat : Int), Lift.bs s⟩ :=
  ⟨⟨Int.natCast_nonneg _, by have : a.toNat < 256 := a.toNat_lt; show (a.toNat : Int) < 256; omega⟩, ⟨Int.natCast_nonneg _, by have : b.toNat < 256 := b.toNat_lt; show (b.toNat : Int) < 256; omega⟩, by show (Lift.bs s).length ≤ _; simpa [Lift.bs] using h⟩
def ch (c : colletlaw02_Change) (s : Bytes) : Bytes := bump (UInt8.ofNat c.At.toNat) (UInt8.ofNat c.Byte.toNat) s ++ c.Tail.take 4
theorem chg_val {c : colletlaw02_Change} (h : CW c) {s : Bytes} (hs : s.length ≤ 1099511627776) : (chgC c.At c.Byte c.Tail s).val = some (ch c s) := by
  unfold chgC; rw [if_pos ⟨h.a, h.b, hs, h.t⟩, Comp.val_pure]; rfl
theorem ch_len (c : colletlaw02_Change) (s : Bytes) : (ch c s).length ≤ s.length + 4 := by
  unfold ch; rw [List.length_append, bump_length, List.length_take]; omega
theorem take_len {α : Type} (l : List α) (k : Nat) : (l.take k).length ≤ k := by rw [List.length_take]; omega
/-! ### Forms -/
theorem idx0 (p q : Bytes) : (idx (#v[p, q] : Vector Bytes 2).toList 0).val = some p := idx_val (i := 0) rfl
theorem idx1 (p q : Bytes) : (idx (#v[p, q] : Vector Bytes 2).toList 1).val = some q := idx_val (i := 1) rfl
theorem forms_l3 {a b c d p q : Bytes} (hp : p.length ≤ 1000) (hq : q.length ≤ 1000) : (Comp.loop (fun s => colletlaw02_DigestForms_l3 a b c d #v[p, q] s) 0).val = some (.inr ()) := by
  have := Comp.loop_seq (body := fun s => colletlaw02_DigestForms_l3 a b c d #v[p, q] s) (fun i => (i : Int)) 4 (.inr ())
    (by
      intro i hi
      show (colletlaw02_DigestForms_l3 a b c d #v[p, q] (i : Int)).val = _
      unfold colletlaw02_DigestForms_l3
      simp only [Comp.val_bind, Comp.val_pure, Option.bind_some]
      rw [Comp.val_ite, if_pos (by rw [decide_eq_true_iff]; simp only [List.length_cons, List.length_nil]; omega)]
      obtain ⟨y, hy⟩ : ∃ y, [a, b, c, d][i]? = some y := ⟨_, List.getElem?_eq_getElem (by simpa using hi)⟩
      simp only [Comp.val_bind, idxn, hy, Option.bind_some, idx0, idx1, Check_val p q y (by omega) (by omega), rCheck_val p q y (by omega) (by omega)]
      rw [Comp.val_ite, if_neg (by simp), Comp.val_pure, Comp.wrap_succ (by omega)])
    (by
      show (colletlaw02_DigestForms_l3 a b c d #v[p, q] (4 : Int)).val = _
      unfold colletlaw02_DigestForms_l3
      simp only [Comp.val_bind, Comp.val_pure, Option.bind_some]
      rw [Comp.val_ite, if_neg (by simp), Comp.val_pure])
  exact this
theorem law_DigestForms {s t : Bytes} {c : colletlaw02_Change} (hc : CW c) : (colletlaw02_DigestForms s t c).val = some true := by
  unfold colletlaw02_DigestForms
  have hs := take_len s 60
  have ht := take_len t 60
  generalize hS : s.take 60 = S at hs
  generalize hT : t.take 60 = T at ht
  have hcl := ch_len c S
  simp only [Comp.val_bind, sanity_val, Option.bind_some, short_val, hS, hT, chg_val hc (s := S) (by omega), cat_val (s := S) (t := T) (by omega), Comp.val_pure]
  have key := Comp.loop_seq (body := fun x => colletlaw02_DigestForms_l2 4 S T (ch c S) (S ++ T) c x) (fun i => (i : Int)) 4 (.inr ())
    (by
      intro i hi
      show (colletlaw02_DigestForms_l2 4 S T (ch c S) (S ++ T) c (i : Int)).val = _
      obtain ⟨p, q, hpq, hp, hq⟩ : ∃ p q : Bytes, ([#v[S, T], #v[T, S], #v[S, ch c S], #v[S ++ T, ([] : Bytes)]] : List (Vector Bytes 2))[i]? = some #v[p, q] ∧ p.length ≤ 1000 ∧ q.length ≤ 1000 := by
        obtain rfl | rfl | rfl | rfl : i = 0 ∨ i = 1 ∨ i = 2 ∨ i = 3 := by omega
        · exact ⟨S, T, rfl, by omega, by omega⟩
        · exact ⟨T, S, rfl, by omega, by omega⟩
        · exact ⟨S, ch c S, rfl, by omega, by omega⟩
        · exact ⟨S ++ T, [], rfl, by rw [List.length_append]; omega, by simp⟩
      unfold colletlaw02_DigestForms_l2
      rw [Comp.val_ite, if_pos (by rw [decide_eq_true_iff]; omega)]
      have hm : (D (markL p q)).length = 8 := D_length _
      have h7 : (sub (D (markL p q)) 0 7).val = some ((D (markL p q)).take 7) := by rw [sub_val ⟨by omega, by omega, by rw [hm]; omega⟩]; rfl
      simp only [Comp.val_bind, idxn, hpq, Option.bind_some, idx0, idx1, rMark_val p q (by omega) (by omega), Of_val p (by omega), rOf_val p (by omega), ne_eq, not_true_eq_false, decide_false, decide_true, beq_self_eq_true,
        Comp.val_gd, if_true, ite_true, Chain_val p q (by omega) (by omega), rChain_val p q (by omega) (by omega), cond_false, Mark_val p q (by omega) (by omega), Comp.val_pure, chg_val hc (s := D (markL p q)) (by omega), h7, Comp.val_ite, forms_l3 hp hq]
      simp [Comp.val_pure, Comp.wrap_succ (show i < 9223372036854775807 by omega)])
    (by
      show (colletlaw02_DigestForms_l2 4 S T (ch c S) (S ++ T) c (4 : Int)).val = _
      unfold colletlaw02_DigestForms_l2
      rw [Comp.val_ite, if_neg (by simp), Comp.val_pure])
  have key' : (Comp.loop (fun x => colletlaw02_DigestForms_l2 (([#v[S, T], #v[T, S], #v[S, ch c S], #v[S ++ T, ([] : Bytes)]] : List (Vector Bytes 2)).length : Int) S T (ch c S) (S ++ T) c x) 0).val = some (.inr ()) := key
  rw [key', Option.bind_some]
  show (colletlaw02_DigestForms_j1 true).val = _
  unfold colletlaw02_DigestForms_j1
  rw [Comp.val_pure]
end Go.Dgp
