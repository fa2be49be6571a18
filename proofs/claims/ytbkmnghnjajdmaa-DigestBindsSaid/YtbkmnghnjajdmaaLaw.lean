/- What the laws' helpers compute, as plain functions. No statement of the program stands here. -/
import Derived.Test.YtbkmnghnjajdmaaRng
namespace Go.Dig
open Go Go.RowKit Go.Eng
/-- the first n bytes -/
def cut (n : Nat) (s : ByteArray) : ByteArray := str ((bs s).take n)
theorem bs_cut (n : Nat) (s : ByteArray) : bs (cut n s) = (bs s).take n := bs_str _
theorem cut_size (n : Nat) (s : ByteArray) : (cut n s).size ≤ n := by unfold cut; rw [str_size, List.length_take]; omega
theorem bs_extract (s : ByteArray) (k : Nat) : bs (s.extract 0 k) = (bs s).take k := by
  show (s.extract 0 k).data.toList = s.data.toList.take k
  rw [ByteArray.data_extract, Array.toList_extract]; simp
theorem extract_cut (s : ByteArray) (n : Nat) : s.extract 0 (min (s.size : Int) n).toNat = cut n s := by
  apply bs_inj
  rw [bs_extract, bs_cut]
  by_cases h : s.size ≤ n
  · rw [List.take_of_length_le (by rw [bs_length]; omega), List.take_of_length_le (by rw [bs_length]; omega)]
  · congr 1; omega
/-- the first 20 strings, 30 bytes each -/
def list20 (ss : List ByteArray) : List ByteArray := (ss.take 20).map (cut 30)
theorem list20_len (ss : List ByteArray) : (list20 ss).length ≤ 20 := by simp [list20]; omega
theorem list20_size (ss : List ByteArray) : ∀ s ∈ list20 ss, s.size ≤ 30 := by
  intro s hs
  simp only [list20, List.mem_map] at hs
  obtain ⟨t, _, rfl⟩ := hs
  exact cut_size _ _
theorem slv_nil (w : World) (E : Nat) : SlV w E (.slice none 0 0) [] := ⟨none, 0, rfl, by simp, by simp, .inl rfl⟩
end Go.Dig
