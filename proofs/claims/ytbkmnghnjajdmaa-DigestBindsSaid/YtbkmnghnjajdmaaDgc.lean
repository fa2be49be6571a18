/- Lifting: the change of a string, by the contract that was walked by hand. No statement of the program stands here. -/
import Derived.Test.YtbkmnghnjajdmaaDgr
import Derived.Test.YtbkmnghnjajdmaaChg
set_option linter.unusedVariables false
set_option linter.unusedSimpArgs false
namespace Go.Lift
open Go Go.RowKit Go.Eng
def chgC (a b : Int) (u s : Bytes) : Comp Bytes := if (0 ≤ a ∧ a < 256) ∧ (0 ≤ b ∧ b < 256) ∧ s.length ≤ 1099511627776 ∧ u.length ≤ 9223372036854775807 then Comp.pure (Dig.bump (UInt8.ofNat a.toNat) (UInt8.ofNat b.toNat) s ++ u.take 4) else Comp.fail
theorem u8_of {a : Int} (h : 0 ≤ a ∧ a < 256) : (((UInt8.ofNat a.toNat).toNat : Nat) : Int) = a := by rw [UInt8.toNat_ofNat']; omega
theorem m_chg {P : Program} {f : FuncId} (hd : ∀ (x y : UInt8) (u s : ByteArray) (w0 : World), s.size ≤ 1099511627776 → u.size ≤ 9223372036854775807 → Pure P f #[.agg #[.int .u8 (x.toNat : Int), .int .u8 (y.toNat : Int), .string u], .string s] w0 (SP.isv (.string (Dig.chg x y u s))).holds)
    {O : Tags} {w : World} (_ : OkO O w) {a b : Int} {u s y : Bytes} {n : Nat} (hy : (chgC a b u s).run n = some y) : Pure P f #[.agg #[.int .u8 a, .int .u8 b, .string (str u)], .string (str s)] w (SP.isv (.string (str y))).holds := by
  unfold chgC at hy; split at hy
  · rename_i hl
    have := Comp.run_pure hy; subst this
    have := hd (UInt8.ofNat a.toNat) (UInt8.ofNat b.toNat) (str u) (str s) w (by rw [str_size]; exact hl.2.2.1) (by rw [str_size]; exact hl.2.2.2)
    rw [u8_of hl.1, u8_of hl.2.1] at this
    exact this
  · cases hy
end Go.Lift
