/- What the arguments of a law open to. No statement of the program stands here. -/
import Derived.Test.YtbkmnghnjajdmaaLaw
import Derived.SliceStrings
import Derived.Lib.SmallJoins
import Derived.OpenShut
import Derived.ShutString
import Derived.ChangeOld
namespace Go.Eng
open Go Go.RowKit Go.ChangeShapes Go.WideShapes Go.ChangeAt Go.Joins Go.Deep Go.WideElems
variable {H : Type} {enc : TypeId × Value → H} {P : Program} {w : World} {base : Nat} {sp : Nat → Bool} {held : Bool}
theorem open_slv {r : Reach} {b0 t e : Nat} {v : Value} {d : DataW H} {ps : List MemPlace} (ht : P.underlying t = some (.slice e)) (he : P.underlying e = some .string) (hc : P.cellsOf e = 1) (hval : Value.okWide P w r b0 t v)
    (hd : DataW.Trod enc P w base sp held t v d ps) : ∃ ss : List ByteArray, SlV w 1 v (ss.map .string) ∧ ∀ s ∈ ss, s.size ≤ maxLen := by
  obtain ⟨a, len, cap, rfl⟩ := okWide_slice ht hval
  obtain ⟨fuel, hf⟩ := hd
  rcases open_strings ht he hc hf with ⟨hcs, _⟩ | ⟨x, l, c, ss, hcs, _, hl, hm, hz, _, hcell, hwz⟩
  · simp [Value.cells] at hcs
    obtain ⟨rfl, rfl, rfl⟩ := hcs
    exact ⟨[], ⟨none, 0, rfl, by simp, by simp, .inl rfl⟩, by simp⟩
  · simp [Value.cells] at hcs
    obtain ⟨rfl, rfl, rfl⟩ := hcs
    have hle : len ≤ ss.length := by rw [hz]; split <;> omega
    refine ⟨ss.take len, ⟨some x, cap, by simp [hle], by simp; omega, fun y hy => ?_, ?_⟩, fun s hs => hwz s (List.mem_of_mem_take hs)⟩
    · rw [List.mem_map] at hy; obtain ⟨s, _, rfl⟩ := hy; rfl
    by_cases h0 : len = 0
    · left; simp [h0]
    · right
      obtain ⟨b, off, spot⟩ := x
      have hc0 := hcell 0 (by omega)
      have hspot : spot = none := by simpa [Addr.add] using World.cell?_spot hc0
      subst hspot
      refine ⟨b, off, rfl, fun i y hy j hj => ?_⟩
      obtain rfl : j = 0 := by omega
      have hi : i < len := by
        have := (List.getElem?_eq_some_iff.1 hy).1
        simp at this; omega
      have h1 := hcell i (by omega)
      rw [addr_add] at h1
      have hy' : y = .string ss[i] := by
        simp only [List.map_take, List.getElem?_take, hi, if_true, List.getElem?_map] at hy
        rw [List.getElem?_eq_getElem (by omega)] at hy
        simpa using hy.symm
      subst hy'
      have e1 : off + (i * 1 + 0) = off + i := by omega
      rw [e1, h1]
      simp [Value.cells, List.getD_eq_getElem?_getD, List.getElem?_eq_getElem (show i < ss.length by omega)]
theorem u8_of_wf {n : Int} (h : (Lit.int .u8 n).wf = true) : ∃ b : UInt8, n = (b.toNat : Int) := by
  have h2 : 0 ≤ n ∧ n < 256 := by
    simp [Lit.wf, IntKind.min, IntKind.max, IntKind.bits, IntKind.signed] at h
    omega
  refine ⟨UInt8.ofNat n.toNat, ?_⟩
  rw [UInt8.toNat_ofNat']; omega
theorem open_change {r : Reach} {b0 t t0 t1 : Nat} {f0 f1 f2 : Field} {v : Value} {d : DataW H} {p : List MemPlace} (hs : P.underlying t = some (.struct #[f0, f1, f2])) (hone : oneCellFields P #[f0, f1, f2] = true) (hC : P.cellsOf t = 3)
    (h0 : P.underlying t0 = some (.int .u8)) (h1 : P.underlying t1 = some .string) (e0 : f0.type = t0 := by rfl) (e1 : f1.type = t0 := by rfl) (e2 : f2.type = t1 := by rfl)
    (hv : Value.okWide P w r b0 t v) (h : DataW.Trod enc P w base sp held t v d p) : ∃ (a b : UInt8) (s : ByteArray), v = .agg #[.int .u8 (a.toNat : Int), .int .u8 (b.toNat : Int), .string s] ∧ s.size ≤ 9223372036854775807 := by
  obtain ⟨v0, v1, v2, y0, y1, y2, n, rfl, _, _, k0, k1, k2⟩ := open_agg3 hs hone hC hv h
  subst e0; subst e2; 
  rw [e1] at k1
  obtain ⟨n0, c0, _, w0⟩ := DataW.trod_int h0 k0
  obtain ⟨n1, c1, _, w1⟩ := DataW.trod_int h0 k1
  obtain ⟨s, c2, _, hz⟩ := DataW.trod_string h1 k2
  obtain ⟨a, rfl⟩ := u8_of_wf w0
  obtain ⟨b, rfl⟩ := u8_of_wf w1
  simp at c0 c1 c2
  exact ⟨a, b, s, by rw [c0, c1, c2], Nat.le_trans hz (by decide)⟩
end Go.Eng
