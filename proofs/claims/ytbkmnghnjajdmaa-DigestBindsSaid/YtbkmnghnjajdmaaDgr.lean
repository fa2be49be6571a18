/- Lifting: the root of a tree of digests, by the contract that was walked by hand. No statement of the program stands here. -/
import Derived.Test.YtbkmnghnjajdmaaLiw
import Derived.Test.YtbkmnghnjajdmaaTree
set_option linter.unusedVariables false
set_option linter.unusedSimpArgs false
namespace Go.Lift
open Go Go.RowKit Go.Eng
def rootC (l : List Bytes) : Comp Bytes := if l.length ≤ 32 ∧ ∀ s ∈ l, s.length ≤ 1099511627776 then Comp.pure (Dig.rootD l) else Comp.fail
theorem m_root {P : Program} {f : FuncId} (hd : ∀ (v : Value) (ss : List ByteArray) (w0 : World), SlV w0 1 v (ss.map .string) → ss.length ≤ 32 → (∀ s ∈ ss, s.size ≤ 1099511627776) → Pure P f #[v] w0 (SP.isv (.string (Dig.str (Dig.rootD (Dig.bss ss))))).holds)
    {O : Tags} {w : World} (_ : OkO O w) {v : Value} {l : List Bytes} (h : (rSl rStr).v O w v l) {n : Nat} {y : Bytes} (hy : (rootC l).run n = some y) : Pure P f #[v] w (SP.isv (.string (str y))).holds := by
  unfold rootC at hy; split at hy
  · rename_i hl
    have := Comp.run_pure hy; subst this
    obtain ⟨vs, h1, h2, _⟩ := rSl_v.1 h
    have e : vs = (l.map str).map Value.string := by
      rw [RelL.closed.1 h2, List.map_map]; rfl
    have e2 : Dig.bss (l.map str) = l := by
      unfold Dig.bss
      rw [List.map_map]
      conv => rhs; rw [← List.map_id l]
      apply List.map_congr_left
      intro x _; rfl
    have := hd v (l.map str) w (e ▸ h1) (by simpa using hl.1) (by
      intro s hs
      obtain ⟨x, hx, rfl⟩ := List.mem_map.1 hs
      exact hl.2 x hx)
    rw [e2] at this
    exact this
  · cases hy
end Go.Lift
