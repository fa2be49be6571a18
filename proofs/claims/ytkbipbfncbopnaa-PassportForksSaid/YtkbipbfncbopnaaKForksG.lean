/- For every case, numbers and string, PassportForks returns true, and its arguments read afterwards as before; no condition. -/
import Derived.Test.YtkbipbfncbopnaaKForksF
import Derived.SliceStrings
import Derived.ChangeSlices
import Derived.Lib.SmallJoins
import Derived.OpenShut
import Derived.ShutString
import Derived.ChangeOld
import Derived.Test.YtkbipbfncbopnaaRows
import Derived.WalkKit
import Derived.ProofKit
import Derived.Below
set_option linter.unusedSimpArgs false
set_option linter.unusedVariables false
section
set_option linter.unusedVariables false
set_option linter.unusedSimpArgs false
namespace Go.Dgp
open Go Go.Lift Go.F
open Go.Dig hiding Bytes cat
def nextE (l : List api_Entry) (e : api_Entry) : api_Entry :=
  match l.getLast? with
  | some p => ⟨(l.length : Int), e.Shop, e.Kind, e.Day, e.N, p.After, e.After, linkE p, []⟩
  | none => ⟨(l.length : Int), e.Shop, e.Kind, e.Day, e.N, e.Before, e.After, [], []⟩
theorem last_idx {l : List api_Entry} (h : 0 < l.length) (hl : l.length ≤ 1073741824) : ∃ p, l.getLast? = some p ∧ p ∈ l ∧ (idx l (IntKind.wrap .i64 ((l.length : Int) - 1))).val = some p := by
  have h1 : l[l.length - 1]? = some l[l.length - 1] := List.getElem?_eq_getElem (by omega)
  refine ⟨l[l.length - 1], ?_, List.getElem_mem _, ?_⟩
  · rw [List.getLast?_eq_getElem?, h1]
  · rw [wrapi (by omega), show (l.length : Int) - 1 = ((l.length - 1 : Nat) : Int) by omega, idxn, h1]
theorem rNext_val {l : List api_Entry} {e : api_Entry} (hl : l.length ≤ 1073741824) (hw : ∀ x ∈ l, EW x) : (colletref37_Next l e).val = some (nextE l e) := by
  unfold colletref37_Next nextE
  rw [Comp.val_ite]
  by_cases h : 0 < l.length
  · obtain ⟨p, h1, h2, h3⟩ := last_idx h hl
    rw [if_pos (by rw [decide_eq_true_iff]; omega), h1]
    simp only [Comp.val_bind, h3, Option.bind_some, rLink_val (hw p h2)]
    unfold colletref37_Next_j1
    rw [Comp.val_pure]
  · have h0 : l = [] := List.eq_nil_of_length_eq_zero (by omega)
    rw [if_neg (by rw [decide_eq_true_iff]; omega), h0]
    unfold colletref37_Next_j1
    rw [Comp.val_pure]; rfl
theorem linkE_len (e : api_Entry) : (linkE e).length = 8 := D_length _
theorem nextE_wf {l : List api_Entry} {e : api_Entry} (hl : l.length ≤ 1073741824) (hw : ∀ x ∈ l, EW x) (he : EW e) : EW (nextE l e) := by
  unfold nextE
  split
  · rename_i p hp
    have hm : p ∈ l := List.mem_of_getLast? hp
    exact ⟨⟨by show -9223372036854775808 ≤ ((l.length : Nat) : Int); omega, by show ((l.length : Nat) : Int) < 9223372036854775808; omega⟩, he.shop, he.kind, he.day, he.n, (hw p hm).after, he.after, by show (linkE p).length ≤ _; rw [linkE_len]; decide, by simp⟩
  · exact ⟨⟨by show -9223372036854775808 ≤ ((l.length : Nat) : Int); omega, by show ((l.length : Nat) : Int) < 9223372036854775808; omega⟩, he.shop, he.kind, he.day, he.n, he.before, he.after, by simp, by simp⟩
theorem signE_wf {k : Bytes} {e : api_Entry} (he : EW e) : EW (signE k e) :=
  ⟨he.seq, he.shop, he.kind, he.day, he.n, he.before, he.after, he.prev, by show (D _).length ≤ _; rw [D_length]; decide⟩
end Go.Dgp
end
section
set_option linter.unusedVariables false
set_option linter.unusedSimpArgs false
namespace Go.Dgp
open Go Go.Lift Go.F
open Go.Dig hiding Bytes cat
def decT (n : Nat) : Bytes := (((colletref01_Of (n : Int)).bind colletref01_Text).run 20).getD []
set_option maxRecDepth 1000000 in
theorem dec_run : ∀ n : Fin 256, (((colletref01_Of (n.val : Int)).bind colletref01_Text).run 20).isSome = true ∧ (decT n.val).length ≤ 3 := by decide +kernel
theorem dec_val {n : Nat} (h : n < 256) : ((colletref01_Of (n : Int)).bind colletref01_Text).val = some (decT n) := by
  have h1 := (dec_run ⟨n, h⟩).1
  obtain ⟨y, hy⟩ := Option.isSome_iff_exists.1 h1
  have : decT n = y := by unfold decT; rw [hy]; rfl
  rw [this]; exact Comp.val_run hy
theorem dec_len {n : Nat} (h : n < 256) : (decT n).length ≤ 3 := (dec_run ⟨n, h⟩).2
def keyT (n : Nat) : Bytes := [107, 101, 121, 32] ++ decT n
def rootT (n : Nat) : Bytes := D ([114, 111, 111, 116, 32] ++ decT n)
theorem root37_val {n : Nat} (h : n < 256) : (colletref37_Root (n : Int)).val = some (rootT n) := by
  have h1 := dec_val h
  rw [Comp.val_bind] at h1
  have hl := dec_len h
  unfold colletref37_Root
  rw [Comp.val_bind]
  cases ha : (colletref01_Of (n : Int)).val with
  | none => rw [ha] at h1; cases h1
  | some a =>
    rw [ha, Option.bind_some] at h1
    rw [Option.bind_some, Comp.val_bind, h1, Option.bind_some, cat_bind (by simp; omega), Comp.val_bind, rOf_val _ (by simp; omega), Option.bind_some, Comp.val_pure]; rfl
theorem keys_val {m : Nat} (h : m ≤ 200) : (colletref37_Keys (m : Int)).val = some ((List.range m).map keyT) := by
  have hL : LIM = 1073741824 := rfl
  have key := Comp.loop_seq (body := fun s : List Bytes × Int => colletref37_Keys_l2 (m : Int) s.1 s.2) (fun i => ((List.range i).map keyT, (i : Int))) m ((List.range m).map keyT)
    (by
      intro i hi
      show (colletref37_Keys_l2 (m : Int) ((List.range i).map keyT) (i : Int)).val = _
      have h1 := dec_val (n := i) (by omega)
      have hl := dec_len (n := i) (by omega)
      rw [Comp.val_bind] at h1
      unfold colletref37_Keys_l2
      rw [Comp.val_ite, if_pos (by rw [decide_eq_true_iff]; omega), Comp.val_bind]
      cases ha : (colletref01_Of (i : Int)).val with
      | none => rw [ha] at h1; cases h1
      | some a =>
        rw [ha, Option.bind_some] at h1
        rw [Option.bind_some, Comp.val_bind, h1, Option.bind_some, cat_bind (by simp; omega), Comp.val_bind, app_val (by simp; omega), Option.bind_some, Comp.val_pure, Comp.wrap_succ (by omega), List.range_succ, List.map_append]
        rfl)
    (by
      show (colletref37_Keys_l2 (m : Int) ((List.range m).map keyT) (m : Int)).val = _
      unfold colletref37_Keys_l2
      rw [Comp.val_ite, if_neg (by rw [decide_eq_true_iff]; omega), Comp.val_pure])
  have key' : (Comp.loop (fun s : List Bytes × Int => colletref37_Keys_l2 (m : Int) s.1 s.2) ([], 0)).val = some ((List.range m).map keyT) := key
  unfold colletref37_Keys
  rw [Comp.val_bind, key', Option.bind_some]
  show (colletref37_Keys_j1 _).val = _
  unfold colletref37_Keys_j1
  rw [Comp.val_pure]
end Go.Dgp
end
section
set_option linter.unusedVariables false
set_option linter.unusedSimpArgs false
namespace Go.Dgp
open Go Go.Lift Go.F
open Go.Dig hiding Bytes cat
theorem mod_val {x m : Int} (hx : I64 x) (hm : 1 ≤ m ∧ m ≤ 1099511627776) : (colletref01_Mod x m).val = some (x % m) := by
  unfold I64 at hx
  have h1 : -m < x.tmod m := Int.lt_tmod_of_pos x (by omega)
  have h2 : x.tmod m < m := Int.tmod_lt_of_pos x (by omega)
  unfold colletref01_Mod
  rw [Comp.val_ite, if_neg (by rw [decide_eq_true_iff]; omega), Comp.val_bind, rem_val (by omega), Option.bind_some, wrapi (by omega), Comp.val_bind, rem_val (by omega), Option.bind_some, Comp.val_pure]
  congr 1
  rw [Int.tmod_eq_emod_of_nonneg (by omega), Int.add_emod_right, Int.tmod_eq_emod]
  split
  · simp
  · rw [show m.natAbs = m.toNat by omega, show ((m.toNat : Nat) : Int) = m by omega, Int.sub_emod_right, Int.emod_emod]
def drawN (L : List Int) (k m : Nat) : Nat × Nat := if L.length ≤ k then (k, 0) else (k + 1, (L.getD k 0 % (m : Int)).toNat)
theorem drawN_lt (L : List Int) (k m : Nat) (h : 1 ≤ m) : (drawN L k m).2 < m := by
  unfold drawN; split
  · exact h
  · have := Int.emod_lt_of_pos (L.getD k 0) (by omega : (0 : Int) < m)
    have := Int.emod_nonneg (L.getD k 0) (by omega : (m : Int) ≠ 0)
    show (L.getD k 0 % (m : Int)).toNat < m
    omega
theorem drawN_at (L : List Int) (k m : Nat) : (drawN L k m).1 ≤ k + 1 := by unfold drawN; split <;> simp
theorem draw_val {L : List Int} {k m : Nat} (hL : ∀ x ∈ L, I64 x) (hk : k ≤ 1000000) (hm : 1 ≤ m ∧ m ≤ 1000000) : (colletref01_Draw_Next ⟨L, (k : Int)⟩ (m : Int)).val = some (⟨L, ((drawN L k m).1 : Int)⟩, ((drawN L k m).2 : Int)) := by
  unfold colletref01_Draw_Next drawN
  rw [Comp.val_ite]
  by_cases h : L.length ≤ k
  · rw [if_pos (by rw [decide_eq_true_iff]; show (k : Int) ≥ (L.length : Int); omega), if_pos h, Comp.val_pure]; rfl
  · have hg : L[k]? = some (L.getD k 0) := by rw [List.getD_eq_getElem?_getD, List.getElem?_eq_getElem (by omega)]; rfl
    have hx := hL _ (List.mem_of_getElem? hg)
    rw [if_neg (by rw [decide_eq_true_iff]; show ¬ (k : Int) ≥ (L.length : Int); omega), if_neg h]
    show ((idx L (IntKind.wrap .i64 (IntKind.wrap .i64 ((k : Int) + 1) - 1))).bind fun x4 => (colletref01_Mod x4 (m : Int)).bind fun x5 => Comp.pure ((colletref01_Draw.mk L (IntKind.wrap .i64 ((k : Int) + 1))), x5)).val = _
    rw [Comp.wrap_succ (by omega), show IntKind.wrap .i64 (((k + 1 : Nat) : Int) - 1) = (k : Int) by rw [wrapi (by omega)]; omega, Comp.val_bind, idxn, hg, Option.bind_some, Comp.val_bind, mod_val hx (by omega), Option.bind_some, Comp.val_pure]
    have := Int.emod_nonneg (L.getD k 0) (by omega : (m : Int) ≠ 0)
    have e : (((L.getD k 0 % (m : Int)).toNat : Nat) : Int) = L.getD k 0 % (m : Int) := by omega
    show some (colletref01_Draw.mk L ((k + 1 : Nat) : Int), L.getD k 0 % (m : Int)) = some (⟨L, ((k + 1 : Nat) : Int)⟩, (((L.getD k 0 % (m : Int)).toNat : Nat) : Int))
    rw [e]
end Go.Dgp
end
section
set_option linter.unusedVariables false
set_option linter.unusedSimpArgs false
namespace Go.Dgp
open Go Go.Lift Go.F
open Go.Dig hiding Bytes cat
theorem sub0_val {α : Type} (l : List α) (k : Nat) : (sub l 0 (min (l.length : Int) (k : Int))).val = some (l.take k) := by
  rw [sub_val ⟨by omega, by omega, by omega⟩]
  simp only [Int.toNat_zero, List.drop_zero]
  congr 1
  by_cases h : l.length ≤ k
  · rw [List.take_of_length_le h, List.take_of_length_le (by omega)]
  · congr 1; omega
theorem take_len {α : Type} (l : List α) (k : Nat) : (l.take k).length ≤ k := by rw [List.length_take]; omega
def lsts (l : List (List Int)) : List (List Int) := (l.take 8).map (·.take 6)
theorem lsts_len (l : List (List Int)) : (lsts l).length ≤ 8 := by unfold lsts; rw [List.length_map]; exact take_len _ _
theorem lists_val (c : colletlaw37_Case) : (colletlaw37_Case_lists c).val = some (lsts c.L) := by
  have hN : min c.L.length 8 ≤ c.L.length := Nat.min_le_left _ _
  have h8 : min c.L.length 8 ≤ 8 := Nat.min_le_right _ _
  have hmin : min c.L.length 8 = c.L.length ∨ min c.L.length 8 = 8 := by omega
  have key := Comp.loop_seq (body := fun s : List (List Int) × Int => colletlaw37_Case_lists_l2 c s.1 s.2) (fun i => ((c.L.take i).map (·.take 6), (i : Int))) (min c.L.length 8) (lsts c.L)
    (by
      intro i hi
      show (colletlaw37_Case_lists_l2 c ((c.L.take i).map (·.take 6)) (i : Int)).val = _
      have hi' : i < c.L.length := by omega
      unfold colletlaw37_Case_lists_l2
      have hc : (bif (decide ((i : Int) < (c.L.length : Int))) then (decide ((i : Int) < 8)) else false) = true := by
        rw [decide_eq_true (by omega), decide_eq_true (by omega)]; rfl
      have h6 := sub0_val c.L[i] 6
      rw [show ((6 : Nat) : Int) = 6 from rfl] at h6
      simp only [Comp.val_bind, Comp.val_pure, Option.bind_some, hc]
      rw [Comp.val_ite, if_pos trivial]
      simp only [Comp.val_bind, idxn, List.getElem?_eq_getElem hi', Option.bind_some, h6]
      rw [app_val (by rw [List.length_map, List.length_take]; simp only [List.length_cons, List.length_nil]; unfold LIM; omega), Option.bind_some, Comp.val_pure, Comp.wrap_succ (by omega), List.take_succ_eq_append_getElem hi', List.map_append]
      rfl)
    (by
      show (colletlaw37_Case_lists_l2 c ((c.L.take (min c.L.length 8)).map (·.take 6)) ((min c.L.length 8 : Nat) : Int)).val = _
      unfold colletlaw37_Case_lists_l2
      have hc : (bif (decide (((min c.L.length 8 : Nat) : Int) < (c.L.length : Int))) then (decide (((min c.L.length 8 : Nat) : Int) < 8)) else false) = false := by
        rcases hmin with h | h
        · rw [decide_eq_false (by omega)]; rfl
        · rw [decide_eq_false (p := ((min c.L.length 8 : Nat) : Int) < 8) (by omega)]; cases decide (((min c.L.length 8 : Nat) : Int) < (c.L.length : Int)) <;> rfl
      simp only [Comp.val_bind, Comp.val_pure, Option.bind_some, hc]
      rw [Comp.val_ite, if_neg (by simp), Comp.val_pure]
      have : c.L.take (min c.L.length 8) = c.L.take 8 := by
        rcases hmin with h | h
        · rw [h, List.take_of_length_le (Nat.le_refl _), List.take_of_length_le (by omega)]
        · rw [h]
      rw [this]; rfl)
  have key' : (Comp.loop (fun s : List (List Int) × Int => colletlaw37_Case_lists_l2 c s.1 s.2) ([], 0)).val = some (lsts c.L) := key
  unfold colletlaw37_Case_lists
  rw [Comp.val_bind, key', Option.bind_some]
  show (colletlaw37_Case_lists_j1 _).val = _
  unfold colletlaw37_Case_lists_j1
  rw [Comp.val_pure]
end Go.Dgp
end
section
set_option linter.unusedVariables false
set_option linter.unusedSimpArgs false
namespace Go.Dgp
open Go Go.Lift Go.F
open Go.Dig hiding Bytes cat
def wrt (p : api_Entry) : Int := if p.Kind = 4 then p.N else p.Shop
theorem writer_val (p : api_Entry) : (colletref37_writer p).val = some (wrt p) := by
  unfold colletref37_writer wrt
  rw [Comp.val_ite]
  by_cases h : p.Kind = 4
  · rw [if_pos (by rw [decide_eq_true_iff]; exact h), if_pos h, Comp.val_pure]
  · rw [if_neg (by rw [decide_eq_true_iff]; exact h), if_neg h, Comp.val_pure]
def stepE (m : Nat) (l : List api_Entry) (n : List Int) : api_Entry :=
  let d1 := drawN n 0 m
  let d2 := drawN n d1.1 9
  let d3 := drawN n d2.1 20
  match l.getLast? with
  | none => ⟨0, (d1.2 : Int), 1, (d2.2 : Int), 0, [], rootT d3.2, [], []⟩
  | some p =>
    let d4 := drawN n d3.1 4
    if d4.2 ≤ 1 then ⟨0, wrt p, 2, p.Day + (d2.2 / 3 : Nat), ((drawN n d4.1 8).2 : Int), [], rootT d3.2, [], []⟩
    else if d4.2 = 2 then ⟨0, wrt p, 3, p.Day + (d2.2 / 3 : Nat), 0, [], p.After, [], []⟩
    else ⟨0, wrt p, 4, p.Day + (d2.2 / 3 : Nat), ((drawN n d4.1 m).2 : Int), [], p.After, [], []⟩
def keysT (m : Nat) : List Bytes := (List.range m).map keyT
theorem keysT_len (m : Nat) : (keysT m).length = m := by simp [keysT]
theorem keysT_get {m k : Nat} (h : k < m) : (keysT m)[k]? = some (keyT k) := by simp [keysT, h]
theorem keyT_len {k : Nat} (h : k < 256) : (keyT k).length ≤ 7 := by
  have := dec_len h
  unfold keyT; simp; omega
theorem j1_val {m : Nat} {l : List api_Entry} {e : api_Entry} {k : Nat} (hm : m ≤ 200) (hk : k < m) (he : e.Shop = (k : Int)) (hl : l.length ≤ 1000) (hw : ∀ x ∈ l, EW x) (hE : EW e) :
    (colletref37_Step_j1 (keysT m) l e.Seq e.Shop e.Kind e.Day e.N e.Before e.After e.Prev e.Mark).val = some (signE (keyT k) (nextE l e)) := by
  have hkl := keyT_len (k := k) (by omega)
  unfold colletref37_Step_j1
  rw [Comp.val_bind, he, idxn, keysT_get hk, Option.bind_some, Comp.val_bind, ← he]
  rw [show api_Entry.mk e.Seq e.Shop e.Kind e.Day e.N e.Before e.After e.Prev e.Mark = e from rfl, rNext_val (by omega) hw, Option.bind_some, Comp.val_bind, rSign_val (by omega) (nextE_wf (by omega) hw hE), Option.bind_some, Comp.val_pure]
theorem rootT_len (n : Nat) : (rootT n).length = 8 := D_length _
theorem step0_val {m : Nat} {n : List Int} (hm : 1 ≤ m ∧ m ≤ 200) (hn : ∀ x ∈ n, I64 x) :
    (colletref37_Step (keysT m) [] n).val = some (signE (keyT (drawN n 0 m).2) (nextE [] (stepE m [] n))) ∧ EW (stepE m [] n) := by
  have l1 := drawN_lt n 0 m hm.1
  have a1 := drawN_at n 0 m
  have l2 := drawN_lt n (drawN n 0 m).1 9 (by omega)
  have a2 := drawN_at n (drawN n 0 m).1 9
  have l3 := drawN_lt n (drawN n (drawN n 0 m).1 9).1 20 (by omega)
  have a3 := drawN_at n (drawN n (drawN n 0 m).1 9).1 20
  have d1 := draw_val (k := 0) (m := m) hn (by omega) (by omega)
  have d2 := draw_val (k := (drawN n 0 m).1) (m := 9) hn (by omega) (by omega)
  have d3 := draw_val (k := (drawN n (drawN n 0 m).1 9).1) (m := 20) hn (by omega) (by omega)
  have hE : EW (stepE m [] n) := ⟨by unfold I64; show -9223372036854775808 ≤ (0 : Int) ∧ (0 : Int) < 9223372036854775808; omega, by show I64 (((drawN n 0 m).2 : Nat) : Int); unfold I64; omega, by show I64 1; unfold I64; omega, by show I64 (((drawN n (drawN n 0 m).1 9).2 : Nat) : Int); unfold I64; omega, by show I64 0; unfold I64; omega, by show ([] : Bytes).length ≤ _; simp, by show (rootT _).length ≤ _; rw [rootT_len]; decide, by show ([] : Bytes).length ≤ _; simp, by show ([] : Bytes).length ≤ _; simp⟩
  refine ⟨?_, hE⟩
  unfold colletref37_Step
  rw [keysT_len, Comp.val_bind]
  rw [show ((0 : Nat) : Int) = 0 from rfl] at d1
  rw [d1, Option.bind_some, Comp.val_bind]
  rw [show ((9 : Nat) : Int) = 9 from rfl] at d2
  rw [d2, Option.bind_some, Comp.val_bind]
  rw [show ((20 : Nat) : Int) = 20 from rfl] at d3
  rw [d3, Option.bind_some, Comp.val_bind, root37_val (by omega), Option.bind_some, Comp.val_ite, if_neg (by simp)]
  exact j1_val (e := stepE m [] n) (k := (drawN n 0 m).2) hm.2 l1 rfl (by simp) (by simp) hE
theorem idx_kind : ∀ k : Nat, k < 4 → (idx ([2, 2, 3, 4] : List Int) (k : Int)).val = some (if k ≤ 1 then 2 else if k = 2 then 3 else 4) := by
  intro k hk
  obtain rfl | rfl | rfl | rfl : k = 0 ∨ k = 1 ∨ k = 2 ∨ k = 3 := by omega
  all_goals (rw [idxn]; rfl)
theorem j2_val {m : Nat} {l : List api_Entry} {n : List Int} {at_ : Nat} {shop kind day N : Int} {after : Bytes} {k : Nat} (hm : 1 ≤ m ∧ m ≤ 200) (hn : ∀ x ∈ n, I64 x) (ha : at_ ≤ 1000) (hk : k < m) (hs : shop = (k : Int)) (hl : l.length ≤ 1000) (hw : ∀ x ∈ l, EW x)
    (hE : EW ⟨0, shop, kind, day, if kind = 4 then ((drawN n at_ m).2 : Int) else N, [], after, [], []⟩) :
    (colletref37_Step_j2 (keysT m) l n (at_ : Int) 0 shop kind day N [] after [] []).val = some (signE (keyT k) (nextE l ⟨0, shop, kind, day, if kind = 4 then ((drawN n at_ m).2 : Int) else N, [], after, [], []⟩)) := by
  have d := draw_val (k := at_) (m := m) hn (by omega) (by omega)
  unfold colletref37_Step_j2
  rw [Comp.val_ite]
  by_cases h : kind = 4
  · rw [if_pos h] at hE ⊢
    rw [if_pos (by rw [decide_eq_true_iff]; exact h), keysT_len, Comp.val_bind, d, Option.bind_some]
    exact j1_val (e := ⟨0, shop, kind, day, ((drawN n at_ m).2 : Int), [], after, [], []⟩) hm.2 hk hs hl hw hE
  · rw [if_neg h] at hE ⊢
    rw [if_neg (by rw [decide_eq_true_iff]; exact h)]
    exact j1_val (e := ⟨0, shop, kind, day, N, [], after, [], []⟩) hm.2 hk hs hl hw hE
theorem drawN_at2 (L : List Int) (k m : Nat) (c : Nat) (h : k ≤ c) : (drawN L k m).1 ≤ c + 1 := Nat.le_trans (drawN_at L k m) (by omega)
theorem stepK_val {m : Nat} {l : List api_Entry} {p : api_Entry} {n : List Int} {k : Nat} (hm : 1 ≤ m ∧ m ≤ 200) (hn : ∀ x ∈ n, I64 x) (hl : 0 < l.length ∧ l.length ≤ 1000) (hw : ∀ x ∈ l, EW x) (hp : l.getLast? = some p) (hk : k < m) (hs : wrt p = (k : Int)) (hd : 0 ≤ p.Day ∧ p.Day ≤ 1000000) :
    (colletref37_Step (keysT m) l n).val = some (signE (keyT k) (nextE l (stepE m l n))) ∧ EW (stepE m l n) := by
  obtain ⟨p', hp', hmem, hidx⟩ := last_idx hl.1 (by omega)
  rw [hp] at hp'; cases hp'
  have hpw := hw p hmem
  have a1 := drawN_at n 0 m
  have a2 := drawN_at2 n (drawN n 0 m).1 9 1 a1
  have a3 := drawN_at2 n (drawN n (drawN n 0 m).1 9).1 20 2 a2
  have d1 := draw_val (k := 0) (m := m) hn (by omega) (by omega)
  have l2 := drawN_lt n (drawN n 0 m).1 9 (by omega)
  have d2 := draw_val (k := (drawN n 0 m).1) (m := 9) hn (by omega) (by omega)
  have l3 := drawN_lt n (drawN n (drawN n 0 m).1 9).1 20 (by omega)
  have d3 := draw_val (k := (drawN n (drawN n 0 m).1 9).1) (m := 20) hn (by omega) (by omega)
  rw [show ((0 : Nat) : Int) = 0 from rfl] at d1
  rw [show ((9 : Nat) : Int) = 9 from rfl] at d2
  rw [show ((20 : Nat) : Int) = 20 from rfl] at d3
  have hst : stepE m l n = (if (drawN n (drawN n (drawN n (drawN n 0 m).1 9).1 20).1 4).2 ≤ 1 then ⟨0, wrt p, 2, p.Day + ((drawN n (drawN n 0 m).1 9).2 / 3 : Nat), ((drawN n (drawN n (drawN n (drawN n (drawN n 0 m).1 9).1 20).1 4).1 8).2 : Int), [], rootT (drawN n (drawN n (drawN n 0 m).1 9).1 20).2, [], []⟩
    else if (drawN n (drawN n (drawN n (drawN n 0 m).1 9).1 20).1 4).2 = 2 then ⟨0, wrt p, 3, p.Day + ((drawN n (drawN n 0 m).1 9).2 / 3 : Nat), 0, [], p.After, [], []⟩
    else ⟨0, wrt p, 4, p.Day + ((drawN n (drawN n 0 m).1 9).2 / 3 : Nat), ((drawN n (drawN n (drawN n (drawN n (drawN n 0 m).1 9).1 20).1 4).1 m).2 : Int), [], p.After, [], []⟩) := by
    unfold stepE; rw [hp]
  have l4 := drawN_lt n (drawN n (drawN n (drawN n 0 m).1 9).1 20).1 4 (by omega)
  have d4 := draw_val (k := (drawN n (drawN n (drawN n 0 m).1 9).1 20).1) (m := 4) hn (by omega) (by omega)
  have a4 := drawN_at2 n (drawN n (drawN n (drawN n 0 m).1 9).1 20).1 4 3 a3
  rw [show ((4 : Nat) : Int) = 4 from rfl] at d4
  generalize (drawN n (drawN n (drawN n (drawN n 0 m).1 9).1 20).1 4).1 = q4 at *
  generalize (drawN n (drawN n (drawN n (drawN n 0 m).1 9).1 20).1 4).2 = r4 at *
  generalize (drawN n (drawN n (drawN n 0 m).1 9).1 20).1 = q3 at *
  generalize (drawN n (drawN n (drawN n 0 m).1 9).1 20).2 = r3 at *
  generalize (drawN n (drawN n 0 m).1 9).1 = q2 at *
  generalize (drawN n (drawN n 0 m).1 9).2 = r2 at *
  generalize (drawN n 0 m).1 = q1 at *
  generalize (drawN n 0 m).2 = r1 at *
  have l5 := drawN_lt n q4 8 (by omega)
  have d5 := draw_val (k := q4) (m := 8) hn (by omega) (by omega)
  have a5 := drawN_at2 n q4 8 4 a4
  have l6 := drawN_lt n q4 m (by omega)
  rw [show ((8 : Nat) : Int) = 8 from rfl] at d5
  have hday : IntKind.wrap .i64 (p.Day + IntKind.wrap .i64 (Int.tdiv (r2 : Int) 3)) = p.Day + ((r2 / 3 : Nat) : Int) := by
    rw [show Int.tdiv (r2 : Int) 3 = ((r2 / 3 : Nat) : Int) by rw [Int.tdiv_eq_ediv_of_nonneg (by omega)]; omega, wrapi (n := ((r2 / 3 : Nat) : Int)) (by omega), wrapi (by omega)]
  have iI : ∀ z : Int, 0 ≤ z → z < 10000000 → I64 z := by intro z h1 h2; unfold I64; omega
  have hw2 : ∀ z : Nat, z < 8 → EW ⟨0, wrt p, 2, p.Day + ((r2 / 3 : Nat) : Int), (z : Int), [], rootT r3, [], []⟩ := by
    intro z hz
    exact ⟨iI _ (by simp) (by simp), by show I64 (wrt p); rw [hs]; exact iI _ (by omega) (by omega), iI _ (by simp) (by simp), iI _ (by show 0 ≤ p.Day + _; omega) (by show p.Day + _ < _; omega), iI _ (by show (0 : Int) ≤ (z : Int); omega) (by show (z : Int) < _; omega), by simp, by show (rootT _).length ≤ _; rw [rootT_len]; decide, by simp, by simp⟩
  have hw3 : ∀ (kd : Int) (z : Nat), 0 ≤ kd → kd ≤ 4 → z ≤ 200 → EW ⟨0, wrt p, kd, p.Day + ((r2 / 3 : Nat) : Int), (z : Int), [], p.After, [], []⟩ := by
    intro kd z h1 h2 hz
    exact ⟨iI _ (by simp) (by simp), by show I64 (wrt p); rw [hs]; exact iI _ (by omega) (by omega), iI _ h1 (by show kd < _; omega), iI _ (by show 0 ≤ p.Day + _; omega) (by show p.Day + _ < _; omega), iI _ (by show (0 : Int) ≤ (z : Int); omega) (by show (z : Int) < _; omega), by simp, hpw.after, by simp, by simp⟩
  have hlen : decide ((l.length : Int) > 0) = true := by rw [decide_eq_true_iff]; omega
  have hpos : (colletref37_Step (keysT m) l n).val = some (signE (keyT k) (nextE l (if r4 ≤ 1 then ⟨0, wrt p, 2, p.Day + ((r2 / 3 : Nat) : Int), ((drawN n q4 8).2 : Int), [], rootT r3, [], []⟩
      else if r4 = 2 then ⟨0, wrt p, 3, p.Day + ((r2 / 3 : Nat) : Int), 0, [], p.After, [], []⟩
      else ⟨0, wrt p, 4, p.Day + ((r2 / 3 : Nat) : Int), ((drawN n q4 m).2 : Int), [], p.After, [], []⟩))) := by
    unfold colletref37_Step
    rw [keysT_len, Comp.val_bind, d1, Option.bind_some, Comp.val_bind, d2, Option.bind_some, Comp.val_bind, d3, Option.bind_some, Comp.val_bind, root37_val (by omega), Option.bind_some, Comp.val_ite, if_pos hlen, Comp.val_bind, hidx, Option.bind_some, Comp.val_bind, d4, Option.bind_some]
    dsimp only
    rw [Comp.val_bind, idx_kind _ l4, Option.bind_some, Comp.val_bind, writer_val, Option.bind_some, Comp.val_ite]
    by_cases c1 : r4 ≤ 1
    · simp only [if_pos c1]
      rw [if_pos (by simp), Comp.val_bind, d5, Option.bind_some]
      show (colletref37_Step_j2 (keysT m) l n ((drawN n q4 8).1 : Int) 0 (wrt p) 2 (IntKind.wrap .i64 (p.Day + IntKind.wrap .i64 (Int.tdiv (r2 : Int) 3))) ((drawN n q4 8).2 : Int) [] (rootT r3) [] []).val = _
      rw [hday]
      exact j2_val (kind := 2) (N := ((drawN n q4 8).2 : Int)) hm hn (by omega) hk hs (by omega) hw (hw2 _ l5)
    · simp only [if_neg c1]
      by_cases c2 : r4 = 2
      · simp only [if_pos c2]
        rw [if_neg (by simp)]
        show (colletref37_Step_j2 (keysT m) l n (q4 : Int) 0 (wrt p) 3 (IntKind.wrap .i64 (p.Day + IntKind.wrap .i64 (Int.tdiv (r2 : Int) 3))) 0 [] p.After [] []).val = _
        rw [hday]
        exact j2_val (kind := 3) (N := 0) hm hn (by omega) hk hs (by omega) hw (hw3 3 0 (by omega) (by omega) (by omega))
      · simp only [if_neg c2]
        rw [if_neg (by simp)]
        show (colletref37_Step_j2 (keysT m) l n (q4 : Int) 0 (wrt p) 4 (IntKind.wrap .i64 (p.Day + IntKind.wrap .i64 (Int.tdiv (r2 : Int) 3))) 0 [] p.After [] []).val = _
        rw [hday]
        exact j2_val (kind := 4) (N := 0) hm hn (by omega) hk hs (by omega) hw (hw3 4 _ (by omega) (by omega) (by omega))
  rw [hst]
  refine ⟨hpos, ?_⟩
  by_cases c1 : r4 ≤ 1
  · rw [if_pos c1]; exact hw2 _ l5
  · rw [if_neg c1]
    by_cases c2 : r4 = 2
    · rw [if_pos c2]; exact hw3 3 0 (by omega) (by omega) (by omega)
    · rw [if_neg c2]; exact hw3 4 _ (by omega) (by omega) (by omega)
end Go.Dgp
end
section
set_option linter.unusedVariables false
set_option linter.unusedSimpArgs false
namespace Go.Lift
open Go Go.Eng
variable {α β γ δ ε σ τ : Type}
def Ok (c : Comp α) (P : α → Prop) : Prop := ∃ a, c.val = some a ∧ P a
namespace Ok
theorem of_val {c : Comp α} {a : α} {P : α → Prop} (h : c.val = some a) : Ok c P ↔ P a := by
  constructor
  · rintro ⟨b, h1, h2⟩; rw [h] at h1; cases h1; exact h2
  · exact fun hp => ⟨a, h, hp⟩
theorem val {c : Comp α} {a : α} (h : Ok c (fun x => x = a)) : c.val = some a := by
  obtain ⟨b, h1, h2⟩ := h; rw [h1, h2]
theorem mono {c : Comp α} {P Q : α → Prop} (h : Ok c P) (i : ∀ a, P a → Q a) : Ok c Q := by
  obtain ⟨a, h1, h2⟩ := h; exact ⟨a, h1, i a h2⟩
theorem pure {a : α} {P : α → Prop} : Ok (Comp.pure a) P ↔ P a := of_val (Comp.val_pure a)
theorem bind {c : Comp α} {f : α → Comp β} {P : β → Prop} : Ok (c.bind f) P ↔ Ok c fun a => Ok (f a) P := by
  unfold Ok
  rw [Comp.val_bind]
  cases hc : c.val with
  | none => simp
  | some a => simp
theorem ite {p : Prop} [Decidable p] {c d : Comp α} {P : α → Prop} : Ok (if p then c else d) P ↔ if p then Ok c P else Ok d P := by split <;> rfl
theorem ite_i {p : Prop} [Decidable p] {c d : Comp α} {P : α → Prop} (h1 : p → Ok c P) (h2 : ¬ p → Ok d P) : Ok (if p then c else d) P := by
  split
  · rename_i h; exact h1 h
  · rename_i h; exact h2 h
theorem gd {g : Bool} {c : Comp α} {d : α} {P : α → Prop} : Ok (Comp.gd g c d) P ↔ if g = true then Ok c P else P d := by
  cases g with
  | true => exact Iff.rfl
  | false => exact pure
theorem idx {xs : List α} {i : Int} {P : α → Prop} {x : α} (h0 : 0 ≤ i) (h : xs[i.toNat]? = some x) : Ok (Lift.idx xs i) P ↔ P x := of_val (idx_val' h0 h)
theorem idxn {xs : List α} {i : Nat} {P : α → Prop} {x : α} (h : xs[i]? = some x) : Ok (Lift.idx xs (i : Int)) P ↔ P x := of_val (idx_val h)
theorem app {xs ys : List α} {P : List α → Prop} (h : xs.length + ys.length ≤ LIM) : Ok (Lift.app xs ys) P ↔ P (xs ++ ys) := of_val (app_val h)
theorem sub {xs : List α} {l h : Int} {P : List α → Prop} (hr : 0 ≤ l ∧ l ≤ h ∧ h ≤ xs.length) : Ok (Lift.sub xs l h) P ↔ P ((xs.take h.toNat).drop l.toNat) := of_val (sub_val hr)
theorem rem {a b : Int} {P : Int → Prop} (h : b ≠ 0) : Ok (Lift.rem a b) P ↔ P (a.tmod b) := of_val (rem_val h)
theorem upd {xs : List α} {i : Int} {x : α} {P : List α → Prop} (h : 0 ≤ i ∧ i < xs.length) : Ok (Lift.upd xs i x) P ↔ P (xs.set i.toNat x) := of_val (upd_val h)
theorem mk {n : Int} {z : α} {P : List α → Prop} (h : 0 ≤ n ∧ n ≤ LIM) : Ok (Lift.mk n z) P ↔ P (List.replicate n.toNat z) := of_val (mk_val h)
theorem nonneg {n : Int} {P : Unit → Prop} (h : 0 ≤ n) : Ok (Lift.nonneg n) P ↔ P () := of_val (nonneg_val h)
theorem loop {body : σ → Comp (Comp.Step σ ε)} (I : σ → Prop) (m : σ → Nat) {P : ε → Prop} {s : σ} (h0 : I s)
    (hb : ∀ s, I s → Ok (body s) fun t => match t with | .next s' => I s' ∧ m s' < m s | .done e => P e) : Ok (Comp.loop body s) P := by
  have key : ∀ k s, m s = k → I s → Ok (Comp.loop body s) P := by
    intro k
    induction k using Nat.strongRecOn with
    | _ k ih =>
      intro s hk hI
      obtain ⟨t, h1, h2⟩ := hb s hI
      cases t with
      | next s' =>
        obtain ⟨e, h3, h4⟩ := ih (m s') (by have := h2.2; omega) s' rfl h2.1
        exact ⟨e, by rw [Comp.val_loop, h1]; exact h3, h4⟩
      | done e => exact ⟨e, by rw [Comp.val_loop, h1]; rfl, h2⟩
  exact key _ s rfl h0
theorem count {body : σ → Comp (Comp.Step σ ε)} (N : Nat) (I : Nat → σ → Prop) {P : ε → Prop} {s : σ} (h0 : I 0 s)
    (hb : ∀ i s, i < N → I i s → Ok (body s) fun t => match t with | .next s' => I (i + 1) s' | .done e => P e)
    (he : ∀ s, I N s → Ok (body s) fun t => match t with | .next _ => False | .done e => P e) : Ok (Comp.loop body s) P := by
  have key : ∀ k i s, i + k = N → I i s → Ok (Comp.loop body s) P := by
    intro k
    induction k with
    | zero =>
      intro i s hi hI
      have : i = N := by omega
      subst this
      obtain ⟨t, h1, h2⟩ := he s hI
      cases t with
      | next _ => exact h2.elim
      | done e => exact ⟨e, by rw [Comp.val_loop, h1]; rfl, h2⟩
    | succ k ih =>
      intro i s hi hI
      obtain ⟨t, h1, h2⟩ := hb i s (by omega) hI
      cases t with
      | next s' =>
        obtain ⟨e, h3, h4⟩ := ih (i + 1) s' (by omega) h2
        exact ⟨e, by rw [Comp.val_loop, h1]; exact h3, h4⟩
      | done e => exact ⟨e, by rw [Comp.val_loop, h1]; rfl, h2⟩
  exact key N 0 s (by omega) h0
theorem tt {c : Comp Bool} (h : Ok c fun b => b = true) : c.val = some true := val h
end Ok
theorem bif_or (b c : Bool) : (bif b then true else c) = (b || c) := by cases b <;> rfl
theorem bif_and (b c : Bool) : (bif b then c else false) = (b && c) := by cases b <;> rfl
end Go.Lift
end
section
set_option linter.unusedVariables false
set_option linter.unusedSimpArgs false
namespace Go.Dgp
open Go Go.Lift Go.F
open Go.Dig hiding Bytes cat
def shopB (m : Nat) (n : Int) : Bool := bif decide (n ≥ 0) then decide (n < (m : Int)) else false
theorem known_val (keys : List Bytes) (n : Int) : (passport_known keys n).val = some (shopB keys.length n) := by
  unfold passport_known shopB; rw [Comp.val_bind, Comp.val_pure, Option.bind_some, Comp.val_pure]
theorem shopB_iff {m : Nat} {n : Int} : shopB m n = true ↔ 0 ≤ n ∧ n < (m : Int) := by
  unfold shopB
  by_cases h : n ≥ 0
  · simp [h]
  · simp [h]
def wrtP : Option api_Entry → Int | none => 0 | some p => wrt p
def dayP : Option api_Entry → Int | none => 0 | some p => p.Day
def prevP : Option api_Entry → Bytes | none => [] | some p => linkE p
def befP : Option api_Entry → Bytes | none => [] | some p => p.After
def mrk (keys : List Bytes) (e : api_Entry) : Bool := match keys[e.Shop.toNat]? with | some k => chk k (vbytes e) e.Mark | none => false
def d2 (keys : List Bytes) (k : Nat) (p : Option api_Entry) (e : api_Entry) : Bool := bif shopB keys.length e.Shop then (bif decide ((k : Int) = 0) then true else decide (e.Shop = wrtP p)) else false
def d3 (k : Nat) (e : api_Entry) : Bool := bif decide (decide (e.Kind = 1) = decide ((k : Int) = 0)) then (bif (bif (bif decide (e.Kind = 1) then true else decide (e.Kind = 2)) then true else decide (e.Kind = 4)) then true else decide (e.Kind = 3)) else false
def d4 (keys : List Bytes) (e : api_Entry) : Bool := bif !decide (e.Kind = 4) then true else shopB keys.length e.N
def d5 (e : api_Entry) : Bool := bif (bif decide (e.Kind = 4) then true else decide (e.N = 0)) then true else (bif (bif decide (e.Kind = 2) then decide (e.N > 0) else false) then decide (e.N ≤ 1048576) else false)
def d6 (e : api_Entry) : Bool := bif decide (e.Day ≥ 0) then decide (e.Day ≤ 100000) else false
def d9 (p : Option api_Entry) (e : api_Entry) : Bool := bif (bif decide (e.Before = befP p) then decide ((e.After.length : Int) = 8) else false) then (bif (bif decide (e.Kind = 1) then true else decide (e.Kind = 2)) then true else decide (e.After = e.Before)) else false
def entE (keys : List Bytes) (k : Nat) (p : Option api_Entry) (e : api_Entry) : Int :=
  if decide (e.Seq = (k : Int)) = true then
    if d2 keys k p e = true then
      if d3 k e = true then
        if d4 keys e = true then
          if d5 e = true then
            if d6 e = true then
              if decide (e.Day ≥ dayP p) = true then
                if decide (e.Prev = prevP p) = true then
                  if d9 p e = true then
                    if mrk keys e = true then 0 else 50
                  else 53
                else 51
              else 7
            else 3
          else 4
        else 55
      else 4
    else 55
  else 7
def firstE (keys : List Bytes) : Nat → Option api_Entry → List api_Entry → api_Finding
  | _, _, [] => ⟨-1, 0⟩
  | k, p, e :: es => if entE keys k p e = 0 then firstE keys (k + 1) (some e) es else ⟨(k : Int), entE keys k p e⟩
def manyB (keys : List Bytes) (l : List api_Entry) : Bool := bif (bif decide ((l.length : Int) > 60) then true else decide ((keys.length : Int) < 1)) then true else decide ((keys.length : Int) > 6)
def checkE (keys : List Bytes) (l : List api_Entry) : api_Finding := if manyB keys l = true then ⟨-1, 2⟩ else firstE keys 0 none l
def runC : List passport_condition → Comp (Option Int)
  | [] => Comp.pure none
  | c :: cs => c.holds_.bind fun b => if b = true then runC cs else Comp.pure (some c.err_)
theorem conds_loop (cs : List passport_condition) (k : Int) (r : api_Finding) (hl : cs.length ≤ 1000) : (Comp.loop (fun s : Int × api_Finding => passport_Check_l4 cs k s.1 s.2) (0, r)).val = (runC cs).val.bind fun | none => some (.inr r) | some e => some (.inl ⟨k, e⟩) := by
  have key : ∀ (suf pre : List passport_condition), cs = pre ++ suf → (Comp.loop (fun s : Int × api_Finding => passport_Check_l4 cs k s.1 s.2) ((pre.length : Int), r)).val = (runC suf).val.bind fun | none => some (.inr r) | some e => some (.inl ⟨k, e⟩) := by
    intro suf
    induction suf with
    | nil =>
      intro pre h
      rw [List.append_nil] at h; subst h
      rw [Comp.val_loop]
      show ((passport_Check_l4 cs k (cs.length : Int) r).val).bind _ = _
      unfold passport_Check_l4 runC
      rw [Comp.val_ite, if_neg (by simp), Comp.val_pure, Comp.val_pure]; rfl
    | cons c suf ih =>
      intro pre h
      have hlt : pre.length < cs.length := by rw [h]; simp
      have hg : cs[pre.length]? = some c := by rw [h]; simp
      rw [Comp.val_loop]
      show ((passport_Check_l4 cs k (pre.length : Int) r).val).bind _ = _
      unfold passport_Check_l4
      rw [Comp.val_ite, if_pos (by rw [decide_eq_true_iff]; omega), Comp.val_bind, idxn, hg, Option.bind_some, Comp.val_bind]
      show _ = (Comp.val (c.holds_.bind fun b => if b = true then runC suf else Comp.pure (some c.err_))).bind _
      rw [Comp.val_bind]
      cases hv : c.holds_.val with
      | none => rfl
      | some b =>
        rw [Option.bind_some, Option.bind_some]
        cases b with
        | true =>
          rw [if_neg (by simp), if_pos rfl, Comp.val_pure, Option.bind_some]
          have := ih (pre ++ [c]) (by rw [h]; simp)
          rw [Comp.wrap_succ (by omega)]
          rw [List.length_append] at this
          exact this
        | false =>
          rw [if_pos (by simp), if_neg (by simp), Comp.val_pure, Comp.val_pure]; rfl
  exact key cs [] rfl
def placeE (k : Nat) (p : Option api_Entry) : passport_place := ⟨(k : Int), wrtP p, dayP p, prevP p, befP p⟩
theorem key_of {keys : List Bytes} {n : Int} (h : shopB keys.length n = true) : ∃ key, keys[n.toNat]? = some key ∧ key ∈ keys ∧ (idx keys n).val = some key := by
  rw [shopB_iff] at h
  have hg := List.getElem?_eq_getElem (show n.toNat < keys.length by omega)
  exact ⟨_, hg, List.getElem_mem _, idx_val' h.1 hg⟩
structure KW (keys : List Bytes) : Prop where
  len : keys.length ≤ 1000
  each : ∀ x ∈ keys, x.length ≤ 1000000
theorem run_conds {keys : List Bytes} (hk : KW keys) {k : Nat} {p : Option api_Entry} {e : api_Entry} (he : EW e) :
    ((passport_conditions keys (placeE k p) e).bind runC).val = some (if entE keys k p e = 0 then none else some (entE keys k p e)) := by
  have hb := vbytes_len he
  have h10 : d2 keys k p e = true → (passport_conditions_f10 keys e).val = some (mrk keys e) := by
    intro h
    have hs : shopB keys.length e.Shop = true := by
      unfold d2 at h
      cases hc : shopB keys.length e.Shop with
      | true => rfl
      | false => rw [hc] at h; exact h
    obtain ⟨key, hg, hm, hv⟩ := key_of hs
    have hl := hk.each key hm
    unfold passport_conditions_f10 mrk
    rw [Comp.val_bind, hv, Option.bind_some, Comp.val_bind, pBytes_val he, Option.bind_some, Comp.val_bind, Check_val _ _ _ (by omega) (by omega), Option.bind_some, Comp.val_pure, hg]
  have h1 : (passport_conditions_f1 e (placeE k p)).val = some (decide (e.Seq = (k : Int))) := Comp.val_pure _
  have h2 : (passport_conditions_f2 keys e (placeE k p)).val = some (d2 keys k p e) := by
    unfold passport_conditions_f2
    rw [Comp.val_bind, known_val, Option.bind_some, Comp.val_bind, Comp.val_pure, Option.bind_some, Comp.val_pure]; rfl
  have h3 : (passport_conditions_f3 (decide (e.Kind = 1)) (placeE k p) (decide (e.Kind = 2)) (decide (e.Kind = 4)) e).val = some (d3 k e) := by
    unfold passport_conditions_f3
    rw [Comp.val_bind, Comp.val_pure, Option.bind_some, Comp.val_pure]; rfl
  have h4 : (passport_conditions_f4 (decide (e.Kind = 4)) keys e).val = some (d4 keys e) := by
    unfold passport_conditions_f4 d4
    rw [Comp.val_bind, Comp.val_gd, known_val]
    by_cases h : e.Kind = 4 <;> simp [h]
  have h5 : (passport_conditions_f5 (decide (e.Kind = 4)) e (decide (e.Kind = 2))).val = some (d5 e) := by
    unfold passport_conditions_f5
    rw [Comp.val_bind, Comp.val_pure, Option.bind_some, Comp.val_pure]; rfl
  have h6 : (passport_conditions_f6 e).val = some (d6 e) := by
    unfold passport_conditions_f6
    rw [Comp.val_bind, Comp.val_pure, Option.bind_some, Comp.val_pure]; rfl
  have h7 : (passport_conditions_f7 e (placeE k p)).val = some (decide (e.Day ≥ dayP p)) := Comp.val_pure _
  have h8 : (passport_conditions_f8 e (placeE k p)).val = some (decide (e.Prev = prevP p)) := Comp.val_pure _
  have h9 : (passport_conditions_f9 e (placeE k p) (decide (e.Kind = 1)) (decide (e.Kind = 2))).val = some (d9 p e) := by
    unfold passport_conditions_f9
    rw [Comp.val_bind, Comp.val_pure, Option.bind_some, Comp.val_pure]; rfl
  unfold passport_conditions entE
  simp only [Comp.val_bind, Comp.val_pure, Option.bind_some, runC, h1, h2, h3, h4, h5, h6, h7, h8, h9, Comp.val_ite]
  generalize decide (e.Seq = (k : Int)) = b1
  cases h2 : d2 keys k p e with
  | false => cases b1 <;> rfl
  | true =>
    rw [h10 h2]
    generalize d3 k e = b3; generalize d4 keys e = b4; generalize d5 e = b5; generalize d6 e = b6; generalize decide (e.Day ≥ dayP p) = b7; generalize decide (e.Prev = prevP p) = b8; generalize d9 p e = b9; generalize mrk keys e = b10
    cases b1
    · rfl
    cases b3
    · rfl
    cases b4
    · rfl
    cases b5
    · rfl
    cases b6
    · rfl
    cases b7
    · rfl
    cases b8
    · rfl
    cases b9
    · rfl
    cases b10 <;> rfl
theorem behind_val {k : Nat} {e : api_Entry} (hk : k ≤ 1000000) (he : EW e) : (passport_behind (k : Int) e).val = some (placeE (k + 1) (some e)) := by
  unfold passport_behind
  rw [Comp.val_bind, pLink_val he, Option.bind_some, Comp.val_ite, Comp.wrap_succ (by omega)]
  unfold passport_behind_j1 placeE wrtP wrt
  by_cases h : e.Kind = 4
  · rw [if_pos (by rw [decide_eq_true_iff]; exact h), Comp.val_pure]; simp only [if_pos h]; rfl
  · rw [if_neg (by rw [decide_eq_true_iff]; exact h), Comp.val_pure]; simp only [if_neg h]; rfl
theorem Check_entries {keys : List Bytes} (hk : KW keys) {l : List api_Entry} (hl : l.length ≤ 1000) (hw : ∀ e ∈ l, EW e) (r : api_Finding) : ∀ (suf pre : List api_Entry), l = pre ++ suf →
    ((Comp.loop (fun s : Int × passport_place × api_Finding => passport_Check_l2 l keys s.1 s.2.1 s.2.2) ((pre.length : Int), placeE pre.length pre.getLast?, r)).bind (fun e => match e with | (.inl x44) => (Comp.pure x44) | (.inr x50) => (passport_Check_j1 x50))).val = some (firstE keys pre.length pre.getLast? suf) := by
  intro suf
  induction suf with
  | nil =>
    intro pre h
    rw [List.append_nil] at h; subst h
    rw [Comp.val_bind, Comp.val_loop]
    show (((passport_Check_l2 l keys (l.length : Int) _ r).val).bind _).bind _ = _
    unfold passport_Check_l2
    rw [Comp.val_ite, if_neg (by simp), Comp.val_pure]; unfold passport_Check_j1 firstE; simp
  | cons e suf ih =>
    intro pre h
    have hlt : pre.length < l.length := by rw [h]; simp
    have hg : l[pre.length]? = some e := by rw [h]; simp
    have he := hw e (List.mem_of_getElem? hg)
    have hr := run_conds hk (k := pre.length) (p := pre.getLast?) he
    rw [Comp.val_bind, Comp.val_loop]
    show (((passport_Check_l2 l keys (pre.length : Int) (placeE pre.length pre.getLast?) r).val).bind _).bind _ = _
    unfold passport_Check_l2
    rw [Comp.val_ite, if_pos (by rw [decide_eq_true_iff]; omega), Comp.val_bind, idxn, hg, Option.bind_some, Comp.val_bind]
    rw [Comp.val_bind] at hr
    cases hc : (passport_conditions keys (placeE pre.length pre.getLast?) e).val with
    | none => rw [hc] at hr; cases hr
    | some cs =>
      rw [hc, Option.bind_some] at hr
      have hcl : cs.length ≤ 1000 := by
        unfold passport_conditions at hc
        rw [Comp.val_pure] at hc
        cases hc; simp
      rw [Option.bind_some, Comp.val_bind, conds_loop cs _ _ hcl, hr]
      unfold firstE
      by_cases h0 : entE keys pre.length pre.getLast? e = 0
      · rw [if_pos h0, if_pos h0]
        simp only [Option.bind_some]
        unfold passport_Check_j3
        rw [Comp.val_bind, behind_val (by omega) he, Option.bind_some, Comp.val_pure, Option.bind_some, Comp.wrap_succ (by omega)]
        have := ih (pre ++ [e]) (by rw [h]; simp)
        rw [Comp.val_bind, List.length_append, List.getLast?_append] at this
        exact this
      · rw [if_neg h0, if_neg h0]
        simp
theorem pCheck_val {keys : List Bytes} (hk : KW keys) {l : List api_Entry} (hl : l.length ≤ 1000) (hw : ∀ e ∈ l, EW e) : (passport_Check keys l).val = some (checkE keys l) := by
  unfold passport_Check checkE
  rw [Comp.val_bind, Comp.val_pure, Option.bind_some, Comp.val_ite]
  show (if manyB keys l = true then _ else _) = _
  by_cases h : manyB keys l = true
  · rw [if_pos h, if_pos h, Comp.val_pure]
  · rw [if_neg h, if_neg h]
    exact Check_entries hk hl hw _ l [] rfl
end Go.Dgp
end
section
set_option linter.unusedVariables false
set_option linter.unusedSimpArgs false
namespace Go.Dgp
open Go Go.Lift Go.F
open Go.Dig hiding Bytes cat
theorem gdF {α : Type} (c : Comp α) (d : α) : Comp.gd false c d = Comp.pure d := rfl
theorem gdT {α : Type} (c : Comp α) (d : α) : Comp.gd true c d = c := rfl
end Go.Dgp
end
section
set_option linter.unusedVariables false
set_option linter.unusedSimpArgs false
namespace Go.Dgp
open Go Go.Lift Go.F
open Go.Dig hiding Bytes cat
def sgn (keys : List Bytes) (k : Nat) (e : api_Entry) : Bool := decide (e.Seq = (k : Int)) && shopB keys.length e.Shop && mrk keys e
def forkE (keys : List Bytes) : Nat → List api_Entry → List api_Entry → Int × Bool
  | k, x :: xs, y :: ys => if x = y then forkE keys (k + 1) xs ys else if (decide (x.Shop = y.Shop) && sgn keys k x && sgn keys k y) = true then (x.Shop, true) else (0, false)
  | _, [], _ => (0, false)
  | _, _ :: _, [] => (0, false)
theorem l4_val {keys : List Bytes} (hk : KW keys) {x y z : api_Entry} {l : List api_Entry} {k i : Nat} (hi : i < 2) (hz : [x, y][i]? = some z) (hx : l[k]? = some x) (hw : EW z) :
    (passport_Fork_l4 x y (k : Int) l keys (i : Int)).val = some (if (decide (z.Shop = x.Shop) && sgn keys k z) = true then .next ((i + 1 : Nat) : Int) else .done (.inl (0, false))) := by
  have hb := vbytes_len hw
  unfold passport_Fork_l4
  have hv : (#v[x, y] : Vector api_Entry 2).toList = [x, y] := rfl
  rw [Comp.val_ite, if_pos (by rw [decide_eq_true_iff]; omega), Comp.val_bind, hv, idxn, hz, Option.bind_some]
  unfold sgn
  by_cases h1 : z.Seq = (k : Int)
  rotate_left
  · simp [h1, Comp.val_bind, gdF]
  by_cases h2 : z.Shop = x.Shop
  rotate_left
  · simp [h1, h2, Comp.val_bind, gdF, gdT, idxn, hx]
  cases h3 : shopB keys.length z.Shop with
  | false =>
    simp [h1, h2, Comp.val_bind, gdF, gdT, idxn, hx, known_val]
    rw [← h2, h3]; simp [gdF, Comp.val_bind]
  | true =>
    obtain ⟨key, hg, hm, hid⟩ := key_of h3
    have hl := hk.each key hm
    have hc := Check_val key (vbytes z) z.Mark (by omega) (by omega)
    have hmk : mrk keys z = chk key (vbytes z) z.Mark := by unfold mrk; rw [hg]
    simp [h1, h2, Comp.val_bind, gdF, gdT, idxn, hx, known_val]
    rw [← h2, h3]
    simp [gdF, gdT, Comp.val_bind, hid, pBytes_val hw, hc, hmk]
    cases chk key (vbytes z) z.Mark with
    | false => simp
    | true => simp [Comp.wrap_succ (show i < 9223372036854775807 by omega)]
theorem pairs_val {keys : List Bytes} (hk : KW keys) {x y : api_Entry} {l : List api_Entry} {k : Nat} (hx : l[k]? = some x) (hwx : EW x) (hwy : EW y) :
    (Comp.loop (fun s => passport_Fork_l4 x y (k : Int) l keys s) 0).val = some (if (decide (x.Shop = y.Shop) && sgn keys k x && sgn keys k y) = true then .inr () else .inl (0, false)) := by
  have h0 := l4_val hk (x := x) (y := y) (z := x) (l := l) (k := k) (i := 0) (by omega) rfl hx hwx
  have h1 := l4_val hk (x := x) (y := y) (z := y) (l := l) (k := k) (i := 1) (by omega) rfl hx hwy
  rw [show ((0 : Nat) : Int) = 0 from rfl, show ((0 + 1 : Nat) : Int) = 1 from rfl] at h0
  rw [show ((1 : Nat) : Int) = 1 from rfl, show ((1 + 1 : Nat) : Int) = 2 from rfl] at h1
  have h2 : (passport_Fork_l4 x y (k : Int) l keys 2).val = some (.done (.inr ())) := by
    unfold passport_Fork_l4
    rw [Comp.val_ite, if_neg (by decide), Comp.val_pure]
  rw [Comp.val_loop, h0, Option.bind_some]
  by_cases hs : sgn keys k x = true
  · rw [if_pos (by simp [hs])]
    simp only []
    rw [Comp.val_loop, h1, Option.bind_some]
    by_cases hy : (decide (y.Shop = x.Shop) && sgn keys k y) = true
    · rw [if_pos hy]
      simp only []
      rw [Comp.val_loop, h2, Option.bind_some]
      rw [Bool.and_eq_true, decide_eq_true_iff] at hy
      rw [if_pos (by simp [hs, hy.1, hy.2])]
    · rw [if_neg hy, if_neg]
      intro h
      apply hy
      simp only [Bool.and_eq_true, decide_eq_true_iff] at h ⊢
      exact ⟨h.1.1.symm, h.2⟩
  · have hs' : sgn keys k x = false := by simpa using hs
    rw [if_neg (by simp [hs']), if_neg (by simp [hs'])]
theorem fork_entries {keys : List Bytes} (hk : KW keys) {a b : List api_Entry} (hl : a.length ≤ 1000) (ha : ∀ e ∈ a, EW e) (hb : ∀ e ∈ b, EW e) : ∀ (sa sb pa pb : List api_Entry), a = pa ++ sa → b = pb ++ sb → pa.length = pb.length →
    ((Comp.loop (fun s => passport_Fork_l2 (min (a.length : Int) (b.length : Int)) a b keys s) (pa.length : Int)).bind (fun e => match e with | (.inl (x25, x26)) => (Comp.pure (x25, x26)) | (.inr ()) => (passport_Fork_j1))).val = some (forkE keys pa.length sa sb) := by
  intro sa
  induction sa with
  | nil =>
    intro sb pa pb h1 h2 h3
    rw [Comp.val_bind, Comp.val_loop]
    show (((passport_Fork_l2 _ a b keys (pa.length : Int)).val).bind _).bind _ = _
    unfold passport_Fork_l2
    rw [List.append_nil] at h1
    rw [Comp.val_ite, if_neg (by rw [decide_eq_true_iff, h1]; omega), Comp.val_pure]
    unfold passport_Fork_j1 forkE; simp
  | cons x sa ih =>
    intro sb pa pb h1 h2 h3
    rw [Comp.val_bind, Comp.val_loop]
    show (((passport_Fork_l2 _ a b keys (pa.length : Int)).val).bind _).bind _ = _
    have hla : a.length = pa.length + sa.length + 1 := by rw [h1]; simp; omega
    cases sb with
    | nil =>
      rw [List.append_nil] at h2
      unfold passport_Fork_l2
      rw [Comp.val_ite, if_neg (by rw [decide_eq_true_iff, h2]; omega), Comp.val_pure]
      unfold passport_Fork_j1 forkE; simp
    | cons y sb =>
      have hlb : b.length = pb.length + sb.length + 1 := by rw [h2]; simp; omega
      have ga : a[pa.length]? = some x := by rw [h1]; simp
      have gb : b[pa.length]? = some y := by rw [h2, h3]; simp
      unfold passport_Fork_l2 forkE
      rw [Comp.val_ite, if_pos (by rw [decide_eq_true_iff]; omega), Comp.val_bind, idxn, ga, Option.bind_some, Comp.val_bind, idxn, gb, Option.bind_some, Comp.val_ite]
      by_cases hxy : x = y
      · rw [if_pos (by simp [hxy]), if_pos hxy, Comp.val_pure, Option.bind_some, Comp.wrap_succ (by omega)]
        have := ih sb (pa ++ [x]) (pb ++ [y]) (by rw [h1]; simp) (by rw [h2]; simp) (by simp [h3])
        rw [Comp.val_bind, List.length_append] at this
        exact this
      · rw [if_neg (by simp [hxy]), if_neg hxy, Comp.val_bind, idxn, ga, Option.bind_some, Comp.val_bind, idxn, gb, Option.bind_some, Comp.val_bind, pairs_val hk ga (ha x (List.mem_of_getElem? ga)) (hb y (List.mem_of_getElem? gb)), Option.bind_some]
        by_cases hc : (decide (x.Shop = y.Shop) && sgn keys pa.length x && sgn keys pa.length y) = true
        · rw [if_pos hc, if_pos hc]
          simp only []
          unfold passport_Fork_j3
          rw [Comp.val_bind, idxn, ga, Option.bind_some, Comp.val_pure]; simp
        · rw [if_neg hc, if_neg hc]; simp
theorem pFork_val {keys : List Bytes} (hk : KW keys) {a b : List api_Entry} (hl : a.length ≤ 1000) (ha : ∀ e ∈ a, EW e) (hb : ∀ e ∈ b, EW e) : (passport_Fork keys a b).val = some (forkE keys 0 a b) := by
  unfold passport_Fork
  rw [Comp.val_bind, Comp.val_pure, Option.bind_some]
  exact fork_entries hk hl ha hb a b [] [] rfl rfl rfl
theorem forkE_symm (keys : List Bytes) : ∀ (a b : List api_Entry) (k : Nat), forkE keys k a b = forkE keys k b a := by
  intro a
  induction a with
  | nil => intro b k; cases b <;> rfl
  | cons x xs ih =>
    intro b k
    cases b with
    | nil => rfl
    | cons y ys =>
      unfold forkE
      by_cases h : x = y
      · rw [if_pos h, if_pos h.symm, ih]
      · have h' : ¬ y = x := fun e => h e.symm
        by_cases hs : x.Shop = y.Shop
        · simp [hs, h, h', And.comm]
        · have : ¬ y.Shop = x.Shop := fun e => hs e.symm
          simp [hs, h, h', this]
theorem forkE_pre (keys : List Bytes) : ∀ (a b c : List api_Entry) (k : Nat), forkE keys k (a ++ b) (a ++ c) = forkE keys (k + a.length) b c := by
  intro a
  induction a with
  | nil => intro b c k; rfl
  | cons x xs ih =>
    intro b c k
    rw [List.cons_append, List.cons_append]
    show (if x = x then forkE keys (k + 1) (xs ++ b) (xs ++ c) else _) = _
    rw [if_pos rfl, ih, List.length_cons, Nat.add_assoc, Nat.add_comm 1]
end Go.Dgp
end
section
set_option linter.unusedVariables false
set_option linter.unusedSimpArgs false
namespace Go.Dgp
open Go Go.Lift Go.F
open Go.Dig hiding Bytes cat
def allR (keys : List Bytes) : Nat → Option api_Entry → List api_Entry → Prop
  | _, _, [] => True
  | k, p, e :: es => entE keys k p e = 0 ∧ allR keys (k + 1) (some e) es
def lastP (p : Option api_Entry) : List api_Entry → Option api_Entry
  | [] => p
  | e :: es => lastP (some e) es
theorem lastP_none : ∀ (l : List api_Entry) (p : Option api_Entry), lastP p l = l.getLast?.or p
  | [], p => by simp [lastP]
  | e :: es, p => by
    rw [lastP, lastP_none es (some e), List.getLast?_cons]
    cases h : es.getLast? <;> simp
theorem lastP_eq (l : List api_Entry) : lastP none l = l.getLast? := by rw [lastP_none]; simp
theorem allR_app (keys : List Bytes) : ∀ (a b : List api_Entry) (k : Nat) (p : Option api_Entry), allR keys k p (a ++ b) ↔ allR keys k p a ∧ allR keys (k + a.length) (lastP p a) b
  | [], b, k, p => by simp [allR, lastP]
  | e :: es, b, k, p => by
    rw [List.cons_append, allR, allR, allR_app keys es b, lastP, List.length_cons, and_assoc]
    rw [show k + 1 + es.length = k + (es.length + 1) by omega]
theorem firstE_app (keys : List Bytes) : ∀ (a b : List api_Entry) (k : Nat) (p : Option api_Entry), allR keys k p a → firstE keys k p (a ++ b) = firstE keys (k + a.length) (lastP p a) b
  | [], b, k, p, _ => by simp [lastP]
  | e :: es, b, k, p, h => by
    rw [allR] at h
    rw [List.cons_append, firstE, if_pos h.1, firstE_app keys es b _ _ h.2, lastP, List.length_cons]
    rw [show k + 1 + es.length = k + (es.length + 1) by omega]
theorem firstE_all {keys : List Bytes} {l : List api_Entry} {k : Nat} {p : Option api_Entry} (h : allR keys k p l) : firstE keys k p l = ⟨-1, 0⟩ := by
  have := firstE_app keys l [] k p h
  rw [List.append_nil] at this; rw [this]; rfl
theorem chk_own {k m : Bytes} (h : k ≠ []) : chk k m (D (markL k m)) = true := by unfold chk; simp [h]
theorem grow {keys : List Bytes} {l : List api_Entry} {e : api_Entry} {key : Bytes} (hs : shopB keys.length e.Shop = true) (hkey : keys[e.Shop.toNat]? = some key) (hne : key ≠ [])
    (h0 : l = [] → e.Kind = 1 ∧ e.Before = []) (h1 : ∀ p, l.getLast? = some p → e.Shop = wrt p ∧ (e.Kind = 2 ∨ e.Kind = 3 ∨ e.Kind = 4) ∧ p.Day ≤ e.Day ∧ (e.Kind = 3 ∨ e.Kind = 4 → e.After = p.After))
    (hN4 : e.Kind = 4 → shopB keys.length e.N = true) (hN : e.Kind ≠ 4 → e.N = 0 ∨ e.Kind = 2 ∧ 0 < e.N ∧ e.N ≤ 1048576) (hd : 0 ≤ e.Day ∧ e.Day ≤ 100000) (ha : e.After.length = 8) :
    entE keys l.length l.getLast? (signE key (nextE l e)) = 0 := by
  have hm : mrk keys (signE key (nextE l e)) = true := by
    have e1 : (signE key (nextE l e)).Shop = e.Shop := by unfold signE nextE; cases l.getLast? <;> rfl
    unfold mrk
    rw [e1, hkey]
    exact chk_own hne
  have h5 : d5 (signE key (nextE l e)) = true := by
    have e1 : (signE key (nextE l e)).Kind = e.Kind := by unfold signE nextE; cases l.getLast? <;> rfl
    have e2 : (signE key (nextE l e)).N = e.N := by unfold signE nextE; cases l.getLast? <;> rfl
    unfold d5; rw [e1, e2]
    by_cases hk : e.Kind = 4
    · simp [hk]
    · rcases hN hk with h | ⟨h1, h2, h3⟩
      · simp [h]
      · simp [h1, h2, h3]
  have h4 : d4 keys (signE key (nextE l e)) = true := by
    have e1 : (signE key (nextE l e)).Kind = e.Kind := by unfold signE nextE; cases l.getLast? <;> rfl
    have e2 : (signE key (nextE l e)).N = e.N := by unfold signE nextE; cases l.getLast? <;> rfl
    unfold d4; rw [e1, e2]
    by_cases hk : e.Kind = 4
    · simp [hk, hN4 hk]
    · simp [hk]
  have h6 : d6 (signE key (nextE l e)) = true := by
    have e1 : (signE key (nextE l e)).Day = e.Day := by unfold signE nextE; cases l.getLast? <;> rfl
    unfold d6; rw [e1]; simp [hd]
  have hseq : (signE key (nextE l e)).Seq = (l.length : Int) := by unfold signE nextE; cases l.getLast? <;> rfl
  unfold entE
  rw [hm, h4, h5, h6, decide_eq_true hseq]
  simp only [if_true]
  cases hl : l.getLast? with
  | none =>
    have hnil : l = [] := List.getLast?_eq_none_iff.1 hl
    obtain ⟨k1, b0⟩ := h0 hnil
    subst hnil
    have e2 : d2 keys ([] : List api_Entry).length none (signE key (nextE [] e)) = true := by
      unfold d2
      rw [show (signE key (nextE [] e)).Shop = e.Shop from rfl, hs]; rfl
    have e3 : d3 ([] : List api_Entry).length (signE key (nextE [] e)) = true := by
      unfold d3
      rw [show (signE key (nextE [] e)).Kind = e.Kind from rfl, k1]; rfl
    have e9 : d9 none (signE key (nextE [] e)) = true := by
      unfold d9
      rw [show (signE key (nextE [] e)).Kind = e.Kind from rfl, show (signE key (nextE [] e)).Before = e.Before from rfl, show (signE key (nextE [] e)).After = e.After from rfl, k1, b0, show befP none = [] from rfl]
      simp [ha]
    rw [e2, e3, e9, decide_eq_true (show (signE key (nextE [] e)).Day ≥ dayP none from hd.1), decide_eq_true (show (signE key (nextE [] e)).Prev = prevP none from rfl)]
    rfl
  | some p =>
    obtain ⟨k1, k2, k3, k4⟩ := h1 p hl
    have hpos : ¬ (l.length : Int) = 0 := by
      intro h
      have : l = [] := List.eq_nil_of_length_eq_zero (by omega)
      rw [this] at hl; cases hl
    have hx : signE key (nextE l e) = signE key ⟨(l.length : Int), e.Shop, e.Kind, e.Day, e.N, p.After, e.After, linkE p, []⟩ := by unfold nextE; rw [hl]
    rw [hx]
    have e2 : d2 keys l.length (some p) (signE key ⟨(l.length : Int), e.Shop, e.Kind, e.Day, e.N, p.After, e.After, linkE p, []⟩) = true := by
      unfold d2
      show (bif shopB keys.length e.Shop then (bif decide ((l.length : Int) = 0) then true else decide (e.Shop = wrt p)) else false) = true
      rw [hs, decide_eq_true k1]; simp
    have e3 : d3 l.length (signE key ⟨(l.length : Int), e.Shop, e.Kind, e.Day, e.N, p.After, e.After, linkE p, []⟩) = true := by
      unfold d3
      show (bif decide (decide (e.Kind = 1) = decide ((l.length : Int) = 0)) then (bif (bif (bif decide (e.Kind = 1) then true else decide (e.Kind = 2)) then true else decide (e.Kind = 4)) then true else decide (e.Kind = 3)) else false) = true
      rw [decide_eq_false hpos]
      rcases k2 with h | h | h <;> simp [h]
    have e9 : d9 (some p) (signE key ⟨(l.length : Int), e.Shop, e.Kind, e.Day, e.N, p.After, e.After, linkE p, []⟩) = true := by
      unfold d9
      show (bif (bif decide (p.After = p.After) then decide ((e.After.length : Int) = 8) else false) then (bif (bif decide (e.Kind = 1) then true else decide (e.Kind = 2)) then true else decide (e.After = p.After)) else false) = true
      rcases k2 with h | h | h
      · simp [h, ha]
      · simp [h, ha, k4 (Or.inl h)]; rw [← k4 (Or.inl h)]; omega
      · simp [h, ha, k4 (Or.inr h)]; rw [← k4 (Or.inr h)]; omega
    rw [e2, e3, e9, decide_eq_true (show (signE key ⟨(l.length : Int), e.Shop, e.Kind, e.Day, e.N, p.After, e.After, linkE p, []⟩).Day ≥ dayP (some p) from k3), decide_eq_true (show (signE key ⟨(l.length : Int), e.Shop, e.Kind, e.Day, e.N, p.After, e.After, linkE p, []⟩).Prev = prevP (some p) from rfl)]
    rfl
structure Good (m : Nat) (l : List api_Entry) : Prop where
  ew : ∀ e ∈ l, EW e
  r : allR (keysT m) 0 none l
  day : ∀ e ∈ l, 0 ≤ e.Day ∧ e.Day ≤ 10 * (l.length : Int)
  aft : ∀ e ∈ l, e.After.length = 8
theorem Good.nil (m : Nat) : Good m [] := ⟨by simp, trivial, by simp, by simp⟩
theorem d_of_ent {keys : List Bytes} {k : Nat} {p : Option api_Entry} {e : api_Entry} (h : entE keys k p e = 0) :
    e.Seq = (k : Int) ∧ d2 keys k p e = true ∧ d3 k e = true ∧ d4 keys e = true ∧ d5 e = true ∧ d6 e = true ∧ e.Day ≥ dayP p ∧ e.Prev = prevP p ∧ d9 p e = true ∧ mrk keys e = true := by
  unfold entE at h
  by_cases c1 : decide (e.Seq = (k : Int)) = true
  rotate_left
  · rw [if_neg c1] at h; simp at h
  rw [if_pos c1] at h
  by_cases c2 : d2 keys k p e = true
  rotate_left
  · rw [if_neg c2] at h; simp at h
  rw [if_pos c2] at h
  by_cases c3 : d3 k e = true
  rotate_left
  · rw [if_neg c3] at h; simp at h
  rw [if_pos c3] at h
  by_cases c4 : d4 keys e = true
  rotate_left
  · rw [if_neg c4] at h; simp at h
  rw [if_pos c4] at h
  by_cases c5 : d5 e = true
  rotate_left
  · rw [if_neg c5] at h; simp at h
  rw [if_pos c5] at h
  by_cases c6 : d6 e = true
  rotate_left
  · rw [if_neg c6] at h; simp at h
  rw [if_pos c6] at h
  by_cases c7 : decide (e.Day ≥ dayP p) = true
  rotate_left
  · rw [if_neg c7] at h; simp at h
  rw [if_pos c7] at h
  by_cases c8 : decide (e.Prev = prevP p) = true
  rotate_left
  · rw [if_neg c8] at h; simp at h
  rw [if_pos c8] at h
  by_cases c9 : d9 p e = true
  rotate_left
  · rw [if_neg c9] at h; simp at h
  rw [if_pos c9] at h
  by_cases c10 : mrk keys e = true
  rotate_left
  · rw [if_neg c10] at h; simp at h
  exact ⟨of_decide_eq_true c1, c2, c3, c4, c5, c6, of_decide_eq_true c7, of_decide_eq_true c8, c9, c10⟩
theorem shop_of_d2 {keys : List Bytes} {k : Nat} {p : Option api_Entry} {e : api_Entry} (h : d2 keys k p e = true) : shopB keys.length e.Shop = true := by
  unfold d2 at h
  cases hc : shopB keys.length e.Shop with
  | true => rfl
  | false => rw [hc] at h; exact h
theorem allR_mem {keys : List Bytes} : ∀ {l : List api_Entry} {k : Nat} {p : Option api_Entry}, allR keys k p l → ∀ e ∈ l, ∃ k' p', entE keys k' p' e = 0
  | [], _, _, _, _, he => by simp at he
  | x :: xs, k, p, h, e, he => by
    rw [allR] at h
    rcases List.mem_cons.1 he with rfl | he
    · exact ⟨k, p, h.1⟩
    · exact allR_mem h.2 e he
theorem wrt_known {m : Nat} {l : List api_Entry} (hg : Good m l) {p : api_Entry} (hp : p ∈ l) : shopB m (wrt p) = true := by
  obtain ⟨k, q, h⟩ := allR_mem hg.r p hp
  obtain ⟨_, h2, _, h4, _⟩ := d_of_ent h
  have := shop_of_d2 h2
  rw [keysT_len] at this
  unfold wrt
  by_cases hk : p.Kind = 4
  · rw [if_pos hk]
    unfold d4 at h4
    rw [keysT_len] at h4
    simpa [hk] using h4
  · rw [if_neg hk]; exact this
theorem keyT_ne (k : Nat) : keyT k ≠ [] := by unfold keyT; simp
theorem stepE_day {m : Nat} {l : List api_Entry} {n : List Int} : (l = [] → 0 ≤ (stepE m l n).Day ∧ (stepE m l n).Day ≤ 8) ∧ (∀ p, l.getLast? = some p → p.Day ≤ (stepE m l n).Day ∧ (stepE m l n).Day ≤ p.Day + 2) := by
  have l2 := drawN_lt n (drawN n 0 m).1 9 (by omega)
  constructor
  · intro h; subst h
    show (0 : Int) ≤ ((drawN n (drawN n 0 m).1 9).2 : Int) ∧ ((drawN n (drawN n 0 m).1 9).2 : Int) ≤ 8
    omega
  · intro p hp
    unfold stepE
    rw [hp]
    simp only []
    by_cases c1 : (drawN n (drawN n (drawN n (drawN n 0 m).1 9).1 20).1 4).2 ≤ 1
    · rw [if_pos c1]
      show p.Day ≤ p.Day + ((_ : Nat) : Int) ∧ p.Day + ((_ : Nat) : Int) ≤ p.Day + 2
      omega
    · rw [if_neg c1]
      by_cases c2 : (drawN n (drawN n (drawN n (drawN n 0 m).1 9).1 20).1 4).2 = 2
      · rw [if_pos c2]
        show p.Day ≤ p.Day + ((_ : Nat) : Int) ∧ p.Day + ((_ : Nat) : Int) ≤ p.Day + 2
        omega
      · rw [if_neg c2]
        show p.Day ≤ p.Day + ((_ : Nat) : Int) ∧ p.Day + ((_ : Nat) : Int) ≤ p.Day + 2
        omega
theorem step_good {m : Nat} (hm : 1 ≤ m ∧ m ≤ 200) {l : List api_Entry} (hg : Good m l) (hl : l.length ≤ 500) {n : List Int} (hn : ∀ x ∈ n, I64 x) :
    ∃ e, (colletref37_Step (keysT m) l n).val = some e ∧ Good m (l ++ [e]) := by
  cases hp : l.getLast? with
  | none =>
    have hnil : l = [] := List.getLast?_eq_none_iff.1 hp
    subst hnil
    obtain ⟨h1, h2⟩ := step0_val hm hn
    have hd := (stepE_day (m := m) (l := []) (n := n)).1 rfl
    have l1 := drawN_lt n 0 m hm.1
    have hsh : (stepE m [] n).Shop = ((drawN n 0 m).2 : Int) := rfl
    have haf : (stepE m [] n).After.length = 8 := rootT_len _
    refine ⟨_, h1, ?_⟩
    have hE : EW (signE (keyT (drawN n 0 m).2) (nextE [] (stepE m [] n))) := signE_wf (nextE_wf (by simp) (by simp) h2)
    refine ⟨by simpa using hE, ?_, ?_, ?_⟩
    · rw [List.nil_append, allR]
      refine ⟨?_, trivial⟩
      refine grow (l := []) (by rw [keysT_len, hsh, shopB_iff]; omega) (key := keyT (drawN n 0 m).2) ?_ (keyT_ne _) (fun _ => ⟨rfl, rfl⟩) (by simp) (fun h => ?_) (fun _ => Or.inl rfl) ⟨hd.1, by omega⟩ haf
      · rw [hsh, Int.toNat_natCast, keysT_get l1]
      · exact absurd (show (1 : Int) = 4 from h) (by decide)
    · intro e he
      rw [List.nil_append, List.mem_singleton] at he
      subst he
      show 0 ≤ (stepE m [] n).Day ∧ (stepE m [] n).Day ≤ 10 * _
      simp; omega
    · intro e he
      rw [List.nil_append, List.mem_singleton] at he
      subst he
      exact haf
  | some p =>
    have hpm : p ∈ l := List.mem_of_getLast? hp
    have hpos : 0 < l.length := List.length_pos_of_mem hpm
    have hw := wrt_known hg hpm
    rw [shopB_iff] at hw
    have hday := hg.day p hpm
    obtain ⟨h1, h2⟩ := stepK_val hm hn ⟨hpos, by omega⟩ hg.ew hp (k := (wrt p).toNat) (by omega) (by omega) (by omega)
    have hd := (stepE_day (m := m) (l := l) (n := n)).2 p hp
    have hpa := hg.aft p hpm
    have hst : (stepE m l n).Shop = wrt p ∧ ((stepE m l n).Kind = 2 ∨ (stepE m l n).Kind = 3 ∨ (stepE m l n).Kind = 4) ∧ ((stepE m l n).Kind = 3 ∨ (stepE m l n).Kind = 4 → (stepE m l n).After = p.After) ∧ ((stepE m l n).Kind = 4 → shopB m (stepE m l n).N = true)
        ∧ ((stepE m l n).Kind ≠ 4 → (stepE m l n).N = 0 ∨ (stepE m l n).Kind = 2 ∧ 0 < (stepE m l n).N ∧ (stepE m l n).N ≤ 1048576) ∧ (stepE m l n).After.length = 8 := by
      unfold stepE
      rw [hp]
      simp only []
      have l5 := drawN_lt n (drawN n (drawN n (drawN n (drawN n 0 m).1 9).1 20).1 4).1 8 (by omega)
      have l6 := drawN_lt n (drawN n (drawN n (drawN n (drawN n 0 m).1 9).1 20).1 4).1 m (by omega)
      by_cases c1 : (drawN n (drawN n (drawN n (drawN n 0 m).1 9).1 20).1 4).2 ≤ 1
      · rw [if_pos c1]
        refine ⟨rfl, Or.inl rfl, by simp, by simp, fun _ => ?_, rootT_len _⟩
        show ((drawN n _ 8).2 : Int) = 0 ∨ (2 : Int) = 2 ∧ 0 < ((drawN n _ 8).2 : Int) ∧ ((drawN n _ 8).2 : Int) ≤ 1048576
        omega
      · rw [if_neg c1]
        by_cases c2 : (drawN n (drawN n (drawN n (drawN n 0 m).1 9).1 20).1 4).2 = 2
        · rw [if_pos c2]
          exact ⟨rfl, Or.inr (Or.inl rfl), fun _ => rfl, by simp, fun _ => Or.inl rfl, hpa⟩
        · rw [if_neg c2]
          refine ⟨rfl, Or.inr (Or.inr rfl), fun _ => rfl, fun _ => ?_, by simp, hpa⟩
          rw [shopB_iff]
          show 0 ≤ ((drawN n _ m).2 : Int) ∧ ((drawN n _ m).2 : Int) < (m : Int)
          omega
    obtain ⟨s1, s2, s3, s4, s5, s6⟩ := hst
    refine ⟨_, h1, ?_⟩
    have hE : EW (signE (keyT (wrt p).toNat) (nextE l (stepE m l n))) := signE_wf (nextE_wf (by omega) hg.ew h2)
    have hday' : (signE (keyT (wrt p).toNat) (nextE l (stepE m l n))).Day = (stepE m l n).Day := by unfold signE nextE; cases l.getLast? <;> rfl
    have haft' : (signE (keyT (wrt p).toNat) (nextE l (stepE m l n))).After = (stepE m l n).After := by unfold signE nextE; cases l.getLast? <;> rfl
    refine ⟨?_, ?_, ?_, ?_⟩
    · intro e he
      rcases List.mem_append.1 he with he | he
      · exact hg.ew e he
      · rw [List.mem_singleton] at he; subst he; exact hE
    · rw [allR_app]
      refine ⟨hg.r, ?_, trivial⟩
      rw [Nat.zero_add, lastP_eq]
      refine grow (by rw [keysT_len, s1, shopB_iff]; omega) (key := keyT (wrt p).toNat) ?_ (keyT_ne _) (fun h => ?_) (fun q hq => ?_) (fun h => by rw [keysT_len]; exact s4 h) s5 ⟨by omega, by omega⟩ s6
      · rw [s1, keysT_get (by omega)]
      · rw [h] at hp; cases hp
      · rw [hp] at hq; cases hq
        exact ⟨s1, s2, hd.1, s3⟩
    · intro e he
      rw [List.length_append, List.length_singleton]
      rcases List.mem_append.1 he with he | he
      · have := hg.day e he; omega
      · rw [List.mem_singleton] at he; subst he
        rw [hday']; omega
    · intro e he
      rcases List.mem_append.1 he with he | he
      · exact hg.aft e he
      · rw [List.mem_singleton] at he; subst he
        rw [haft']; exact s6
end Go.Dgp
end
section
set_option linter.unusedVariables false
set_option linter.unusedSimpArgs false
namespace Go.Dgp
open Go Go.Lift Go.F
set_option maxRecDepth 1000000 in
theorem san_val : (colletlaw37_sanity).val = some true := Comp.val_run (n := 130) (by kernel_rfl)
end Go.Dgp
end
section
set_option linter.unusedVariables false
set_option linter.unusedSimpArgs false
namespace Go.Dgp
open Go Go.Lift Go.F
open Go.Dig hiding Bytes cat
structure CW (c : colletlaw37_Case) : Prop where
  l : ∀ x ∈ c.L, ∀ y ∈ x, I64 y
  s : 0 ≤ c.Shops ∧ c.Shops < 256
theorem lsts_wf {c : colletlaw37_Case} (h : CW c) : ∀ x ∈ lsts c.L, ∀ y ∈ x, I64 y := by
  intro x hx y hy
  unfold lsts at hx
  obtain ⟨z, hz, rfl⟩ := List.mem_map.1 hx
  exact h.l z (List.mem_of_mem_take hz) y (List.mem_of_mem_take hy)
theorem KWk {m : Nat} (h : m ≤ 200) : KW (keysT m) := ⟨by rw [keysT_len]; omega, by
  intro x hx
  unfold keysT at hx
  obtain ⟨k, hk, rfl⟩ := List.mem_map.1 hx
  have := keyT_len (k := k) (by have := List.mem_range.1 hk; omega)
  omega⟩
end Go.Dgp
end
section
set_option linter.unusedVariables false
set_option linter.unusedSimpArgs false
namespace Go.Lift
open Go Go.RowKit Go.Eng Go.ChangeShapes Go.WideShapes Go.ChangeAt Go.Joins Go.Deep Go.WideElems
variable {H : Type} {enc : TypeId × Value → H} {P : Program} {w : World} {base : Nat} {sp : Nat → Bool} {held : Bool} {α β γ : Type}
abbrev O0 : Tags := fun _ => 0
structure Opens (enc : TypeId × Value → H) (P : Program) (w : World) (base : Nat) (sp : Nat → Bool) (held : Bool) (t : Nat) (r : GR α) (Q : α → Prop) : Prop where
  size : P.cellsOf t = r.sz
  fits : r.fits
  op : ∀ fuel cs x, DataW.trod enc P w base sp held fuel t cs = some x → ∃ y, r.rel O0 w cs y ∧ Q y
theorem opens_int {t : Nat} {k : IntKind} (ht : P.underlying t = some (.int k)) (hs : P.cellsOf t = 1) : Opens enc P w base sp held t (rInt k) fun n => (Lit.int k n).wf = true :=
  ⟨hs, fun _ => rfl, fun fuel cs x h => by obtain ⟨n, h1, _, h2⟩ := DataW.trod_int ht h; exact ⟨n, h1, h2⟩⟩
theorem relL_of {r : GR α} {O : Tags} {Q : α → Prop} : ∀ {vs : List Value}, (∀ v ∈ vs, ∃ y, r.v O w v y ∧ Q y) → ∃ ys, RelL r O w vs ys ∧ ∀ y ∈ ys, Q y
  | [], _ => ⟨[], trivial, by simp⟩
  | v :: vs, h => by
      obtain ⟨y, h1, h2⟩ := h v (by simp)
      obtain ⟨ys, h3, h4⟩ := relL_of (vs := vs) fun u hu => h u (List.mem_cons_of_mem _ hu)
      exact ⟨y :: ys, ⟨h1, h3⟩, fun z hz => (List.mem_cons.1 hz).elim (fun e => by rw [e]; exact h2) (h4 z)⟩
theorem opens_slice {t e : Nat} {r : GR α} {Q : α → Prop} (ht : P.underlying t = some (.slice e)) (hs : P.cellsOf t = 1) (hE : Opens enc P w base sp held e r Q) (hpos : 0 < r.sz) : Opens enc P w base sp held t (rSl r) fun xs => (∀ x ∈ xs, Q x) ∧ xs.length ≤ maxLen := by
  refine ⟨hs, fun _ => rfl, fun fuel cs x h => ?_⟩
  rcases DataW.trod_slice ht h with ⟨rfl, _⟩ | ⟨a, len, cap, elems, rest, n, _, rfl, _, hb, hl, hm, hlen, hel, _, _⟩
  · exact ⟨[], ⟨_, [], rfl, ⟨none, 0, rfl, by simp, by simp, .inl rfl⟩, trivial, fun h => absurd rfl h⟩, by simp, by simp⟩
  · have each : ∀ i, i < len → ∃ cs, w.cells? base (a.add (i * r.sz)) r.sz = some cs ∧ ∃ y, r.rel O0 w cs y ∧ Q y := by
      intro i hi
      have := hel i hi
      rw [List.getElem?_eq_getElem (by omega), hE.size, Option.bind_eq_some_iff] at this
      obtain ⟨cs, h1, h2⟩ := this
      exact ⟨cs, h1, hE.op n cs _ h2⟩
    let f : Nat → Value := fun i => packV r.agg ((w.cells? base (a.add (i * r.sz)) r.sz).getD [])
    have hf : ∀ i, i < len → ∃ y, r.v O0 w (f i) y ∧ Q y := by
      intro i hi
      obtain ⟨cs, h1, y, h2, h3⟩ := each i hi
      exact ⟨y, ⟨cs, h2, by show packV r.agg ((w.cells? base (a.add (i * r.sz)) r.sz).getD []) = _; rw [h1]; rfl⟩, h3⟩
    have hfc : ∀ i, i < len → ∀ j, j < r.sz → w.cell? (a.add (i * r.sz + j)) = (f i).cells[j]? := by
      intro i hi j hj
      obtain ⟨cs, h1, y, h2, _⟩ := each i hi
      have h4 := (World.cells?_some h1).2.2 j hj
      have h5 : (f i).cells = cs.toArray := by
        show (packV r.agg ((w.cells? base (a.add (i * r.sz)) r.sz).getD [])).cells = _
        rw [h1]
        exact cells_pack (fun ha => by show cs.length = 1; rw [r.len h2, hE.fits ha]) (r.one h2)
      rw [h5, List.getElem?_toArray, ← h4]
      rw [_root_.Go.Addr.add_add]
    obtain ⟨ys, h1, h2⟩ := relL_of (r := r) (O := O0) (w := w) (Q := Q) (vs := (List.range len).map f) (by
      intro v hv
      obtain ⟨i, hi, rfl⟩ := List.mem_map.1 hv
      exact hf i (List.mem_range.1 hi))
    have hyl : ys.length = len := by have := h1.len; simpa using this.symm
    refine ⟨ys, ⟨_, (List.range len).map f, rfl, ⟨some a, cap, by simp, by simpa using hl, ?_, ?_⟩, h1, ?_⟩, h2, by omega⟩
    · intro v hv
      obtain ⟨y, hy⟩ : ∃ y, r.v O0 w v y := by
        obtain ⟨i, hi, rfl⟩ := List.mem_map.1 hv
        obtain ⟨y, hy, _⟩ := hf i (List.mem_range.1 hi); exact ⟨y, hy⟩
      exact r.cells_size hE.fits hy
    · by_cases h0 : len = 0
      · left; simp [h0]
      · right
        obtain ⟨b, off, spot⟩ := a
        have hc0 : (w.cell? (Addr.add ⟨b, off, spot⟩ (0 * r.sz + 0))).isSome = true := by
          rw [hfc 0 (by omega) 0 hpos]
          obtain ⟨y, hy, _⟩ := hf 0 (by omega)
          have := r.cells_size hE.fits hy
          rw [Array.getElem?_eq_getElem (by omega)]; rfl
        obtain ⟨v0, hv0⟩ := Option.isSome_iff_exists.1 hc0
        have hspot : spot = none := by simpa [Addr.add] using World.cell?_spot hv0
        subst hspot
        refine ⟨b, off, rfl, fun i x hx j hj => ?_⟩
        have hi : i < len := by have := (List.getElem?_eq_some_iff.1 hx).1; simpa using this
        have hx' : x = f i := by
          rw [List.getElem?_map, List.getElem?_range hi] at hx
          simpa using hx.symm
        rw [hx', ← hfc i hi j hj]
        unfold Addr.add
        split
        · rename_i h0; congr 1; simp [h0]
        · rfl
    · intro hne g hg
      have h0 : 0 < len := by
        rcases Nat.eq_zero_or_pos len with h0 | h0
        · subst h0; exact absurd rfl hne
        · exact h0
      have hgb : g = a.block := by
        have : (Value.slice (some a) len cap).ownBlock = some a.block := rfl
        rw [this] at hg; exact (Option.some.inj hg).symm
      subst hgb
      refine ⟨?_, rfl⟩
      obtain ⟨cs, h3, _⟩ := each 0 h0
      have h4 := (World.cells?_some h3)
      have h5 := h4.2.2 0 hpos
      rw [List.getElem?_eq_getElem (by omega)] at h5
      have he : (a.add (0 * r.sz)).add 0 = a := by simp [Addr.add]
      rw [he] at h5
      exact World.block_lt_of_cell? _ _ h5
theorem open_top {t : Nat} {r : GR α} {Q : α → Prop} {v : Value} {d : DataW H} {ps : List MemPlace} (hE : Opens enc P w base sp held t r Q) (hv : packV r.agg v.cells.toList = v) (h : DataW.Trod enc P w base sp held t v d ps) : ∃ x, r.v O0 w v x ∧ Q x := by
  obtain ⟨fuel, hf⟩ := h
  obtain ⟨y, h1, h2⟩ := hE.op fuel _ _ hf
  exact ⟨y, ⟨_, h1, hv.symm⟩, h2⟩
theorem open_rsl {t e : Nat} {r : GR α} {Q : α → Prop} {re : Reach} {b0 : Nat} {v : Value} {d : DataW H} {ps : List MemPlace} (ht : P.underlying t = some (.slice e)) (hs : P.cellsOf t = 1) (hE : Opens enc P w base sp held e r Q) (hpos : 0 < r.sz) (hval : Value.okWide P w re b0 t v) (h : DataW.Trod enc P w base sp held t v d ps) :
    ∃ xs, (rSl r).v O0 w v xs ∧ (∀ x ∈ xs, Q x) ∧ xs.length ≤ maxLen := by
  obtain ⟨a, len, cap, rfl⟩ := okWide_slice ht hval
  exact open_top (opens_slice ht hs hE hpos) (by simp [Value.cells, packV, rSl]) h
theorem okO_O0 : OkO O0 w := fun _ _ => rfl
end Go.Lift
end
section
set_option linter.unusedVariables false
set_option linter.unusedSimpArgs false
namespace Go.Lift
open Go Go.RowKit Go.Eng Go.ChangeShapes Go.WideShapes Go.ChangeAt Go.Joins Go.Deep Go.WideElems
variable {H : Type} {enc : TypeId × Value → H} {P : Program} {w : World} {base : Nat} {sp : Nat → Bool} {held : Bool} {α β γ : Type}
theorem chop (cs : List Value) (off s : Nat) : cs.drop off = (cs.drop off).take s ++ cs.drop (off + s) := by
  rw [← List.drop_drop, List.take_append_drop]
theorem Opens.at_ {t : Nat} {r : GR α} {Q : α → Prop} (hE : Opens enc P w base sp held t r Q) {off n : Nat} {cs : List Value} {y} (h : DataW.trod enc P w base sp held n t ((cs.drop off).take (P.cellsOf t)) = some y) : ∃ a, r.rel O0 w ((cs.drop off).take r.sz) a ∧ Q a := by
  rw [hE.size] at h; exact hE.op n _ _ h
theorem open_struct {t : Nat} {fs : Array Field} {r : GR α} {Q : α → Prop} {re : Reach} {b0 : Nat} {v : Value} {d : DataW H} {ps : List MemPlace} (ht : P.underlying t = some (.struct fs)) (hE : Opens enc P w base sp held t r Q) (ha : r.agg = true) (hval : Value.okWide P w re b0 t v) (h : DataW.Trod enc P w base sp held t v d ps) : ∃ x, r.v O0 w v x ∧ Q x := by
  obtain ⟨cs, rfl, _⟩ := okWide_struct ht hval
  exact open_top hE (by simp [Value.cells, packV, ha]) h
theorem wf_i64 {n : Int} (h : (Lit.int .i64 n).wf = true) : -9223372036854775808 ≤ n ∧ n < 9223372036854775808 := by
  simp [Lit.wf, IntKind.min, IntKind.max, IntKind.signed, IntKind.bits] at h; omega
theorem wf_u8 {n : Int} (h : (Lit.int .u8 n).wf = true) : 0 ≤ n ∧ n < 256 := by
  simp [Lit.wf, IntKind.min, IntKind.max, IntKind.signed, IntKind.bits] at h; omega
end Go.Lift
end
section
set_option linter.unusedVariables false
namespace Go.Dgp
open Go Go.Lift Go.F
theorem cw_of {c : colletlaw37_Case} (h : ∀ y ∈ c.L, (∀ z ∈ y, (Lit.int .i64 z).wf = true) ∧ y.length ≤ maxLen) (k : (Lit.int .u8 c.Shops).wf = true) : CW c :=
  ⟨fun x hx y hy => wf_i64 ((h x hx).1 y hy), wf_u8 k⟩
theorem len_of {n : Nat} (h : n ≤ maxLen) : n < 9223372036854775808 := Nat.lt_of_le_of_lt h (by decide)
end Go.Dgp
end
section
set_option linter.unusedVariables false
set_option linter.unusedSimpArgs false
namespace Go.Dgp
open Go Go.Lift Go.F
open Go.Dig hiding Bytes cat
theorem wrap_I64 (x : Int) : I64 (IntKind.wrap .i64 x) := by
  unfold I64
  have e1 : (2 : Int) ^ 64 = 18446744073709551616 := by decide
  have e2 : (2 : Int) ^ (64 - 1) = 9223372036854775808 := by decide
  simp only [IntKind.wrap, IntKind.bits, IntKind.signed, Bool.true_and, decide_eq_true_iff, e1, e2]
  split <;> omega
theorem set_ew {l : List api_Entry} (hl : ∀ e ∈ l, EW e) {i : Nat} {x : api_Entry} (hx : EW x) : ∀ e ∈ l.set i x, EW e := by
  intro e he
  rcases List.mem_or_eq_of_mem_set he with h | h
  · exact hl e h
  · rw [h]; exact hx
end Go.Dgp
end
section
set_option linter.unusedVariables false
set_option linter.unusedSimpArgs false
namespace Go.Dgp
open Go Go.Lift Go.F
open Go.Dig hiding Bytes cat
theorem check_all {keys : List Bytes} (hk : 1 ≤ keys.length ∧ keys.length ≤ 6) {l : List api_Entry} (hl : l.length ≤ 60) (h : allR keys 0 none l) : checkE keys l = ⟨-1, 0⟩ := by
  have hm : manyB keys l = false := by
    unfold manyB
    rw [decide_eq_false (show ¬ (l.length : Int) > 60 by omega), decide_eq_false (show ¬ (keys.length : Int) < 1 by omega), decide_eq_false (show ¬ (keys.length : Int) > 6 by omega)]; rfl
  unfold checkE
  rw [hm, if_neg (by simp), firstE_all h]
end Go.Dgp
end
section
set_option linter.unusedVariables false
set_option linter.unusedSimpArgs false
namespace Go.Dgp
open Go Go.Lift Go.F
open Go.Dig hiding Bytes cat
theorem set_split {α : Type} {l : List α} {k : Nat} (h : k < l.length) (x : α) : l.set k x = l.take k ++ x :: l.drop (k + 1) := by
  rw [List.set_eq_take_append_cons_drop, if_pos h]
theorem get_split {α : Type} {l : List α} {k : Nat} (h : k < l.length) : l = l.take k ++ l[k] :: l.drop (k + 1) := by
  rw [List.getElem_cons_drop h, List.take_append_drop]
theorem keyAt {m : Nat} {n : Int} (h : shopB m n = true) (hm : m ≤ 200) : (idx (keysT m) n).val = some (keyT n.toNat) ∧ (keysT m)[n.toNat]? = some (keyT n.toNat) := by
  rw [shopB_iff] at h
  exact ⟨idx_val' h.1 (keysT_get (by omega)), keysT_get (by omega)⟩
end Go.Dgp
end
section
set_option linter.unusedVariables false
set_option linter.unusedSimpArgs false
namespace Go.Lift.Ok
theorem gdw {α : Type} {g : Bool} {c : Comp α} {d a : α} {P : α → Prop} (h : c.val = some a) (H : ∀ x, (g = true → x = a) → P x) : Ok (Comp.gd g c d) P := by
  cases g with
  | true => exact (Ok.of_val h).2 (H a fun _ => rfl)
  | false => exact Ok.pure.2 (H d fun e => by cases e)
end Go.Lift.Ok
namespace Go.Dgp
open Go Go.Lift Go.F
open Go.Dig hiding Bytes cat
theorem forkE_same (keys : List Bytes) : ∀ (a : List api_Entry) (k : Nat), forkE keys k a a = (0, false)
  | [], k => rfl
  | x :: xs, k => by unfold forkE; rw [if_pos rfl, forkE_same]
theorem forkE_pfx (keys : List Bytes) (a b : List api_Entry) (k : Nat) : forkE keys k (a ++ b) a = (0, false) := by
  have h := forkE_pre keys a b [] k
  rw [List.append_nil] at h; rw [h]; cases b <;> rfl
theorem fork_val {keys : List Bytes} (hk : KW keys) {a b : List api_Entry} (hl : a.length ≤ 1000) (ha : ∀ e ∈ a, EW e) (hb : ∀ e ∈ b, EW e) (h : forkE keys 0 a b = (0, false)) : (colletlaw37_fork keys a b 0 false).val = some true := by
  unfold colletlaw37_fork
  rw [Comp.val_bind, pFork_val hk hl ha hb, Option.bind_some, h, Comp.val_bind, Comp.val_pure, Option.bind_some, Comp.val_pure]; rfl
theorem made_good2 {m : Nat} (hm : 1 ≤ m ∧ m ≤ 200) {L : List (List Int)} (hL : ∀ x ∈ L, ∀ y ∈ x, I64 y) (hlen : L.length ≤ 100) :
    ∃ l, (colletref37_Made (keysT m) L 8).val = some l ∧ (∀ k, Good m (l.take k)) ∧ l.length ≤ 8 := by
  have key : Ok (colletref37_Made (keysT m) L 8) (fun l => (∀ k, Good m (l.take k)) ∧ l.length ≤ 8) := by
    unfold colletref37_Made
    rw [Ok.bind]
    refine Ok.count (min L.length 8) (fun i s => (∀ k, Good m (s.1.take k)) ∧ s.1.length = i ∧ s.2 = (i : Int)) ⟨fun k => by rw [List.take_nil]; exact Good.nil m, rfl, rfl⟩ ?_ ?_
    · rintro i ⟨l, j⟩ hi ⟨h1, h2, h3⟩
      simp only at h1 h2 h3
      subst h3
      simp only []
      unfold colletref37_Made_l2
      have h1' := h1 l.length
      rw [List.take_length] at h1'
      obtain ⟨e, he, hg⟩ := step_good hm h1' (by omega) (n := L[i]) (hL _ (List.getElem_mem _))
      rw [Ok.bind, Ok.pure, Ok.ite, if_pos (by rw [bif_and]; simp; omega), Ok.bind, Ok.idxn (List.getElem?_eq_getElem (by omega)), Ok.bind, Ok.of_val he, Ok.bind, Ok.app (by simp; unfold LIM; omega), Ok.pure]
      refine ⟨fun k => ?_, by simp [h2], ?_⟩
      · by_cases hk : k ≤ l.length
        · rw [List.take_append_of_le_length hk]; exact h1 k
        · rw [List.take_of_length_le (by simp; omega)]; exact hg
      rw [Comp.wrap_succ (by omega)]
    · rintro ⟨l, j⟩ ⟨h1, h2, h3⟩
      simp only at h1 h2 h3
      subst h3
      simp only []
      unfold colletref37_Made_l2
      rw [Ok.bind, Ok.pure, Ok.ite, if_neg (by rw [bif_and]; simp; omega), Ok.pure]
      simp only []
      unfold colletref37_Made_j1
      rw [Ok.pure]
      exact ⟨h1, by omega⟩
  obtain ⟨l, h1, h2⟩ := key
  exact ⟨l, h1, h2⟩
theorem made_val2 {c : colletlaw37_Case} (h : CW c) : ∃ m l, 1 ≤ m ∧ m ≤ 3 ∧ (colletlaw37_Case_made c).val = some (keysT m, l) ∧ (∀ k, Good m (l.take k)) ∧ l.length ≤ 8 := by
  obtain ⟨h1, h2⟩ := h.s
  have e : IntKind.wrap .i64 (1 + Int.tmod (IntKind.wrap .i64 c.Shops) 3) = ((1 + (c.Shops.toNat % 3) : Nat) : Int) := by
    rw [wrapi (n := c.Shops) (by omega), Int.tmod_eq_emod_of_nonneg h1, wrapi (by omega)]; omega
  obtain ⟨l, hl, hg, hn⟩ := made_good2 (m := 1 + c.Shops.toNat % 3) (by omega) (lsts_wf h) (by have := lsts_len c.L; omega)
  refine ⟨1 + c.Shops.toNat % 3, l, by omega, by omega, ?_, hg, hn⟩
  unfold colletlaw37_Case_made
  rw [e, Comp.val_bind, keys_val (by omega), Option.bind_some, Comp.val_bind, lists_val, Option.bind_some, Comp.val_bind]
  show ((colletref37_Made (keysT _) _ 8).val.bind _) = _
  rw [hl, Option.bind_some, Comp.val_pure]; rfl
theorem ent_sgn {keys : List Bytes} {k : Nat} {p : Option api_Entry} {e : api_Entry} (h : entE keys k p e = 0) : sgn keys k e = true := by
  have d := d_of_ent h
  unfold sgn
  rw [decide_eq_true d.1, shop_of_d2 d.2.1, d.2.2.2.2.2.2.2.2.2]; rfl
theorem ent_shop {keys : List Bytes} {k : Nat} {p : api_Entry} {e : api_Entry} (hk : 0 < k) (h : entE keys k (some p) e = 0) : e.Shop = wrt p := by
  have d := (d_of_ent h).2.1
  unfold d2 at d
  rw [bif_and, bif_or, decide_eq_false (by omega)] at d
  simp at d
  exact d.2
theorem odd4_ok {e : api_Entry} (he : EW e) {q1 : Int} (hq : 11 ≤ q1 ∧ q1 ≤ 17) {s : Bytes} : ∃ n, (colletref37_Odd e #v[4, q1] s).val = some ⟨e.Seq, e.Shop, e.Kind, e.Day, n, e.Before, e.After, e.Prev, e.Mark⟩ ∧ I64 n := by
  have v1 : (idx (#v[4, q1] : Vector Int 2).toList 1).val = some q1 := idx_val' (by decide) rfl
  have v0 : (idx (#v[4, q1] : Vector Int 2).toList 0).val = some 4 := idx_val' (by decide) rfl
  have r1 := Int.emod_nonneg q1 (by omega : (11 : Int) ≠ 0)
  have hI : I64 q1 := by unfold I64; omega
  have hL : ∀ x ∈ [q1, 0, 1, 2, 3, 4, 5, (-1), 100000, 100001, (IntKind.wrap .i64 (e.Day - 1))], I64 x := by
    intro x hx
    simp only [List.mem_cons, List.not_mem_nil, or_false] at hx
    rcases hx with rfl | rfl | rfl | rfl | rfl | rfl | rfl | rfl | rfl | rfl | rfl
    · exact hI
    all_goals first | (unfold I64; omega) | exact wrap_I64 _
  have hlt : (q1 % 11).toNat < [q1, 0, 1, 2, 3, 4, 5, (-1), 100000, 100001, (IntKind.wrap .i64 (e.Day - 1))].length := by simp; omega
  refine ⟨_, ?_, hL _ (List.getElem_mem hlt)⟩
  have v2 := idx_val' (xs := [q1, 0, 1, 2, 3, 4, 5, (-1), 100000, 100001, (IntKind.wrap .i64 (e.Day - 1))]) r1 (List.getElem?_eq_getElem hlt)
  unfold colletref37_Odd
  rw [Comp.val_bind, v1, Option.bind_some, Comp.val_bind, v1, Option.bind_some, Comp.val_bind, mod_val hI (by omega), Option.bind_some, Comp.val_bind, v2, Option.bind_some, Comp.val_bind, v0, Option.bind_some, Comp.val_bind, mod_val (by unfold I64; omega) (by omega), Option.bind_some, show (4 : Int) % 9 = 4 from rfl]
  rw [if_neg (by simp), if_neg (by simp), if_neg (by simp), if_neg (by simp), if_pos (by simp)]
  unfold colletref37_Odd_j1
  rw [Comp.val_pure]
theorem law_PassportForks {c : colletlaw37_Case} {a : Int} {o n : List Int} {s : Bytes} (hc : CW c) (ha : 0 ≤ a ∧ a < 256) (ho : ∀ y ∈ o, I64 y) (hn : ∀ y ∈ n, I64 y) (hsl : s.length < 9223372036854775808) : (colletlaw37_PassportForks c a o n s).val = some true := by
  have hL : LIM = 1073741824 := rfl
  obtain ⟨m, l, hm1, hm2, hv, hgk, hl⟩ := made_val2 hc
  have hg := hgk l.length
  rw [List.take_length] at hg
  have KW' : KW (keysT m) := KWk (by omega)
  refine Ok.tt ?_
  unfold colletlaw37_PassportForks
  rw [Ok.bind, Ok.of_val san_val, Ok.bind, Ok.of_val hv]
  dsimp only
  refine Ok.ite_i (fun h0 => ?_) (fun hpos => ?_)
  · rw [show (true == true) = true from rfl, gdT, Ok.bind, Ok.of_val (fork_val KW' (by omega) hg.ew hg.ew (forkE_same _ _ _)), Ok.pure]; rfl
  have hpos' : 0 < l.length := by rw [decide_eq_true_iff] at hpos; omega
  have hrem : Int.tmod (IntKind.wrap .i64 a) (l.length : Int) = ((a.toNat % l.length : Nat) : Int) := by
    rw [wrapi (by omega), Int.tmod_eq_emod_of_nonneg ha.1, Int.natCast_emod, Int.toNat_of_nonneg ha.1]
  have hlt : a.toNat % l.length < l.length := Nat.mod_lt _ hpos'
  generalize a.toNat % l.length = k at hrem hlt
  have hget := List.getElem?_eq_getElem hlt
  have htk : (l.take k).length = k := by rw [List.length_take]; omega
  have h6 := sub0_val o 6
  have h6' := sub0_val n 6
  have h12 := sub0_val s 12
  rw [show ((6 : Nat) : Int) = 6 from rfl] at h6 h6'
  rw [show ((12 : Nat) : Int) = 12 from rfl] at h12
  obtain ⟨e, hev, hge⟩ := step_good (m := m) (by omega) (hgk k) (by omega) (n := o.take 6) (fun y hy => ho y (List.mem_of_mem_take hy))
  obtain ⟨f, hfv, hgf⟩ := step_good (m := m) (by omega) hge (by simp; omega) (n := n.take 6) (fun y hy => hn y (List.mem_of_mem_take hy))
  have hsub : (sub l 0 (k : Int)).val = some (l.take k) := by rw [sub_val ⟨by omega, by omega, by omega⟩]; simp
  rw [Ok.bind, Ok.rem (by omega)]
  show Ok _ _
  rw [hrem, Ok.bind, Ok.of_val hsub, Ok.bind, Ok.app (by simp; omega), List.nil_append, Ok.bind, Ok.of_val h6, Ok.bind, Ok.of_val hev, Ok.bind, Ok.app (by simp; omega), Ok.bind, Ok.of_val h6', Ok.bind, Ok.of_val hfv, Ok.bind, Ok.app (by simp; omega)]
  have hsec : ∃ se, se = l.take k ++ [e] ++ [f] := ⟨_, rfl⟩
  obtain ⟨se, hse⟩ := hsec
  rw [← hse] at hgf ⊢
  have hsk : se[k]? = some e := by rw [hse, List.append_assoc, List.getElem?_append_right (by omega), htk, Nat.sub_self]; rfl
  have hsl2 : se.length = k + 2 := by rw [hse]; simp; omega
  have hsl3 : (idx se (k : Int)).val = some e := idx_val hsk
  have hlk : (idx l (k : Int)).val = some l[k] := idx_val hget
  obtain ⟨lk, hlkd⟩ : ∃ lk, lk = l[k] := ⟨_, rfl⟩
  rw [← hlkd] at hlk hget
  have hsp : l = l.take k ++ lk :: l.drop (k + 1) := by rw [hlkd]; exact get_split hlt
  -- both are right behind the same ones
  have hr1 : entE (keysT m) k (lastP none (l.take k)) lk = 0 := by
    have hr := hg.r
    rw [hsp, allR_app] at hr
    rw [htk, Nat.zero_add, allR] at hr
    exact hr.2.1
  have hr2 : entE (keysT m) k (lastP none (l.take k)) e = 0 := by
    have hr := hge.r
    rw [allR_app] at hr
    rw [htk, Nat.zero_add, allR] at hr
    exact hr.2.1
  have hshop : 0 < k → e.Shop = lk.Shop := by
    intro hk0
    obtain ⟨p, hp⟩ : ∃ p, lastP none (l.take k) = some p := by
      rw [lastP_eq]
      cases hz : (l.take k).getLast? with
      | none =>
        have := List.getLast?_eq_none_iff.1 hz
        rw [this] at htk; simp at htk; omega
      | some p => exact ⟨p, rfl⟩
    rw [hp] at hr1 hr2
    rw [ent_shop hk0 hr1, ent_shop hk0 hr2]
  have hlks := shop_of_d2 (d_of_ent hr1).2.1
  rw [keysT_len] at hlks
  have hforkr : forkE (keysT m) 0 l se = if lk = e then forkE (keysT m) (k + 1) (l.drop (k + 1)) [f] else if lk.Shop = e.Shop then (lk.Shop, true) else (0, false) := by
    have h1 := forkE_pre (keysT m) (l.take k) (lk :: l.drop (k + 1)) (e :: [f]) 0
    rw [← hsp, htk, Nat.zero_add] at h1
    rw [show se = l.take k ++ e :: [f] by rw [hse]; simp, h1, forkE, ent_sgn hr1, ent_sgn hr2]
    simp
  rw [Ok.bind, Ok.of_val hsl3, Ok.bind, Ok.of_val hlk, Ok.bind]
  refine Ok.gdw hsl3 fun x40 h40 => ?_
  rw [Ok.bind]
  refine Ok.gdw hlk fun x41 h41 => ?_
  have h42 : (bif (decide (e ≠ lk)) then (decide (x40.Shop = x41.Shop)) else false) = decide (e ≠ lk ∧ e.Shop = lk.Shop) := by
    by_cases he : e = lk
    · simp [he]
    · rw [h40 (by simp [he]), h41 (by simp [he])]; simp [he]
  rw [Ok.bind, Ok.pure, h42, Ok.bind, Ok.of_val (pFork_val KW' (by omega) hg.ew hgf.ew)]
  obtain ⟨r, hr⟩ : ∃ r, r = forkE (keysT m) 0 l se := ⟨_, rfl⟩
  have hrev : (passport_Fork (keysT m) se l).val = some r := by rw [pFork_val KW' (by omega) hgf.ew hg.ew, forkE_symm, hr]
  rw [← hr] at hforkr ⊢
  rw [Ok.bind]
  refine Ok.gdw hsl3 fun x44 h44 => ?_
  rw [Ok.bind]
  refine Ok.gdw hlk fun x45 h45 => ?_
  rw [Ok.bind]
  refine Ok.gdw hlk fun x46 h46 => ?_
  have hC : (bif (decide ((k : Int) > 0)) then (bif (bif (decide (r.2 ≠ decide (e ≠ lk ∧ e.Shop = lk.Shop))) then (decide (x44 ≠ x45)) else false) then true else (bif decide (e ≠ lk ∧ e.Shop = lk.Shop) then (decide (r.1 ≠ x46.Shop)) else false)) else false) = false := by
    by_cases hk0 : 0 < k
    · have hkd : decide ((k : Int) > 0) = true := by rw [decide_eq_true_iff]; omega
      rw [hkd] at h44 h45 h46 ⊢
      by_cases he : e = lk
      · have hd : decide (e ≠ lk ∧ e.Shop = lk.Shop) = false := by simp [he]
        rw [hd] at h44 h45 h46 ⊢
        cases hr2 : r.2 with
        | false => simp
        | true =>
          rw [hr2] at h44 h45
          rw [h44 (by simp), h45 (by simp), he]; simp
      · have hs := hshop hk0
        have hd : decide (e ≠ lk ∧ e.Shop = lk.Shop) = true := by simp [he, hs]
        have he' : ¬ lk = e := fun h => he h.symm
        rw [if_neg he', if_pos hs.symm] at hforkr
        rw [hd] at h44 h45 h46 ⊢
        rw [hforkr] at h44 h45 h46 ⊢
        rw [h46 (by simp)]; simp
    · have hkd : decide ((k : Int) > 0) = false := by rw [decide_eq_false_iff_not]; omega
      rw [hkd]; rfl
  rw [hC, show (false == false) = true from rfl, gdT, Ok.bind, Ok.of_val hsub, gdT, Ok.bind, Ok.of_val (fork_val KW' (by omega) hg.ew (hgk k).ew (by have := forkE_pfx (keysT m) (l.take k) (l.drop k) 0; rwa [List.take_append_drop] at this))]
  rw [show (bif false then true else !true) = false from rfl, show (false == false) = true from rfl, gdT, Ok.bind, Ok.of_val hsub, gdT, Ok.bind, Ok.of_val (fork_val KW' (by omega) (hgk k).ew hg.ew (by have := forkE_pfx (keysT m) (l.take k) (l.drop k) 0; rw [List.take_append_drop] at this; rw [forkE_symm]; exact this)), Ok.bind, Ok.pure, Ok.ite, if_neg (by simp), Ok.bind, Ok.of_val hrev, Ok.bind, Ok.pure, Ok.ite, if_neg (by simp)]
  -- somebody else's entry
  have hq : IntKind.wrap .i64 (11 + (s.length : Int) % 7) = 11 + (s.length : Int) % 7 := wrapi (by omega)
  obtain ⟨nn, hodd, hnn⟩ := odd4_ok (e := lk) (q1 := 11 + (s.length : Int) % 7) (hg.ew lk (by rw [hlkd]; exact List.getElem_mem hlt)) (by omega) (s := [])
  have hlkw := hg.ew lk (by rw [hlkd]; exact List.getElem_mem hlt)
  have how : EW (⟨lk.Seq, lk.Shop, lk.Kind, lk.Day, nn, lk.Before, lk.After, lk.Prev, lk.Mark⟩ : api_Entry) := ⟨hlkw.seq, hlkw.shop, hlkw.kind, hlkw.day, hnn, hlkw.before, hlkw.after, hlkw.prev, hlkw.mark⟩
  obtain ⟨z, hz⟩ : ∃ z, z = signE (s.take 12) (⟨lk.Seq, lk.Shop, lk.Kind, lk.Day, nn, lk.Before, lk.After, lk.Prev, lk.Mark⟩ : api_Entry) := ⟨_, rfl⟩
  have hzw : EW z := by rw [hz]; exact signE_wf how
  have hzs : z.Shop = lk.Shop := by rw [hz]; rfl
  have hzk : (l.set k z)[k]? = some z := by rw [List.getElem?_set_self hlt]
  have hset := set_ew hg.ew (i := k) hzw
  obtain ⟨hkv, hkk⟩ := keyAt hlks (by omega)
  have hkl := keyT_len (k := lk.Shop.toNat) (by rw [shopB_iff] at hlks; omega)
  have hzb := vbytes_len hzw
  have hzm := hzw.mark
  have t12 := take_len s 12
  rw [Ok.bind, Ok.app (by simp; omega), List.nil_append, Ok.bind, Ok.of_val h12, Ok.bind, Ok.of_val hlk, Ok.bind, Ok.of_val (mod_val (by unfold I64; omega) (by omega)), Ok.bind, hq, Ok.of_val hodd, Ok.bind, Ok.of_val (pSign_val (by omega) how), ← hz, Ok.bind, Ok.of_val hlk, Ok.bind, Ok.upd (by omega), Int.toNat_natCast, Ok.bind, Ok.of_val hlk, Ok.bind, Ok.of_val hkv, Ok.bind, Ok.idxn hzk, Ok.bind, Ok.of_val (rBytes_val hzw), Ok.bind, Ok.idxn hzk, Ok.bind, Ok.of_val (rCheck_val _ _ _ (by omega) (by omega)), Ok.bind, Ok.of_val (pFork_val KW' (by omega) hg.ew hset)]
  have hnamed : (forkE (keysT m) 0 l (l.set k z)).2 = true → chk (keyT lk.Shop.toNat) (vbytes z) z.Mark = true := by
    have h1 := forkE_pre (keysT m) (l.take k) (lk :: l.drop (k + 1)) (z :: l.drop (k + 1)) 0
    rw [← hsp, ← set_split hlt, htk, Nat.zero_add] at h1
    rw [h1, forkE]
    by_cases hh : lk = z
    · rw [if_pos hh, forkE_same]; intro h; cases h
    · rw [if_neg hh]
      by_cases hx : (decide (lk.Shop = z.Shop) && sgn (keysT m) k lk && sgn (keysT m) k z) = true
      · intro _
        have h2 : sgn (keysT m) k z = true := by rw [Bool.and_eq_true] at hx; exact hx.2
        unfold sgn at h2
        rw [Bool.and_eq_true] at h2
        have h3 := h2.2
        unfold mrk at h3
        rw [hzs, hkk] at h3
        exact h3
      · rw [if_neg hx]; intro h; cases h
  have hG : (bif true then (bif (!(forkE (keysT m) 0 l (l.set k z)).2) then true else (chk (keyT lk.Shop.toNat) (vbytes z) z.Mark)) else false) = true := by
    cases hf2 : (forkE (keysT m) 0 l (l.set k z)).2 with
    | false => rfl
    | true => rw [hnamed hf2]; rfl
  rw [hG, show (true == true) = true from rfl, gdT, Ok.bind, Ok.of_val (pCheck_val KW' (by omega) hgf.ew), check_all (by rw [keysT_len]; omega) (by omega) hgf.r, Ok.bind, Ok.pure, Ok.pure]
  simp
end Go.Dgp
end
section
namespace Go.Proofs.Ytkbipbfncbopnaa.passportForksDone
open Go Go.ChangeShapes Go.WideShapes Go.ChangeAt Go.RowKit Go.Eng Go.Lift Go.Joins Go.F
open Go.ChangeMaps (open_string shut_string)
open Go.Proofs.Ytkbipbfncbopnaa
set_option linter.unusedVariables false
set_option linter.unusedSimpArgs false
theorem op_3 {H : Type} {enc : TypeId × Value → H} {w : World} {base : Nat} {sp : Nat → Bool} {held : Bool} : Opens enc Try.prog w base sp held 3 (rInt .i64) (fun z => (Lit.int .i64 z).wf = true) := opens_int Try.underlying3 (by kernel_rfl)
theorem op_58 {H : Type} {enc : TypeId × Value → H} {w : World} {base : Nat} {sp : Nat → Bool} {held : Bool} : Opens enc Try.prog w base sp held 58 (rSl (rInt .i64)) (fun z => (∀ y ∈ z, (fun z => (Lit.int .i64 z).wf = true) y) ∧ z.length ≤ maxLen) := opens_slice Try.underlying58 (by kernel_rfl) op_3 (by decide)
theorem op_22 {H : Type} {enc : TypeId × Value → H} {w : World} {base : Nat} {sp : Nat → Bool} {held : Bool} : Opens enc Try.prog w base sp held 22 (rSl (rSl (rInt .i64))) (fun z => (∀ y ∈ z, (fun z => (∀ y ∈ z, (fun z => (Lit.int .i64 z).wf = true) y) ∧ z.length ≤ maxLen) y) ∧ z.length ≤ maxLen) := opens_slice Try.underlying22 (by kernel_rfl) op_58 (by decide)
theorem op_5 {H : Type} {enc : TypeId × Value → H} {w : World} {base : Nat} {sp : Nat → Bool} {held : Bool} : Opens enc Try.prog w base sp held 5 (rInt .u8) (fun z => (Lit.int .u8 z).wf = true) := opens_int Try.underlying5 (by kernel_rfl)
def Q_colletlaw37_Case (x : colletlaw37_Case) : Prop := ((∀ y ∈ x.L, (fun z => (∀ y ∈ z, (fun z => (Lit.int .i64 z).wf = true) y) ∧ z.length ≤ maxLen) y) ∧ x.L.length ≤ maxLen) ∧ ((Lit.int .u8 x.Shops).wf = true) ∧ True
theorem op_24 {H : Type} {enc : TypeId × Value → H} {w : World} {base : Nat} {sp : Nat → Bool} {held : Bool} : Opens enc Try.prog w base sp held 24 r_colletlaw37_Case Q_colletlaw37_Case := by
  refine ⟨by kernel_rfl, fit_colletlaw37_Case, fun fuel cs x h => ?_⟩
  obtain ⟨xs, n, rfl, rfl, hl, hlen, hf⟩ := DataW.trod_struct Try.underlying24 h
  have hl' : cs.length = 2 := hl.trans (by kernel_rfl)
  obtain ⟨y0, hy0⟩ : ∃ y, xs[0]? = some y := ⟨_, List.getElem?_eq_getElem (by rw [hlen]; decide)⟩
  obtain ⟨a0, k0, q0⟩ := Opens.at_ (off := 0) (n := n) (cs := cs) (op_22 (enc := enc) (w := w) (base := base) (sp := sp) (held := held)) ((hf 0 _ rfl).trans hy0)
  obtain ⟨y1, hy1⟩ : ∃ y, xs[1]? = some y := ⟨_, List.getElem?_eq_getElem (by rw [hlen]; decide)⟩
  obtain ⟨a1, k1, q1⟩ := Opens.at_ (off := 1) (n := n) (cs := cs) (op_5 (enc := enc) (w := w) (base := base) (sp := sp) (held := held)) ((hf 1 _ rfl).trans hy1)
  exact ⟨⟨a0, a1⟩, ⟨_, _, chop cs 0 1, k0, ⟨_, _, chop cs 1 1, k1, List.drop_of_length_le (by rw [hl']; decide)⟩⟩, ⟨q0, q1, trivial⟩⟩
theorem own : ownKnob Try.prog.godebug = none := by kernel_rfl
theorem laidOut : laidOutB Try.prog = true := by kernel_rfl
set_option maxRecDepth 100000 in
theorem lifted (os : Os) (started : os.Started) (H : Type) (enc : TypeId × Value → H) :
    ReturnsInHanded {} Try.checked os 7 .any (Rows.passportForksSpec.pre6 enc Try.prog Try.f7 Rows.passportForksRow.domain false) (Rows.passportForksSpec.post enc Try.prog Try.f7 false true false false) := by
  refine returnsInHanded_of_change (C := Try.checked) own started (by kernel_rfl) Try.func7
    (ChangeSpec.witness6 (enc := enc) (C := Try.checked) false ⟨#[], #[.agg #[.slice none 0 0, .int .u8 0], .int .u8 0, .slice none 0 0, .slice none 0 0, .string ⟨#[]⟩], []⟩ 8 (by kernel_rfl) (by kernel_rfl) (by kernel_rfl) (by kernel_rfl)) ?_
  intro W base args ds gs before hval0 hW hcnd _
  have hval : ∀ (j : Nat) t v, Try.f7.params[j]? = some t → args[j]? = some v → Value.okWide Try.prog W .any base t v := hval0
  have hW' := hW
  obtain ⟨p, q, hA0, hV, rfl, hfz, hnd⟩ := hW
  have hA : DataW.TrodAll enc Try.prog W 0 (fun _ => true) true Try.f7.params.toList args.toList ds p := hA0
  rw [Try.params7] at hA hval
  obtain ⟨v0, vs0, d0, ds0, p0, q0_, hargs, rfl, rfl, h0, r0⟩ := trodAll_cons hA
  obtain ⟨v1, vs1, d1, ds1, p1, q1_, rfl, rfl, rfl, h1, r1⟩ := trodAll_cons r0
  obtain ⟨v2, vs2, d2, ds2, p2, q2_, rfl, rfl, rfl, h2, r2⟩ := trodAll_cons r1
  obtain ⟨v3, vs3, d3, ds3, p3, q3_, rfl, rfl, rfl, h3, r3⟩ := trodAll_cons r2
  obtain ⟨v4, vs4, d4, ds4, p4, q4_, rfl, rfl, rfl, h4, r4⟩ := trodAll_cons r3
  obtain ⟨rfl, rfl, rfl⟩ := trodAll_nil r4
  obtain rfl : args = #[v0, v1, v2, v3, v4] := by cases args; simp_all
  obtain ⟨rfl, rfl⟩ := trodVars_none hV
  have k0 := h0
  have lt0 : ∀ x ∈ p0, x.block < W.heap.size := by obtain ⟨m, hm⟩ := k0; exact DataW.trod_lt m _ _ _ hm
  have k1 := h1
  have lt1 : ∀ x ∈ p1, x.block < W.heap.size := by obtain ⟨m, hm⟩ := k1; exact DataW.trod_lt m _ _ _ hm
  have k2 := h2
  have lt2 : ∀ x ∈ p2, x.block < W.heap.size := by obtain ⟨m, hm⟩ := k2; exact DataW.trod_lt m _ _ _ hm
  have k3 := h3
  have lt3 : ∀ x ∈ p3, x.block < W.heap.size := by obtain ⟨m, hm⟩ := k3; exact DataW.trod_lt m _ _ _ hm
  have k4 := h4
  have lt4 : ∀ x ∈ p4, x.block < W.heap.size := by obtain ⟨m, hm⟩ := k4; exact DataW.trod_lt m _ _ _ hm
  obtain ⟨x0, hr0, q0⟩ := open_struct Try.underlying24 op_24 rfl (hval 0 24 v0 rfl rfl) h0
  obtain ⟨x1, e1, _, _, q1⟩ := open_int Try.underlying5 (hval 1 5 v1 rfl rfl) h1
  obtain ⟨x2, hr2, q2⟩ := open_rsl Try.underlying58 (by kernel_rfl) op_3 (by decide) (hval 2 58 v2 rfl rfl) h2
  obtain ⟨x3, hr3, q3⟩ := open_rsl Try.underlying58 (by kernel_rfl) op_3 (by decide) (hval 3 58 v3 rfl rfl) h3
  obtain ⟨s4, e4, _, _, q4⟩ := open_string Try.underlying9 (hval 4 9 v4 rfl rfl) h4
  rw [← str_bs s4] at e4
  generalize hs4 : bs s4 = x4 at e4
  replace q4 : x4.length ≤ maxLen := by rw [← hs4, ← str_size, str_bs]; exact q4
  clear hA0 hval0
  obtain ⟨n_, hn_⟩ := Comp.val_some.1 (Go.Dgp.law_PassportForks (Go.Dgp.cw_of q0.1.1 q0.2.1) (Go.Lift.wf_u8 q1) (fun y hy => Go.Lift.wf_i64 (q2.1 y hy)) (fun y hy => Go.Lift.wf_i64 (q3.1 y hy)) (Go.Dgp.len_of q4))
  have walk := ok_colletlaw37_PassportForks (w0 := W) okO_O0 hr0 hr2 hr3 hn_
  refine Calls.mono (R := fun e W' => e = .returned (.bool true) ∧ Below W.heap.size W W') ?_ fun e W' ⟨he, bel⟩ => ?_
  · rw [e1]; rw [e4]; exact Calls.mono walk fun e W' ⟨_, h1, h2, h3⟩ => ⟨by rw [h1]; exact congrArg _ h3, h2⟩
  · subst he
    exact ⟨_, rfl, _, _, _, [], _, [], hW', trodAll_mk1 (shut_bool Try.underlying4 _), (trodAll_cons_mk (Below.trod laidOut (by kernel_rfl) (of_decide_eq_true (by kernel_rfl)) k0 bel lt0) (trodAll_cons_mk (Below.trod laidOut (by kernel_rfl) (of_decide_eq_true (by kernel_rfl)) k1 bel lt1) (trodAll_cons_mk (Below.trod laidOut (by kernel_rfl) (of_decide_eq_true (by kernel_rfl)) k2 bel lt2) (trodAll_cons_mk (Below.trod laidOut (by kernel_rfl) (of_decide_eq_true (by kernel_rfl)) k3 bel lt3) (trodAll_cons_mk (Below.trod laidOut (by kernel_rfl) (of_decide_eq_true (by kernel_rfl)) k4 bel lt4) trodAll_mk0))))), rfl, bel.frame _, fun h => by cases h⟩
theorem proved : Rows.PassportForksSaid :=
  OpenClaim.holds_of_wide 7 Try.f7 rfl rfl rfl rfl rfl rfl rfl ⟨rfl, rfl, rfl, rfl, rfl⟩ rfl rfl rfl rfl rfl (by kernel_rfl) Try.func7 (by kernel_rfl)
    (of_decide_eq_true (by kernel_rfl)) (by unfold Func.isWrapper; first | (rw [if_pos (by decide +kernel)]; kernel_rfl) | (rw [if_neg (by decide +kernel)]; exact ⟨rfl, rfl⟩))
    (fun os started H enc _ => lifted os started H enc)
#print axioms proved
end Go.Proofs.Ytkbipbfncbopnaa.passportForksDone
end
