/- For every case, changes, string and entry, PassportChecks returns true, and its arguments read afterwards as before; no condition. -/
import Derived.Test.YtkbipbfncbopnaaKChecksG
import Derived.SliceStrings
import Derived.ChangeSlices
import Derived.Lib.SmallJoins
import Derived.OpenShut
import Derived.ShutString
import Derived.ChangeOld
import Derived.Test.YtkbipbfncbopnaaRows
import Derived.WalkKit
import Derived.ProofKit
import Derived.Below
set_option linter.unusedSimpArgs false
set_option linter.unusedVariables false
section
set_option linter.unusedVariables false
set_option linter.unusedSimpArgs false
namespace Go.Lift
open Go Go.Eng
variable {α β γ δ ε σ τ : Type}
def Ok (c : Comp α) (P : α → Prop) : Prop := ∃ a, c.val = some a ∧ P a
namespace Ok
theorem of_val {c : Comp α} {a : α} {P : α → Prop} (h : c.val = some a) : Ok c P ↔ P a := by
  constructor
  · rintro ⟨b, h1, h2⟩; rw [h] at h1; cases h1; exact h2
  · exact fun hp => ⟨a, h, hp⟩
theorem val {c : Comp α} {a : α} (h : Ok c (fun x => x = a)) : c.val = some a := by
  obtain ⟨b, h1, h2⟩ := h; rw [h1, h2]
theorem mono {c : Comp α} {P Q : α → Prop} (h : Ok c P) (i : ∀ a, P a → Q a) : Ok c Q := by
  obtain ⟨a, h1, h2⟩ := h; exact ⟨a, h1, i a h2⟩
theorem pure {a : α} {P : α → Prop} : Ok (Comp.pure a) P ↔ P a := of_val (Comp.val_pure a)
theorem bind {c : Comp α} {f : α → Comp β} {P : β → Prop} : Ok (c.bind f) P ↔ Ok c fun a => Ok (f a) P := by
  unfold Ok
  rw [Comp.val_bind]
  cases hc : c.val with
  | none => simp
  | some a => simp
theorem ite {p : Prop} [Decidable p] {c d : Comp α} {P : α → Prop} : Ok (if p then c else d) P ↔ if p then Ok c P else Ok d P := by split <;> rfl
theorem ite_i {p : Prop} [Decidable p] {c d : Comp α} {P : α → Prop} (h1 : p → Ok c P) (h2 : ¬ p → Ok d P) : Ok (if p then c else d) P := by
  split
  · rename_i h; exact h1 h
  · rename_i h; exact h2 h
theorem gd {g : Bool} {c : Comp α} {d : α} {P : α → Prop} : Ok (Comp.gd g c d) P ↔ if g = true then Ok c P else P d := by
  cases g with
  | true => exact Iff.rfl
  | false => exact pure
theorem gd_i {g : Bool} {c : Comp α} {d : α} {P : α → Prop} (h1 : g = true → Ok c P) (h2 : g = false → P d) : Ok (Comp.gd g c d) P := by
  cases g with
  | true => exact h1 rfl
  | false => exact pure.2 (h2 rfl)
theorem idx {xs : List α} {i : Int} {P : α → Prop} {x : α} (h0 : 0 ≤ i) (h : xs[i.toNat]? = some x) : Ok (Lift.idx xs i) P ↔ P x := of_val (idx_val' h0 h)
theorem idxn {xs : List α} {i : Nat} {P : α → Prop} {x : α} (h : xs[i]? = some x) : Ok (Lift.idx xs (i : Int)) P ↔ P x := of_val (idx_val h)
theorem app {xs ys : List α} {P : List α → Prop} (h : xs.length + ys.length ≤ LIM) : Ok (Lift.app xs ys) P ↔ P (xs ++ ys) := of_val (app_val h)
theorem sub {xs : List α} {l h : Int} {P : List α → Prop} (hr : 0 ≤ l ∧ l ≤ h ∧ h ≤ xs.length) : Ok (Lift.sub xs l h) P ↔ P ((xs.take h.toNat).drop l.toNat) := of_val (sub_val hr)
theorem rem {a b : Int} {P : Int → Prop} (h : b ≠ 0) : Ok (Lift.rem a b) P ↔ P (a.tmod b) := of_val (rem_val h)
theorem upd {xs : List α} {i : Int} {x : α} {P : List α → Prop} (h : 0 ≤ i ∧ i < xs.length) : Ok (Lift.upd xs i x) P ↔ P (xs.set i.toNat x) := of_val (upd_val h)
theorem mk {n : Int} {z : α} {P : List α → Prop} (h : 0 ≤ n ∧ n ≤ LIM) : Ok (Lift.mk n z) P ↔ P (List.replicate n.toNat z) := of_val (mk_val h)
theorem nonneg {n : Int} {P : Unit → Prop} (h : 0 ≤ n) : Ok (Lift.nonneg n) P ↔ P () := of_val (nonneg_val h)
theorem loop {body : σ → Comp (Comp.Step σ ε)} (I : σ → Prop) (m : σ → Nat) {P : ε → Prop} {s : σ} (h0 : I s)
    (hb : ∀ s, I s → Ok (body s) fun t => match t with | .next s' => I s' ∧ m s' < m s | .done e => P e) : Ok (Comp.loop body s) P := by
  have key : ∀ k s, m s = k → I s → Ok (Comp.loop body s) P := by
    intro k
    induction k using Nat.strongRecOn with
    | _ k ih =>
      intro s hk hI
      obtain ⟨t, h1, h2⟩ := hb s hI
      cases t with
      | next s' =>
        obtain ⟨e, h3, h4⟩ := ih (m s') (by have := h2.2; omega) s' rfl h2.1
        exact ⟨e, by rw [Comp.val_loop, h1]; exact h3, h4⟩
      | done e => exact ⟨e, by rw [Comp.val_loop, h1]; rfl, h2⟩
  exact key _ s rfl h0
theorem count {body : σ → Comp (Comp.Step σ ε)} (N : Nat) (I : Nat → σ → Prop) {P : ε → Prop} {s : σ} (h0 : I 0 s)
    (hb : ∀ i s, i < N → I i s → Ok (body s) fun t => match t with | .next s' => I (i + 1) s' | .done e => P e)
    (he : ∀ s, I N s → Ok (body s) fun t => match t with | .next _ => False | .done e => P e) : Ok (Comp.loop body s) P := by
  have key : ∀ k i s, i + k = N → I i s → Ok (Comp.loop body s) P := by
    intro k
    induction k with
    | zero =>
      intro i s hi hI
      have : i = N := by omega
      subst this
      obtain ⟨t, h1, h2⟩ := he s hI
      cases t with
      | next _ => exact h2.elim
      | done e => exact ⟨e, by rw [Comp.val_loop, h1]; rfl, h2⟩
    | succ k ih =>
      intro i s hi hI
      obtain ⟨t, h1, h2⟩ := hb i s (by omega) hI
      cases t with
      | next s' =>
        obtain ⟨e, h3, h4⟩ := ih (i + 1) s' (by omega) h2
        exact ⟨e, by rw [Comp.val_loop, h1]; exact h3, h4⟩
      | done e => exact ⟨e, by rw [Comp.val_loop, h1]; rfl, h2⟩
  exact key N 0 s (by omega) h0
theorem tt {c : Comp Bool} (h : Ok c fun b => b = true) : c.val = some true := val h
end Ok
theorem bif_or (b c : Bool) : (bif b then true else c) = (b || c) := by cases b <;> rfl
theorem bif_and (b c : Bool) : (bif b then c else false) = (b && c) := by cases b <;> rfl
end Go.Lift
end
section
set_option linter.unusedVariables false
set_option linter.unusedSimpArgs false
namespace Go.Dgp
open Go Go.Lift Go.F
open Go.Dig hiding Bytes cat
def shopB (m : Nat) (n : Int) : Bool := bif decide (n ≥ 0) then decide (n < (m : Int)) else false
theorem known_val (keys : List Bytes) (n : Int) : (passport_known keys n).val = some (shopB keys.length n) := by
  unfold passport_known shopB; rw [Comp.val_bind, Comp.val_pure, Option.bind_some, Comp.val_pure]
theorem shop_val (keys : List Bytes) (n : Int) : (r7_shop keys n).val = some (shopB keys.length n) := by
  unfold r7_shop shopB; rw [Comp.val_bind, Comp.val_pure, Option.bind_some, Comp.val_pure]
theorem shopB_iff {m : Nat} {n : Int} : shopB m n = true ↔ 0 ≤ n ∧ n < (m : Int) := by
  unfold shopB
  by_cases h : n ≥ 0
  · simp [h]
  · simp [h]
def wrtP : Option aEn → Int | none => 0 | some p => wrt p
def dayP : Option aEn → Int | none => 0 | some p => p.Day
def prevP : Option aEn → Bytes | none => [] | some p => linkE p
def befP : Option aEn → Bytes | none => [] | some p => p.After
def mrk (keys : List Bytes) (e : aEn) : Bool := match keys[e.Shop.toNat]? with | some k => chk k (vbytes e) e.Mark | none => false
def d2 (keys : List Bytes) (k : Nat) (p : Option aEn) (e : aEn) : Bool := bif shopB keys.length e.Shop then (bif decide ((k : Int) = 0) then true else decide (e.Shop = wrtP p)) else false
def d3 (k : Nat) (e : aEn) : Bool := bif decide (decide (e.Kind = 1) = decide ((k : Int) = 0)) then (bif (bif (bif decide (e.Kind = 1) then true else decide (e.Kind = 2)) then true else decide (e.Kind = 4)) then true else decide (e.Kind = 3)) else false
def d4 (keys : List Bytes) (e : aEn) : Bool := bif !decide (e.Kind = 4) then true else shopB keys.length e.N
def d5 (e : aEn) : Bool := bif (bif decide (e.Kind = 4) then true else decide (e.N = 0)) then true else (bif (bif decide (e.Kind = 2) then decide (e.N > 0) else false) then decide (e.N ≤ 1048576) else false)
def d6 (e : aEn) : Bool := bif decide (e.Day ≥ 0) then decide (e.Day ≤ 100000) else false
def d9 (p : Option aEn) (e : aEn) : Bool := bif (bif decide (e.Before = befP p) then decide ((e.After.length : Int) = 8) else false) then (bif (bif decide (e.Kind = 1) then true else decide (e.Kind = 2)) then true else decide (e.After = e.Before)) else false
def entE (keys : List Bytes) (k : Nat) (p : Option aEn) (e : aEn) : Int :=
  if decide (e.Seq = (k : Int)) = true then
    if d2 keys k p e = true then
      if d3 k e = true then
        if d4 keys e = true then
          if d5 e = true then
            if d6 e = true then
              if decide (e.Day ≥ dayP p) = true then
                if decide (e.Prev = prevP p) = true then
                  if d9 p e = true then
                    if mrk keys e = true then 0 else 50
                  else 53
                else 51
              else 7
            else 3
          else 4
        else 55
      else 4
    else 55
  else 7
def firstE (keys : List Bytes) : Nat → Option aEn → List aEn → api_Finding
  | _, _, [] => ⟨-1, 0⟩
  | k, p, e :: es => if entE keys k p e = 0 then firstE keys (k + 1) (some e) es else ⟨(k : Int), entE keys k p e⟩
def manyB (keys : List Bytes) (l : List aEn) : Bool := bif (bif decide ((l.length : Int) > 60) then true else decide ((keys.length : Int) < 1)) then true else decide ((keys.length : Int) > 6)
def checkE (keys : List Bytes) (l : List aEn) : api_Finding := if manyB keys l = true then ⟨-1, 2⟩ else firstE keys 0 none l
def runC : List passport_condition → Comp (Option Int)
  | [] => Comp.pure none
  | c :: cs => c.holds_.bind fun b => if b = true then runC cs else Comp.pure (some c.err_)
theorem conds_loop (cs : List passport_condition) (k : Int) (r : api_Finding) (hl : cs.length ≤ 1000) : (Comp.loop (fun s : Int × api_Finding => passport_Check_l4 cs k s.1 s.2) (0, r)).val = (runC cs).val.bind fun | none => some (.inr r) | some e => some (.inl ⟨k, e⟩) := by
  have key : ∀ (suf pre : List passport_condition), cs = pre ++ suf → (Comp.loop (fun s : Int × api_Finding => passport_Check_l4 cs k s.1 s.2) ((pre.length : Int), r)).val = (runC suf).val.bind fun | none => some (.inr r) | some e => some (.inl ⟨k, e⟩) := by
    intro suf
    induction suf with
    | nil =>
      intro pre h
      rw [List.append_nil] at h; subst h
      rw [Comp.val_loop]
      show ((passport_Check_l4 cs k (cs.length : Int) r).val).bind _ = _
      unfold passport_Check_l4 runC
      rw [Comp.val_ite, if_neg (by simp), Comp.val_pure, Comp.val_pure]; rfl
    | cons c suf ih =>
      intro pre h
      have hlt : pre.length < cs.length := by rw [h]; simp
      have hg : cs[pre.length]? = some c := by rw [h]; simp
      rw [Comp.val_loop]
      show ((passport_Check_l4 cs k (pre.length : Int) r).val).bind _ = _
      unfold passport_Check_l4
      rw [Comp.val_ite, if_pos (by rw [decide_eq_true_iff]; omega), Comp.val_bind, idxn, hg, Option.bind_some, Comp.val_bind]
      show _ = (Comp.val (c.holds_.bind fun b => if b = true then runC suf else Comp.pure (some c.err_))).bind _
      rw [Comp.val_bind]
      cases hv : c.holds_.val with
      | none => rfl
      | some b =>
        rw [Option.bind_some, Option.bind_some]
        cases b with
        | true =>
          rw [if_neg (by simp), if_pos rfl, Comp.val_pure, Option.bind_some]
          have := ih (pre ++ [c]) (by rw [h]; simp)
          rw [Comp.wrap_succ (by omega)]
          rw [List.length_append] at this
          exact this
        | false =>
          rw [if_pos (by simp), if_neg (by simp), Comp.val_pure, Comp.val_pure]; rfl
  exact key cs [] rfl
def placeE (k : Nat) (p : Option aEn) : passport_place := ⟨(k : Int), wrtP p, dayP p, prevP p, befP p⟩
theorem key_of {keys : List Bytes} {n : Int} (h : shopB keys.length n = true) : ∃ key, keys[n.toNat]? = some key ∧ key ∈ keys ∧ (idx keys n).val = some key := by
  rw [shopB_iff] at h
  have hg := List.getElem?_eq_getElem (show n.toNat < keys.length by omega)
  exact ⟨_, hg, List.getElem_mem _, idx_val' h.1 hg⟩
structure KW (keys : List Bytes) : Prop where
  len : keys.length ≤ 1000
  each : ∀ x ∈ keys, x.length ≤ 1000000
theorem run_conds {keys : List Bytes} (hk : KW keys) {k : Nat} {p : Option aEn} {e : aEn} (he : EW e) :
    ((passport_conditions keys (placeE k p) e).bind runC).val = some (if entE keys k p e = 0 then none else some (entE keys k p e)) := by
  have hb := vbytes_len he
  have h10 : d2 keys k p e = true → (passport_conditions_f10 keys e).val = some (mrk keys e) := by
    intro h
    have hs : shopB keys.length e.Shop = true := by
      unfold d2 at h
      cases hc : shopB keys.length e.Shop with
      | true => rfl
      | false => rw [hc] at h; exact h
    obtain ⟨key, hg, hm, hv⟩ := key_of hs
    have hl := hk.each key hm
    unfold passport_conditions_f10 mrk
    rw [Comp.val_bind, hv, Option.bind_some, Comp.val_bind, pBytes_val he, Option.bind_some, Comp.val_bind, Check_val _ _ _ (by omega) (by omega), Option.bind_some, Comp.val_pure, hg]
  have h1 : (passport_conditions_f1 e (placeE k p)).val = some (decide (e.Seq = (k : Int))) := Comp.val_pure _
  have h2 : (passport_conditions_f2 keys e (placeE k p)).val = some (d2 keys k p e) := by
    unfold passport_conditions_f2
    rw [Comp.val_bind, known_val, Option.bind_some, Comp.val_bind, Comp.val_pure, Option.bind_some, Comp.val_pure]; rfl
  have h3 : (passport_conditions_f3 (decide (e.Kind = 1)) (placeE k p) (decide (e.Kind = 2)) (decide (e.Kind = 4)) e).val = some (d3 k e) := by
    unfold passport_conditions_f3
    rw [Comp.val_bind, Comp.val_pure, Option.bind_some, Comp.val_pure]; rfl
  have h4 : (passport_conditions_f4 (decide (e.Kind = 4)) keys e).val = some (d4 keys e) := by
    unfold passport_conditions_f4 d4
    rw [Comp.val_bind, Comp.val_gd, known_val]
    by_cases h : e.Kind = 4 <;> simp [h]
  have h5 : (passport_conditions_f5 (decide (e.Kind = 4)) e (decide (e.Kind = 2))).val = some (d5 e) := by
    unfold passport_conditions_f5
    rw [Comp.val_bind, Comp.val_pure, Option.bind_some, Comp.val_pure]; rfl
  have h6 : (passport_conditions_f6 e).val = some (d6 e) := by
    unfold passport_conditions_f6
    rw [Comp.val_bind, Comp.val_pure, Option.bind_some, Comp.val_pure]; rfl
  have h7 : (passport_conditions_f7 e (placeE k p)).val = some (decide (e.Day ≥ dayP p)) := Comp.val_pure _
  have h8 : (passport_conditions_f8 e (placeE k p)).val = some (decide (e.Prev = prevP p)) := Comp.val_pure _
  have h9 : (passport_conditions_f9 e (placeE k p) (decide (e.Kind = 1)) (decide (e.Kind = 2))).val = some (d9 p e) := by
    unfold passport_conditions_f9
    rw [Comp.val_bind, Comp.val_pure, Option.bind_some, Comp.val_pure]; rfl
  unfold passport_conditions entE
  simp only [Comp.val_bind, Comp.val_pure, Option.bind_some, runC, h1, h2, h3, h4, h5, h6, h7, h8, h9, Comp.val_ite]
  generalize decide (e.Seq = (k : Int)) = b1
  cases h2 : d2 keys k p e with
  | false => cases b1 <;> rfl
  | true =>
    rw [h10 h2]
    generalize d3 k e = b3; generalize d4 keys e = b4; generalize d5 e = b5; generalize d6 e = b6; generalize decide (e.Day ≥ dayP p) = b7; generalize decide (e.Prev = prevP p) = b8; generalize d9 p e = b9; generalize mrk keys e = b10
    cases b1
    · rfl
    cases b3
    · rfl
    cases b4
    · rfl
    cases b5
    · rfl
    cases b6
    · rfl
    cases b7
    · rfl
    cases b8
    · rfl
    cases b9
    · rfl
    cases b10 <;> rfl
theorem behind_val {k : Nat} {e : aEn} (hk : k ≤ 1000000) (he : EW e) : (passport_behind (k : Int) e).val = some (placeE (k + 1) (some e)) := by
  unfold passport_behind
  rw [Comp.val_bind, pLink_val he, Option.bind_some, Comp.val_ite, Comp.wrap_succ (by omega)]
  unfold passport_behind_j1 placeE wrtP wrt
  by_cases h : e.Kind = 4
  · rw [if_pos (by rw [decide_eq_true_iff]; exact h), Comp.val_pure]; simp only [if_pos h]; rfl
  · rw [if_neg (by rw [decide_eq_true_iff]; exact h), Comp.val_pure]; simp only [if_neg h]; rfl
theorem Check_entries {keys : List Bytes} (hk : KW keys) {l : List aEn} (hl : l.length ≤ 1000) (hw : ∀ e ∈ l, EW e) (r : api_Finding) : ∀ (suf pre : List aEn), l = pre ++ suf →
    ((Comp.loop (fun s : Int × passport_place × api_Finding => passport_Check_l2 l keys s.1 s.2.1 s.2.2) ((pre.length : Int), placeE pre.length pre.getLast?, r)).bind (fun e => match e with | (.inl x44) => (Comp.pure x44) | (.inr x50) => (passport_Check_j1 x50))).val = some (firstE keys pre.length pre.getLast? suf) := by
  intro suf
  induction suf with
  | nil =>
    intro pre h
    rw [List.append_nil] at h; subst h
    rw [Comp.val_bind, Comp.val_loop]
    show (((passport_Check_l2 l keys (l.length : Int) _ r).val).bind _).bind _ = _
    unfold passport_Check_l2
    rw [Comp.val_ite, if_neg (by simp), Comp.val_pure]; unfold passport_Check_j1 firstE; simp
  | cons e suf ih =>
    intro pre h
    have hlt : pre.length < l.length := by rw [h]; simp
    have hg : l[pre.length]? = some e := by rw [h]; simp
    have he := hw e (List.mem_of_getElem? hg)
    have hr := run_conds hk (k := pre.length) (p := pre.getLast?) he
    rw [Comp.val_bind, Comp.val_loop]
    show (((passport_Check_l2 l keys (pre.length : Int) (placeE pre.length pre.getLast?) r).val).bind _).bind _ = _
    unfold passport_Check_l2
    rw [Comp.val_ite, if_pos (by rw [decide_eq_true_iff]; omega), Comp.val_bind, idxn, hg, Option.bind_some, Comp.val_bind]
    rw [Comp.val_bind] at hr
    cases hc : (passport_conditions keys (placeE pre.length pre.getLast?) e).val with
    | none => rw [hc] at hr; cases hr
    | some cs =>
      rw [hc, Option.bind_some] at hr
      have hcl : cs.length ≤ 1000 := by
        unfold passport_conditions at hc
        rw [Comp.val_pure] at hc
        cases hc; simp
      rw [Option.bind_some, Comp.val_bind, conds_loop cs _ _ hcl, hr]
      unfold firstE
      by_cases h0 : entE keys pre.length pre.getLast? e = 0
      · rw [if_pos h0, if_pos h0]
        simp only [Option.bind_some]
        unfold passport_Check_j3
        rw [Comp.val_bind, behind_val (by omega) he, Option.bind_some, Comp.val_pure, Option.bind_some, Comp.wrap_succ (by omega)]
        have := ih (pre ++ [e]) (by rw [h]; simp)
        rw [Comp.val_bind, List.length_append, List.getLast?_append] at this
        exact this
      · rw [if_neg h0, if_neg h0]
        simp
theorem pCheck_val {keys : List Bytes} (hk : KW keys) {l : List aEn} (hl : l.length ≤ 1000) (hw : ∀ e ∈ l, EW e) : (passport_Check keys l).val = some (checkE keys l) := by
  unfold passport_Check checkE
  rw [Comp.val_bind, Comp.val_pure, Option.bind_some, Comp.val_ite]
  show (if manyB keys l = true then _ else _) = _
  by_cases h : manyB keys l = true
  · rw [if_pos h, if_pos h, Comp.val_pure]
  · rw [if_neg h, if_neg h]
    exact Check_entries hk hl hw _ l [] rfl
theorem number_val (keys : List Bytes) (e : aEn) : (r7_number keys e).val = some (if d4 keys e = true then if d5 e = true then 0 else 4 else 55) := by
  unfold r7_number d4 d5
  rw [Comp.val_ite]
  by_cases h4 : e.Kind = 4
  · rw [if_pos (by rw [decide_eq_true_iff]; exact h4), Comp.val_bind, shop_val, Option.bind_some, Comp.val_ite, Comp.val_pure, Comp.val_pure]
    cases shopB keys.length e.N <;> simp [h4]
  · rw [if_neg (by rw [decide_eq_true_iff]; exact h4), Comp.val_bind, Comp.val_pure, Option.bind_some, Comp.val_ite, Comp.val_pure, Comp.val_pure]
    by_cases h2 : e.Kind = 2
    · by_cases hn : e.N < 0
      · have : ¬ e.N = 0 := by omega
        have : ¬ e.N > 0 := by omega
        simp [h2, h4, *]
      · by_cases h0 : e.N = 0
        · simp [h2, h4, h0]
        · have : e.N > 0 := by omega
          by_cases hm : e.N ≤ 1048576
          · have : ¬ e.N > 1048576 := by omega
            simp [h2, h4, h0, hm, *]
          · have : e.N > 1048576 := by omega
            simp [h2, h4, h0, hm, *]
    · by_cases h0 : e.N = 0 <;> simp [h2, h4, h0]
end Go.Dgp
end
section
set_option linter.unusedVariables false
set_option linter.unusedSimpArgs false
namespace Go.Dgp
open Go Go.Lift Go.F
open Go.Dig hiding Bytes cat
theorem entry_j1_val {keys : List Bytes} (hk : KW keys) {e : aEn} (he : EW e) (hs : shopB keys.length e.Shop = true) (x : Int) :
    (r7_entry_j1 e keys x).val = some (if x ≠ 0 then x else if (e.After.length : Int) ≠ 8 ∨ (e.Kind = 3 ∨ e.Kind = 4) ∧ e.After ≠ e.Before then 53 else if mrk keys e = true then 0 else 50) := by
  have hb := vbytes_len he
  obtain ⟨key, hg, hm, hv⟩ := key_of hs
  have hl := hk.each key hm
  unfold r7_entry_j1
  rw [Comp.val_ite]
  by_cases hx : x ≠ 0
  · rw [if_pos (by rw [decide_eq_true_iff]; exact hx), if_pos hx, Comp.val_pure]
  · rw [if_neg (by rw [decide_eq_true_iff]; exact hx), if_neg hx, Comp.val_bind, Comp.val_pure, Option.bind_some, Comp.val_ite]
    by_cases hc : (e.After.length : Int) ≠ 8 ∨ (e.Kind = 3 ∨ e.Kind = 4) ∧ e.After ≠ e.Before
    · rw [if_pos (by rw [bif_or, bif_and, bif_or]; simpa using hc), if_pos hc, Comp.val_pure]
    · rw [if_neg (by rw [bif_or, bif_and, bif_or]; simpa using hc), if_neg hc, Comp.val_bind, hv, Option.bind_some, Comp.val_bind, rBytes_val he, Option.bind_some, Comp.val_bind, rCheck_val _ _ _ (by omega) (by omega), Option.bind_some, Comp.val_ite, Comp.val_pure, Comp.val_pure]
      have : mrk keys e = chk key (vbytes e) e.Mark := by unfold mrk; rw [hg]
      rw [this]
      cases chk key (vbytes e) e.Mark <;> rfl
theorem first_val (e : aEn) : (r7_first e).val = some (if e.Prev ≠ [] then 51 else if e.Before ≠ [] then 53 else 0) := by
  unfold r7_first
  rw [Comp.val_ite, Comp.val_pure, Comp.val_ite, Comp.val_pure, Comp.val_pure]
  by_cases h1 : e.Prev = [] <;> by_cases h2 : e.Before = [] <;> simp [h1, h2]
theorem follows_val {p e : aEn} (hp : EW p) : (r7_follows p e).val = some (if e.Day < p.Day then 7 else if e.Prev ≠ linkE p then 51 else if e.Before ≠ p.After then 53 else 0) := by
  unfold r7_follows
  rw [Comp.val_ite, Comp.val_pure, Comp.val_bind, rLink_val hp, Option.bind_some, Comp.val_ite, Comp.val_pure, Comp.val_ite, Comp.val_pure, Comp.val_pure]
  by_cases h0 : e.Day < p.Day <;> by_cases h1 : e.Prev = linkE p <;> by_cases h2 : e.Before = p.After <;> simp [h0, h1, h2]
theorem gdF {α : Type} (c : Comp α) (d : α) : Comp.gd false c d = Comp.pure d := rfl
theorem gdT {α : Type} (c : Comp α) (d : α) : Comp.gd true c d = c := rfl
theorem last_pre {l pre suf : List aEn} (h : l = pre ++ suf) (h0 : 0 < pre.length) (hl : l.length ≤ 1000) : ∃ p, pre.getLast? = some p ∧ (idx l (IntKind.wrap .i64 ((pre.length : Int) - 1))).val = some p := by
  have h1 : pre[pre.length - 1]? = some pre[pre.length - 1] := List.getElem?_eq_getElem (by omega)
  have h2 : pre.length ≤ l.length := by rw [h]; simp
  refine ⟨pre[pre.length - 1], ?_, ?_⟩
  · rw [List.getLast?_eq_getElem?, h1]
  · rw [wrapi (by omega), show (pre.length : Int) - 1 = ((pre.length - 1 : Nat) : Int) by omega, idxn, h, List.getElem?_append_left (by omega), h1]
theorem entry_val {keys : List Bytes} (hk : KW keys) {l pre suf : List aEn} {e : aEn} (hl : l.length ≤ 1000) (hw : ∀ x ∈ l, EW x) (h : l = pre ++ e :: suf) :
    (r7_entry keys l (pre.length : Int)).val = some (entE keys pre.length pre.getLast? e) := by
  have hg : l[pre.length]? = some e := by rw [h]; simp
  have he := hw e (List.mem_of_getElem? hg)
  have hlt : pre.length < l.length := by rw [h]; simp
  unfold r7_entry entE
  rw [Comp.val_bind, idxn, hg, Option.bind_some, Comp.val_ite, Comp.val_pure]
  by_cases h1 : e.Seq = (pre.length : Int)
  rotate_left
  · rw [if_pos (by rw [decide_eq_true_iff]; exact h1), if_neg (by rw [decide_eq_true_iff]; exact h1)]
  rw [if_neg (c := decide (e.Seq ≠ (pre.length : Int)) = true) (by rw [decide_eq_true_iff]; exact fun h => h h1), if_pos (c := decide (e.Seq = (pre.length : Int)) = true) (by rw [decide_eq_true_iff]; exact h1)]
  by_cases hs : shopB keys.length e.Shop = true
  rotate_left
  · have hs' : shopB keys.length e.Shop = false := by simpa using hs
    have e2 : d2 keys pre.length pre.getLast? e = false := by unfold d2; rw [hs']; rfl
    have g0 : ((!false) == false && decide ((pre.length : Int) > 0) == true) = false := by simp
    rw [Comp.val_bind, shop_val, Option.bind_some, hs', e2, g0, gdF, Comp.val_bind, Comp.val_pure, Option.bind_some, gdF, Comp.val_bind, Comp.val_pure, Option.bind_some, Comp.val_bind, Comp.val_pure, Option.bind_some, Comp.val_ite, if_pos (by rfl), if_neg (by simp), Comp.val_pure]
  rw [Comp.val_bind, shop_val, Option.bind_some, hs]
  by_cases h0 : pre.length = 0
  · have hp : pre = [] := List.eq_nil_of_length_eq_zero h0
    subst hp
    have e2 : d2 keys 0 none e = true := by unfold d2; rw [hs]; rfl
    have k0 : ((([] : List aEn).length : Nat) : Int) = 0 := rfl
    have g0 : ((!true) == false && decide ((0 : Int) > 0) == true) = false := by decide
    rw [show ([] : List aEn).getLast? = none from rfl, show ([] : List aEn).length = 0 from rfl, e2, show ((0 : Nat) : Int) = 0 from rfl, g0]
    rw [if_pos rfl, gdF, Comp.val_bind, Comp.val_pure, Option.bind_some, gdF, Comp.val_bind, Comp.val_pure, Option.bind_some, Comp.val_bind, Comp.val_pure, Option.bind_some, Comp.val_ite, if_neg (by simp), Comp.val_bind, Comp.val_pure, Option.bind_some, Comp.val_ite, Comp.val_pure, Comp.val_bind, number_val, Option.bind_some, Comp.val_ite, Comp.val_pure, Comp.val_bind, Comp.val_pure, Option.bind_some, Comp.val_ite, Comp.val_pure, Comp.val_ite, if_pos (c := decide ((0 : Int) = 0) = true) (by decide), Comp.val_bind, first_val, Option.bind_some, entry_j1_val hk he hs]
    by_cases hk1 : e.Kind = 1
    rotate_left
    · have e3 : d3 0 e = false := by unfold d3; simp [hk1]
      rw [e3, if_pos (by simp [hk1]), if_neg (by simp)]
    have e3 : d3 0 e = true := by unfold d3; simp [hk1]
    rw [e3, if_neg (by simp [hk1]), if_pos rfl]
    cases h4 : d4 keys e with
    | false => simp
    | true =>
      cases h5 : d5 e with
      | false => simp
      | true =>
        rw [if_neg (by simp), if_pos rfl, if_pos rfl]
        have e6 : (bif decide (e.Day < 0) then true else decide (e.Day > 100000)) = !d6 e := by
          unfold d6; rw [bif_or, bif_and]
          by_cases hd : e.Day < 0
          · have : ¬ e.Day ≥ 0 := by omega
            simp [hd, this]
          · have hd' : e.Day ≥ 0 := by omega
            by_cases hm : e.Day ≤ 100000
            · have : ¬ e.Day > 100000 := by omega
              simp [hd, hd', hm, this]
            · have : e.Day > 100000 := by omega
              simp [hd, hd', hm, this]
        rw [e6]
        cases h6 : d6 e with
        | false => simp
        | true =>
          have hday : e.Day ≥ 0 := by
            unfold d6 at h6
            by_cases hd : e.Day ≥ 0
            · exact hd
            · simp [hd] at h6
          rw [if_neg (by simp), if_pos rfl, if_pos (c := decide (e.Day ≥ dayP none) = true) (by rw [decide_eq_true_iff]; exact hday)]
          congr 1
          generalize mrk keys e = b
          by_cases hp : e.Prev = [] <;> by_cases hb : e.Before = [] <;> by_cases ha : (e.After.length : Int) = 8 <;> simp [hp, hb, ha, hk1, prevP, d9, befP]
  · obtain ⟨p, hp, hidx⟩ := last_pre h (by omega) hl
    have hpl : p ∈ l := by rw [h]; exact List.mem_append_left _ (List.mem_of_getLast? hp)
    have hpw := hw p hpl
    have kpos : decide ((pre.length : Int) > 0) = true := by rw [decide_eq_true_iff]; omega
    have kne : decide ((pre.length : Int) = 0) = false := by rw [decide_eq_false_iff_not]; omega
    rw [hp, kpos, kne]
    have g0 : ((!true) == false && (true == true)) = true := by decide
    rw [g0, gdT, Comp.val_bind, hidx, Option.bind_some, gdT, Comp.val_bind, writer_val, Option.bind_some, Comp.val_bind, Comp.val_pure, Option.bind_some, Comp.val_ite, Comp.val_pure]
    have e2 : d2 keys pre.length (some p) e = decide (e.Shop = wrt p) := by unfold d2; rw [hs, kne]; rfl
    rw [e2]
    by_cases hwr : e.Shop = wrt p
    rotate_left
    · rw [if_pos (c := (bif !true then true else bif true then decide (e.Shop ≠ wrt p) else false) = true) (by simp [hwr]), if_neg (c := decide (e.Shop = wrt p) = true) (by simp [hwr])]
    rw [if_neg (c := (bif !true then true else bif true then decide (e.Shop ≠ wrt p) else false) = true) (by simp [hwr]), if_pos (c := decide (e.Shop = wrt p) = true) (by simp [hwr]), Comp.val_bind, Comp.val_pure, Option.bind_some, Comp.val_ite, Comp.val_pure, Comp.val_bind, number_val, Option.bind_some, Comp.val_ite, Comp.val_pure, Comp.val_bind, Comp.val_pure, Option.bind_some, Comp.val_ite, Comp.val_pure, Comp.val_ite, if_neg (c := false = true) (by simp), Comp.val_bind, hidx, Option.bind_some, Comp.val_bind, follows_val hpw, Option.bind_some, entry_j1_val hk he hs]
    have e3 : d3 pre.length e = decide (e.Kind = 2 ∨ e.Kind = 3 ∨ e.Kind = 4) := by
      unfold d3; rw [kne]
      by_cases k1 : e.Kind = 1
      · simp [k1]
      · by_cases k2 : e.Kind = 2 <;> by_cases k3 : e.Kind = 3 <;> by_cases k4 : e.Kind = 4 <;> simp [k1, k2, k3, k4]
    have e3' : (bif bif false then decide (e.Kind ≠ 1) else false then true else bif bif bif true then decide (e.Kind ≠ 2) else false then decide (e.Kind ≠ 3) else false then decide (e.Kind ≠ 4) else false) = !decide (e.Kind = 2 ∨ e.Kind = 3 ∨ e.Kind = 4) := by
      by_cases k2 : e.Kind = 2 <;> by_cases k3 : e.Kind = 3 <;> by_cases k4 : e.Kind = 4 <;> simp [k2, k3, k4]
    rw [e3, e3']
    by_cases hkd : e.Kind = 2 ∨ e.Kind = 3 ∨ e.Kind = 4
    rotate_left
    · rw [decide_eq_false hkd]; simp
    rw [decide_eq_true hkd, if_neg (c := (!true) = true) (by simp), if_pos (c := true = true) rfl]
    cases h4 : d4 keys e with
    | false => simp
    | true =>
      cases h5 : d5 e with
      | false => simp
      | true =>
        rw [if_neg (by simp), if_pos rfl, if_pos rfl]
        have e6 : (bif decide (e.Day < 0) then true else decide (e.Day > 100000)) = !d6 e := by
          unfold d6; rw [bif_or, bif_and]
          by_cases hd : e.Day < 0
          · have : ¬ e.Day ≥ 0 := by omega
            simp [hd, this]
          · have hd' : e.Day ≥ 0 := by omega
            by_cases hm : e.Day ≤ 100000
            · have : ¬ e.Day > 100000 := by omega
              simp [hd, hd', hm, this]
            · have : e.Day > 100000 := by omega
              simp [hd, hd', hm, this]
        rw [e6]
        cases h6 : d6 e with
        | false => simp
        | true =>
          rw [if_neg (by simp), if_pos rfl]
          congr 1
          generalize mrk keys e = b
          have hdd : (e.Day ≥ p.Day) ↔ ¬ e.Day < p.Day := by omega
          by_cases hd : e.Day < p.Day
          · simp [dayP, hd, hdd]
          · by_cases hpv : e.Prev = linkE p
            · by_cases hb : e.Before = p.After
              · by_cases ha : (e.After.length : Int) = 8
                · by_cases hab : e.After = p.After <;> rcases hkd with h | h | h <;> simp [dayP, hd, hdd, hpv, hb, ha, hab, h, prevP, d9, befP]
                · simp [dayP, hd, hdd, hpv, hb, ha, prevP, d9, befP]
              · simp [dayP, hd, hdd, hpv, hb, prevP, d9, befP]
            · simp [dayP, hd, hdd, hpv, prevP]
theorem rCheck_entries {keys : List Bytes} (hk : KW keys) {l : List aEn} (hl : l.length ≤ 1000) (hw : ∀ e ∈ l, EW e) (r : api_Finding) : ∀ (suf pre : List aEn), l = pre ++ suf →
    ((Comp.loop (fun s : Int × api_Finding => r7_Check_l2 l keys s.1 s.2) ((pre.length : Int), r)).bind (fun e => match e with | (.inl x13) => (Comp.pure x13) | (.inr x14) => (r7_Check_j1 x14))).val = some (firstE keys pre.length pre.getLast? suf) := by
  intro suf
  induction suf with
  | nil =>
    intro pre h
    rw [List.append_nil] at h; subst h
    rw [Comp.val_bind, Comp.val_loop]
    show (((r7_Check_l2 l keys (l.length : Int) r).val).bind _).bind _ = _
    unfold r7_Check_l2
    rw [Comp.val_ite, if_neg (by simp), Comp.val_pure]; unfold r7_Check_j1 firstE; simp
  | cons e suf ih =>
    intro pre h
    have hlt : pre.length < l.length := by rw [h]; simp
    rw [Comp.val_bind, Comp.val_loop]
    show (((r7_Check_l2 l keys (pre.length : Int) r).val).bind _).bind _ = _
    unfold r7_Check_l2 firstE
    rw [Comp.val_ite, if_pos (by rw [decide_eq_true_iff]; omega), Comp.val_bind, entry_val hk hl hw h, Option.bind_some, Comp.val_ite, Comp.val_pure, Comp.val_pure]
    by_cases h0 : entE keys pre.length pre.getLast? e = 0
    · rw [if_neg (by simp [h0]), if_pos h0, Option.bind_some, Comp.wrap_succ (by omega)]
      have := ih (pre ++ [e]) (by rw [h]; simp)
      rw [Comp.val_bind, List.length_append, List.getLast?_append] at this
      exact this
    · rw [if_pos (by simp [h0]), if_neg h0]; simp
theorem rCheck2_val {keys : List Bytes} (hk : KW keys) {l : List aEn} (hl : l.length ≤ 1000) (hw : ∀ e ∈ l, EW e) : (r7_Check keys l).val = some (checkE keys l) := by
  unfold r7_Check checkE
  rw [Comp.val_bind, Comp.val_pure, Option.bind_some, Comp.val_ite]
  show (if manyB keys l = true then _ else _) = _
  by_cases h : manyB keys l = true
  · rw [if_pos h, if_pos h, Comp.val_pure]
  · rw [if_neg h, if_neg h]
    exact rCheck_entries hk hl hw _ l [] rfl
end Go.Dgp
end
section
set_option linter.unusedVariables false
set_option linter.unusedSimpArgs false
namespace Go.Dgp
open Go Go.Lift Go.F
open Go.Dig hiding Bytes cat
def sgn (keys : List Bytes) (k : Nat) (e : aEn) : Bool := decide (e.Seq = (k : Int)) && shopB keys.length e.Shop && mrk keys e
def forkE (keys : List Bytes) : Nat → List aEn → List aEn → Int × Bool
  | k, x :: xs, y :: ys => if x = y then forkE keys (k + 1) xs ys else if (decide (x.Shop = y.Shop) && sgn keys k x && sgn keys k y) = true then (x.Shop, true) else (0, false)
  | _, [], _ => (0, false)
  | _, _ :: _, [] => (0, false)
theorem l4_val {keys : List Bytes} (hk : KW keys) {x y z : aEn} {l : List aEn} {k i : Nat} (hi : i < 2) (hz : [x, y][i]? = some z) (hx : l[k]? = some x) (hw : EW z) :
    (passport_Fork_l4 x y (k : Int) l keys (i : Int)).val = some (if (decide (z.Shop = x.Shop) && sgn keys k z) = true then .next ((i + 1 : Nat) : Int) else .done (.inl (0, false))) := by
  have hb := vbytes_len hw
  unfold passport_Fork_l4
  have hv : (#v[x, y] : Vector aEn 2).toList = [x, y] := rfl
  rw [Comp.val_ite, if_pos (by rw [decide_eq_true_iff]; omega), Comp.val_bind, hv, idxn, hz, Option.bind_some]
  unfold sgn
  by_cases h1 : z.Seq = (k : Int)
  rotate_left
  · simp [h1, Comp.val_bind, gdF]
  by_cases h2 : z.Shop = x.Shop
  rotate_left
  · simp [h1, h2, Comp.val_bind, gdF, gdT, idxn, hx]
  cases h3 : shopB keys.length z.Shop with
  | false =>
    simp [h1, h2, Comp.val_bind, gdF, gdT, idxn, hx, known_val]
    rw [← h2, h3]; simp [gdF, Comp.val_bind]
  | true =>
    obtain ⟨key, hg, hm, hid⟩ := key_of h3
    have hl := hk.each key hm
    have hc := Check_val key (vbytes z) z.Mark (by omega) (by omega)
    have hmk : mrk keys z = chk key (vbytes z) z.Mark := by unfold mrk; rw [hg]
    simp [h1, h2, Comp.val_bind, gdF, gdT, idxn, hx, known_val]
    rw [← h2, h3]
    simp [gdF, gdT, Comp.val_bind, hid, pBytes_val hw, hc, hmk]
    cases chk key (vbytes z) z.Mark with
    | false => simp
    | true => simp [Comp.wrap_succ (show i < 9223372036854775807 by omega)]
theorem pairs_val {keys : List Bytes} (hk : KW keys) {x y : aEn} {l : List aEn} {k : Nat} (hx : l[k]? = some x) (hwx : EW x) (hwy : EW y) :
    (Comp.loop (fun s => passport_Fork_l4 x y (k : Int) l keys s) 0).val = some (if (decide (x.Shop = y.Shop) && sgn keys k x && sgn keys k y) = true then .inr () else .inl (0, false)) := by
  have h0 := l4_val hk (x := x) (y := y) (z := x) (l := l) (k := k) (i := 0) (by omega) rfl hx hwx
  have h1 := l4_val hk (x := x) (y := y) (z := y) (l := l) (k := k) (i := 1) (by omega) rfl hx hwy
  rw [show ((0 : Nat) : Int) = 0 from rfl, show ((0 + 1 : Nat) : Int) = 1 from rfl] at h0
  rw [show ((1 : Nat) : Int) = 1 from rfl, show ((1 + 1 : Nat) : Int) = 2 from rfl] at h1
  have h2 : (passport_Fork_l4 x y (k : Int) l keys 2).val = some (.done (.inr ())) := by
    unfold passport_Fork_l4
    rw [Comp.val_ite, if_neg (by decide), Comp.val_pure]
  rw [Comp.val_loop, h0, Option.bind_some]
  by_cases hs : sgn keys k x = true
  · rw [if_pos (by simp [hs])]
    simp only []
    rw [Comp.val_loop, h1, Option.bind_some]
    by_cases hy : (decide (y.Shop = x.Shop) && sgn keys k y) = true
    · rw [if_pos hy]
      simp only []
      rw [Comp.val_loop, h2, Option.bind_some]
      rw [Bool.and_eq_true, decide_eq_true_iff] at hy
      rw [if_pos (by simp [hs, hy.1, hy.2])]
    · rw [if_neg hy, if_neg]
      intro h
      apply hy
      simp only [Bool.and_eq_true, decide_eq_true_iff] at h ⊢
      exact ⟨h.1.1.symm, h.2⟩
  · have hs' : sgn keys k x = false := by simpa using hs
    rw [if_neg (by simp [hs']), if_neg (by simp [hs'])]
theorem fork_entries {keys : List Bytes} (hk : KW keys) {a b : List aEn} (hl : a.length ≤ 1000) (ha : ∀ e ∈ a, EW e) (hb : ∀ e ∈ b, EW e) : ∀ (sa sb pa pb : List aEn), a = pa ++ sa → b = pb ++ sb → pa.length = pb.length →
    ((Comp.loop (fun s => passport_Fork_l2 (min (a.length : Int) (b.length : Int)) a b keys s) (pa.length : Int)).bind (fun e => match e with | (.inl (x25, x26)) => (Comp.pure (x25, x26)) | (.inr ()) => (passport_Fork_j1))).val = some (forkE keys pa.length sa sb) := by
  intro sa
  induction sa with
  | nil =>
    intro sb pa pb h1 h2 h3
    rw [Comp.val_bind, Comp.val_loop]
    show (((passport_Fork_l2 _ a b keys (pa.length : Int)).val).bind _).bind _ = _
    unfold passport_Fork_l2
    rw [List.append_nil] at h1
    rw [Comp.val_ite, if_neg (by rw [decide_eq_true_iff, h1]; omega), Comp.val_pure]
    unfold passport_Fork_j1 forkE; simp
  | cons x sa ih =>
    intro sb pa pb h1 h2 h3
    rw [Comp.val_bind, Comp.val_loop]
    show (((passport_Fork_l2 _ a b keys (pa.length : Int)).val).bind _).bind _ = _
    have hla : a.length = pa.length + sa.length + 1 := by rw [h1]; simp; omega
    cases sb with
    | nil =>
      rw [List.append_nil] at h2
      unfold passport_Fork_l2
      rw [Comp.val_ite, if_neg (by rw [decide_eq_true_iff, h2]; omega), Comp.val_pure]
      unfold passport_Fork_j1 forkE; simp
    | cons y sb =>
      have hlb : b.length = pb.length + sb.length + 1 := by rw [h2]; simp; omega
      have ga : a[pa.length]? = some x := by rw [h1]; simp
      have gb : b[pa.length]? = some y := by rw [h2, h3]; simp
      unfold passport_Fork_l2 forkE
      rw [Comp.val_ite, if_pos (by rw [decide_eq_true_iff]; omega), Comp.val_bind, idxn, ga, Option.bind_some, Comp.val_bind, idxn, gb, Option.bind_some, Comp.val_ite]
      by_cases hxy : x = y
      · rw [if_pos (by simp [hxy]), if_pos hxy, Comp.val_pure, Option.bind_some, Comp.wrap_succ (by omega)]
        have := ih sb (pa ++ [x]) (pb ++ [y]) (by rw [h1]; simp) (by rw [h2]; simp) (by simp [h3])
        rw [Comp.val_bind, List.length_append] at this
        exact this
      · rw [if_neg (by simp [hxy]), if_neg hxy, Comp.val_bind, idxn, ga, Option.bind_some, Comp.val_bind, idxn, gb, Option.bind_some, Comp.val_bind, pairs_val hk ga (ha x (List.mem_of_getElem? ga)) (hb y (List.mem_of_getElem? gb)), Option.bind_some]
        by_cases hc : (decide (x.Shop = y.Shop) && sgn keys pa.length x && sgn keys pa.length y) = true
        · rw [if_pos hc, if_pos hc]
          simp only []
          unfold passport_Fork_j3
          rw [Comp.val_bind, idxn, ga, Option.bind_some, Comp.val_pure]; simp
        · rw [if_neg hc, if_neg hc]; simp
theorem pFork_val {keys : List Bytes} (hk : KW keys) {a b : List aEn} (hl : a.length ≤ 1000) (ha : ∀ e ∈ a, EW e) (hb : ∀ e ∈ b, EW e) : (passport_Fork keys a b).val = some (forkE keys 0 a b) := by
  unfold passport_Fork
  rw [Comp.val_bind, Comp.val_pure, Option.bind_some]
  exact fork_entries hk hl ha hb a b [] [] rfl rfl rfl
theorem signed_val {keys : List Bytes} (hk : KW keys) {e : aEn} (he : EW e) (k : Nat) : (r7_signed keys e (k : Int)).val = some (sgn keys k e) := by
  have hb := vbytes_len he
  unfold r7_signed sgn
  by_cases h1 : e.Seq = (k : Int)
  rotate_left
  · simp [h1, Comp.val_bind, gdF]
  cases h3 : shopB keys.length e.Shop with
  | false => simp [h1, Comp.val_bind, gdF, gdT, shop_val, h3]
  | true =>
    obtain ⟨key, hg, hm, hid⟩ := key_of h3
    have hl := hk.each key hm
    have hc := rCheck_val key (vbytes e) e.Mark (by omega) (by omega)
    have hmk : mrk keys e = chk key (vbytes e) e.Mark := by unfold mrk; rw [hg]
    simp [h1, Comp.val_bind, gdF, gdT, shop_val, h3, hid, rBytes_val he, hc, hmk]
theorem rfork_entries {keys : List Bytes} (hk : KW keys) {a b : List aEn} (hl : a.length ≤ 1000) (ha : ∀ e ∈ a, EW e) (hb : ∀ e ∈ b, EW e) : ∀ (sa sb pa pb : List aEn), a = pa ++ sa → b = pb ++ sb → pa.length = pb.length →
    ((Comp.loop (fun s => r7_Fork_l2 a b keys s) (pa.length : Int)).bind (fun e => match e with | (.inl (x14, x15)) => (Comp.pure (x14, x15)) | (.inr ()) => (r7_Fork_j1))).val = some (forkE keys pa.length sa sb) := by
  intro sa
  induction sa with
  | nil =>
    intro sb pa pb h1 h2 h3
    rw [Comp.val_bind, Comp.val_loop]
    show (((r7_Fork_l2 a b keys (pa.length : Int)).val).bind _).bind _ = _
    unfold r7_Fork_l2
    rw [List.append_nil] at h1
    rw [Comp.val_bind, Comp.val_pure, Option.bind_some, Comp.val_ite, if_neg (by rw [bif_and, h1]; simp), Comp.val_pure]
    unfold r7_Fork_j1 forkE; simp
  | cons x sa ih =>
    intro sb pa pb h1 h2 h3
    rw [Comp.val_bind, Comp.val_loop]
    show (((r7_Fork_l2 a b keys (pa.length : Int)).val).bind _).bind _ = _
    have hla : a.length = pa.length + sa.length + 1 := by rw [h1]; simp; omega
    cases sb with
    | nil =>
      rw [List.append_nil] at h2
      unfold r7_Fork_l2
      rw [Comp.val_bind, Comp.val_pure, Option.bind_some, Comp.val_ite, if_neg (by rw [bif_and, h2]; simp; omega), Comp.val_pure]
      unfold r7_Fork_j1 forkE; simp
    | cons y sb =>
      have hlb : b.length = pb.length + sb.length + 1 := by rw [h2]; simp; omega
      have ga : a[pa.length]? = some x := by rw [h1]; simp
      have gb : b[pa.length]? = some y := by rw [h2, h3]; simp
      have sx := signed_val hk (ha x (List.mem_of_getElem? ga)) pa.length
      have sy := signed_val hk (hb y (List.mem_of_getElem? gb)) pa.length
      unfold r7_Fork_l2 forkE
      rw [Comp.val_bind, Comp.val_pure, Option.bind_some, Comp.val_ite, if_pos (by rw [bif_and]; simp; omega), Comp.val_bind, idxn, ga, Option.bind_some, Comp.val_bind, idxn, gb, Option.bind_some, Comp.val_ite]
      by_cases hxy : x = y
      · rw [if_pos (by simp [hxy]), if_pos hxy, Comp.val_pure, Option.bind_some, Comp.wrap_succ (by omega)]
        have := ih sb (pa ++ [x]) (pb ++ [y]) (by rw [h1]; simp) (by rw [h2]; simp) (by simp [h3])
        rw [Comp.val_bind, List.length_append] at this
        exact this
      · rw [if_neg (by simp [hxy]), if_neg hxy, Comp.val_bind, idxn, ga, Option.bind_some, Comp.val_bind, idxn, gb, Option.bind_some]
        by_cases hs : x.Shop = y.Shop
        rotate_left
        · simp [hs, gdF, Comp.val_bind]
        cases hsx : sgn keys pa.length x with
        | false => simp [hs, gdF, gdT, Comp.val_bind, idxn, ga, gb, sx, hsx]
        | true =>
          cases hsy : sgn keys pa.length y with
          | false => simp [hs, gdF, gdT, Comp.val_bind, idxn, ga, gb, sx, sy, hsx, hsy]
          | true => simp [hs, gdF, gdT, Comp.val_bind, idxn, ga, gb, sx, sy, hsx, hsy]
theorem rFork_val {keys : List Bytes} (hk : KW keys) {a b : List aEn} (hl : a.length ≤ 1000) (ha : ∀ e ∈ a, EW e) (hb : ∀ e ∈ b, EW e) : (r7_Fork keys a b).val = some (forkE keys 0 a b) := by
  unfold r7_Fork
  exact rfork_entries hk hl ha hb a b [] [] rfl rfl rfl
end Go.Dgp
end
section
set_option linter.unusedVariables false
set_option linter.unusedSimpArgs false
namespace Go.Dgp
open Go Go.Lift Go.F
open Go.Dig hiding Bytes cat
def allR (keys : List Bytes) : Nat → Option aEn → List aEn → Prop
  | _, _, [] => True
  | k, p, e :: es => entE keys k p e = 0 ∧ allR keys (k + 1) (some e) es
def lastP (p : Option aEn) : List aEn → Option aEn
  | [] => p
  | e :: es => lastP (some e) es
theorem lastP_none : ∀ (l : List aEn) (p : Option aEn), lastP p l = l.getLast?.or p
  | [], p => by simp [lastP]
  | e :: es, p => by
    rw [lastP, lastP_none es (some e), List.getLast?_cons]
    cases h : es.getLast? <;> simp
theorem lastP_eq (l : List aEn) : lastP none l = l.getLast? := by rw [lastP_none]; simp
theorem allR_app (keys : List Bytes) : ∀ (a b : List aEn) (k : Nat) (p : Option aEn), allR keys k p (a ++ b) ↔ allR keys k p a ∧ allR keys (k + a.length) (lastP p a) b
  | [], b, k, p => by simp [allR, lastP]
  | e :: es, b, k, p => by
    rw [List.cons_append, allR, allR, allR_app keys es b, lastP, List.length_cons, and_assoc]
    rw [show k + 1 + es.length = k + (es.length + 1) by omega]
theorem chk_own {k m : Bytes} (h : k ≠ []) : chk k m (D (markL k m)) = true := by unfold chk; simp [h]
theorem grow {keys : List Bytes} {l : List aEn} {e : aEn} {key : Bytes} (hs : shopB keys.length e.Shop = true) (hkey : keys[e.Shop.toNat]? = some key) (hne : key ≠ [])
    (h0 : l = [] → e.Kind = 1 ∧ e.Before = []) (h1 : ∀ p, l.getLast? = some p → e.Shop = wrt p ∧ (e.Kind = 2 ∨ e.Kind = 3 ∨ e.Kind = 4) ∧ p.Day ≤ e.Day ∧ (e.Kind = 3 ∨ e.Kind = 4 → e.After = p.After))
    (hN4 : e.Kind = 4 → shopB keys.length e.N = true) (hN : e.Kind ≠ 4 → e.N = 0 ∨ e.Kind = 2 ∧ 0 < e.N ∧ e.N ≤ 1048576) (hd : 0 ≤ e.Day ∧ e.Day ≤ 100000) (ha : e.After.length = 8) :
    entE keys l.length l.getLast? (signE key (nextE l e)) = 0 := by
  have hm : mrk keys (signE key (nextE l e)) = true := by
    have e1 : (signE key (nextE l e)).Shop = e.Shop := by unfold signE nextE; cases l.getLast? <;> rfl
    unfold mrk
    rw [e1, hkey]
    exact chk_own hne
  have h5 : d5 (signE key (nextE l e)) = true := by
    have e1 : (signE key (nextE l e)).Kind = e.Kind := by unfold signE nextE; cases l.getLast? <;> rfl
    have e2 : (signE key (nextE l e)).N = e.N := by unfold signE nextE; cases l.getLast? <;> rfl
    unfold d5; rw [e1, e2]
    by_cases hk : e.Kind = 4
    · simp [hk]
    · rcases hN hk with h | ⟨h1, h2, h3⟩
      · simp [h]
      · simp [h1, h2, h3]
  have h4 : d4 keys (signE key (nextE l e)) = true := by
    have e1 : (signE key (nextE l e)).Kind = e.Kind := by unfold signE nextE; cases l.getLast? <;> rfl
    have e2 : (signE key (nextE l e)).N = e.N := by unfold signE nextE; cases l.getLast? <;> rfl
    unfold d4; rw [e1, e2]
    by_cases hk : e.Kind = 4
    · simp [hk, hN4 hk]
    · simp [hk]
  have h6 : d6 (signE key (nextE l e)) = true := by
    have e1 : (signE key (nextE l e)).Day = e.Day := by unfold signE nextE; cases l.getLast? <;> rfl
    unfold d6; rw [e1]; simp [hd]
  have hseq : (signE key (nextE l e)).Seq = (l.length : Int) := by unfold signE nextE; cases l.getLast? <;> rfl
  unfold entE
  rw [hm, h4, h5, h6, decide_eq_true hseq]
  simp only [if_true]
  cases hl : l.getLast? with
  | none =>
    have hnil : l = [] := List.getLast?_eq_none_iff.1 hl
    obtain ⟨k1, b0⟩ := h0 hnil
    subst hnil
    have e2 : d2 keys ([] : List aEn).length none (signE key (nextE [] e)) = true := by
      unfold d2
      rw [show (signE key (nextE [] e)).Shop = e.Shop from rfl, hs]; rfl
    have e3 : d3 ([] : List aEn).length (signE key (nextE [] e)) = true := by
      unfold d3
      rw [show (signE key (nextE [] e)).Kind = e.Kind from rfl, k1]; rfl
    have e9 : d9 none (signE key (nextE [] e)) = true := by
      unfold d9
      rw [show (signE key (nextE [] e)).Kind = e.Kind from rfl, show (signE key (nextE [] e)).Before = e.Before from rfl, show (signE key (nextE [] e)).After = e.After from rfl, k1, b0, show befP none = [] from rfl]
      simp [ha]
    rw [e2, e3, e9, decide_eq_true (show (signE key (nextE [] e)).Day ≥ dayP none from hd.1), decide_eq_true (show (signE key (nextE [] e)).Prev = prevP none from rfl)]
    rfl
  | some p =>
    obtain ⟨k1, k2, k3, k4⟩ := h1 p hl
    have hpos : ¬ (l.length : Int) = 0 := by
      intro h
      have : l = [] := List.eq_nil_of_length_eq_zero (by omega)
      rw [this] at hl; cases hl
    have hx : signE key (nextE l e) = signE key ⟨(l.length : Int), e.Shop, e.Kind, e.Day, e.N, p.After, e.After, linkE p, []⟩ := by unfold nextE; rw [hl]
    rw [hx]
    have e2 : d2 keys l.length (some p) (signE key ⟨(l.length : Int), e.Shop, e.Kind, e.Day, e.N, p.After, e.After, linkE p, []⟩) = true := by
      unfold d2
      show (bif shopB keys.length e.Shop then (bif decide ((l.length : Int) = 0) then true else decide (e.Shop = wrt p)) else false) = true
      rw [hs, decide_eq_true k1]; simp
    have e3 : d3 l.length (signE key ⟨(l.length : Int), e.Shop, e.Kind, e.Day, e.N, p.After, e.After, linkE p, []⟩) = true := by
      unfold d3
      show (bif decide (decide (e.Kind = 1) = decide ((l.length : Int) = 0)) then (bif (bif (bif decide (e.Kind = 1) then true else decide (e.Kind = 2)) then true else decide (e.Kind = 4)) then true else decide (e.Kind = 3)) else false) = true
      rw [decide_eq_false hpos]
      rcases k2 with h | h | h <;> simp [h]
    have e9 : d9 (some p) (signE key ⟨(l.length : Int), e.Shop, e.Kind, e.Day, e.N, p.After, e.After, linkE p, []⟩) = true := by
      unfold d9
      show (bif (bif decide (p.After = p.After) then decide ((e.After.length : Int) = 8) else false) then (bif (bif decide (e.Kind = 1) then true else decide (e.Kind = 2)) then true else decide (e.After = p.After)) else false) = true
      rcases k2 with h | h | h
      · simp [h, ha]
      · simp [h, ha, k4 (Or.inl h)]; rw [← k4 (Or.inl h)]; omega
      · simp [h, ha, k4 (Or.inr h)]; rw [← k4 (Or.inr h)]; omega
    rw [e2, e3, e9, decide_eq_true (show (signE key ⟨(l.length : Int), e.Shop, e.Kind, e.Day, e.N, p.After, e.After, linkE p, []⟩).Day ≥ dayP (some p) from k3), decide_eq_true (show (signE key ⟨(l.length : Int), e.Shop, e.Kind, e.Day, e.N, p.After, e.After, linkE p, []⟩).Prev = prevP (some p) from rfl)]
    rfl
structure Good (m : Nat) (l : List aEn) : Prop where
  ew : ∀ e ∈ l, EW e
  r : allR (keysT m) 0 none l
  day : ∀ e ∈ l, 0 ≤ e.Day ∧ e.Day ≤ 10 * (l.length : Int)
  aft : ∀ e ∈ l, e.After.length = 8
theorem Good.nil (m : Nat) : Good m [] := ⟨by simp, trivial, by simp, by simp⟩
theorem d_of_ent {keys : List Bytes} {k : Nat} {p : Option aEn} {e : aEn} (h : entE keys k p e = 0) :
    e.Seq = (k : Int) ∧ d2 keys k p e = true ∧ d3 k e = true ∧ d4 keys e = true ∧ d5 e = true ∧ d6 e = true ∧ e.Day ≥ dayP p ∧ e.Prev = prevP p ∧ d9 p e = true ∧ mrk keys e = true := by
  unfold entE at h
  by_cases c1 : decide (e.Seq = (k : Int)) = true
  rotate_left
  · rw [if_neg c1] at h; simp at h
  rw [if_pos c1] at h
  by_cases c2 : d2 keys k p e = true
  rotate_left
  · rw [if_neg c2] at h; simp at h
  rw [if_pos c2] at h
  by_cases c3 : d3 k e = true
  rotate_left
  · rw [if_neg c3] at h; simp at h
  rw [if_pos c3] at h
  by_cases c4 : d4 keys e = true
  rotate_left
  · rw [if_neg c4] at h; simp at h
  rw [if_pos c4] at h
  by_cases c5 : d5 e = true
  rotate_left
  · rw [if_neg c5] at h; simp at h
  rw [if_pos c5] at h
  by_cases c6 : d6 e = true
  rotate_left
  · rw [if_neg c6] at h; simp at h
  rw [if_pos c6] at h
  by_cases c7 : decide (e.Day ≥ dayP p) = true
  rotate_left
  · rw [if_neg c7] at h; simp at h
  rw [if_pos c7] at h
  by_cases c8 : decide (e.Prev = prevP p) = true
  rotate_left
  · rw [if_neg c8] at h; simp at h
  rw [if_pos c8] at h
  by_cases c9 : d9 p e = true
  rotate_left
  · rw [if_neg c9] at h; simp at h
  rw [if_pos c9] at h
  by_cases c10 : mrk keys e = true
  rotate_left
  · rw [if_neg c10] at h; simp at h
  exact ⟨of_decide_eq_true c1, c2, c3, c4, c5, c6, of_decide_eq_true c7, of_decide_eq_true c8, c9, c10⟩
theorem shop_of_d2 {keys : List Bytes} {k : Nat} {p : Option aEn} {e : aEn} (h : d2 keys k p e = true) : shopB keys.length e.Shop = true := by
  unfold d2 at h
  cases hc : shopB keys.length e.Shop with
  | true => rfl
  | false => rw [hc] at h; exact h
theorem allR_mem {keys : List Bytes} : ∀ {l : List aEn} {k : Nat} {p : Option aEn}, allR keys k p l → ∀ e ∈ l, ∃ k' p', entE keys k' p' e = 0
  | [], _, _, _, _, he => by simp at he
  | x :: xs, k, p, h, e, he => by
    rw [allR] at h
    rcases List.mem_cons.1 he with rfl | he
    · exact ⟨k, p, h.1⟩
    · exact allR_mem h.2 e he
theorem wrt_known {m : Nat} {l : List aEn} (hg : Good m l) {p : aEn} (hp : p ∈ l) : shopB m (wrt p) = true := by
  obtain ⟨k, q, h⟩ := allR_mem hg.r p hp
  obtain ⟨_, h2, _, h4, _⟩ := d_of_ent h
  have := shop_of_d2 h2
  rw [keysT_len] at this
  unfold wrt
  by_cases hk : p.Kind = 4
  · rw [if_pos hk]
    unfold d4 at h4
    rw [keysT_len] at h4
    simpa [hk] using h4
  · rw [if_neg hk]; exact this
theorem keyT_ne (k : Nat) : keyT k ≠ [] := by unfold keyT; simp
theorem stepE_day {m : Nat} {l : List aEn} {n : List Int} : (l = [] → 0 ≤ (stepE m l n).Day ∧ (stepE m l n).Day ≤ 8) ∧ (∀ p, l.getLast? = some p → p.Day ≤ (stepE m l n).Day ∧ (stepE m l n).Day ≤ p.Day + 2) := by
  have l2 := drawN_lt n (drawN n 0 m).1 9 (by omega)
  constructor
  · intro h; subst h
    show (0 : Int) ≤ ((drawN n (drawN n 0 m).1 9).2 : Int) ∧ ((drawN n (drawN n 0 m).1 9).2 : Int) ≤ 8
    omega
  · intro p hp
    unfold stepE
    rw [hp]
    simp only []
    by_cases c1 : (drawN n (drawN n (drawN n (drawN n 0 m).1 9).1 20).1 4).2 ≤ 1
    · rw [if_pos c1]
      show p.Day ≤ p.Day + ((_ : Nat) : Int) ∧ p.Day + ((_ : Nat) : Int) ≤ p.Day + 2
      omega
    · rw [if_neg c1]
      by_cases c2 : (drawN n (drawN n (drawN n (drawN n 0 m).1 9).1 20).1 4).2 = 2
      · rw [if_pos c2]
        show p.Day ≤ p.Day + ((_ : Nat) : Int) ∧ p.Day + ((_ : Nat) : Int) ≤ p.Day + 2
        omega
      · rw [if_neg c2]
        show p.Day ≤ p.Day + ((_ : Nat) : Int) ∧ p.Day + ((_ : Nat) : Int) ≤ p.Day + 2
        omega
theorem step_good {m : Nat} (hm : 1 ≤ m ∧ m ≤ 200) {l : List aEn} (hg : Good m l) (hl : l.length ≤ 500) {n : List Int} (hn : ∀ x ∈ n, I64 x) :
    ∃ e, (r7_Step (keysT m) l n).val = some e ∧ Good m (l ++ [e]) := by
  cases hp : l.getLast? with
  | none =>
    have hnil : l = [] := List.getLast?_eq_none_iff.1 hp
    subst hnil
    obtain ⟨h1, h2⟩ := step0_val hm hn
    have hd := (stepE_day (m := m) (l := []) (n := n)).1 rfl
    have l1 := drawN_lt n 0 m hm.1
    have hsh : (stepE m [] n).Shop = ((drawN n 0 m).2 : Int) := rfl
    have haf : (stepE m [] n).After.length = 8 := rootT_len _
    refine ⟨_, h1, ?_⟩
    have hE : EW (signE (keyT (drawN n 0 m).2) (nextE [] (stepE m [] n))) := signE_wf (nextE_wf (by simp) (by simp) h2)
    refine ⟨by simpa using hE, ?_, ?_, ?_⟩
    · rw [List.nil_append, allR]
      refine ⟨?_, trivial⟩
      refine grow (l := []) (by rw [keysT_len, hsh, shopB_iff]; omega) (key := keyT (drawN n 0 m).2) ?_ (keyT_ne _) (fun _ => ⟨rfl, rfl⟩) (by simp) (fun h => ?_) (fun _ => Or.inl rfl) ⟨hd.1, by omega⟩ haf
      · rw [hsh, Int.toNat_natCast, keysT_get l1]
      · exact absurd (show (1 : Int) = 4 from h) (by decide)
    · intro e he
      rw [List.nil_append, List.mem_singleton] at he
      subst he
      show 0 ≤ (stepE m [] n).Day ∧ (stepE m [] n).Day ≤ 10 * _
      simp; omega
    · intro e he
      rw [List.nil_append, List.mem_singleton] at he
      subst he
      exact haf
  | some p =>
    have hpm : p ∈ l := List.mem_of_getLast? hp
    have hpos : 0 < l.length := List.length_pos_of_mem hpm
    have hw := wrt_known hg hpm
    rw [shopB_iff] at hw
    have hday := hg.day p hpm
    obtain ⟨h1, h2⟩ := stepK_val hm hn ⟨hpos, by omega⟩ hg.ew hp (k := (wrt p).toNat) (by omega) (by omega) (by omega)
    have hd := (stepE_day (m := m) (l := l) (n := n)).2 p hp
    have hpa := hg.aft p hpm
    have hst : (stepE m l n).Shop = wrt p ∧ ((stepE m l n).Kind = 2 ∨ (stepE m l n).Kind = 3 ∨ (stepE m l n).Kind = 4) ∧ ((stepE m l n).Kind = 3 ∨ (stepE m l n).Kind = 4 → (stepE m l n).After = p.After) ∧ ((stepE m l n).Kind = 4 → shopB m (stepE m l n).N = true)
        ∧ ((stepE m l n).Kind ≠ 4 → (stepE m l n).N = 0 ∨ (stepE m l n).Kind = 2 ∧ 0 < (stepE m l n).N ∧ (stepE m l n).N ≤ 1048576) ∧ (stepE m l n).After.length = 8 := by
      unfold stepE
      rw [hp]
      simp only []
      have l5 := drawN_lt n (drawN n (drawN n (drawN n (drawN n 0 m).1 9).1 20).1 4).1 8 (by omega)
      have l6 := drawN_lt n (drawN n (drawN n (drawN n (drawN n 0 m).1 9).1 20).1 4).1 m (by omega)
      by_cases c1 : (drawN n (drawN n (drawN n (drawN n 0 m).1 9).1 20).1 4).2 ≤ 1
      · rw [if_pos c1]
        refine ⟨rfl, Or.inl rfl, by simp, by simp, fun _ => ?_, rootT_len _⟩
        show ((drawN n _ 8).2 : Int) = 0 ∨ (2 : Int) = 2 ∧ 0 < ((drawN n _ 8).2 : Int) ∧ ((drawN n _ 8).2 : Int) ≤ 1048576
        omega
      · rw [if_neg c1]
        by_cases c2 : (drawN n (drawN n (drawN n (drawN n 0 m).1 9).1 20).1 4).2 = 2
        · rw [if_pos c2]
          exact ⟨rfl, Or.inr (Or.inl rfl), fun _ => rfl, by simp, fun _ => Or.inl rfl, hpa⟩
        · rw [if_neg c2]
          refine ⟨rfl, Or.inr (Or.inr rfl), fun _ => rfl, fun _ => ?_, by simp, hpa⟩
          rw [shopB_iff]
          show 0 ≤ ((drawN n _ m).2 : Int) ∧ ((drawN n _ m).2 : Int) < (m : Int)
          omega
    obtain ⟨s1, s2, s3, s4, s5, s6⟩ := hst
    refine ⟨_, h1, ?_⟩
    have hE : EW (signE (keyT (wrt p).toNat) (nextE l (stepE m l n))) := signE_wf (nextE_wf (by omega) hg.ew h2)
    have hday' : (signE (keyT (wrt p).toNat) (nextE l (stepE m l n))).Day = (stepE m l n).Day := by unfold signE nextE; cases l.getLast? <;> rfl
    have haft' : (signE (keyT (wrt p).toNat) (nextE l (stepE m l n))).After = (stepE m l n).After := by unfold signE nextE; cases l.getLast? <;> rfl
    refine ⟨?_, ?_, ?_, ?_⟩
    · intro e he
      rcases List.mem_append.1 he with he | he
      · exact hg.ew e he
      · rw [List.mem_singleton] at he; subst he; exact hE
    · rw [allR_app]
      refine ⟨hg.r, ?_, trivial⟩
      rw [Nat.zero_add, lastP_eq]
      refine grow (by rw [keysT_len, s1, shopB_iff]; omega) (key := keyT (wrt p).toNat) ?_ (keyT_ne _) (fun h => ?_) (fun q hq => ?_) (fun h => by rw [keysT_len]; exact s4 h) s5 ⟨by omega, by omega⟩ s6
      · rw [s1, keysT_get (by omega)]
      · rw [h] at hp; cases hp
      · rw [hp] at hq; cases hq
        exact ⟨s1, s2, hd.1, s3⟩
    · intro e he
      rw [List.length_append, List.length_singleton]
      rcases List.mem_append.1 he with he | he
      · have := hg.day e he; omega
      · rw [List.mem_singleton] at he; subst he
        rw [hday']; omega
    · intro e he
      rcases List.mem_append.1 he with he | he
      · exact hg.aft e he
      · rw [List.mem_singleton] at he; subst he
        rw [haft']; exact s6
end Go.Dgp
end
section
set_option linter.unusedVariables false
set_option linter.unusedSimpArgs false
namespace Go.Dgp
open Go Go.Lift Go.F
set_option maxRecDepth 1000000 in
theorem san_val : (c7_sanity).val = some true := Comp.val_run (n := 130) (by kernel_rfl)
end Go.Dgp
end
section
set_option linter.unusedVariables false
set_option linter.unusedSimpArgs false
namespace Go.Dgp
open Go Go.Lift Go.F
open Go.Dig hiding Bytes cat
structure CW (c : c7_Case) : Prop where
  l : ∀ x ∈ c.L, ∀ y ∈ x, I64 y
  s : 0 ≤ c.Shops ∧ c.Shops < 256
theorem lsts_wf {c : c7_Case} (h : CW c) : ∀ x ∈ lsts c.L, ∀ y ∈ x, I64 y := by
  intro x hx y hy
  unfold lsts at hx
  obtain ⟨z, hz, rfl⟩ := List.mem_map.1 hx
  exact h.l z (List.mem_of_mem_take hz) y (List.mem_of_mem_take hy)
theorem made_good {m : Nat} (hm : 1 ≤ m ∧ m ≤ 200) {L : List (List Int)} (hL : ∀ x ∈ L, ∀ y ∈ x, I64 y) (hlen : L.length ≤ 100) :
    ∃ l, (r7_Made (keysT m) L 8).val = some l ∧ Good m l ∧ l.length ≤ 8 := by
  have key : Ok (r7_Made (keysT m) L 8) (fun l => Good m l ∧ l.length ≤ 8) := by
    unfold r7_Made
    rw [Ok.bind]
    refine Ok.count (min L.length 8) (fun i s => Good m s.1 ∧ s.1.length = i ∧ s.2 = (i : Int)) ⟨Good.nil m, rfl, rfl⟩ ?_ ?_
    · rintro i ⟨l, j⟩ hi ⟨h1, h2, h3⟩
      simp only at h1 h2 h3
      subst h3
      simp only []
      unfold r7_Made_l2
      obtain ⟨e, he, hg⟩ := step_good hm h1 (by omega) (n := L[i]) (hL _ (List.getElem_mem _))
      rw [Ok.bind, Ok.pure, Ok.ite, if_pos (by rw [bif_and]; simp; omega), Ok.bind, Ok.idxn (List.getElem?_eq_getElem (by omega)), Ok.bind, Ok.of_val he, Ok.bind, Ok.app (by simp; unfold LIM; omega), Ok.pure]
      refine ⟨hg, by simp [h2], ?_⟩
      rw [Comp.wrap_succ (by omega)]
    · rintro ⟨l, j⟩ ⟨h1, h2, h3⟩
      simp only at h1 h2 h3
      subst h3
      simp only []
      unfold r7_Made_l2
      rw [Ok.bind, Ok.pure, Ok.ite, if_neg (by rw [bif_and]; simp; omega), Ok.pure]
      simp only []
      unfold r7_Made_j1
      rw [Ok.pure]
      exact ⟨h1, by omega⟩
  obtain ⟨l, h1, h2⟩ := key
  exact ⟨l, h1, h2⟩
theorem made_val {c : c7_Case} (h : CW c) : ∃ m l, 1 ≤ m ∧ m ≤ 3 ∧ (c7_Case_made c).val = some (keysT m, l) ∧ Good m l ∧ l.length ≤ 8 := by
  obtain ⟨h1, h2⟩ := h.s
  have e : IntKind.wrap .i64 (1 + Int.tmod (IntKind.wrap .i64 c.Shops) 3) = ((1 + (c.Shops.toNat % 3) : Nat) : Int) := by
    rw [wrapi (n := c.Shops) (by omega), Int.tmod_eq_emod_of_nonneg h1, wrapi (by omega)]; omega
  obtain ⟨l, hl, hg, hn⟩ := made_good (m := 1 + c.Shops.toNat % 3) (by omega) (lsts_wf h) (by have := lsts_len c.L; omega)
  refine ⟨1 + c.Shops.toNat % 3, l, by omega, by omega, ?_, hg, hn⟩
  unfold c7_Case_made
  rw [e, Comp.val_bind, keys_val (by omega), Option.bind_some, Comp.val_bind, lists_val, Option.bind_some, Comp.val_bind]
  show ((r7_Made (keysT _) _ 8).val.bind _) = _
  rw [hl, Option.bind_some, Comp.val_pure]; rfl
theorem KWk {m : Nat} (h : m ≤ 200) : KW (keysT m) := ⟨by rw [keysT_len]; omega, by
  intro x hx
  unfold keysT at hx
  obtain ⟨k, hk, rfl⟩ := List.mem_map.1 hx
  have := keyT_len (k := k) (by have := List.mem_range.1 hk; omega)
  omega⟩
structure EA (e : aEn) : Prop where
  seq : I64 e.Seq
  shop : I64 e.Shop
  kind : I64 e.Kind
  day : I64 e.Day
  n : I64 e.N
def shortE (e : aEn) : aEn := ⟨e.Seq, e.Shop, e.Kind, e.Day, e.N, e.Before.take 40, e.After.take 40, e.Prev.take 40, e.Mark.take 40⟩
theorem short_val (e : aEn) : (c7_short e).val = some (shortE e) := by
  unfold c7_short shortE
  have h := fun s : Bytes => sub0_val s 40
  rw [show ((40 : Nat) : Int) = 40 from rfl] at h
  rw [Comp.val_bind, h, Option.bind_some, Comp.val_bind, h, Option.bind_some, Comp.val_bind, h, Option.bind_some, Comp.val_bind, h, Option.bind_some, Comp.val_pure]
theorem short_wf {e : aEn} (h : EA e) : EW (shortE e) := by
  have t : ∀ s : Bytes, (s.take 40).length ≤ 68719476736 := fun s => Nat.le_trans (take_len s 40) (by decide)
  exact ⟨h.seq, h.shop, h.kind, h.day, h.n, t _, t _, t _, t _⟩
end Go.Dgp
end
section
set_option linter.unusedVariables false
set_option linter.unusedSimpArgs false
namespace Go.Lift
open Go Go.RowKit Go.Eng Go.ChangeShapes Go.WideShapes Go.ChangeAt Go.Joins Go.Deep Go.WideElems
variable {H : Type} {enc : TypeId × Value → H} {P : Program} {w : World} {base : Nat} {sp : Nat → Bool} {held : Bool} {α β γ : Type}
abbrev O0 : Tags := fun _ => 0
structure Opens (enc : TypeId × Value → H) (P : Program) (w : World) (base : Nat) (sp : Nat → Bool) (held : Bool) (t : Nat) (r : GR α) (Q : α → Prop) : Prop where
  size : P.cellsOf t = r.sz
  fits : r.fits
  op : ∀ fuel cs x, DataW.trod enc P w base sp held fuel t cs = some x → ∃ y, r.rel O0 w cs y ∧ Q y
theorem opens_int {t : Nat} {k : IntKind} (ht : P.underlying t = some (.int k)) (hs : P.cellsOf t = 1) : Opens enc P w base sp held t (rInt k) fun n => (Lit.int k n).wf = true :=
  ⟨hs, fun _ => rfl, fun fuel cs x h => by obtain ⟨n, h1, _, h2⟩ := DataW.trod_int ht h; exact ⟨n, h1, h2⟩⟩
theorem opens_str {t : Nat} (ht : P.underlying t = some .string) (hs : P.cellsOf t = 1) : Opens enc P w base sp held t rStr fun s => s.length ≤ maxLen :=
  ⟨hs, fun _ => rfl, fun fuel cs x h => by obtain ⟨s, h1, _, h2⟩ := DataW.trod_string ht h; exact ⟨bs s, by rw [h1]; show _ = [Value.string (str (bs s))]; rw [str_bs], by rw [← str_size, str_bs]; exact h2⟩⟩
theorem relL_of {r : GR α} {O : Tags} {Q : α → Prop} : ∀ {vs : List Value}, (∀ v ∈ vs, ∃ y, r.v O w v y ∧ Q y) → ∃ ys, RelL r O w vs ys ∧ ∀ y ∈ ys, Q y
  | [], _ => ⟨[], trivial, by simp⟩
  | v :: vs, h => by
      obtain ⟨y, h1, h2⟩ := h v (by simp)
      obtain ⟨ys, h3, h4⟩ := relL_of (vs := vs) fun u hu => h u (List.mem_cons_of_mem _ hu)
      exact ⟨y :: ys, ⟨h1, h3⟩, fun z hz => (List.mem_cons.1 hz).elim (fun e => by rw [e]; exact h2) (h4 z)⟩
theorem opens_slice {t e : Nat} {r : GR α} {Q : α → Prop} (ht : P.underlying t = some (.slice e)) (hs : P.cellsOf t = 1) (hE : Opens enc P w base sp held e r Q) (hpos : 0 < r.sz) : Opens enc P w base sp held t (rSl r) fun xs => (∀ x ∈ xs, Q x) ∧ xs.length ≤ maxLen := by
  refine ⟨hs, fun _ => rfl, fun fuel cs x h => ?_⟩
  rcases DataW.trod_slice ht h with ⟨rfl, _⟩ | ⟨a, len, cap, elems, rest, n, _, rfl, _, hb, hl, hm, hlen, hel, _, _⟩
  · exact ⟨[], ⟨_, [], rfl, ⟨none, 0, rfl, by simp, by simp, .inl rfl⟩, trivial, fun h => absurd rfl h⟩, by simp, by simp⟩
  · have each : ∀ i, i < len → ∃ cs, w.cells? base (a.add (i * r.sz)) r.sz = some cs ∧ ∃ y, r.rel O0 w cs y ∧ Q y := by
      intro i hi
      have := hel i hi
      rw [List.getElem?_eq_getElem (by omega), hE.size, Option.bind_eq_some_iff] at this
      obtain ⟨cs, h1, h2⟩ := this
      exact ⟨cs, h1, hE.op n cs _ h2⟩
    let f : Nat → Value := fun i => packV r.agg ((w.cells? base (a.add (i * r.sz)) r.sz).getD [])
    have hf : ∀ i, i < len → ∃ y, r.v O0 w (f i) y ∧ Q y := by
      intro i hi
      obtain ⟨cs, h1, y, h2, h3⟩ := each i hi
      exact ⟨y, ⟨cs, h2, by show packV r.agg ((w.cells? base (a.add (i * r.sz)) r.sz).getD []) = _; rw [h1]; rfl⟩, h3⟩
    have hfc : ∀ i, i < len → ∀ j, j < r.sz → w.cell? (a.add (i * r.sz + j)) = (f i).cells[j]? := by
      intro i hi j hj
      obtain ⟨cs, h1, y, h2, _⟩ := each i hi
      have h4 := (World.cells?_some h1).2.2 j hj
      have h5 : (f i).cells = cs.toArray := by
        show (packV r.agg ((w.cells? base (a.add (i * r.sz)) r.sz).getD [])).cells = _
        rw [h1]
        exact cells_pack (fun ha => by show cs.length = 1; rw [r.len h2, hE.fits ha]) (r.one h2)
      rw [h5, List.getElem?_toArray, ← h4]
      rw [_root_.Go.Addr.add_add]
    obtain ⟨ys, h1, h2⟩ := relL_of (r := r) (O := O0) (w := w) (Q := Q) (vs := (List.range len).map f) (by
      intro v hv
      obtain ⟨i, hi, rfl⟩ := List.mem_map.1 hv
      exact hf i (List.mem_range.1 hi))
    have hyl : ys.length = len := by have := h1.len; simpa using this.symm
    refine ⟨ys, ⟨_, (List.range len).map f, rfl, ⟨some a, cap, by simp, by simpa using hl, ?_, ?_⟩, h1, ?_⟩, h2, by omega⟩
    · intro v hv
      obtain ⟨y, hy⟩ : ∃ y, r.v O0 w v y := by
        obtain ⟨i, hi, rfl⟩ := List.mem_map.1 hv
        obtain ⟨y, hy, _⟩ := hf i (List.mem_range.1 hi); exact ⟨y, hy⟩
      exact r.cells_size hE.fits hy
    · by_cases h0 : len = 0
      · left; simp [h0]
      · right
        obtain ⟨b, off, spot⟩ := a
        have hc0 : (w.cell? (Addr.add ⟨b, off, spot⟩ (0 * r.sz + 0))).isSome = true := by
          rw [hfc 0 (by omega) 0 hpos]
          obtain ⟨y, hy, _⟩ := hf 0 (by omega)
          have := r.cells_size hE.fits hy
          rw [Array.getElem?_eq_getElem (by omega)]; rfl
        obtain ⟨v0, hv0⟩ := Option.isSome_iff_exists.1 hc0
        have hspot : spot = none := by simpa [Addr.add] using World.cell?_spot hv0
        subst hspot
        refine ⟨b, off, rfl, fun i x hx j hj => ?_⟩
        have hi : i < len := by have := (List.getElem?_eq_some_iff.1 hx).1; simpa using this
        have hx' : x = f i := by
          rw [List.getElem?_map, List.getElem?_range hi] at hx
          simpa using hx.symm
        rw [hx', ← hfc i hi j hj]
        unfold Addr.add
        split
        · rename_i h0; congr 1; simp [h0]
        · rfl
    · intro hne g hg
      have h0 : 0 < len := by
        rcases Nat.eq_zero_or_pos len with h0 | h0
        · subst h0; exact absurd rfl hne
        · exact h0
      have hgb : g = a.block := by
        have : (Value.slice (some a) len cap).ownBlock = some a.block := rfl
        rw [this] at hg; exact (Option.some.inj hg).symm
      subst hgb
      refine ⟨?_, rfl⟩
      obtain ⟨cs, h3, _⟩ := each 0 h0
      have h4 := (World.cells?_some h3)
      have h5 := h4.2.2 0 hpos
      rw [List.getElem?_eq_getElem (by omega)] at h5
      have he : (a.add (0 * r.sz)).add 0 = a := by simp [Addr.add]
      rw [he] at h5
      exact World.block_lt_of_cell? _ _ h5
theorem open_top {t : Nat} {r : GR α} {Q : α → Prop} {v : Value} {d : DataW H} {ps : List MemPlace} (hE : Opens enc P w base sp held t r Q) (hv : packV r.agg v.cells.toList = v) (h : DataW.Trod enc P w base sp held t v d ps) : ∃ x, r.v O0 w v x ∧ Q x := by
  obtain ⟨fuel, hf⟩ := h
  obtain ⟨y, h1, h2⟩ := hE.op fuel _ _ hf
  exact ⟨y, ⟨_, h1, hv.symm⟩, h2⟩
theorem okO_O0 : OkO O0 w := fun _ _ => rfl
end Go.Lift
end
section
set_option linter.unusedVariables false
set_option linter.unusedSimpArgs false
namespace Go.Lift
open Go Go.RowKit Go.Eng Go.ChangeShapes Go.WideShapes Go.ChangeAt Go.Joins Go.Deep Go.WideElems
variable {H : Type} {enc : TypeId × Value → H} {P : Program} {w : World} {base : Nat} {sp : Nat → Bool} {held : Bool} {α β γ : Type}
theorem chop (cs : List Value) (off s : Nat) : cs.drop off = (cs.drop off).take s ++ cs.drop (off + s) := by
  rw [← List.drop_drop, List.take_append_drop]
theorem Opens.at_ {t : Nat} {r : GR α} {Q : α → Prop} (hE : Opens enc P w base sp held t r Q) {off n : Nat} {cs : List Value} {y} (h : DataW.trod enc P w base sp held n t ((cs.drop off).take (P.cellsOf t)) = some y) : ∃ a, r.rel O0 w ((cs.drop off).take r.sz) a ∧ Q a := by
  rw [hE.size] at h; exact hE.op n _ _ h
theorem rows_of {f : α → List Value} {Q : α → Prop} {k : Nat} : ∀ (n : Nat) (cs : List Value), cs.length = n * k → (∀ i, i < n → ∃ y, (cs.drop (i * k)).take k = f y ∧ Q y) → ∃ ys : List α, ys.length = n ∧ cs = ys.flatMap f ∧ ∀ y ∈ ys, Q y
  | 0, cs, h, _ => ⟨[], rfl, by rw [Nat.zero_mul] at h; rw [List.eq_nil_of_length_eq_zero h]; rfl, by simp⟩
  | n + 1, cs, h, hh => by
    obtain ⟨y, h1, h2⟩ := hh 0 (by omega)
    rw [Nat.zero_mul, List.drop_zero] at h1
    obtain ⟨ys, h3, h4, h5⟩ := rows_of (f := f) (Q := Q) (k := k) n (cs.drop k) (by rw [List.length_drop, h, Nat.add_mul]; omega) (fun i hi => by
      obtain ⟨z, h6, h7⟩ := hh (i + 1) (by omega)
      exact ⟨z, by rw [List.drop_drop, ← h6, Nat.add_mul, Nat.one_mul, Nat.add_comm], h7⟩)
    refine ⟨y :: ys, by simp [h3], ?_, ?_⟩
    · rw [List.flatMap_cons, ← h1, ← h4, List.take_append_drop]
    · intro z hz
      rcases List.mem_cons.1 hz with rfl | hz
      · exact h2
      · exact h5 z hz
theorem opens_vec {t e n k : Nat} {agg : Bool} {f : α → List Value} {hl ho hl' ho'} {Q : α → Prop} (ht : P.underlying t = some (.array n e)) (hs : P.cellsOf t = n * k) (hE : Opens enc P w base sp held e (rC agg k f hl ho) Q) : Opens enc P w base sp held t (rVec n k f hl' ho') fun x => ∀ y ∈ x.toList, Q y := by
  refine ⟨hs, (fun h => by cases h), fun fuel cs x h => ?_⟩
  obtain ⟨xs, m, rfl, rfl, hlen, hxl, hel⟩ := DataW.trod_array ht h
  obtain ⟨ys, h1, h2, h3⟩ := rows_of (f := f) (Q := Q) (k := k) n cs (by rw [hlen, hs]) (fun i hi => by
    have := hel i hi
    rw [List.getElem?_eq_getElem (by omega)] at this
    have hc : P.cellsOf e = k := hE.size
    rw [hc] at this
    have h4 : (cs.drop (i * k)).take k = (cs.drop (i * k)).take (P.cellsOf e) := by rw [hc]
    rw [h4] at this
    obtain ⟨a, h5, h6⟩ := hE.at_ this
    exact ⟨a, h5, h6⟩)
  exact ⟨⟨ys.toArray, by simpa using h1⟩, h2, by simpa using h3⟩
theorem okWide_array {n e : Nat} {t : TypeId} {r : Reach} {b : Nat} {v : Value} (ht : P.underlying t = some (.array n e)) (h : Value.okWide P w r b t v) : ∃ cs, v = .agg cs ∧ cs.size = P.cellsOf t := by
  simp only [Value.okWide, ht] at h
  obtain ⟨cs, h1, h2, _⟩ := h
  exact ⟨cs, h1, h2⟩
theorem open_struct {t : Nat} {fs : Array Field} {r : GR α} {Q : α → Prop} {re : Reach} {b0 : Nat} {v : Value} {d : DataW H} {ps : List MemPlace} (ht : P.underlying t = some (.struct fs)) (hE : Opens enc P w base sp held t r Q) (ha : r.agg = true) (hval : Value.okWide P w re b0 t v) (h : DataW.Trod enc P w base sp held t v d ps) : ∃ x, r.v O0 w v x ∧ Q x := by
  obtain ⟨cs, rfl, _⟩ := okWide_struct ht hval
  exact open_top hE (by simp [Value.cells, packV, ha]) h
theorem open_array {t n e : Nat} {r : GR α} {Q : α → Prop} {re : Reach} {b0 : Nat} {v : Value} {d : DataW H} {ps : List MemPlace} (ht : P.underlying t = some (.array n e)) (hE : Opens enc P w base sp held t r Q) (ha : r.agg = true) (hval : Value.okWide P w re b0 t v) (h : DataW.Trod enc P w base sp held t v d ps) : ∃ x, r.v O0 w v x ∧ Q x := by
  obtain ⟨cs, rfl, _⟩ := okWide_array ht hval
  exact open_top hE (by simp [Value.cells, packV, ha]) h
theorem wf_i64 {n : Int} (h : (Lit.int .i64 n).wf = true) : -9223372036854775808 ≤ n ∧ n < 9223372036854775808 := by
  simp [Lit.wf, IntKind.min, IntKind.max, IntKind.signed, IntKind.bits] at h; omega
theorem wf_u8 {n : Int} (h : (Lit.int .u8 n).wf = true) : 0 ≤ n ∧ n < 256 := by
  simp [Lit.wf, IntKind.min, IntKind.max, IntKind.signed, IntKind.bits] at h; omega
end Go.Lift
end
section
set_option linter.unusedVariables false
namespace Go.Dgp
open Go Go.Lift Go.F
theorem cw_of {c : c7_Case} (h : ∀ y ∈ c.L, (∀ z ∈ y, (Lit.int .i64 z).wf = true) ∧ y.length ≤ maxLen) (k : (Lit.int .u8 c.Shops).wf = true) : CW c :=
  ⟨fun x hx y hy => wf_i64 ((h x hx).1 y hy), wf_u8 k⟩
theorem ea_of {e : aEn} (h0 : (Lit.int .i64 e.Seq).wf = true) (h1 : (Lit.int .i64 e.Shop).wf = true) (h2 : (Lit.int .i64 e.Kind).wf = true) (h3 : (Lit.int .i64 e.Day).wf = true) (h4 : (Lit.int .i64 e.N).wf = true) : EA e :=
  ⟨wf_i64 h0, wf_i64 h1, wf_i64 h2, wf_i64 h3, wf_i64 h4⟩
end Go.Dgp
end
section
set_option linter.unusedVariables false
set_option linter.unusedSimpArgs false
namespace Go.Dgp
open Go Go.Lift Go.F
open Go.Dig hiding Bytes cat
theorem wrap_I64 (x : Int) : I64 (IntKind.wrap .i64 x) := by
  unfold I64
  have e1 : (2 : Int) ^ 64 = 18446744073709551616 := by decide
  have e2 : (2 : Int) ^ (64 - 1) = 9223372036854775808 := by decide
  simp only [IntKind.wrap, IntKind.bits, IntKind.signed, Bool.true_and, decide_eq_true_iff, e1, e2]
  split <;> omega
theorem vec_at {α : Type} {n : Nat} (v : Vector α n) (i : Nat) (h : i < n) : ∃ y, (idx v.toList (i : Int)).val = some y ∧ y ∈ v.toList := by
  have hl : i < v.toList.length := by rw [Vector.length_toList]; exact h
  exact ⟨_, by rw [idxn, List.getElem?_eq_getElem hl], List.getElem_mem hl⟩
theorem odd_ok {e : aEn} (he : EW e) {q : Vector Int 2} (hq : ∀ y ∈ q.toList, I64 y) {s : Bytes} (hs : s.length ≤ 1000) : ∃ o, (r7_Odd e q s).val = some o ∧ EW o := by
  obtain ⟨q1, v1, m1⟩ := vec_at q 1 (by omega)
  obtain ⟨q0, v0, m0⟩ := vec_at q 0 (by omega)
  rw [show ((1 : Nat) : Int) = 1 from rfl] at v1
  rw [show ((0 : Nat) : Int) = 0 from rfl] at v0
  have r1 := Int.emod_nonneg q1 (by omega : (11 : Int) ≠ 0)
  have r2 := Int.emod_lt_of_pos q1 (by omega : (0 : Int) < 11)
  have hL : ∀ x ∈ [q1, 0, 1, 2, 3, 4, 5, (-1), 100000, 100001, (IntKind.wrap .i64 (e.Day - 1))], I64 x := by
    intro x hx
    simp only [List.mem_cons, List.not_mem_nil, or_false] at hx
    rcases hx with rfl | rfl | rfl | rfl | rfl | rfl | rfl | rfl | rfl | rfl | rfl
    · exact hq _ m1
    all_goals first | (unfold I64; omega) | exact wrap_I64 _
  obtain ⟨n, hn, hnm⟩ : ∃ n, (idx [q1, 0, 1, 2, 3, 4, 5, (-1), 100000, 100001, (IntKind.wrap .i64 (e.Day - 1))] (q1 % 11)).val = some n ∧ I64 n := by
    have hlt : (q1 % 11).toNat < [q1, 0, 1, 2, 3, 4, 5, (-1), 100000, 100001, (IntKind.wrap .i64 (e.Day - 1))].length := by simp; omega
    exact ⟨_, idx_val' r1 (List.getElem?_eq_getElem hlt), hL _ (List.getElem_mem hlt)⟩
  have key : Ok (r7_Odd e q s) EW := by
    unfold r7_Odd r7_Odd_j1
    rw [Ok.bind, Ok.of_val v1, Ok.bind, Ok.of_val v1, Ok.bind, Ok.of_val (mod_val (hq _ m1) (by omega)), Ok.bind, Ok.of_val hn, Ok.bind, Ok.of_val v0, Ok.bind, Ok.of_val (mod_val (hq _ m0) (by omega))]
    refine Ok.ite_i (fun _ => Ok.pure.2 ⟨hnm, he.shop, he.kind, he.day, he.n, he.before, he.after, he.prev, he.mark⟩) fun _ => ?_
    refine Ok.ite_i (fun _ => Ok.pure.2 ⟨he.seq, hnm, he.kind, he.day, he.n, he.before, he.after, he.prev, he.mark⟩) fun _ => ?_
    refine Ok.ite_i (fun _ => Ok.pure.2 ⟨he.seq, he.shop, hnm, he.day, he.n, he.before, he.after, he.prev, he.mark⟩) fun _ => ?_
    refine Ok.ite_i (fun _ => Ok.pure.2 ⟨he.seq, he.shop, he.kind, hnm, he.n, he.before, he.after, he.prev, he.mark⟩) fun _ => ?_
    refine Ok.ite_i (fun _ => Ok.pure.2 ⟨he.seq, he.shop, he.kind, he.day, hnm, he.before, he.after, he.prev, he.mark⟩) fun _ => ?_
    have hs' : s.length ≤ 68719476736 := by omega
    refine Ok.ite_i (fun _ => Ok.pure.2 ⟨he.seq, he.shop, he.kind, he.day, he.n, hs', he.after, he.prev, he.mark⟩) fun _ => ?_
    refine Ok.ite_i (fun _ => Ok.pure.2 ⟨he.seq, he.shop, he.kind, he.day, he.n, he.before, hs', he.prev, he.mark⟩) fun _ => ?_
    refine Ok.ite_i (fun _ => Ok.pure.2 ⟨he.seq, he.shop, he.kind, he.day, he.n, he.before, he.after, hs', he.mark⟩) fun _ => ?_
    refine Ok.ite_i (fun _ => Ok.pure.2 ⟨he.seq, he.shop, he.kind, he.day, he.n, he.before, he.after, he.prev, hs'⟩) fun _ => ?_
    exact Ok.pure.2 he
  exact key
theorem checks_l5 {keys : List Bytes} (hk : KW keys) {ks : List Bytes} {l odd x : List aEn} (hl : ∀ e ∈ l, EW e) (ho : ∀ e ∈ odd, EW e) (hx : ∀ e ∈ x, EW e) (hxl : x.length ≤ 1000) :
    Ok (Comp.loop (fun s => c7_PassportChecks_l5 (ks, l) odd keys x s) 0) (fun e => e = .inr ()) := by
  refine Ok.count 2 (fun i (s : Int) => s = (i : Int)) rfl ?_ ?_
  · rintro i s hi rfl
    obtain ⟨y, hy, hyw⟩ : ∃ y, [l, odd][i]? = some y ∧ ∀ e ∈ y, EW e := by
      obtain rfl | rfl : i = 0 ∨ i = 1 := by omega
      · exact ⟨l, rfl, hl⟩
      · exact ⟨odd, rfl, ho⟩
    unfold c7_PassportChecks_l5
    rw [Ok.bind, Ok.pure, Ok.ite, if_pos (by simp; omega), Ok.bind, Ok.idxn hy, Ok.bind, Ok.of_val (pFork_val hk hxl hx hyw), Ok.bind, Ok.of_val (rFork_val hk hxl hx hyw), Ok.bind, Ok.pure, Ok.ite, if_neg (by simp), Ok.pure]
    exact Comp.wrap_succ (by omega)
  · rintro s rfl
    unfold c7_PassportChecks_l5
    rw [Ok.bind, Ok.pure, Ok.ite, if_neg (by simp), Ok.pure]
theorem zero_wf : EW (aEn.mk 0 0 0 0 0 [] [] [] []) := by
  have h : I64 0 := by unfold I64; omega
  exact ⟨h, h, h, h, h, by simp, by simp, by simp, by simp⟩
theorem checks_j2 {keys : List Bytes} (hk : KW keys) {ks : List Bytes} {l odd : List aEn} (hl : ∀ e ∈ l, EW e) (ho : ∀ e ∈ odd, EW e) (hll : l.length ≤ 8) (hol : odd.length ≤ 8) {raw : aEn} (hr : EA raw) :
    Ok (c7_PassportChecks_j2 (ks, l) raw keys true odd) (fun b => b = true) := by
  have hw := short_wf hr
  have hL : LIM = 1073741824 := rfl
  unfold c7_PassportChecks_j2
  have hwr : IntKind.wrap .i64 (60 + (l.length : Int)) = ((60 + l.length : Nat) : Int) := by rw [wrapi (by omega)]; omega
  rw [Ok.bind, Ok.app (by simp; omega), Ok.bind, Ok.of_val (short_val raw), Ok.bind, Ok.app (by simp; omega), Ok.bind, Ok.of_val (short_val raw), Ok.bind, hwr, Ok.mk (by omega), Ok.bind, Ok.pure, Ok.bind]
  refine Ok.mono (P := fun e => e = .inr ()) ?_ (fun e he => by subst he; unfold c7_PassportChecks_j3; exact Ok.pure.2 rfl)
  refine Ok.count 5 (fun i (s : Int) => s = (i : Int)) rfl ?_ ?_
  · rintro i s hi rfl
    obtain ⟨x, hx, hxw, hxl⟩ : ∃ x, [l, odd, [] ++ l ++ [shortE raw], [shortE raw], List.replicate ((60 + l.length : Nat) : Int).toNat (aEn.mk 0 0 0 0 0 [] [] [] [])][i]? = some x ∧ (∀ e ∈ x, EW e) ∧ x.length ≤ 1000 := by
      obtain rfl | rfl | rfl | rfl | rfl : i = 0 ∨ i = 1 ∨ i = 2 ∨ i = 3 ∨ i = 4 := by omega
      · exact ⟨l, rfl, hl, by omega⟩
      · exact ⟨odd, rfl, ho, by omega⟩
      · refine ⟨_, rfl, fun e he => ?_, by simp; omega⟩
        rcases List.mem_append.1 he with h | h
        · exact hl e (by simpa using h)
        · rw [List.mem_singleton] at h; subst h; exact hw
      · refine ⟨_, rfl, fun e he => ?_, by simp⟩
        rw [List.mem_singleton] at he; subst he; exact hw
      · refine ⟨_, rfl, fun e he => ?_, by simp; omega⟩
        rw [List.eq_of_mem_replicate he]; exact zero_wf
    unfold c7_PassportChecks_l4
    rw [Ok.ite, if_pos (by simp; omega), Ok.bind, Ok.idxn hx, Ok.bind, Ok.of_val (pCheck_val hk hxl hxw), Ok.bind, Ok.of_val (rCheck2_val hk hxl hxw), Ok.ite, if_neg (by simp), Ok.bind]
    refine Ok.mono (checks_l5 hk hl ho hxw hxl) (fun e he => ?_)
    subst he
    simp only []
    rw [Ok.pure]
    exact Comp.wrap_succ (by omega)
  · rintro s rfl
    unfold c7_PassportChecks_l4
    rw [Ok.ite, if_neg (by simp), Ok.pure]
theorem set_ew {l : List aEn} (hl : ∀ e ∈ l, EW e) {i : Nat} {x : aEn} (hx : EW x) : ∀ e ∈ l.set i x, EW e := by
  intro e he
  rcases List.mem_or_eq_of_mem_set he with h | h
  · exact hl e h
  · rw [h]; exact hx
theorem checks_j1 {keys : List Bytes} (hk : KW keys) {ks : List Bytes} {l : List aEn} (hl : ∀ e ∈ l, EW e) (hll : l.length ≤ 8) {a q : Vector Int 2} (ha : ∀ y ∈ a.toList, 0 ≤ y ∧ y < 256) (hq : ∀ y ∈ q.toList, I64 y) {s : Bytes} {sg : Bool} {raw : aEn} (hr : EA raw) :
    Ok (c7_PassportChecks_j1 (ks, l) a s q sg raw true keys) (fun b => b = true) := by
  have hL : LIM = 1073741824 := rfl
  unfold c7_PassportChecks_j1
  dsimp only
  rw [Ok.bind, Ok.app (by simp; omega), List.nil_append]
  refine Ok.ite_i (fun hpos => ?_) (fun _ => checks_j2 hk hl hl hll hll hr)
  rw [decide_eq_true_iff] at hpos
  replace hpos : 0 < l.length := by
    have : (0 : Int) < (l.length : Int) := hpos
    omega
  obtain ⟨a0, v0, m0⟩ := vec_at a 0 (by omega)
  rw [show ((0 : Nat) : Int) = 0 from rfl] at v0
  have ha0 := ha a0 m0
  have hrem : Int.tmod (IntKind.wrap .i64 a0) (l.length : Int) = ((a0.toNat % l.length : Nat) : Int) := by
    rw [wrapi (by omega), Int.tmod_eq_emod_of_nonneg ha0.1, Int.natCast_emod, Int.toNat_of_nonneg ha0.1]
  have hlt : a0.toNat % l.length < l.length := Nat.mod_lt _ hpos
  generalize a0.toNat % l.length = k at hrem hlt
  have hg : l[k]? = some l[k] := List.getElem?_eq_getElem hlt
  have h12 := sub0_val s 12
  rw [show ((12 : Nat) : Int) = 12 from rfl] at h12
  obtain ⟨o, ho, how⟩ := odd_ok (hl _ (List.getElem_mem hlt)) hq (s := s.take 12) (by have := take_len s 12; omega)
  have hgo : (l.set k o)[k]? = some o := by rw [List.getElem?_set_self hlt]
  have hset := set_ew hl (i := k) how
  rw [Ok.bind, Ok.of_val v0, Ok.bind, Ok.rem (by show ((l.length : Int)) ≠ 0; omega)]
  show Ok _ _
  rw [hrem, Ok.bind, Ok.idxn hg, Ok.bind, Ok.of_val h12, Ok.bind, Ok.of_val ho, Ok.bind, Ok.idxn hg, Ok.bind, Ok.upd (by omega), Int.toNat_natCast, Ok.bind]
  refine Ok.gd_i (fun _ => (Ok.idxn hgo).2 ?_) (fun hs => ?_)
  · rw [Ok.bind]
    refine Ok.gd_i (fun _ => (Ok.idxn hgo).2 ?_) (fun hs => ?_)
    · rw [Ok.bind, Ok.pure]
      refine Ok.ite_i (fun hc => ?_) (fun _ => checks_j2 hk hl hset hll (by rw [List.length_set]; exact hll) hr)
      have hsh : shopB keys.length o.Shop = true := by
        rw [bif_and, bif_and] at hc
        rw [shopB_iff]
        simp at hc
        omega
      obtain ⟨key, hkg, hkm, hkv⟩ := key_of hsh
      have hkl := hk.each key hkm
      rw [Ok.bind, Ok.idxn hgo, Ok.bind, Ok.of_val hkv, Ok.bind, Ok.idxn hgo, Ok.bind, Ok.of_val (rSign_val (by omega) how), Ok.bind, Ok.idxn hgo, Ok.bind, Ok.upd (by rw [List.length_set]; omega), Int.toNat_natCast]
      exact checks_j2 hk hl (set_ew hset (signE_wf how)) hll (by rw [List.length_set, List.length_set]; exact hll) hr
    · rw [Ok.bind, Ok.pure]
      refine Ok.ite_i (fun hc => ?_) (fun _ => checks_j2 hk hl hset hll (by rw [List.length_set]; exact hll) hr)
      exfalso
      rw [bif_and, bif_and] at hc
      rw [bif_and] at hs
      simp at hc hs
      have := hs hc.1.1
      omega
  · rw [Ok.bind]
    have hsg : sg = false := by simpa using hs
    subst hsg
    refine Ok.gd_i (fun h => ?_) (fun _ => ?_)
    · simp at h
    · rw [Ok.bind, Ok.pure]
      exact Ok.ite_i (fun hc => by simp at hc) (fun _ => checks_j2 hk hl hset hll (by rw [List.length_set]; exact hll) hr)
theorem law_PassportChecks {c : c7_Case} {a q : Vector Int 2} {s : Bytes} {sg : Bool} {raw : aEn} (hc : CW c) (ha : ∀ y ∈ a.toList, 0 ≤ y ∧ y < 256) (hq : ∀ y ∈ q.toList, I64 y) (hr : EA raw) : (c7_PassportChecks c a q s sg raw).val = some true := by
  obtain ⟨m, l, hm1, hm2, hv, hg, hl⟩ := made_val hc
  refine Ok.tt ?_
  obtain ⟨a1, v1, m1⟩ := vec_at a 1 (by omega)
  rw [show ((1 : Nat) : Int) = 1 from rfl] at v1
  have ha1 := ha a1 m1
  unfold c7_PassportChecks
  rw [Ok.bind, Ok.of_val san_val, Ok.bind, Ok.of_val hv, Ok.bind, Ok.of_val v1]
  refine Ok.ite_i (fun _ => ?_) (fun _ => checks_j1 (KWk (by omega)) hg.ew hl ha hq hr)
  have he : Int.tmod (IntKind.wrap .i64 (IntKind.wrap .u8 (Int.tdiv a1 2))) 8 = ((a1.toNat / 2 % 8 : Nat) : Int) := by
    rw [Int.tdiv_eq_ediv_of_nonneg ha1.1, show IntKind.wrap .u8 (a1 / 2) = a1 / 2 by simp only [IntKind.wrap, IntKind.bits, IntKind.signed]; simp; omega, wrapi (by omega), Int.tmod_eq_emod_of_nonneg (by omega)]; omega
  rw [Ok.bind, Ok.of_val v1, Ok.bind, he, Ok.of_val (keys_val (by omega))]
  exact checks_j1 (keys := keysT _) (KWk (by omega)) hg.ew hl ha hq hr
end Go.Dgp
end
section
namespace Go.Proofs.Ytkbipbfncbopnaa.passportChecksDone
open Go Go.ChangeShapes Go.WideShapes Go.ChangeAt Go.RowKit Go.Eng Go.Lift Go.Joins Go.F
open Go.ChangeMaps (open_string shut_string)
open Go.Proofs.Ytkbipbfncbopnaa
set_option linter.unusedVariables false
set_option linter.unusedSimpArgs false
theorem op_3 {H : Type} {enc : TypeId × Value → H} {w : World} {base : Nat} {sp : Nat → Bool} {held : Bool} : Opens enc Try.prog w base sp held 3 (rInt .i64) (fun z => (Lit.int .i64 z).wf = true) := opens_int Try.underlying3 (by kernel_rfl)
theorem op_58 {H : Type} {enc : TypeId × Value → H} {w : World} {base : Nat} {sp : Nat → Bool} {held : Bool} : Opens enc Try.prog w base sp held 58 (rSl (rInt .i64)) (fun z => (∀ y ∈ z, (fun z => (Lit.int .i64 z).wf = true) y) ∧ z.length ≤ maxLen) := opens_slice Try.underlying58 (by kernel_rfl) op_3 (by decide)
theorem op_22 {H : Type} {enc : TypeId × Value → H} {w : World} {base : Nat} {sp : Nat → Bool} {held : Bool} : Opens enc Try.prog w base sp held 22 (rSl (rSl (rInt .i64))) (fun z => (∀ y ∈ z, (fun z => (∀ y ∈ z, (fun z => (Lit.int .i64 z).wf = true) y) ∧ z.length ≤ maxLen) y) ∧ z.length ≤ maxLen) := opens_slice Try.underlying22 (by kernel_rfl) op_58 (by decide)
theorem op_5 {H : Type} {enc : TypeId × Value → H} {w : World} {base : Nat} {sp : Nat → Bool} {held : Bool} : Opens enc Try.prog w base sp held 5 (rInt .u8) (fun z => (Lit.int .u8 z).wf = true) := opens_int Try.underlying5 (by kernel_rfl)
def Q_c7_Case (x : c7_Case) : Prop := ((∀ y ∈ x.L, (fun z => (∀ y ∈ z, (fun z => (Lit.int .i64 z).wf = true) y) ∧ z.length ≤ maxLen) y) ∧ x.L.length ≤ maxLen) ∧ ((Lit.int .u8 x.Shops).wf = true) ∧ True
theorem op_24 {H : Type} {enc : TypeId × Value → H} {w : World} {base : Nat} {sp : Nat → Bool} {held : Bool} : Opens enc Try.prog w base sp held 24 r_c7_Case Q_c7_Case := by
  refine ⟨by kernel_rfl, fit_c7_Case, fun fuel cs x h => ?_⟩
  obtain ⟨xs, n, rfl, rfl, hl, hlen, hf⟩ := DataW.trod_struct Try.underlying24 h
  have hl' : cs.length = 2 := hl.trans (by kernel_rfl)
  obtain ⟨y0, hy0⟩ : ∃ y, xs[0]? = some y := ⟨_, List.getElem?_eq_getElem (by rw [hlen]; decide)⟩
  obtain ⟨a0, k0, q0⟩ := Opens.at_ (off := 0) (n := n) (cs := cs) (op_22 (enc := enc) (w := w) (base := base) (sp := sp) (held := held)) ((hf 0 _ rfl).trans hy0)
  obtain ⟨y1, hy1⟩ : ∃ y, xs[1]? = some y := ⟨_, List.getElem?_eq_getElem (by rw [hlen]; decide)⟩
  obtain ⟨a1, k1, q1⟩ := Opens.at_ (off := 1) (n := n) (cs := cs) (op_5 (enc := enc) (w := w) (base := base) (sp := sp) (held := held)) ((hf 1 _ rfl).trans hy1)
  exact ⟨⟨a0, a1⟩, ⟨_, _, chop cs 0 1, k0, ⟨_, _, chop cs 1 1, k1, List.drop_of_length_le (by rw [hl']; decide)⟩⟩, ⟨q0, q1, trivial⟩⟩
theorem op_37 {H : Type} {enc : TypeId × Value → H} {w : World} {base : Nat} {sp : Nat → Bool} {held : Bool} : Opens enc Try.prog w base sp held 37 (rVec 2 1 (fun x => [.int .u8 x]) (fun _ => rfl) (fun _ => by simp [Value.oneCell'])) (fun z => ∀ y ∈ z.toList, (fun z => (Lit.int .u8 z).wf = true) y) := opens_vec Try.underlying37 (by kernel_rfl) op_5
theorem op_38 {H : Type} {enc : TypeId × Value → H} {w : World} {base : Nat} {sp : Nat → Bool} {held : Bool} : Opens enc Try.prog w base sp held 38 (rVec 2 1 (fun x => [.int .i64 x]) (fun _ => rfl) (fun _ => by simp [Value.oneCell'])) (fun z => ∀ y ∈ z.toList, (fun z => (Lit.int .i64 z).wf = true) y) := opens_vec Try.underlying38 (by kernel_rfl) op_3
theorem op_9 {H : Type} {enc : TypeId × Value → H} {w : World} {base : Nat} {sp : Nat → Bool} {held : Bool} : Opens enc Try.prog w base sp held 9 rStr (fun z => z.length ≤ maxLen) := opens_str Try.underlying9 (by kernel_rfl)
def Q_aEn (x : aEn) : Prop := ((Lit.int .i64 x.Seq).wf = true) ∧ ((Lit.int .i64 x.Shop).wf = true) ∧ ((Lit.int .i64 x.Kind).wf = true) ∧ ((Lit.int .i64 x.Day).wf = true) ∧ ((Lit.int .i64 x.N).wf = true) ∧ (x.Before.length ≤ maxLen) ∧ (x.After.length ≤ maxLen) ∧ (x.Prev.length ≤ maxLen) ∧ (x.Mark.length ≤ maxLen) ∧ True
theorem op_26 {H : Type} {enc : TypeId × Value → H} {w : World} {base : Nat} {sp : Nat → Bool} {held : Bool} : Opens enc Try.prog w base sp held 26 r_aEn Q_aEn := by
  refine ⟨by kernel_rfl, fit_aEn, fun fuel cs x h => ?_⟩
  obtain ⟨xs, n, rfl, rfl, hl, hlen, hf⟩ := DataW.trod_struct Try.underlying26 h
  have hl' : cs.length = 9 := hl.trans (by kernel_rfl)
  obtain ⟨y0, hy0⟩ : ∃ y, xs[0]? = some y := ⟨_, List.getElem?_eq_getElem (by rw [hlen]; decide)⟩
  obtain ⟨a0, k0, q0⟩ := Opens.at_ (off := 0) (n := n) (cs := cs) (op_3 (enc := enc) (w := w) (base := base) (sp := sp) (held := held)) ((hf 0 _ rfl).trans hy0)
  obtain ⟨y1, hy1⟩ : ∃ y, xs[1]? = some y := ⟨_, List.getElem?_eq_getElem (by rw [hlen]; decide)⟩
  obtain ⟨a1, k1, q1⟩ := Opens.at_ (off := 1) (n := n) (cs := cs) (op_3 (enc := enc) (w := w) (base := base) (sp := sp) (held := held)) ((hf 1 _ rfl).trans hy1)
  obtain ⟨y2, hy2⟩ : ∃ y, xs[2]? = some y := ⟨_, List.getElem?_eq_getElem (by rw [hlen]; decide)⟩
  obtain ⟨a2, k2, q2⟩ := Opens.at_ (off := 2) (n := n) (cs := cs) (op_3 (enc := enc) (w := w) (base := base) (sp := sp) (held := held)) ((hf 2 _ rfl).trans hy2)
  obtain ⟨y3, hy3⟩ : ∃ y, xs[3]? = some y := ⟨_, List.getElem?_eq_getElem (by rw [hlen]; decide)⟩
  obtain ⟨a3, k3, q3⟩ := Opens.at_ (off := 3) (n := n) (cs := cs) (op_3 (enc := enc) (w := w) (base := base) (sp := sp) (held := held)) ((hf 3 _ rfl).trans hy3)
  obtain ⟨y4, hy4⟩ : ∃ y, xs[4]? = some y := ⟨_, List.getElem?_eq_getElem (by rw [hlen]; decide)⟩
  obtain ⟨a4, k4, q4⟩ := Opens.at_ (off := 4) (n := n) (cs := cs) (op_3 (enc := enc) (w := w) (base := base) (sp := sp) (held := held)) ((hf 4 _ rfl).trans hy4)
  obtain ⟨y5, hy5⟩ : ∃ y, xs[5]? = some y := ⟨_, List.getElem?_eq_getElem (by rw [hlen]; decide)⟩
  obtain ⟨a5, k5, q5⟩ := Opens.at_ (off := 5) (n := n) (cs := cs) (op_9 (enc := enc) (w := w) (base := base) (sp := sp) (held := held)) ((hf 5 _ rfl).trans hy5)
  obtain ⟨y6, hy6⟩ : ∃ y, xs[6]? = some y := ⟨_, List.getElem?_eq_getElem (by rw [hlen]; decide)⟩
  obtain ⟨a6, k6, q6⟩ := Opens.at_ (off := 6) (n := n) (cs := cs) (op_9 (enc := enc) (w := w) (base := base) (sp := sp) (held := held)) ((hf 6 _ rfl).trans hy6)
  obtain ⟨y7, hy7⟩ : ∃ y, xs[7]? = some y := ⟨_, List.getElem?_eq_getElem (by rw [hlen]; decide)⟩
  obtain ⟨a7, k7, q7⟩ := Opens.at_ (off := 7) (n := n) (cs := cs) (op_9 (enc := enc) (w := w) (base := base) (sp := sp) (held := held)) ((hf 7 _ rfl).trans hy7)
  obtain ⟨y8, hy8⟩ : ∃ y, xs[8]? = some y := ⟨_, List.getElem?_eq_getElem (by rw [hlen]; decide)⟩
  obtain ⟨a8, k8, q8⟩ := Opens.at_ (off := 8) (n := n) (cs := cs) (op_9 (enc := enc) (w := w) (base := base) (sp := sp) (held := held)) ((hf 8 _ rfl).trans hy8)
  have e : cs = (cs.drop 0).take 1 ++ ((cs.drop 1).take 1 ++ ((cs.drop 2).take 1 ++ ((cs.drop 3).take 1 ++ ((cs.drop 4).take 1 ++ ((cs.drop 5).take 1 ++ ((cs.drop 6).take 1 ++ ((cs.drop 7).take 1 ++ ((cs.drop 8).take 1 ++ ([]))))))))) := ((chop cs 0 1).trans (congrArg ((cs.drop 0).take 1 ++ ·) ((chop cs 1 1).trans (congrArg ((cs.drop 1).take 1 ++ ·) ((chop cs 2 1).trans (congrArg ((cs.drop 2).take 1 ++ ·) ((chop cs 3 1).trans (congrArg ((cs.drop 3).take 1 ++ ·) ((chop cs 4 1).trans (congrArg ((cs.drop 4).take 1 ++ ·) ((chop cs 5 1).trans (congrArg ((cs.drop 5).take 1 ++ ·) ((chop cs 6 1).trans (congrArg ((cs.drop 6).take 1 ++ ·) ((chop cs 7 1).trans (congrArg ((cs.drop 7).take 1 ++ ·) ((chop cs 8 1).trans (congrArg ((cs.drop 8).take 1 ++ ·) (List.drop_of_length_le (by rw [hl']; decide))))))))))))))))))))
  have k0' : (cs.drop 0).take 1 = [.int .i64 a0] := k0
  have k1' : (cs.drop 1).take 1 = [.int .i64 a1] := k1
  have k2' : (cs.drop 2).take 1 = [.int .i64 a2] := k2
  have k3' : (cs.drop 3).take 1 = [.int .i64 a3] := k3
  have k4' : (cs.drop 4).take 1 = [.int .i64 a4] := k4
  have k5' : (cs.drop 5).take 1 = [.string (str a5)] := k5
  have k6' : (cs.drop 6).take 1 = [.string (str a6)] := k6
  have k7' : (cs.drop 7).take 1 = [.string (str a7)] := k7
  have k8' : (cs.drop 8).take 1 = [.string (str a8)] := k8
  refine ⟨⟨a0, a1, a2, a3, a4, a5, a6, a7, a8⟩, ?_, ⟨q0, q1, q2, q3, q4, q5, q6, q7, q8, trivial⟩⟩
  show cs = [.int .i64 a0, .int .i64 a1, .int .i64 a2, .int .i64 a3, .int .i64 a4, .string (str a5), .string (str a6), .string (str a7), .string (str a8)]
  rw [e, k0', k1', k2', k3', k4', k5', k6', k7', k8']
  first | done | rfl | simp
theorem own : ownKnob Try.prog.godebug = none := by kernel_rfl
theorem laidOut : laidOutB Try.prog = true := by kernel_rfl
set_option maxRecDepth 100000 in
theorem lifted (os : Os) (started : os.Started) (H : Type) (enc : TypeId × Value → H) :
    ReturnsInHanded {} Try.checked os 4 .any (Rows.passportChecksSpec.pre6 enc Try.prog Try.f4 Rows.passportChecksRow.domain false) (Rows.passportChecksSpec.post enc Try.prog Try.f4 false true false false) := by
  refine returnsInHanded_of_change (C := Try.checked) own started (by kernel_rfl) Try.func4
    (ChangeSpec.witness6 (enc := enc) (C := Try.checked) false ⟨#[], #[.agg #[.slice none 0 0, .int .u8 0], .agg #[.int .u8 0, .int .u8 0], .agg #[.int .i64 0, .int .i64 0], .string ⟨#[]⟩, .bool false, .agg #[.int .i64 0, .int .i64 0, .int .i64 0, .int .i64 0, .int .i64 0, .string ⟨#[]⟩, .string ⟨#[]⟩, .string ⟨#[]⟩, .string ⟨#[]⟩]], []⟩ 8 (by kernel_rfl) (by kernel_rfl) (by kernel_rfl) (by kernel_rfl)) ?_
  intro W base args ds gs before hval0 hW hcnd _
  have hval : ∀ (j : Nat) t v, Try.f4.params[j]? = some t → args[j]? = some v → Value.okWide Try.prog W .any base t v := hval0
  have hW' := hW
  obtain ⟨p, q, hA0, hV, rfl, hfz, hnd⟩ := hW
  have hA : DataW.TrodAll enc Try.prog W 0 (fun _ => true) true Try.f4.params.toList args.toList ds p := hA0
  rw [Try.params4] at hA hval
  obtain ⟨v0, vs0, d0, ds0, p0, q0_, hargs, rfl, rfl, h0, r0⟩ := trodAll_cons hA
  obtain ⟨v1, vs1, d1, ds1, p1, q1_, rfl, rfl, rfl, h1, r1⟩ := trodAll_cons r0
  obtain ⟨v2, vs2, d2, ds2, p2, q2_, rfl, rfl, rfl, h2, r2⟩ := trodAll_cons r1
  obtain ⟨v3, vs3, d3, ds3, p3, q3_, rfl, rfl, rfl, h3, r3⟩ := trodAll_cons r2
  obtain ⟨v4, vs4, d4, ds4, p4, q4_, rfl, rfl, rfl, h4, r4⟩ := trodAll_cons r3
  obtain ⟨v5, vs5, d5, ds5, p5, q5_, rfl, rfl, rfl, h5, r5⟩ := trodAll_cons r4
  obtain ⟨rfl, rfl, rfl⟩ := trodAll_nil r5
  obtain rfl : args = #[v0, v1, v2, v3, v4, v5] := by cases args; simp_all
  obtain ⟨rfl, rfl⟩ := trodVars_none hV
  have k0 := h0
  have lt0 : ∀ x ∈ p0, x.block < W.heap.size := by obtain ⟨m, hm⟩ := k0; exact DataW.trod_lt m _ _ _ hm
  have k1 := h1
  have lt1 : ∀ x ∈ p1, x.block < W.heap.size := by obtain ⟨m, hm⟩ := k1; exact DataW.trod_lt m _ _ _ hm
  have k2 := h2
  have lt2 : ∀ x ∈ p2, x.block < W.heap.size := by obtain ⟨m, hm⟩ := k2; exact DataW.trod_lt m _ _ _ hm
  have k3 := h3
  have lt3 : ∀ x ∈ p3, x.block < W.heap.size := by obtain ⟨m, hm⟩ := k3; exact DataW.trod_lt m _ _ _ hm
  have k4 := h4
  have lt4 : ∀ x ∈ p4, x.block < W.heap.size := by obtain ⟨m, hm⟩ := k4; exact DataW.trod_lt m _ _ _ hm
  have k5 := h5
  have lt5 : ∀ x ∈ p5, x.block < W.heap.size := by obtain ⟨m, hm⟩ := k5; exact DataW.trod_lt m _ _ _ hm
  obtain ⟨x0, hr0, q0⟩ := open_struct Try.underlying24 op_24 rfl (hval 0 24 v0 rfl rfl) h0
  obtain ⟨x1, hr1, q1⟩ := open_array Try.underlying37 op_37 rfl (hval 1 37 v1 rfl rfl) h1
  have e1 : v1 = .agg (cellsA (fun x => [.int .u8 x]) x1).toArray := rC_v.1 hr1
  obtain ⟨x2, hr2, q2⟩ := open_array Try.underlying38 op_38 rfl (hval 2 38 v2 rfl rfl) h2
  have e2 : v2 = .agg (cellsA (fun x => [.int .i64 x]) x2).toArray := rC_v.1 hr2
  obtain ⟨s3, e3, _, _, q3⟩ := open_string Try.underlying9 (hval 3 9 v3 rfl rfl) h3
  rw [← str_bs s3] at e3
  generalize hs3 : bs s3 = x3 at e3
  replace q3 : x3.length ≤ maxLen := by rw [← hs3, ← str_size, str_bs]; exact q3
  obtain ⟨x4, e4, _, _⟩ := open_bool Try.underlying4 (hval 4 4 v4 rfl rfl) h4
  obtain ⟨x5, hr5, q5⟩ := open_struct Try.underlying26 op_26 rfl (hval 5 26 v5 rfl rfl) h5
  have e5 : v5 = .agg #[.int .i64 x5.Seq, .int .i64 x5.Shop, .int .i64 x5.Kind, .int .i64 x5.Day, .int .i64 x5.N, .string (str x5.Before), .string (str x5.After), .string (str x5.Prev), .string (str x5.Mark)] := rC_v.1 hr5
  clear hA0 hval0
  obtain ⟨n_, hn_⟩ := Comp.val_some.1 (Go.Dgp.law_PassportChecks (Go.Dgp.cw_of q0.1.1 q0.2.1) (fun y hy => Go.Lift.wf_u8 (q1 y hy)) (fun y hy => Go.Lift.wf_i64 (q2 y hy)) (Go.Dgp.ea_of q5.1 q5.2.1 q5.2.2.1 q5.2.2.2.1 q5.2.2.2.2.1))
  have walk := ok_c7_PassportChecks (w0 := W) okO_O0 hr0 hn_
  refine Calls.mono (R := fun e W' => e = .returned (.bool true) ∧ Below W.heap.size W W') ?_ fun e W' ⟨he, bel⟩ => ?_
  · rw [e1]; rw [e2]; rw [e3]; rw [e4]; rw [e5]; exact Calls.mono walk fun e W' ⟨_, h1, h2, h3⟩ => ⟨by rw [h1]; exact congrArg _ h3, h2⟩
  · subst he
    exact ⟨_, rfl, _, _, _, [], _, [], hW', trodAll_mk1 (shut_bool Try.underlying4 _), (trodAll_cons_mk (Below.trod laidOut (by kernel_rfl) (of_decide_eq_true (by kernel_rfl)) k0 bel lt0) (trodAll_cons_mk (Below.trod laidOut (by kernel_rfl) (of_decide_eq_true (by kernel_rfl)) k1 bel lt1) (trodAll_cons_mk (Below.trod laidOut (by kernel_rfl) (of_decide_eq_true (by kernel_rfl)) k2 bel lt2) (trodAll_cons_mk (Below.trod laidOut (by kernel_rfl) (of_decide_eq_true (by kernel_rfl)) k3 bel lt3) (trodAll_cons_mk (Below.trod laidOut (by kernel_rfl) (of_decide_eq_true (by kernel_rfl)) k4 bel lt4) (trodAll_cons_mk (Below.trod laidOut (by kernel_rfl) (of_decide_eq_true (by kernel_rfl)) k5 bel lt5) trodAll_mk0)))))), rfl, bel.frame _, fun h => by cases h⟩
theorem proved : Rows.PassportChecksSaid :=
  OpenClaim.holds_of_wide 4 Try.f4 rfl rfl rfl rfl rfl rfl rfl ⟨rfl, rfl, rfl, rfl, rfl⟩ rfl rfl rfl rfl rfl (by kernel_rfl) Try.func4 (by kernel_rfl)
    (of_decide_eq_true (by kernel_rfl)) (by unfold Func.isWrapper; first | (rw [if_pos (by decide +kernel)]; kernel_rfl) | (rw [if_neg (by decide +kernel)]; exact ⟨rfl, rfl⟩))
    (fun os started H enc _ => lifted os started H enc)
#print axioms proved
end Go.Proofs.Ytkbipbfncbopnaa.passportChecksDone
end
