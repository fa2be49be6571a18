/- For every case, world and wrong measurements, CourtTrue returns true, and its arguments read afterwards as before; no condition. -/
import Derived.Test.YtebmpjdegajhgaaKCTrueG
import Derived.SliceStrings
import Derived.ChangeSlices
import Derived.Lib.SmallJoins
import Derived.OpenShut
import Derived.ShutString
import Derived.ChangeOld
import Derived.Test.YtebmpjdegajhgaaRows
import Derived.WalkKit
import Derived.ProofKit
import Derived.Below
set_option linter.unusedSimpArgs false
set_option linter.unusedVariables false
section
set_option linter.unusedVariables false
set_option linter.unusedSimpArgs false
namespace Go.Crt
open Go Go.Lift Go.F Go.Cor
variable {α β : Type}
theorem any_mono {p q : α → Bool} {l : List α} (h : ∀ x, p x = true → q x = true) (hp : l.any p = true) : l.any q = true := by
 rw [List.any_eq_true] at hp ⊢
 obtain ⟨x, h1, h2⟩ := hp
 exact ⟨x, h1, h x h2⟩
theorem bad_mono {C : List api_Claim} {l : List api_Sight} {s t : Nat} (hst : Sub t s) (c : Int) (h : badB C l t c = true) : badB C l s c = true := by
 have h1 : ∀ b, C.zipIdx.any (qT l t c b) = true → C.zipIdx.any (qT l s c b) = true := fun b => any_mono fun p hp => by
  unfold qT at hp ⊢; simp only [Bool.and_eq_true] at hp ⊢; exact ⟨⟨hst _ hp.1.1, hp.1.2⟩, hp.2⟩
 have h2 : C.zipIdx.any (qS t c) = true → C.zipIdx.any (qS s c) = true := any_mono fun p hp => by
  unfold qS at hp ⊢; simp only [Bool.and_eq_true] at hp ⊢; exact ⟨⟨hst _ hp.1.1, hp.1.2⟩, hp.2⟩
 have h3 : C.zipIdx.any (qE t c) = true → C.zipIdx.any (qE s c) = true := any_mono fun p hp => by
  unfold qE at hp ⊢; simp only [Bool.and_eq_true] at hp ⊢; exact ⟨⟨hst _ hp.1.1, hp.1.2⟩, hp.2⟩
 have h4 : C.zipIdx.any (qK t c) = true → C.zipIdx.any (qK s c) = true := any_mono fun p hp => by
  unfold qK at hp ⊢; simp only [Bool.and_eq_true] at hp ⊢; exact ⟨⟨hst _ hp.1.1, hp.1.2⟩, hp.2⟩
 have h5 : C.zipIdx.any (qL s c) = true → C.zipIdx.any (qL t c) = true := any_mono fun p hp => by
  unfold qL at hp ⊢; simp only [Bool.and_eq_true, Bool.or_eq_true, Bool.not_eq_true'] at hp ⊢
  refine ⟨hp.1, hp.2.imp (fun h => ?_) id⟩
  cases ht : t.testBit p.2 with
  | false => rfl
  | true => rw [hst _ ht] at h; cases h
 unfold badB at h ⊢
 simp only [Bool.or_eq_true, Bool.and_eq_true, Bool.not_eq_true'] at h ⊢
 rcases h with ⟨a, b⟩ | ⟨⟨a, b⟩, e⟩
 ·exact .inl ⟨h1 _ a, b.imp (fun z => z.imp (h1 _) h2) h4⟩
 ·refine .inr ⟨⟨h1 _ a, h3 b⟩, ?_⟩
  cases f : C.zipIdx.any (qL s c) with
  | false => rfl
  | true => rw [h5 f] at e; cases e
theorem agree_down {C : List api_Claim} {l : List api_Sight} {M : Nat} (s t : Nat) (h : agreeB C l M s = true) (hst : Sub t s) : agreeB C l M t = true := by
 unfold agreeB at h ⊢
 rw [Bool.not_eq_true', List.any_eq_false] at h ⊢
 exact fun c hc hb => h c hc (bad_mono hst _ hb)
def cf (C : List api_Claim) (l : List api_Sight) (M : Nat) : List Nat := conf (agreeB C l M) C.length
theorem cf_mem {C : List api_Claim} {l : List api_Sight} {M x : Nat} : x ∈ cf C l M ↔ x < 2 ^ C.length ∧ Min (fun s => agreeB C l M s = false) x := mem_conf agree_down
theorem cf_lt {C : List api_Claim} {l : List api_Sight} {M x : Nat} (h : x ∈ cf C l M) : x < 2 ^ C.length := (cf_mem.1 h).1
theorem cf_inc (C : List api_Claim) (l : List api_Sight) (M : Nat) : Inc (up (cf C l M)) := by
 unfold cf conf up Inc
 rw [List.pairwise_map]
 refine List.Pairwise.filter _ ?_
 exact List.pairwise_lt_range.imp fun h => by omega
theorem pow6 {n : Nat} (h : n ≤ 6) : 2 ^ n ≤ 64 := Nat.pow_le_pow_right (n := 2) (by omega) h
theorem cf_len {C : List api_Claim} {l : List api_Sight} {M : Nat} (hC : C.length ≤ 6) : (cf C l M).length ≤ 64 :=
 Nat.le_trans (inc_up_len (cf_inc C l M) fun _ h => cf_lt h) (pow6 hC)
theorem cf_val {C : List api_Claim} {l : List api_Sight} {M : Nat} (hC : C.length ≤ 6) (hs : SmallL C) (h : checkE C l (M : Int) = 0) : (court_Conflicts C l (M : Int)).val = some (up (cf C l M), 0) := by
 rw [Conflicts_val hs h]
 unfold okL
 rw [Int.toNat_natCast, conflicts_val hC agree_down]; rfl
structure Why (C : List api_Claim) (l : List api_Sight) (M : Nat) (n : Int) (W : List Nat) : Prop where
 mem : ∀ h, h ∈ W ↔ Min (Hits · (cf C l M)) h ∧ fewG C n (h : Int) = true
 inc : Inc (up W)
theorem Why.lt {C : List api_Claim} {l : List api_Sight} {M : Nat} {n : Int} {W : List Nat} (h : Why C l M n W) {x : Nat} (hx : x ∈ W) : x < 2 ^ C.length := min_hits_lt (fun _ => cf_lt) ((h.mem x).1 hx).1
theorem up_filter (p : Int → Bool) (F : List Nat) : (up F).filter p = up (F.filter fun x => p (x : Int)) := by
 unfold up; rw [List.filter_map]; rfl
theorem why_val {C : List api_Claim} {l : List api_Sight} {M : Nat} (n : Int) (hC : C.length ≤ 6) (hs : SmallL C) (h : checkE C l (M : Int) = 0) (hn : 0 ≤ n ∧ n ≤ 3) :
  ∃ W, (court_Explains C l (M : Int) n).val = some (up W, 0) ∧ Why C l M n W := by
 obtain ⟨H, h1, h2⟩ := hitting_val (n := C.length) (L := cf C l M) (by omega) (fun _ => cf_lt) (by have := cf_len (l := l) (M := M) hC; unfold LIM; omega)
 obtain ⟨F, rfl, hF⟩ := h2.ex
 have hl : (up F).length ≤ LIM := by
  rw [up_len]
  have := inc_up_len h2.inc fun x hx => Fam.lt (L := cf C l M) (fun _ => cf_lt) hF x hx
  have := pow6 hC
  unfold LIM; omega
 refine ⟨F.filter fun x => fewG C n (x : Int), ?_, ?_, ?_⟩
 ·unfold court_Explains
  rw [Comp.val_bind, cf_val hC hs h, Option.bind_some, Comp.val_ite, if_neg (by simp), Comp.val_bind, Comp.val_pure, Option.bind_some, Comp.val_ite, if_neg (by rw [bif_or]; simp; omega), Comp.val_bind]
  show ((core_Hitting (up (cf C l M)) (C.length : Int)).val.bind _) = _
  rw [h1, Option.bind_some, Comp.val_ite, if_neg (by simp), Comp.val_bind, delete_val hl (p := fun z => decide ((gN z C.zipIdx : Int) > n)) (fun z _ => f1_val z n (by omega)), Option.bind_some, Comp.val_pure, ← up_filter (fewG C n)]
  congr 3
  funext z
  unfold fewG
  rw [← decide_not]
  exact decide_eq_decide.2 (by omega)
 ·intro x
  rw [List.mem_filter, hF]
 ·rw [← up_filter (fewG C n)]
  exact List.Pairwise.filter _ h2.inc
theorem agrees_in {C : List api_Claim} {l : List api_Sight} {M s : Nat} (hs : SmallL C) (h : checkE C l (M : Int) = 0) (hlt : s < 2 ^ C.length) : (court_Agrees C l (M : Int) (s : Int)).val = some (agreeB C l M s) := by
 rw [Agrees_val _ _ hs]
 unfold agreesE
 rw [decide_eq_true h, decide_eq_true (by omega : (s : Int) ≥ 0), decide_eq_true (by omega : (s : Int) < ((2 ^ C.length : Nat) : Int))]
 simp
theorem popN_count : ∀ (k n : Nat), popN k n = (List.range k).countP (n.testBit ·)
 | 0, n => rfl
 | k + 1, n => by
  have h : popN (k + 1) n = n % 2 + popN k (n / 2) := rfl
  rw [h, popN_count k (n / 2), List.range_succ_eq_map, List.countP_cons, List.countP_map, bit0]
  have e : ((fun x => n.testBit x) ∘ Nat.succ) = fun x => (n / 2).testBit x := by
   funext x; rw [testBit_div2]; rfl
  rw [e]
  have : n % 2 < 2 := Nat.mod_lt _ (by omega)
  by_cases h1 : n % 2 = 1
  ·simp [h1]; omega
  ·simp [h1]; omega
theorem many_val {a k : Nat} (hk : k ≤ 61) (ha : a < 2 ^ k) : (colletlaw43_many (a : Int)).val = some (popN k a : Int) := by
 have hb : ∀ k, k ≤ 61 → 2 ^ k ≤ 2305843009213693952 := fun k hk => by
  have := Nat.pow_le_pow_right (n := 2) (by omega) hk
  omega
 have key : ∀ k (a b : Nat), k ≤ 61 → a < 2 ^ k → b + k ≤ 100 → (Comp.loop (fun s : Int × Int => colletlaw43_many_l2 s.1 s.2) ((a : Int), (b : Int))).val = some ((b + popN k a : Nat) : Int) := by
  intro k
  induction k with
  | zero =>
   intro a b _ ha _
   have : a = 0 := by omega
   subst this
   rw [Comp.val_loop]
   unfold colletlaw43_many_l2
   rw [Comp.val_ite, if_neg (by simp), Comp.val_pure]; rfl
  | succ k ih =>
   intro a b hk ha hb2
   have h2 := hb (k + 1) hk
   by_cases h0 : a = 0
   ·subst h0
    have st : (colletlaw43_many_l2 ((0 : Nat) : Int) (b : Int)).val = some (.done (b : Int)) := by
     unfold colletlaw43_many_l2
     rw [Comp.val_ite, if_neg (by simp), Comp.val_pure]
    rw [Comp.val_loop]
    show ((colletlaw43_many_l2 ((0 : Nat) : Int) (b : Int)).val.bind _) = _
    rw [st, popN_zero]; rfl
   ·have e1 : andB .i64 (a : Int) 1 = ((a % 2 : Nat) : Int) := by
     have := andB_nat (a := a) (b := 1) (by omega) (by omega)
     rw [Nat.and_one_is_mod] at this
     exact this
    have e2 : shrF .i64 (a : Int) 1 = ((a / 2 : Nat) : Int) := by
     have := shrF_nat (a := a) (k := 1) (by omega)
     rw [Nat.shiftRight_eq_div_pow, Nat.pow_one] at this
     exact this
    have hm : a % 2 < 2 := Nat.mod_lt _ (by omega)
    have e3 : IntKind.wrap .i64 ((b : Int) + ((a % 2 : Nat) : Int)) = ((b + a % 2 : Nat) : Int) := by
     rw [IntWalk.i64_in _ ⟨by omega, by omega⟩]; omega
    have st : (colletlaw43_many_l2 (a : Int) (b : Int)).val = some (.next (((a / 2 : Nat) : Int), ((b + a % 2 : Nat) : Int))) := by
     unfold colletlaw43_many_l2
     rw [Comp.val_ite, if_pos (by simp; omega), e1, e2, Comp.val_bind, Comp.val_pure, Option.bind_some, Comp.val_pure, e3]
    have h := ih (a / 2) (b + a % 2) (by omega) (by rw [Nat.pow_succ] at ha; omega) (by omega)
    rw [Comp.val_loop]
    show ((colletlaw43_many_l2 (a : Int) (b : Int)).val.bind _) = _
    rw [st, Option.bind_some]
    show (Comp.loop (fun s : Int × Int => colletlaw43_many_l2 s.1 s.2) (((a / 2 : Nat) : Int), ((b + a % 2 : Nat) : Int))).val = _
    rw [h, show popN (k + 1) a = a % 2 + popN k (a / 2) from rfl, Nat.add_assoc]
 unfold colletlaw43_many colletlaw43_many_j1
 have := key k a 0 hk ha (by omega)
 rw [Comp.val_bind]
 show ((Comp.loop (fun s : Int × Int => colletlaw43_many_l2 s.1 s.2) ((a : Int), ((0 : Nat) : Int))).val.bind _) = _
 rw [this, Option.bind_some, Comp.val_pure, Nat.zero_add]
theorem gaugesM_val {C : List api_Claim} (hC : C.length ≤ 10) : ∃ w : Nat, w < 2 ^ C.length ∧ (colletlaw43_gauges C).val = some (w : Int) ∧ ∀ k, w.testBit k = C.zipIdx.any fun q => decide (q.2 = k) && decide (q.1.Kind = 3) := by
 have hp := pow_len hC
 have hp0 := Nat.two_pow_pos C.length
 have key : Ok (colletlaw43_gauges C) (fun r => ∃ w : Nat, w < 2 ^ C.length ∧ r = (w : Int) ∧ ∀ k, w.testBit k = C.zipIdx.any fun q => decide (q.2 = k) && decide (q.1.Kind = 3)) := by
  unfold colletlaw43_gauges
  rw [Ok.bind]
  refine Ok.mono (P := fun r => ∃ w : Nat, w < 2 ^ C.length ∧ r = (w : Int) ∧ ∀ k, w.testBit k = C.zipIdx.any fun q => decide (q.2 = k) && decide (q.1.Kind = 3)) ?_ (fun r hr => by unfold colletlaw43_gauges_j1; exact Ok.pure.2 hr)
  refine Ok.count C.length (fun i s => s.2 = (i : Int) ∧ ∃ w : Nat, w < 2 ^ C.length ∧ s.1 = (w : Int) ∧ ∀ k, w.testBit k = (C.zipIdx.take i).any fun q => decide (q.2 = k) && decide (q.1.Kind = 3)) ⟨rfl, 0, by omega, rfl, by simp⟩ ?_ ?_
  ·rintro i ⟨a, s⟩ hi ⟨h0, w, hw, h1, h2⟩
   dsimp only at h0 h1
   subst h0 h1
   have hg := List.getElem?_eq_getElem hi
   have hz := zip_get hg
   show Ok (colletlaw43_gauges_l2 C (w : Int) (i : Int)) _
   unfold colletlaw43_gauges_l2 colletlaw43_gauges_j3
   rw [Ok.ite, if_pos (by simp; omega), Ok.bind, Ok.idxn hg]
   refine Ok.ite_i (fun hc => ?_) (fun hc => ?_)
   ·have hc' := of_decide_eq_true hc
    have hpi : 2 ^ i < 2 ^ C.length := Nat.pow_lt_pow_right (by omega) hi
    rw [Ok.bind, Ok.nonneg (by omega), Ok.pure, shlF_nat (by omega), orB_nat (by omega) (by omega)]
    refine ⟨Comp.wrap_succ (by omega), w ||| 2 ^ i, Nat.or_lt_two_pow hw hpi, rfl, fun k => ?_⟩
    rw [any_take hz, Nat.testBit_or, h2, testBit_pow]
    simp [hc']
   ·have hc' : C[i].Kind ≠ 3 := by simpa using hc
    rw [Ok.pure]
    refine ⟨Comp.wrap_succ (by omega), w, hw, rfl, fun k => ?_⟩
    rw [any_take hz, h2]
    simp [hc']
  ·rintro ⟨a, s⟩ ⟨h0, w, hw, h1, h2⟩
   dsimp only at h0 h1
   subst h0 h1
   show Ok (colletlaw43_gauges_l2 C (w : Int) (C.length : Int)) _
   unfold colletlaw43_gauges_l2
   rw [Ok.ite, if_neg (by simp), Ok.pure]
   rw [← zip_len C, List.take_length] at h2
   exact ⟨w, hw, rfl, h2⟩
 obtain ⟨r, h1, w, hw, rfl, h2⟩ := key
 exact ⟨w, hw, h1, h2⟩
theorem zip_any {C : List api_Claim} (p : api_Claim → Bool) (k : Nat) : (C.zipIdx.any fun q => decide (q.2 = k) && p q.1) = match C[k]? with | some x => p x | none => false := by
 cases h : C[k]? with
 | none =>
  rw [List.any_eq_false]
  rintro ⟨x, j⟩ hx
  obtain ⟨i, hi⟩ := List.getElem?_of_mem hx
  rw [List.getElem?_zipIdx] at hi
  cases hc : C[i]? with
  | none => rw [hc] at hi; cases hi
  | some y =>
   rw [hc] at hi
   simp at hi
   by_cases e : j = k
   ·subst e; rw [← hi.2, hc] at h; cases h
   ·simp [e]
 | some y =>
  dsimp only
  cases hp : p y with
  | true => exact List.any_eq_true.2 ⟨(y, k), List.mem_of_getElem? (zip_get h), by simp [hp]⟩
  | false =>
   rw [List.any_eq_false]
   rintro ⟨x, j⟩ hx
   obtain ⟨i, hi⟩ := List.getElem?_of_mem hx
   rw [List.getElem?_zipIdx] at hi
   cases hc : C[i]? with
   | none => rw [hc] at hi; cases hi
   | some z =>
    rw [hc] at hi
    simp at hi
    by_cases e : j = k
    ·subst e
     rw [← hi.2, hc] at h
     obtain rfl := Option.some.inj h
     simp [← hi.1, hp]
    ·simp [e]
theorem U_small {s : Nat} (h : s < 18446744073709551616) : U (s : Int) = s := by unfold U; omega
theorem gN_pop {C : List api_Claim} {s w : Nat} (hC : C.length ≤ 10) (hs : s < 2 ^ C.length) (hw : ∀ k, w.testBit k = C.zipIdx.any fun q => decide (q.2 = k) && decide (q.1.Kind = 3)) : gN (s : Int) C.zipIdx = popN C.length (s &&& w) := by
 have hp := pow_len hC
 rw [popN_count]
 have key : ∀ i, i ≤ C.length → gN (s : Int) (C.zipIdx.take i) = (List.range i).countP ((s &&& w).testBit ·) := by
  intro i
  induction i with
  | zero => intro _; rfl
  | succ i ih =>
   intro hi
   have hg := List.getElem?_eq_getElem (show i < C.length by omega)
   have e : gN (s : Int) (C.zipIdx.take (i + 1)) = gN (s : Int) (C.zipIdx.take i) + if (decide (C[i].Kind = 3) && bitZ (s : Int) i) = true then 1 else 0 := countP_take (zip_get hg)
   rw [e, ih (by omega), List.range_succ, List.countP_append, List.countP_cons, List.countP_nil, Nat.zero_add]
   congr 1
   rw [Nat.testBit_and, hw, zip_any (fun x => decide (x.Kind = 3)), hg]
   unfold bitZ
   rw [U_small (by omega), Bool.and_comm]
 have := key C.length (Nat.le_refl _)
 rw [← zip_len C, List.take_length, zip_len C] at this
 exact this
end Go.Crt
end
section
set_option linter.unusedVariables false
set_option linter.unusedSimpArgs false
namespace Go.Crt
open Go Go.Lift Go.F Go.Cor
variable {α β : Type}
theorem without_zero {a b : Nat} : without a b = 0 ↔ Sub a b := by
 constructor
 ·intro h i hi
  have := testBit_without a b i
  rw [h, hi] at this
  simpa using this
 ·intro h
  refine Nat.eq_of_testBit_eq fun i => ?_
  rw [testBit_without]
  cases ha : a.testBit i with
  | false => simp
  | true => simp [h i ha]
theorem pow_out {n : Nat} (h : n ≤ 10) : IntKind.wrap .i64 ((shlF .i64 1 (n : Int)) - 1) = ((2 ^ n - 1 : Nat) : Int) := by
 have := pow_len h
 have := Nat.two_pow_pos n
 rw [shlF_nat (by omega), IntWalk.i64_in _ ⟨by omega, by omega⟩]; omega
theorem without_lt {s n : Nat} (t : Nat) (h : s < n) : without s t < n := Nat.lt_of_le_of_lt (without_le s t) h
end Go.Crt
end
section
set_option linter.unusedVariables false
set_option linter.unusedSimpArgs false
namespace Go.Crt
open Go Go.Lift Go.F Go.Cor
variable {α β : Type}
theorem goE_each {m : Int} : ∀ (C pre : List api_Claim), (∀ c, goE m pre C = some c → c = 0 → False) → (∀ c, goE m pre C = some c → c ≠ 0) → goE m pre C = none → ∀ x ∈ C, claimE x m = 0
 | [], _, _, _, _ => by simp
 | x :: C, pre, h1, h2, h => by
  rw [goE_cons] at h
  split at h; · cases h
  split at h; · cases h
  rename_i h3 h4
  intro y hy
  rcases List.mem_cons.1 hy with rfl | hy
  ·simpa using h3
  ·exact goE_each C (pre ++ [x]) (fun c hc => by rw [h] at hc; cases hc) (fun c hc => by rw [h] at hc; cases hc) h y hy
theorem goE_pos {m : Int} : ∀ (C pre : List api_Claim) c, goE m pre C = some c → c ≠ 0
 | [], pre, c, h => by cases h
 | x :: C, pre, c, h => by
  rw [goE_cons] at h
  split at h
  ·rename_i h3; cases h; exact h3
  ·split at h
   ·cases h; decide
   ·exact goE_pos C _ c h
theorem check_ranges {C : List api_Claim} {l : List api_Sight} {m : Int} (h : checkE C l m = 0) : (∀ x ∈ C, claimE x m = 0) ∧ l.any (farB m) = false := by
 unfold checkE at h
 split at h; · cases h
 split at h; · cases h
 cases e : goE m [] C with
 | some c =>
  rw [e] at h
  exact absurd h (goE_pos C [] c e)
 | none =>
  rw [e] at h
  refine ⟨goE_each C [] (fun c hc => by rw [e] at hc; cases hc) (fun c hc => by rw [e] at hc; cases hc) e, ?_⟩
  cases hf : l.any (farB m) with
  | false => rfl
  | true =>
   rw [hf] at h
   simp at h
theorem in_range {l : List Int} {m : Int} (h : l.any (outB m) = false) {x : Int} (hx : x ∈ l) : 0 ≤ x ∧ x < m := by
 have := List.any_eq_false.1 h x hx
 unfold outB at this
 simp at this
 omega
theorem claim_range {x : api_Claim} {m : Int} (h : claimE x m = 0) : (∀ z ∈ x.Sure, 0 ≤ z ∧ z < m) ∧ ∀ z ∈ x.Touched, 0 ≤ z ∧ z < m := by
 unfold claimE at h
 split at h; · cases h
 split at h; · cases h
 split at h; · cases h
 split at h; · cases h
 rename_i h1 h2 h3 h4
 simp only [Bool.or_eq_true, not_or, Bool.not_eq_true] at h4
 exact ⟨fun z hz => in_range h4.1 hz, fun z hz => in_range h4.2 hz⟩
theorem check_like {C : List api_Claim} {l l' : List api_Sight} {m : Int} (h : checkE C l m = 0) (hl : l'.length = l.length) (hf : l'.any (farB m) = l.any (farB m)) : checkE C l' m = 0 := by
 unfold checkE at h ⊢
 rw [hl, hf]; exact h
theorem bits_val {L : List Int} {M : Nat} (hM : M ≤ 16) (hL : ∀ x ∈ L, 0 ≤ x ∧ x < (M : Int)) (hl : L.length ≤ LIM) : ∃ w : Nat, w < 2 ^ M ∧ (colletlaw43_bits L).val = some (w : Int) ∧ ∀ k : Nat, w.testBit k = L.contains (k : Int) := by
 have hLIM : LIM = 1073741824 := rfl
 have hp : 2 ^ M ≤ 65536 := Nat.pow_le_pow_right (n := 2) (by omega) hM
 have hp0 := Nat.two_pow_pos M
 have key : Ok (colletlaw43_bits L) (fun r => ∃ w : Nat, w < 2 ^ M ∧ r = (w : Int) ∧ ∀ k : Nat, w.testBit k = L.contains (k : Int)) := by
  unfold colletlaw43_bits
  rw [Ok.bind]
  refine Ok.mono (P := fun r => ∃ w : Nat, w < 2 ^ M ∧ r = (w : Int) ∧ ∀ k : Nat, w.testBit k = L.contains (k : Int)) ?_ (fun r hr => by unfold colletlaw43_bits_j1; exact Ok.pure.2 hr)
  refine Ok.count L.length (fun i s => s.2 = (i : Int) ∧ ∃ w : Nat, w < 2 ^ M ∧ s.1 = (w : Int) ∧ ∀ k : Nat, w.testBit k = (L.take i).contains (k : Int)) ⟨rfl, 0, by omega, rfl, by simp⟩ ?_ ?_
  ·rintro i ⟨a, s⟩ hi ⟨h0, w, hw, h1, h2⟩
   dsimp only at h0 h1
   subst h0 h1
   have hg := List.getElem?_eq_getElem hi
   have hr := hL _ (List.getElem_mem hi)
   obtain ⟨b, hb⟩ : ∃ b : Nat, L[i] = (b : Int) := ⟨L[i].toNat, by omega⟩
   have hbM : b < M := by omega
   have hpb : 2 ^ b < 2 ^ M := Nat.pow_lt_pow_right (by omega) hbM
   show Ok (colletlaw43_bits_l2 L (w : Int) (i : Int)) _
   unfold colletlaw43_bits_l2
   rw [Ok.ite, if_pos (by simp; omega), Ok.bind, Ok.idxn hg, hb, Ok.bind, Ok.nonneg (by omega), Ok.pure, shlF_nat (by omega), orB_nat (by omega) (by omega)]
   refine ⟨Comp.wrap_succ (by omega), w ||| 2 ^ b, Nat.or_lt_two_pow hw hpb, rfl, fun k => ?_⟩
   rw [Nat.testBit_or, h2, testBit_pow, take_snoc hi, hb]
   by_cases e : b = k
   ·subst e; simp
   ·have : ¬ (k : Int) = (b : Int) := by omega
    simp [e, this]
  ·rintro ⟨a, s⟩ ⟨h0, w, hw, h1, h2⟩
   dsimp only at h0 h1
   subst h0 h1
   show Ok (colletlaw43_bits_l2 L (w : Int) (L.length : Int)) _
   unfold colletlaw43_bits_l2
   rw [Ok.ite, if_neg (by simp), Ok.pure]
   rw [List.take_length] at h2
   exact ⟨w, hw, rfl, h2⟩
 obtain ⟨r, h1, w, hw, rfl, h2⟩ := key
 exact ⟨w, hw, h1, h2⟩
def rm (R : List Nat) (i : Nat) : Nat := R[i]?.getD 0
def cutB (R : List Nat) (k : Nat) (q : api_Claim × Nat) : Bool := decide (q.1.Kind = 2) && (rm R q.2).testBit k
theorem rm_get {R : List Nat} {i : Nat} (h : i < R.length) : (up R)[i]? = some (rm R i : Int) := by
 unfold rm up
 rw [List.getElem?_map, List.getElem?_eq_getElem h]; rfl
theorem rm_lt {R : List Nat} {n : Nat} (hn : 0 < n) (h : ∀ r ∈ R, r < n) (i : Nat) : rm R i < n := by
 unfold rm
 cases hi : R[i]? with
 | none => exact hn
 | some r => exact h r (List.mem_of_getElem? hi)
theorem there_val {C : List api_Claim} {mat M : Nat} {R : List Nat} (hM : M ≤ 16) (hC : C.length ≤ 10) (hR : R.length = C.length) (hm : mat < 2 ^ M) (hr : ∀ r ∈ R, r < 2 ^ M) :
  ∃ e : Nat, e < 2 ^ M ∧ (colletlaw43_world_there ⟨(mat : Int), up R⟩ C).val = some (e : Int) ∧ ∀ k, e.testBit k = (mat.testBit k && !C.zipIdx.any (cutB R k)) := by
 have hp : 2 ^ M ≤ 65536 := Nat.pow_le_pow_right (n := 2) (by omega) hM
 have key : Ok (colletlaw43_world_there ⟨(mat : Int), up R⟩ C) (fun r => ∃ e : Nat, e < 2 ^ M ∧ r = (e : Int) ∧ ∀ k, e.testBit k = (mat.testBit k && !C.zipIdx.any (cutB R k))) := by
  unfold colletlaw43_world_there
  rw [Ok.bind]
  refine Ok.mono (P := fun r => ∃ e : Nat, e < 2 ^ M ∧ r = (e : Int) ∧ ∀ k, e.testBit k = (mat.testBit k && !C.zipIdx.any (cutB R k))) ?_ (fun r hr => by unfold colletlaw43_world_there_j1; exact Ok.pure.2 hr)
  refine Ok.count C.length (fun i s => s.2 = (i : Int) ∧ ∃ e : Nat, e < 2 ^ M ∧ s.1 = (e : Int) ∧ ∀ k, e.testBit k = (mat.testBit k && !(C.zipIdx.take i).any (cutB R k))) ⟨rfl, mat, hm, rfl, by simp⟩ ?_ ?_
  ·rintro i ⟨a, s⟩ hi ⟨h0, w, hw, h1, h2⟩
   dsimp only at h0 h1
   subst h0 h1
   have hg := List.getElem?_eq_getElem hi
   have hz := zip_get hg
   have hrm := rm_lt (by omega) hr i
   show Ok (colletlaw43_world_there_l2 C ⟨(mat : Int), up R⟩ (w : Int) (i : Int)) _
   unfold colletlaw43_world_there_l2 colletlaw43_world_there_j3
   rw [Ok.ite, if_pos (by simp; omega), Ok.bind, Ok.idxn hg]
   refine Ok.ite_i (fun hc => ?_) (fun hc => ?_)
   ·have hc' := of_decide_eq_true hc
    rw [Ok.bind, Ok.idxn (rm_get (by omega)), Ok.pure, andNotB_nat (by omega) (by omega)]
    refine ⟨Comp.wrap_succ (by omega), without w (rm R i), without_lt _ hw, rfl, fun k => ?_⟩
    rw [any_take hz, testBit_without, h2]
    simp [cutB, hc', Bool.and_assoc]
   ·have hc' : C[i].Kind ≠ 2 := by simpa using hc
    rw [Ok.pure]
    refine ⟨Comp.wrap_succ (by omega), w, hw, rfl, fun k => ?_⟩
    rw [any_take hz, h2]
    simp [cutB, hc']
  ·rintro ⟨a, s⟩ ⟨h0, w, hw, h1, h2⟩
   dsimp only at h0 h1
   subst h0 h1
   show Ok (colletlaw43_world_there_l2 C ⟨(mat : Int), up R⟩ (w : Int) (C.length : Int)) _
   unfold colletlaw43_world_there_l2
   rw [Ok.ite, if_neg (by simp), Ok.pure]
   rw [← zip_len C, List.take_length] at h2
   exact ⟨w, hw, rfl, h2⟩
 obtain ⟨r, h1, w, hw, rfl, h2⟩ := key
 exact ⟨w, hw, h1, h2⟩
def HoldsP (l : List api_Sight) (mat : Nat) (R : List Nat) (e : Nat) (x : api_Claim) (i : Nat) : Prop :=
 if x.Kind = 1 then ∀ k : Nat, mat.testBit k = x.Touched.contains (k : Int)
 else if x.Kind = 2 then (∀ k : Nat, (k : Int) ∈ x.Sure → (rm R i).testBit k = true) ∧ ∀ k : Nat, (rm R i).testBit k = true → (k : Int) ∈ x.Touched
 else ∀ y ∈ l, y.Gauge = x.Gauge → ∀ k : Nat, y.Cell = (k : Int) → e.testBit k = y.There
theorem holds_val {C : List api_Claim} {l : List api_Sight} {mat M e i : Nat} {R : List Nat} {x : api_Claim} (hM : M ≤ 16) (hC : C.length ≤ 10) (hl : l.length ≤ 40) (hR : R.length = C.length) (hm : mat < 2 ^ M) (hr : ∀ r ∈ R, r < 2 ^ M)
  (hs : SmallL C) (hcl : ∀ x ∈ C, claimE x (M : Int) = 0) (hfar : l.any (farB (M : Int)) = false) (he : e < 2 ^ M) (hev : (colletlaw43_world_there ⟨(mat : Int), up R⟩ C).val = some (e : Int)) (hx : C[i]? = some x) :
  ∃ b, (colletlaw43_world_holds ⟨(mat : Int), up R⟩ C l (i : Int)).val = some b ∧ (b = true ↔ HoldsP l mat R e x i) := by
 have hp : 2 ^ M ≤ 65536 := Nat.pow_le_pow_right (n := 2) (by omega) hM
 have hi := getElem?_len hx
 have hxm := List.mem_of_getElem? hx
 have hrg := claim_range (hcl x hxm)
 have hsx := hs x hxm
 obtain ⟨ws, hws, hwsv, hwsb⟩ := bits_val hM hrg.1 hsx.1
 obtain ⟨wt, hwt, hwtv, hwtb⟩ := bits_val hM hrg.2 hsx.2
 have hrm := rm_lt (Nat.two_pow_pos M) hr i
 unfold colletlaw43_world_holds HoldsP
 rw [Comp.val_bind, idx_val hx, Option.bind_some, Comp.val_ite, Comp.val_ite]
 by_cases k1 : x.Kind = 1
 ·rw [if_pos (by simp [k1]), if_pos k1, Comp.val_bind, hwtv, Option.bind_some, Comp.val_pure]
  refine ⟨_, rfl, ?_⟩
  rw [decide_eq_true_iff]
  constructor
  ·intro h k
   have : mat = wt := by
    have h' : (mat : Int) = (wt : Int) := h
    omega
   rw [this, hwtb]
  ·intro h
   show (mat : Int) = (wt : Int)
   have : mat = wt := Nat.eq_of_testBit_eq fun k => by rw [h, hwtb]
   omega
 ·rw [if_neg (by simp [k1]), if_neg k1]
  by_cases k2 : x.Kind = 2
  ·rw [if_pos (by simp [k2]), if_pos k2, Comp.val_bind, hwsv, Option.bind_some, Comp.val_bind, idx_val (rm_get (by omega)), Option.bind_some, andNotB_nat (by omega) (by omega)]
   have e1 : decide (((without ws (rm R i) : Nat) : Int) = 0) = decide (without ws (rm R i) = 0) := decide_eq_decide.2 (by omega)
   have s1 : Cor.Sub ws (rm R i) ↔ ∀ k : Nat, (k : Int) ∈ x.Sure → (rm R i).testBit k = true := by
    refine forall_congr' fun k => ?_
    rw [hwsb, List.contains_iff_mem]
   have s2 : Cor.Sub (rm R i) wt ↔ ∀ k : Nat, (rm R i).testBit k = true → (k : Int) ∈ x.Touched := by
    refine forall_congr' fun k => ?_
    rw [hwtb, List.contains_iff_mem]
   by_cases h : without ws (rm R i) = 0
   ·rw [e1, decide_eq_true h, Comp.val_bind, Comp.val_gd, if_pos (by rfl), idx_val (rm_get (by omega)), Option.bind_some, Comp.val_bind, Comp.val_gd, if_pos (by rfl), hwtv, Option.bind_some, andNotB_nat (by omega) (by omega), Comp.val_bind, Comp.val_pure, Option.bind_some, Comp.val_pure]
    refine ⟨_, rfl, ?_⟩
    rw [cond_true, decide_eq_true_iff, ← s1, ← s2, ← without_zero (a := rm R i)]
    constructor
    ·intro h3; exact ⟨without_zero.1 h, by omega⟩
    ·rintro ⟨_, h3⟩; omega
   ·rw [e1, decide_eq_false h, Comp.val_bind, Comp.val_gd, if_neg (by simp), Option.bind_some, Comp.val_bind, Comp.val_gd, if_neg (by simp), Option.bind_some, Comp.val_bind, Comp.val_pure, Option.bind_some, Comp.val_pure]
    refine ⟨_, rfl, ?_⟩
    rw [cond_false, ← s1]
    constructor
    ·intro h3; cases h3
    ·intro h3; exact absurd (without_zero.2 h3.1) h
  ·rw [if_neg (by simp [k2]), if_neg k2, Comp.val_bind, hev, Option.bind_some]
   have hrange : ∀ y ∈ l, 0 ≤ y.Cell ∧ y.Cell < (M : Int) := by
    intro y hy
    have := List.any_eq_false.1 hfar y hy
    unfold farB at this
    simp at this
    omega
   have hlp := Comp.loop_any (body := fun s => colletlaw43_world_holds_l2 l x (e : Int) s) l (fun y => decide (y.Gauge = x.Gauge) && decide (e.testBit y.Cell.toNat ≠ y.There)) false (by
    intro j y hy
    have hj := getElem?_len hy
    have hc := hrange y (List.mem_of_getElem? hy)
    obtain ⟨c, hc2⟩ : ∃ c : Nat, y.Cell = (c : Int) := ⟨y.Cell.toNat, by omega⟩
    show (colletlaw43_world_holds_l2 l x (e : Int) (j : Int)).val = _
    unfold colletlaw43_world_holds_l2
    rw [Comp.val_ite, if_pos (by rw [decide_eq_true_iff]; omega), Comp.val_bind, idx_val hy, Option.bind_some, hc2, bit_eq (by omega) (by omega), Int.toNat_natCast]
    have hw := Comp.wrap_succ (i := j) (by omega)
    by_cases g : y.Gauge = x.Gauge
    ·rw [decide_eq_true g, Comp.val_bind, Comp.val_gd, if_pos (by rfl), nonneg_val (by omega), Option.bind_some, Comp.val_bind, Comp.val_pure, Option.bind_some, Comp.val_ite, Comp.val_pure, Comp.val_pure, cond_true, Bool.true_and, hw]
     split <;> rfl
    ·rw [decide_eq_false g]
     simp [Comp.val_bind, Comp.val_gd, Comp.val_pure, Comp.val_ite, hw]) (by
    show (colletlaw43_world_holds_l2 l x (e : Int) (l.length : Int)).val = _
    unfold colletlaw43_world_holds_l2
    rw [Comp.val_ite, if_neg (by simp), Comp.val_pure])
   rw [Comp.val_bind, hlp, Option.bind_some]
   cases ha : l.any fun y => decide (y.Gauge = x.Gauge) && decide (e.testBit y.Cell.toNat ≠ y.There) with
   | true =>
    refine ⟨false, by simp [Comp.val_pure], ?_⟩
    obtain ⟨y, h1, h2⟩ := List.any_eq_true.1 ha
    simp only [Bool.and_eq_true, decide_eq_true_iff] at h2
    constructor
    ·intro h; cases h
    ·intro h
     exact absurd (h y h1 h2.1 y.Cell.toNat (by have := hrange y h1; omega)) h2.2
   | false =>
    refine ⟨true, by simp [Comp.val_pure, colletlaw43_world_holds_j1], ?_⟩
    rw [List.any_eq_false] at ha
    refine ⟨fun _ y hy hg k hk => ?_, fun _ => rfl⟩
    have := ha y hy
    simp only [Bool.and_eq_true, decide_eq_true_iff, not_and, ne_eq, Decidable.not_not] at this
    have h2 := this hg
    rw [hk, Int.toNat_natCast] at h2
    exact h2
theorem truth_val {C : List api_Claim} {l : List api_Sight} {mat M : Nat} {R : List Nat} (hM : M ≤ 16) (hC : C.length ≤ 10) (hl : l.length ≤ 40) (hR : R.length = C.length) (hm : mat < 2 ^ M) (hr : ∀ r ∈ R, r < 2 ^ M)
  (hs : SmallL C) (hcl : ∀ x ∈ C, claimE x (M : Int) = 0) (hfar : l.any (farB (M : Int)) = false) {e : Nat} (he : e < 2 ^ M) (hev : (colletlaw43_world_there ⟨(mat : Int), up R⟩ C).val = some (e : Int)) :
  ∃ t : Nat, t < 2 ^ C.length ∧ (colletlaw43_world_truth ⟨(mat : Int), up R⟩ C l).val = some (t : Int) ∧ ∀ (i : Nat) x, C[i]? = some x → (t.testBit i = true ↔ HoldsP l mat R e x i) := by
 have hp := pow_len hC
 have hp0 := Nat.two_pow_pos C.length
 have key : Ok (colletlaw43_world_truth ⟨(mat : Int), up R⟩ C l) (fun r => ∃ t : Nat, t < 2 ^ C.length ∧ r = (t : Int) ∧ ∀ (i : Nat) x, C[i]? = some x → (t.testBit i = true ↔ HoldsP l mat R e x i)) := by
  unfold colletlaw43_world_truth
  rw [Ok.bind]
  refine Ok.mono (P := fun r => ∃ t : Nat, t < 2 ^ C.length ∧ r = (t : Int) ∧ ∀ (i : Nat) x, C[i]? = some x → (t.testBit i = true ↔ HoldsP l mat R e x i)) ?_ (fun r hr => by unfold colletlaw43_world_truth_j1; exact Ok.pure.2 hr)
  refine Ok.count C.length (fun i s => s.2 = (i : Int) ∧ ∃ t : Nat, t < 2 ^ i ∧ s.1 = (t : Int) ∧ ∀ (j : Nat) x, j < i → C[j]? = some x → (t.testBit j = true ↔ HoldsP l mat R e x j)) ⟨rfl, 0, by omega, rfl, fun j x h => by omega⟩ ?_ ?_
  ·rintro i ⟨a, s⟩ hi ⟨h0, w, hw, h1, h2⟩
   dsimp only at h0 h1
   subst h0 h1
   have hg := List.getElem?_eq_getElem hi
   have hpi : 2 ^ i < 2 ^ C.length := Nat.pow_lt_pow_right (by omega) hi
   have hps : 2 ^ (i + 1) = 2 ^ i * 2 := Nat.pow_succ ..
   obtain ⟨b, hb, hb2⟩ := holds_val hM hC hl hR hm hr hs hcl hfar he hev hg
   show Ok (colletlaw43_world_truth_l2 C ⟨(mat : Int), up R⟩ l (w : Int) (i : Int)) _
   unfold colletlaw43_world_truth_l2 colletlaw43_world_truth_j3
   rw [Ok.ite, if_pos (by simp; omega), Ok.bind, Ok.of_val hb]
   cases b with
   | true =>
    rw [Ok.ite, if_pos rfl, Ok.bind, Ok.nonneg (by omega), Ok.pure, shlF_nat (by omega), orB_nat (by omega) (by omega)]
    refine ⟨Comp.wrap_succ (by omega), w ||| 2 ^ i, Nat.or_lt_two_pow (by omega) (by omega), rfl, fun j x hj hx => ?_⟩
    rw [Nat.testBit_or, testBit_pow]
    by_cases e : i = j
    ·subst e
     rw [hg] at hx
     obtain rfl := Option.some.inj hx
     simp; exact hb2.1 rfl
    ·have := h2 j x (by omega) hx
     simp [e]; exact this
   | false =>
    rw [Ok.ite, if_neg (by simp), Ok.pure]
    refine ⟨Comp.wrap_succ (by omega), w, by omega, rfl, fun j x hj hx => ?_⟩
    by_cases e : i = j
    ·subst e
     rw [hg] at hx
     obtain rfl := Option.some.inj hx
     rw [← hb2, Nat.testBit_lt_two_pow hw]
    ·exact h2 j x (by omega) hx
  ·rintro ⟨a, s⟩ ⟨h0, w, hw, h1, h2⟩
   dsimp only at h0 h1
   subst h0 h1
   show Ok (colletlaw43_world_truth_l2 C ⟨(mat : Int), up R⟩ l (w : Int) (C.length : Int)) _
   unfold colletlaw43_world_truth_l2
   rw [Ok.ite, if_neg (by simp), Ok.pure]
   exact ⟨w, hw, rfl, fun j x hx => h2 j x (getElem?_len hx) hx⟩
 obtain ⟨r, h1, w, hw, rfl, h2⟩ := key
 exact ⟨w, hw, h1, h2⟩
theorem zip_mem {C : List api_Claim} {q : api_Claim × Nat} (h : q ∈ C.zipIdx) : C[q.2]? = some q.1 := by
 obtain ⟨i, hi⟩ := List.getElem?_of_mem h
 rw [List.getElem?_zipIdx] at hi
 cases hc : C[i]? with
 | none => rw [hc] at hi; cases hi
 | some z =>
  rw [hc] at hi
  simp at hi
  rw [← hi]; simpa using hc
theorem world_agrees {C : List api_Claim} {l : List api_Sight} {mat M e t : Nat} {R : List Nat} (hG : GoodL C l (M : Int)) (heb : ∀ k, e.testBit k = (mat.testBit k && !C.zipIdx.any (cutB R k)))
  (ht : ∀ (i : Nat) x, C[i]? = some x → t.testBit i = true → HoldsP l mat R e x i) : agreeB C l M t = true := by
 unfold agreeB
 rw [Bool.not_eq_true', List.any_eq_false]
 intro c hc hbad
 have hT : ∀ b, C.zipIdx.any (qT l t (c : Int) b) = true → e.testBit c = b := by
  intro b h
  obtain ⟨q, h1, h2⟩ := List.any_eq_true.1 h
  unfold qT saidS at h2
  simp only [Bool.and_eq_true, decide_eq_true_iff, List.any_eq_true] at h2
  obtain ⟨⟨h3, h4⟩, y, h5, ⟨h6, h7⟩, h8⟩ := h2
  have hh := ht q.2 q.1 (zip_mem h1) h3
  unfold HoldsP at hh
  rw [if_neg (by omega), if_neg (by omega)] at hh
  rw [hh y h5 h6 c h7, h8]
 have hS : C.zipIdx.any (qS t (c : Int)) = true → e.testBit c = false := by
  intro h
  obtain ⟨q, h1, h2⟩ := List.any_eq_true.1 h
  unfold qS at h2
  simp only [Bool.and_eq_true, decide_eq_true_iff, Bool.not_eq_true'] at h2
  obtain ⟨⟨h3, h4⟩, h5⟩ := h2
  have hh := ht q.2 q.1 (zip_mem h1) h3
  unfold HoldsP at hh
  rw [if_pos h4] at hh
  rw [heb, hh, h5]; rfl
 have hE : C.zipIdx.any (qE t (c : Int)) = true → mat.testBit c = true := by
  intro h
  obtain ⟨q, h1, h2⟩ := List.any_eq_true.1 h
  unfold qE at h2
  simp only [Bool.and_eq_true, decide_eq_true_iff] at h2
  obtain ⟨⟨h3, h4⟩, h5⟩ := h2
  have hh := ht q.2 q.1 (zip_mem h1) h3
  unfold HoldsP at hh
  rw [if_pos h4] at hh
  rw [hh, h5]
 have hK : C.zipIdx.any (qK t (c : Int)) = true → e.testBit c = false := by
  intro h
  obtain ⟨q, h1, h2⟩ := List.any_eq_true.1 h
  unfold qK at h2
  simp only [Bool.and_eq_true, decide_eq_true_iff] at h2
  obtain ⟨⟨h3, h4⟩, h5⟩ := h2
  have hh := ht q.2 q.1 (zip_mem h1) h3
  unfold HoldsP at hh
  rw [if_neg (by omega), if_pos h4] at hh
  have hcut : C.zipIdx.any (cutB R c) = true := List.any_eq_true.2 ⟨q, h1, by
   unfold cutB
   simp only [Bool.and_eq_true, decide_eq_true_iff]
   exact ⟨h4, hh.1 c (List.contains_iff_mem.1 h5)⟩⟩
  rw [heb, hcut]; simp
 have hL : C.zipIdx.any (cutB R c) = true → C.zipIdx.any (qL t (c : Int)) = true := by
  intro h
  obtain ⟨q, h1, h2⟩ := List.any_eq_true.1 h
  unfold cutB at h2
  simp only [Bool.and_eq_true, decide_eq_true_iff] at h2
  refine List.any_eq_true.2 ⟨q, h1, ?_⟩
  unfold qL
  simp only [Bool.and_eq_true, decide_eq_true_iff, Bool.or_eq_true, Bool.not_eq_true']
  refine ⟨h2.1, ?_⟩
  cases hb : t.testBit q.2 with
  | false => exact .inl rfl
  | true =>
   have hh := ht q.2 q.1 (zip_mem h1) hb
   unfold HoldsP at hh
   rw [if_neg (by omega), if_pos h2.1] at hh
   exact .inr (List.contains_iff_mem.2 (hh.2 c h2.2))
 unfold badB at hbad
 simp only [Bool.or_eq_true, Bool.and_eq_true, Bool.not_eq_true'] at hbad
 rcases hbad with ⟨a, (b | b) | b⟩ | ⟨⟨a, b⟩, d⟩
 ·have h1 := hT _ a; have h2 := hT _ b; rw [h1] at h2; cases h2
 ·have h1 := hT _ a; rw [hS b] at h1; cases h1
 ·have h1 := hT _ a; rw [hK b] at h1; cases h1
 ·have h1 := hT _ a
  rw [heb, hE b, Bool.true_and, Bool.not_eq_false'] at h1
  rw [hL h1] at d; cases d
end Go.Crt
end
section
set_option linter.unusedVariables false
set_option linter.unusedSimpArgs false
namespace Go.Crt
open Go Go.Lift Go.F Go.Cor
variable {α β : Type}
def gc (x : api_Sight) : Int × Int := (x.Gauge, x.Cell)
theorem far_gc (m : Int) (l : List api_Sight) : l.any (farB m) = (l.map gc).any fun p => ((decide (p.1 < 0) || decide (p.1 ≥ 8)) || decide (p.2 < 0)) || decide (p.2 ≥ m) := by
 rw [List.any_map]; rfl
theorem seen_val {l : List api_Sight} {m : Int} (e f : Int) (hl : l.length ≤ 40) (hfar : l.any (farB m) = false) : ∃ l', (colletlaw43_seen l e f).val = some l' ∧ l'.map gc = l.map gc := by
 have hLIM : LIM = 1073741824 := rfl
 have key : Ok (colletlaw43_seen l e f) (fun l' => l'.map gc = l.map gc) := by
  unfold colletlaw43_seen
  rw [Ok.bind, Ok.app (by simp; omega), List.nil_append, Ok.bind]
  refine Ok.mono (P := fun l' => l'.map gc = l.map gc) ?_ (fun r hr => by unfold colletlaw43_seen_j1; exact Ok.pure.2 hr)
  refine Ok.count l.length (fun i s => s.2 = (i : Int) ∧ s.1.map gc = l.map gc) ⟨rfl, rfl⟩ ?_ ?_
  ·rintro i ⟨a, s⟩ hi ⟨h0, h1⟩
   dsimp only at h0 h1
   subst h0
   have hlen : a.length = l.length := by simpa using congrArg List.length h1
   have hx : i < a.length := by omega
   have hg := List.getElem?_eq_getElem hx
   have hcell : 0 ≤ a[i].Cell := by
    have hf : a.any (farB m) = false := by rw [far_gc, h1, ← far_gc, hfar]
    have := List.any_eq_false.1 hf a[i] (List.getElem_mem hx)
    unfold farB at this
    simp at this
    omega
   have ht : 0 ≤ Int.tmod (i : Int) 8 := Int.tmod_nonneg 8 (by omega)
   show Ok (colletlaw43_seen_l2 l f e a (i : Int)) _
   unfold colletlaw43_seen_l2
   rw [Ok.ite, if_pos (by simp; omega), Ok.bind, Ok.idxn hg, Ok.bind, Ok.nonneg hcell, Ok.bind, Ok.nonneg ht, Ok.bind]
   refine Ok.gd_i (fun _ => ?_) (fun _ => ?_)
   ·rw [Ok.idxn hg, Ok.bind, Ok.idxn hg, Ok.bind, Ok.idxn hg, Ok.bind, Ok.upd (by omega), Int.toNat_natCast, Ok.pure]
    refine ⟨Comp.wrap_succ (by omega), ?_⟩
    rw [List.map_set, ← h1]
    refine List.ext_getElem? fun j => ?_
    rw [List.getElem?_set]
    by_cases ej : i = j
    ·subst ej
     rw [if_pos rfl, if_pos (by simpa using hx), List.getElem?_map, hg]; rfl
    ·rw [if_neg ej]
   ·rw [Ok.bind, Ok.idxn hg, Ok.bind, Ok.idxn hg, Ok.bind, Ok.upd (by omega), Int.toNat_natCast, Ok.pure]
    refine ⟨Comp.wrap_succ (by omega), ?_⟩
    rw [List.map_set, ← h1]
    refine List.ext_getElem? fun j => ?_
    rw [List.getElem?_set]
    by_cases ej : i = j
    ·subst ej
     rw [if_pos rfl, if_pos (by simpa using hx), List.getElem?_map, hg]; rfl
    ·rw [if_neg ej]
  ·rintro ⟨a, s⟩ ⟨h0, h1⟩
   dsimp only at h0 h1
   subst h0
   show Ok (colletlaw43_seen_l2 l f e a (l.length : Int)) _
   unfold colletlaw43_seen_l2
   rw [Ok.ite, if_neg (by simp), Ok.pure]
   exact h1
 obtain ⟨r, h1, h2⟩ := key
 exact ⟨r, h1, h2⟩
theorem certain_val {C : List api_Claim} {l : List api_Sight} {m n : Int} {W : List Nat} (hC : C.length ≤ 10) (hWl : W.length ≤ LIM) (h : (court_Explains C l m n).val = some (up W, 0)) :
  (court_Certain C l m n).val = some (if W = [] then ([], 21) else (namesOf C (up W) 7, 0)) := by
 unfold court_Certain
 rw [Comp.val_bind, h, Option.bind_some, Comp.val_ite, if_neg (by simp), Comp.val_ite]
 by_cases hW : W = []
 ·rw [if_pos (by simp [hW, up]), if_pos hW, Comp.val_pure]
 ·have : ((up W).length : Int) ≠ 0 := by
   rw [up_len]
   have := List.length_pos_iff.2 hW
   omega
  rw [if_neg (by simpa using this), if_neg hW, Comp.val_bind, cnames_val hC (by rw [up_len]; exact hWl), Option.bind_some]
  exact Comp.val_pure _
theorem wrap8 (z : Int) : ∃ k : Nat, k < 256 ∧ IntKind.wrap .i64 (IntKind.wrap .u8 z) = (k : Int) := by
 have h : IntKind.wrap .u8 z = z % 256 := by simp [IntKind.wrap, IntKind.signed, IntKind.bits]
 refine ⟨(z % 256).toNat, by omega, ?_⟩
 rw [h, IntWalk.i64_in _ ⟨by omega, by omega⟩]; omega
theorem and_out {k M : Nat} (hk : k < 256) (hM : M ≤ 16) : ∃ r : Nat, r < 2 ^ M ∧ andB .i64 (k : Int) ((2 ^ M - 1 : Nat) : Int) = (r : Int) := by
 have hp : 2 ^ M ≤ 65536 := Nat.pow_le_pow_right (n := 2) (by omega) hM
 have hp0 := Nat.two_pow_pos M
 refine ⟨k &&& (2 ^ M - 1), ?_, andB_nat (by omega) (by omega)⟩
 have : k &&& (2 ^ M - 1) ≤ 2 ^ M - 1 := Nat.and_le_right
 omega
theorem pow_all {M : Nat} (hM : M ≤ 16) : IntKind.wrap .i64 ((shlF .i64 1 (M : Int)) - 1) = ((2 ^ M - 1 : Nat) : Int) := by
 have hp : 2 ^ M ≤ 65536 := Nat.pow_le_pow_right (n := 2) (by omega) hM
 have hp0 := Nat.two_pow_pos M
 rw [shlF_nat (by omega), IntWalk.i64_in _ ⟨by omega, by omega⟩]; omega
theorem vidx6 (v : Vector Int 6) {i : Nat} (hi : i < 6) : ∃ z, (idx v.toList (i : Int)).val = some z := ⟨v.toList[i]'(by simpa using hi), idx_val (List.getElem?_eq_getElem (by simpa using hi))⟩
theorem world_val {C : List api_Claim} {l : List api_Sight} {M : Nat} (v : Vector Int 6) {mat : Int} (hM : M ≤ 16) (hC : C.length ≤ 6) (hs : SmallL C) (hcl : ∀ x ∈ C, claimE x (M : Int) = 0) :
  ∃ R : List Nat, R.length = C.length ∧ (∀ r ∈ R, r < 2 ^ M) ∧ (Comp.loop (fun s : Int × Int × List Int => colletlaw43_CourtTrue_l2 (C, l, (M : Int)) v ((2 ^ M - 1 : Nat) : Int) s.1 s.2.1 s.2.2) (0, mat, List.replicate C.length 0)).val = some (mat, up R) := by
 have key : Ok (Comp.loop (fun s : Int × Int × List Int => colletlaw43_CourtTrue_l2 (C, l, (M : Int)) v ((2 ^ M - 1 : Nat) : Int) s.1 s.2.1 s.2.2) (0, mat, List.replicate C.length 0)) (fun r => r.1 = mat ∧ ∃ R : List Nat, R.length = C.length ∧ (∀ r ∈ R, r < 2 ^ M) ∧ r.2 = up R) := by
  refine Ok.count C.length (fun i s => s.1 = (i : Int) ∧ s.2.1 = mat ∧ ∃ R : List Nat, R.length = C.length ∧ (∀ r ∈ R, r < 2 ^ M) ∧ s.2.2 = up R) ⟨rfl, rfl, List.replicate C.length 0, by simp, fun r hr => by rw [List.mem_replicate] at hr; rw [hr.2]; exact Nat.two_pow_pos M, by simp [up]⟩ ?_ ?_
  ·rintro i ⟨s, m, a⟩ hi ⟨h0, h1, R, h2, h3, h4⟩
   dsimp only at h0 h1 h4
   subst h0 h1 h4
   have hset : ∀ r : Nat, r < 2 ^ M → (R.set i r).length = C.length ∧ (∀ x ∈ R.set i r, x < 2 ^ M) ∧ (up R).set i (r : Int) = up (R.set i r) := by
    intro r hr
    refine ⟨by simp [h2], fun x hx => ?_, by unfold up; rw [List.map_set]⟩
    rcases List.mem_or_eq_of_mem_set hx with h | h
    ·exact h3 x h
    ·rw [h]; exact hr
   obtain ⟨z, hz⟩ := vidx6 v (i := i) (by omega)
   obtain ⟨k, hk, hkv⟩ := wrap8 (Int.tdiv z 2)
   obtain ⟨r, hr, hrv⟩ := and_out hk hM
   have hg := List.getElem?_eq_getElem hi
   have hup : (up R)[i]? = some ((rm R i : Nat) : Int) := rm_get (by omega)
   have hlen : i < (up R).length := by rw [up_len]; omega
   show Ok (colletlaw43_CourtTrue_l2 (C, l, (M : Int)) v ((2 ^ M - 1 : Nat) : Int) (i : Int) m (up R)) _
   unfold colletlaw43_CourtTrue_l2 colletlaw43_CourtTrue_j3
   rw [Ok.ite, if_pos (by rw [decide_eq_true_iff]; show (i : Int) < (C.length : Int); omega), Ok.bind, Ok.of_val hz, Ok.bind, Ok.idxn hup, hkv, hrv, Ok.bind, Ok.upd (by omega), Int.toNat_natCast, Ok.bind, Ok.of_val hz]
   obtain ⟨s1, s2, s3⟩ := hset r hr
   rw [s3]
   refine Ok.ite_i (fun _ => ?_) (fun _ => ?_)
   ·have hm := List.getElem_mem hi
    obtain ⟨w, hw, hwv, _⟩ := bits_val hM (claim_range (hcl _ hm)).1 (hs _ hm).1
    rw [Ok.bind, Ok.idxn hg, Ok.bind, Ok.of_val hwv, Ok.bind, Ok.idxn (rm_get (by omega)), Ok.bind, Ok.upd (by rw [up_len]; omega), Int.toNat_natCast, Ok.pure]
    refine ⟨Comp.wrap_succ (by omega), rfl, (R.set i r).set i w, by simp [h2], fun x hx => ?_, by simp [up, List.map_set]⟩
    rcases List.mem_or_eq_of_mem_set hx with h | h
    ·exact s2 x h
    ·rw [h]; exact hw
   ·rw [Ok.pure]
    exact ⟨Comp.wrap_succ (by omega), rfl, R.set i r, s1, s2, rfl⟩
  ·rintro ⟨s, m, a⟩ ⟨h0, h1, R, h2, h3, h4⟩
   dsimp only at h0 h1 h4
   subst h0 h1 h4
   show Ok (colletlaw43_CourtTrue_l2 (C, l, (M : Int)) v ((2 ^ M - 1 : Nat) : Int) (C.length : Int) m (up R)) _
   unfold colletlaw43_CourtTrue_l2
   rw [Ok.ite, if_neg (by simp), Ok.pure]
   exact ⟨rfl, R, h2, h3, rfl⟩
 obtain ⟨⟨a, b⟩, h1, rfl, R, h2, h3, h4⟩ := key
 dsimp only at h4
 subst h4
 exact ⟨R, h2, h3, h1⟩
theorem gN_mono {C : List api_Claim} {s t : Nat} (h : Cor.Sub s t) (ht : t < 18446744073709551616) : gN (s : Int) C.zipIdx ≤ gN (t : Int) C.zipIdx := by
 have hs : s ≤ t := Sub.le h
 unfold gN
 refine List.countP_mono_left fun q hq hp => ?_
 unfold bitZ at hp ⊢
 rw [U_small (by omega)] at hp
 rw [U_small ht]
 rw [Bool.and_eq_true] at hp ⊢
 exact ⟨hp.1, h _ hp.2⟩
theorem true_l5 {C : List api_Claim} {l : List api_Sight} {M t : Nat} (hC : C.length ≤ 6) (ht : t < 2 ^ C.length) (hag : agreeB C l M t = true) :
  (Comp.loop (fun s => colletlaw43_CourtTrue_l5 (up (cf C l M), 0) ((compl C.length t : Nat) : Int) s) 0).val = some (.inr ()) := by
 have hp := pow6 hC
 have hlen := cf_len (l := l) (M := M) hC
 have hcl := compl_lt C.length t
 refine loop_none (body := fun s => colletlaw43_CourtTrue_l5 (up (cf C l M), 0) ((compl C.length t : Nat) : Int) s) (cf C l M) ?_ ?_
 ·intro i s hi
  have hi2 := getElem?_len hi
  have hm := List.mem_of_getElem? hi
  obtain ⟨hlt, hmin⟩ := cf_mem.1 hm
  have hne : s &&& compl C.length t ≠ 0 := by
   intro h0
   have : Cor.Sub s t := by
    intro k hk
    have := Nat.testBit_and s (compl C.length t) k
    rw [h0, testBit_compl, hk, decide_eq_true (bit_lt hlt hk)] at this
    simpa using this
   have := agree_down t s hag this
   rw [hmin.1] at this; cases this
  show (colletlaw43_CourtTrue_l5 (up (cf C l M), 0) ((compl C.length t : Nat) : Int) (i : Int)).val = _
  unfold colletlaw43_CourtTrue_l5
  rw [Comp.val_ite, if_pos (by rw [decide_eq_true_iff, up_len]; omega), Comp.val_bind, idx_val (mem_up_get hi), Option.bind_some, andB_nat (by omega) (by omega), Comp.val_ite, if_neg (by rw [decide_eq_true_iff]; omega), Comp.val_pure, Comp.wrap_succ (by omega)]
 ·show (colletlaw43_CourtTrue_l5 (up (cf C l M), 0) ((compl C.length t : Nat) : Int) ((cf C l M).length : Int)).val = _
  unfold colletlaw43_CourtTrue_l5
  rw [Comp.val_ite, if_neg (by simp [up_len]), Comp.val_pure]
theorem true_l7 {C : List api_Claim} {W : List Nat} {f : Nat} (hC : C.length ≤ 6) (hf : f < 2 ^ C.length) (hW : ∀ w ∈ W, w < 2 ^ C.length) (hWl : W.length ≤ 64) (hex : ∃ w ∈ W, Cor.Sub w f) :
  (Comp.loop (fun s : Bool × Int => colletlaw43_CourtTrue_l7 (up W, 0) (f : Int) s.1 s.2) (false, 0)).val = some true := by
 have hp := pow6 hC
 have := Comp.loop_fold (body := fun s : Bool × Int => colletlaw43_CourtTrue_l7 (up W, 0) (f : Int) s.1 s.2) W (fun b x => b || decide (without x f = 0)) id (fun _ _ => True) false (by
  intro b k x hk _
  have hk2 := getElem?_len hk
  have hxl := hW x (List.mem_of_getElem? hk)
  show (colletlaw43_CourtTrue_l7 (up W, 0) (f : Int) b (k : Int)).val = _
  unfold colletlaw43_CourtTrue_l7
  have e : decide (((without x f : Nat) : Int) = 0) = decide (without x f = 0) := decide_eq_decide.2 (by omega)
  rw [Comp.val_ite, if_pos (by rw [decide_eq_true_iff, up_len]; omega), Comp.val_bind, idx_val (mem_up_get hk), Option.bind_some, Comp.val_bind, Comp.val_pure, Option.bind_some, andNotB_nat (by omega) (by omega), Comp.val_pure, bif_or, e, Comp.wrap_succ (by omega)])
  (fun _ _ _ _ _ => trivial) (by
  intro b _
  show (colletlaw43_CourtTrue_l7 (up W, 0) (f : Int) b (W.length : Int)).val = _
  unfold colletlaw43_CourtTrue_l7
  rw [Comp.val_ite, if_neg (by simp [up_len]), Comp.val_pure]; rfl) trivial
 rw [this, Comp.foldl_any, Bool.false_or]
 congr 1
 obtain ⟨w, h1, h2⟩ := hex
 exact List.any_eq_true.2 ⟨w, h1, decide_eq_true (without_zero.2 h2)⟩
theorem true_l9 {C : List api_Claim} {l : List api_Sight} {M : Int} {W : List Nat} {f : Nat} (hC : C.length ≤ 6) (hf : f < 2 ^ C.length) (hW : ∀ w ∈ W, w < 2 ^ C.length) (hex : ∃ w ∈ W, Cor.Sub w f) :
  (Comp.loop (fun s => colletlaw43_CourtTrue_l9 (namesOf C (up W) 7, 0) (C, l, M) (f : Int) s) 0).val = some (.inr ()) := by
 have hp := pow6 hC
 have hnl := namesOf_len C (up W) 7
 refine loop_none (body := fun s => colletlaw43_CourtTrue_l9 (namesOf C (up W) 7, 0) (C, l, M) (f : Int) s) (namesOf C (up W) 7) ?_ ?_
 ·intro i p hi
  have hi2 := getElem?_len hi
  have hm := List.mem_of_getElem? hi
  have inner : (Comp.loop (fun s : Bool × Int => colletlaw43_CourtTrue_l11 (C, l, M) p (f : Int) s.1 s.2) (false, 0)).val = some true := by
   have := Comp.loop_fold (body := fun s : Bool × Int => colletlaw43_CourtTrue_l11 (C, l, M) p (f : Int) s.1 s.2) C.zipIdx (fun b q => b || (decide (q.1.Party = p) && f.testBit q.2)) id (fun _ _ => True) false (by
    rintro b k ⟨x, j⟩ hk _
    have hk2 := getElem?_len hk
    rw [zip_len] at hk2
    have hg := List.getElem?_eq_getElem hk2
    have hz := zip_get hg
    rw [hk] at hz
    obtain ⟨rfl, rfl⟩ : x = C[k] ∧ j = k := by cases hz; exact ⟨rfl, rfl⟩
    show (colletlaw43_CourtTrue_l11 (C, l, M) p (f : Int) b (j : Int)).val = _
    unfold colletlaw43_CourtTrue_l11
    rw [Comp.val_ite, if_pos (by rw [decide_eq_true_iff]; show (j : Int) < (C.length : Int); omega), bit_eq (by omega) (by omega)]
    have hw := Comp.wrap_succ (i := j) (by omega)
    cases b with
    | true => simp [Comp.val_bind, Comp.val_gd, Comp.val_pure, hw]
    | false =>
     by_cases hpq : C[j].Party = p
     ·simp [Comp.val_bind, Comp.val_gd, Comp.val_pure, idx_val hg, hpq, nonneg_val (show (0 : Int) ≤ (j : Int) by omega), hw]
     ·simp [Comp.val_bind, Comp.val_gd, Comp.val_pure, idx_val hg, hpq, hw])
    (fun _ _ _ _ _ => trivial) (by
    intro b _
    show (colletlaw43_CourtTrue_l11 (C, l, M) p (f : Int) b (C.zipIdx.length : Int)).val = _
    unfold colletlaw43_CourtTrue_l11
    rw [zip_len, Comp.val_ite, if_neg (by simp), Comp.val_pure]; rfl) trivial
   rw [this, Comp.foldl_any, Bool.false_or]
   congr 1
   obtain ⟨w, h1, h2⟩ := hex
   have hp2 : (up W).all (fun z => blameB C p z) = true := by
    unfold namesOf at hm
    rw [List.mem_map] at hm
    obtain ⟨j, h3, h4⟩ := hm
    rw [List.mem_filter] at h3
    rw [← h4]; exact h3.2
   have h5 := List.all_eq_true.1 hp2 (w : Int) (mem_up.2 h1)
   unfold blameB bitZ at h5
   obtain ⟨q, h6, h7⟩ := List.any_eq_true.1 h5
   rw [U_small (by have := hW w h1; omega), Bool.and_eq_true] at h7
   exact List.any_eq_true.2 ⟨q, h6, by rw [Bool.and_eq_true]; exact ⟨h7.2, h2 _ h7.1⟩⟩
  show (colletlaw43_CourtTrue_l9 (namesOf C (up W) 7, 0) (C, l, M) (f : Int) (i : Int)).val = _
  unfold colletlaw43_CourtTrue_l9
  rw [Comp.val_ite, if_pos (by rw [decide_eq_true_iff]; show (i : Int) < ((namesOf C (up W) 7).length : Int); omega), Comp.val_bind, idx_val hi, Option.bind_some, Comp.val_bind, inner, Option.bind_some]
  unfold colletlaw43_CourtTrue_j10
  rw [Comp.val_ite, if_neg (by simp), Comp.val_pure, Comp.wrap_succ (by omega)]
 ·show (colletlaw43_CourtTrue_l9 (namesOf C (up W) 7, 0) (C, l, M) (f : Int) ((namesOf C (up W) 7).length : Int)).val = _
  unfold colletlaw43_CourtTrue_l9
  rw [Comp.val_ite, if_neg (by simp), Comp.val_pure]
theorem law_CourtTrue {x : colletlaw43_Case} {a : Int} (hc : (Lit.int .u8 x.Cells).wf = true) (ha : (Lit.int .u8 a).wf = true) (v : Vector Int 6) (wr : Int) : (colletlaw43_CourtTrue x a v wr).val = some true := by
 have hLIM : LIM = 1073741824 := rfl
 obtain ⟨b, hb, hb2⟩ := wf_u8 hc
 obtain ⟨a, ha2, rfl⟩ := wf_u8 ha
 obtain ⟨C, l, M, hv, hmade, _⟩ := made_val (most := 6) hb2 hb (by omega)
 replace hv : (colletlaw43_Case_made x 6).val = some (C, l, (M : Int)) := hv
 have hC := hmade.len.1
 have hM := hmade.cells
 have hs := hmade.small
 have hck := hmade.check
 obtain ⟨hcl, hfar⟩ := check_ranges hck
 have hpa := pow_all (M := M) (by omega)
 have hwa : IntKind.wrap .i64 (a : Int) = (a : Int) := wrap_nat (by omega)
 obtain ⟨mat, hmat, hmatv⟩ := and_out ha2 (M := M) (by omega)
 obtain ⟨R, hR1, hR2, hRv⟩ := world_val (l := l) (M := M) v (mat := (mat : Int)) (by omega) hC hs hcl
 obtain ⟨e, he, hev, heb⟩ := there_val (C := C) (M := M) (by omega) (by omega) hR1 hmat hR2
 obtain ⟨l', hlv, hlg⟩ := seen_val (e : Int) wr (by have := hmade.len.2; omega) hfar
 have hlen' : l'.length = l.length := by simpa using congrArg List.length hlg
 have hfar' : l'.any (farB (M : Int)) = false := by rw [far_gc, hlg, ← far_gc, hfar]
 have hck' : checkE C l' (M : Int) = 0 := check_like hck hlen' (by rw [hfar', hfar])
 have hG := goodL hck'
 obtain ⟨t, ht, htv, htb⟩ := truth_val (C := C) (l := l') (M := M) (by omega) (by omega) (by have := hmade.len.2; omega) hR1 hmat hR2 hs hcl hfar' he hev
 have hag := world_agrees hG heb (fun i x hx h => (htb i x hx).1 h)
 have hp := pow6 hC
 have hp0 := Nat.two_pow_pos C.length
 have hpo := pow_out (n := C.length) (by omega)
 have hcomp : andNotB .i64 ((2 ^ C.length - 1 : Nat) : Int) (t : Int) = ((compl C.length t : Nat) : Int) := andNotB_nat (by omega) (by omega)
 have hfl := compl_lt C.length t
 have hAv : (court_Agrees C l' (M : Int) (t : Int)).val = some true := by rw [agrees_in hs hck' ht, hag]
 have hCv := cf_val hC hs hck'
 unfold colletlaw43_CourtTrue
 rw [Comp.val_bind, sanity_val, Option.bind_some, Comp.val_bind, hv, Option.bind_some, Comp.val_bind, nonneg_val (by show (0 : Int) ≤ (M : Int); omega), Option.bind_some, hpa, hwa, Comp.val_bind, Comp.val_pure, Option.bind_some, Comp.val_bind, mk_val (by show (0 : Int) ≤ (C.length : Int) ∧ (C.length : Int) ≤ (LIM : Int); omega), Option.bind_some, Int.toNat_natCast, hmatv, Comp.val_bind, hRv, Option.bind_some]
 show (colletlaw43_CourtTrue_j1 (C, l, (M : Int)) wr true (mat : Int) (up R)).val = _
 unfold colletlaw43_CourtTrue_j1
 rw [Comp.val_bind, hev, Option.bind_some, Comp.val_bind, hlv, Option.bind_some, Comp.val_bind, htv, Option.bind_some, Comp.val_bind, nonneg_val (by omega), Option.bind_some, hpo, hcomp, Comp.val_bind, Comp.val_pure, Option.bind_some, Comp.val_bind, hAv, Option.bind_some, Comp.val_ite, if_neg (by simp), Comp.val_bind, hCv, Option.bind_some, Comp.val_ite, if_neg (by simp), Comp.val_bind, true_l5 hC ht hag, Option.bind_some]
 show (colletlaw43_CourtTrue_j4 (C, l, (M : Int)) ((compl C.length t : Nat) : Int) true l').val = _
 obtain ⟨g, hg, hgv, hgb⟩ := gaugesM_val (C := C) (by omega)
 have hmany : (colletlaw43_many (andB .i64 ((compl C.length t : Nat) : Int) (g : Int))).val = some (gN ((compl C.length t : Nat) : Int) C.zipIdx : Int) := by
  rw [andB_nat (by omega) (by omega), many_val (k := C.length) (by omega) (Nat.lt_of_le_of_lt Nat.and_le_left hfl), ← gN_pop (by omega) hfl hgb]
 unfold colletlaw43_CourtTrue_j4
 rw [Comp.val_bind, hgv, Option.bind_some, Comp.val_bind, hmany, Option.bind_some, Comp.val_ite]
 by_cases h3 : (gN ((compl C.length t : Nat) : Int) C.zipIdx : Int) > 3
 ·rw [if_pos (by simpa using h3), Comp.val_pure]
 ·rw [if_neg (by simpa using h3)]
  obtain ⟨W, hW1, hW⟩ := why_val (l := l') (gN ((compl C.length t : Nat) : Int) C.zipIdx : Int) hC hs hck' (by omega)
  have hWl : W.length ≤ 64 := Nat.le_trans (inc_up_len hW.inc fun x hx => hW.lt hx) hp
  have hex : ∃ w ∈ W, Cor.Sub w (compl C.length t) := by
   have hh : Hits (compl C.length t) (cf C l' M) := (hits_compl (P := agreeB C l' M) agree_down ht).2 hag
   obtain ⟨w, h1, h2⟩ := exists_min (P := fun h => Hits h (cf C l' M)) _ hh
   refine ⟨w, (hW.mem w).2 ⟨h1, ?_⟩, h2⟩
   unfold fewG
   rw [decide_eq_true_iff]
   have := gN_mono (C := C) h2 (by omega)
   omega
  have hne : W ≠ [] := by
   obtain ⟨w, h1, _⟩ := hex
   intro h; rw [h] at h1; cases h1
  have hcert := certain_val (by omega) (by unfold LIM; omega) hW1
  rw [if_neg hne] at hcert
  rw [Comp.val_bind, hW1, Option.bind_some, Comp.val_bind, hcert, Option.bind_some, Comp.val_bind, true_l7 hC hfl (fun w hw => hW.lt hw) hWl hex, Option.bind_some]
  unfold colletlaw43_CourtTrue_j6
  rw [Comp.val_bind, Comp.val_pure, Option.bind_some, Comp.val_ite, if_neg (by simp), Comp.val_bind, true_l9 hC hfl (fun w hw => hW.lt hw) hex, Option.bind_some]
  exact Comp.val_pure _
end Go.Crt
end
section
set_option linter.unusedVariables false
set_option linter.unusedSimpArgs false
namespace Go.Lift
open Go Go.RowKit Go.Eng Go.ChangeShapes Go.WideShapes Go.ChangeAt Go.Joins Go.Deep Go.WideElems
variable {H : Type} {enc : TypeId × Value → H} {P : Program} {w : World} {base : Nat} {sp : Nat → Bool} {held : Bool} {α β γ : Type}
abbrev O0 : Tags := fun _ => 0
structure Opens (enc : TypeId × Value → H) (P : Program) (w : World) (base : Nat) (sp : Nat → Bool) (held : Bool) (t : Nat) (r : GR α) (Q : α → Prop) : Prop where
 size : P.cellsOf t = r.sz
 fits : r.fits
 op : ∀ fuel cs x, DataW.trod enc P w base sp held fuel t cs = some x → ∃ y, r.rel O0 w cs y ∧ Q y
theorem opens_int {t : Nat} {k : IntKind} (ht : P.underlying t = some (.int k)) (hs : P.cellsOf t = 1) : Opens enc P w base sp held t (rInt k) fun n => (Lit.int k n).wf = true :=
 ⟨hs, fun _ => rfl, fun fuel cs x h => by obtain ⟨n, h1, _, h2⟩ := DataW.trod_int ht h; exact ⟨n, h1, h2⟩⟩
theorem relL_of {r : GR α} {O : Tags} {Q : α → Prop} : ∀ {vs : List Value}, (∀ v ∈ vs, ∃ y, r.v O w v y ∧ Q y) → ∃ ys, RelL r O w vs ys ∧ ∀ y ∈ ys, Q y
 | [], _ => ⟨[], trivial, by simp⟩
 | v :: vs, h => by
   obtain ⟨y, h1, h2⟩ := h v (by simp)
   obtain ⟨ys, h3, h4⟩ := relL_of (vs := vs) fun u hu => h u (List.mem_cons_of_mem _ hu)
   exact ⟨y :: ys, ⟨h1, h3⟩, fun z hz => (List.mem_cons.1 hz).elim (fun e => by rw [e]; exact h2) (h4 z)⟩
theorem opens_slice {t e : Nat} {r : GR α} {Q : α → Prop} (ht : P.underlying t = some (.slice e)) (hs : P.cellsOf t = 1) (hE : Opens enc P w base sp held e r Q) (hpos : 0 < r.sz) : Opens enc P w base sp held t (rSl r) fun xs => (∀ x ∈ xs, Q x) ∧ xs.length ≤ maxLen := by
 refine ⟨hs, fun _ => rfl, fun fuel cs x h => ?_⟩
 rcases DataW.trod_slice ht h with ⟨rfl, _⟩ | ⟨a, len, cap, elems, rest, n, _, rfl, _, hb, hl, hm, hlen, hel, _, _⟩
 ·exact ⟨[], ⟨_, [], rfl, ⟨none, 0, rfl, by simp, by simp, .inl rfl⟩, trivial, fun h => absurd rfl h⟩, by simp, by simp⟩
 ·have each : ∀ i, i < len → ∃ cs, w.cells? base (a.add (i * r.sz)) r.sz = some cs ∧ ∃ y, r.rel O0 w cs y ∧ Q y := by
   intro i hi
   have := hel i hi
   rw [List.getElem?_eq_getElem (by omega), hE.size, Option.bind_eq_some_iff] at this
   obtain ⟨cs, h1, h2⟩ := this
   exact ⟨cs, h1, hE.op n cs _ h2⟩
  let f : Nat → Value := fun i => packV r.agg ((w.cells? base (a.add (i * r.sz)) r.sz).getD [])
  have hf : ∀ i, i < len → ∃ y, r.v O0 w (f i) y ∧ Q y := by
   intro i hi
   obtain ⟨cs, h1, y, h2, h3⟩ := each i hi
   exact ⟨y, ⟨cs, h2, by show packV r.agg ((w.cells? base (a.add (i * r.sz)) r.sz).getD []) = _; rw [h1]; rfl⟩, h3⟩
  have hfc : ∀ i, i < len → ∀ j, j < r.sz → w.cell? (a.add (i * r.sz + j)) = (f i).cells[j]? := by
   intro i hi j hj
   obtain ⟨cs, h1, y, h2, _⟩ := each i hi
   have h4 := (World.cells?_some h1).2.2 j hj
   have h5 : (f i).cells = cs.toArray := by
    show (packV r.agg ((w.cells? base (a.add (i * r.sz)) r.sz).getD [])).cells = _
    rw [h1]
    exact cells_pack (fun ha => by show cs.length = 1; rw [r.len h2, hE.fits ha]) (r.one h2)
   rw [h5, List.getElem?_toArray, ← h4]
   rw [_root_.Go.Addr.add_add]
  obtain ⟨ys, h1, h2⟩ := relL_of (r := r) (O := O0) (w := w) (Q := Q) (vs := (List.range len).map f) (by
   intro v hv
   obtain ⟨i, hi, rfl⟩ := List.mem_map.1 hv
   exact hf i (List.mem_range.1 hi))
  have hyl : ys.length = len := by have := h1.len; simpa using this.symm
  refine ⟨ys, ⟨_, (List.range len).map f, rfl, ⟨some a, cap, by simp, by simpa using hl, ?_, ?_⟩, h1, ?_⟩, h2, by omega⟩
  ·intro v hv
   obtain ⟨y, hy⟩ : ∃ y, r.v O0 w v y := by
    obtain ⟨i, hi, rfl⟩ := List.mem_map.1 hv
    obtain ⟨y, hy, _⟩ := hf i (List.mem_range.1 hi); exact ⟨y, hy⟩
   exact r.cells_size hE.fits hy
  ·by_cases h0 : len = 0
   ·left; simp [h0]
   ·right
    obtain ⟨b, off, spot⟩ := a
    have hc0 : (w.cell? (Addr.add ⟨b, off, spot⟩ (0 * r.sz + 0))).isSome = true := by
     rw [hfc 0 (by omega) 0 hpos]
     obtain ⟨y, hy, _⟩ := hf 0 (by omega)
     have := r.cells_size hE.fits hy
     rw [Array.getElem?_eq_getElem (by omega)]; rfl
    obtain ⟨v0, hv0⟩ := Option.isSome_iff_exists.1 hc0
    have hspot : spot = none := by simpa [Addr.add] using World.cell?_spot hv0
    subst hspot
    refine ⟨b, off, rfl, fun i x hx j hj => ?_⟩
    have hi : i < len := by have := (List.getElem?_eq_some_iff.1 hx).1; simpa using this
    have hx' : x = f i := by
     rw [List.getElem?_map, List.getElem?_range hi] at hx
     simpa using hx.symm
    rw [hx', ← hfc i hi j hj]
    unfold Addr.add
    split
    ·rename_i h0; congr 1; simp [h0]
    ·rfl
  ·intro hne g hg
   have h0 : 0 < len := by
    rcases Nat.eq_zero_or_pos len with h0 | h0
    ·subst h0; exact absurd rfl hne
    ·exact h0
   have hgb : g = a.block := by
    have : (Value.slice (some a) len cap).ownBlock = some a.block := rfl
    rw [this] at hg; exact (Option.some.inj hg).symm
   subst hgb
   refine ⟨?_, rfl⟩
   obtain ⟨cs, h3, _⟩ := each 0 h0
   have h4 := (World.cells?_some h3)
   have h5 := h4.2.2 0 hpos
   rw [List.getElem?_eq_getElem (by omega)] at h5
   have he : (a.add (0 * r.sz)).add 0 = a := by simp [Addr.add]
   rw [he] at h5
   exact World.block_lt_of_cell? _ _ h5
theorem open_top {t : Nat} {r : GR α} {Q : α → Prop} {v : Value} {d : DataW H} {ps : List MemPlace} (hE : Opens enc P w base sp held t r Q) (hv : packV r.agg v.cells.toList = v) (h : DataW.Trod enc P w base sp held t v d ps) : ∃ x, r.v O0 w v x ∧ Q x := by
 obtain ⟨fuel, hf⟩ := h
 obtain ⟨y, h1, h2⟩ := hE.op fuel _ _ hf
 exact ⟨y, ⟨_, h1, hv.symm⟩, h2⟩
theorem okO_O0 : OkO O0 w := fun _ _ => rfl
end Go.Lift
end
section
set_option linter.unusedVariables false
set_option linter.unusedSimpArgs false
namespace Go.Lift
open Go Go.RowKit Go.Eng Go.ChangeShapes Go.WideShapes Go.ChangeAt Go.Joins Go.Deep Go.WideElems
variable {H : Type} {enc : TypeId × Value → H} {P : Program} {w : World} {base : Nat} {sp : Nat → Bool} {held : Bool} {α β γ : Type}
theorem chop (cs : List Value) (off s : Nat) : cs.drop off = (cs.drop off).take s ++ cs.drop (off + s) := by
 rw [← List.drop_drop, List.take_append_drop]
theorem Opens.at_ {t : Nat} {r : GR α} {Q : α → Prop} (hE : Opens enc P w base sp held t r Q) {off n : Nat} {cs : List Value} {y} (h : DataW.trod enc P w base sp held n t ((cs.drop off).take (P.cellsOf t)) = some y) : ∃ a, r.rel O0 w ((cs.drop off).take r.sz) a ∧ Q a := by
 rw [hE.size] at h; exact hE.op n _ _ h
theorem rows_of {f : α → List Value} {Q : α → Prop} {k : Nat} : ∀ (n : Nat) (cs : List Value), cs.length = n * k → (∀ i, i < n → ∃ y, (cs.drop (i * k)).take k = f y ∧ Q y) → ∃ ys : List α, ys.length = n ∧ cs = ys.flatMap f ∧ ∀ y ∈ ys, Q y
 | 0, cs, h, _ => ⟨[], rfl, by rw [Nat.zero_mul] at h; rw [List.eq_nil_of_length_eq_zero h]; rfl, by simp⟩
 | n + 1, cs, h, hh => by
  obtain ⟨y, h1, h2⟩ := hh 0 (by omega)
  rw [Nat.zero_mul, List.drop_zero] at h1
  obtain ⟨ys, h3, h4, h5⟩ := rows_of (f := f) (Q := Q) (k := k) n (cs.drop k) (by rw [List.length_drop, h, Nat.add_mul]; omega) (fun i hi => by
   obtain ⟨z, h6, h7⟩ := hh (i + 1) (by omega)
   exact ⟨z, by rw [List.drop_drop, ← h6, Nat.add_mul, Nat.one_mul, Nat.add_comm], h7⟩)
  refine ⟨y :: ys, by simp [h3], ?_, ?_⟩
  ·rw [List.flatMap_cons, ← h1, ← h4, List.take_append_drop]
  ·intro z hz
   rcases List.mem_cons.1 hz with rfl | hz
   ·exact h2
   ·exact h5 z hz
theorem opens_vec {t e n k : Nat} {agg : Bool} {f : α → List Value} {hl ho hl' ho'} {Q : α → Prop} (ht : P.underlying t = some (.array n e)) (hs : P.cellsOf t = n * k) (hE : Opens enc P w base sp held e (rC agg k f hl ho) Q) : Opens enc P w base sp held t (rVec n k f hl' ho') fun x => ∀ y ∈ x.toList, Q y := by
 refine ⟨hs, (fun h => by cases h), fun fuel cs x h => ?_⟩
 obtain ⟨xs, m, rfl, rfl, hlen, hxl, hel⟩ := DataW.trod_array ht h
 obtain ⟨ys, h1, h2, h3⟩ := rows_of (f := f) (Q := Q) (k := k) n cs (by rw [hlen, hs]) (fun i hi => by
  have := hel i hi
  rw [List.getElem?_eq_getElem (by omega)] at this
  have hc : P.cellsOf e = k := hE.size
  rw [hc] at this
  have h4 : (cs.drop (i * k)).take k = (cs.drop (i * k)).take (P.cellsOf e) := by rw [hc]
  rw [h4] at this
  obtain ⟨a, h5, h6⟩ := hE.at_ this
  exact ⟨a, h5, h6⟩)
 exact ⟨⟨ys.toArray, by simpa using h1⟩, h2, by simpa using h3⟩
theorem okWide_array {n e : Nat} {t : TypeId} {r : Reach} {b : Nat} {v : Value} (ht : P.underlying t = some (.array n e)) (h : Value.okWide P w r b t v) : ∃ cs, v = .agg cs ∧ cs.size = P.cellsOf t := by
 simp only [Value.okWide, ht] at h
 obtain ⟨cs, h1, h2, _⟩ := h
 exact ⟨cs, h1, h2⟩
theorem open_struct {t : Nat} {fs : Array Field} {r : GR α} {Q : α → Prop} {re : Reach} {b0 : Nat} {v : Value} {d : DataW H} {ps : List MemPlace} (ht : P.underlying t = some (.struct fs)) (hE : Opens enc P w base sp held t r Q) (ha : r.agg = true) (hval : Value.okWide P w re b0 t v) (h : DataW.Trod enc P w base sp held t v d ps) : ∃ x, r.v O0 w v x ∧ Q x := by
 obtain ⟨cs, rfl, _⟩ := okWide_struct ht hval
 exact open_top hE (by simp [Value.cells, packV, ha]) h
theorem open_array {t n e : Nat} {r : GR α} {Q : α → Prop} {re : Reach} {b0 : Nat} {v : Value} {d : DataW H} {ps : List MemPlace} (ht : P.underlying t = some (.array n e)) (hE : Opens enc P w base sp held t r Q) (ha : r.agg = true) (hval : Value.okWide P w re b0 t v) (h : DataW.Trod enc P w base sp held t v d ps) : ∃ x, r.v O0 w v x ∧ Q x := by
 obtain ⟨cs, rfl, _⟩ := okWide_array ht hval
 exact open_top hE (by simp [Value.cells, packV, ha]) h
end Go.Lift
end
section
namespace Go.Proofs.Ytebmpjdegajhgaa.courtTrueDone
open Go Go.ChangeShapes Go.WideShapes Go.ChangeAt Go.RowKit Go.Eng Go.Lift Go.Joins Go.F
open Go.ChangeMaps (open_string shut_string)
open Go.Proofs.Ytebmpjdegajhgaa
set_option linter.unusedVariables false
set_option linter.unusedSimpArgs false
theorem op_3 {H : Type} {enc : TypeId × Value → H} {w : World} {base : Nat} {sp : Nat → Bool} {held : Bool} : Opens enc Try.prog w base sp held 3 (rInt .i64) (fun z => (Lit.int .i64 z).wf = true) := opens_int Try.underlying3 (by kernel_rfl)
theorem op_23 {H : Type} {enc : TypeId × Value → H} {w : World} {base : Nat} {sp : Nat → Bool} {held : Bool} : Opens enc Try.prog w base sp held 23 (rSl (rInt .i64)) (fun z => (∀ y ∈ z, (fun z => (Lit.int .i64 z).wf = true) y) ∧ z.length ≤ maxLen) := opens_slice Try.underlying23 (by kernel_rfl) op_3 (by decide)
theorem op_22 {H : Type} {enc : TypeId × Value → H} {w : World} {base : Nat} {sp : Nat → Bool} {held : Bool} : Opens enc Try.prog w base sp held 22 (rSl (rSl (rInt .i64))) (fun z => (∀ y ∈ z, (fun z => (∀ y ∈ z, (fun z => (Lit.int .i64 z).wf = true) y) ∧ z.length ≤ maxLen) y) ∧ z.length ≤ maxLen) := opens_slice Try.underlying22 (by kernel_rfl) op_23 (by decide)
theorem op_5 {H : Type} {enc : TypeId × Value → H} {w : World} {base : Nat} {sp : Nat → Bool} {held : Bool} : Opens enc Try.prog w base sp held 5 (rInt .u8) (fun z => (Lit.int .u8 z).wf = true) := opens_int Try.underlying5 (by kernel_rfl)
def Q_colletlaw43_Case (x : colletlaw43_Case) : Prop := ((∀ y ∈ x.Claims, (fun z => (∀ y ∈ z, (fun z => (Lit.int .i64 z).wf = true) y) ∧ z.length ≤ maxLen) y) ∧ x.Claims.length ≤ maxLen) ∧ ((Lit.int .u8 x.Cells).wf = true) ∧ ((∀ y ∈ x.Sights, (fun z => (Lit.int .i64 z).wf = true) y) ∧ x.Sights.length ≤ maxLen) ∧ True
theorem op_25 {H : Type} {enc : TypeId × Value → H} {w : World} {base : Nat} {sp : Nat → Bool} {held : Bool} : Opens enc Try.prog w base sp held 25 r_colletlaw43_Case Q_colletlaw43_Case := by
 refine ⟨by kernel_rfl, fit_colletlaw43_Case, fun fuel cs x h => ?_⟩
 obtain ⟨xs, n, rfl, rfl, hl, hlen, hf⟩ := DataW.trod_struct Try.underlying25 h
 have hl' : cs.length = 3 := hl.trans (by kernel_rfl)
 obtain ⟨y0, hy0⟩ : ∃ y, xs[0]? = some y := ⟨_, List.getElem?_eq_getElem (by rw [hlen]; decide)⟩
 obtain ⟨a0, k0, q0⟩ := Opens.at_ (off := 0) (n := n) (cs := cs) (op_22 (enc := enc) (w := w) (base := base) (sp := sp) (held := held)) ((hf 0 _ rfl).trans hy0)
 obtain ⟨y1, hy1⟩ : ∃ y, xs[1]? = some y := ⟨_, List.getElem?_eq_getElem (by rw [hlen]; decide)⟩
 obtain ⟨a1, k1, q1⟩ := Opens.at_ (off := 1) (n := n) (cs := cs) (op_5 (enc := enc) (w := w) (base := base) (sp := sp) (held := held)) ((hf 1 _ rfl).trans hy1)
 obtain ⟨y2, hy2⟩ : ∃ y, xs[2]? = some y := ⟨_, List.getElem?_eq_getElem (by rw [hlen]; decide)⟩
 obtain ⟨a2, k2, q2⟩ := Opens.at_ (off := 2) (n := n) (cs := cs) (op_23 (enc := enc) (w := w) (base := base) (sp := sp) (held := held)) ((hf 2 _ rfl).trans hy2)
 exact ⟨⟨a0, a1, a2⟩, ⟨_, _, chop cs 0 1, k0, ⟨_, _, chop cs 1 1, k1, ⟨_, _, chop cs 2 1, k2, List.drop_of_length_le (by rw [hl']; decide)⟩⟩⟩, ⟨q0, q1, q2, trivial⟩⟩
theorem op_54 {H : Type} {enc : TypeId × Value → H} {w : World} {base : Nat} {sp : Nat → Bool} {held : Bool} : Opens enc Try.prog w base sp held 54 (rVec 6 1 (fun x => [.int .u8 x]) (fun _ => rfl) (fun _ => by simp [Value.oneCell'])) (fun z => ∀ y ∈ z.toList, (fun z => (Lit.int .u8 z).wf = true) y) := opens_vec Try.underlying54 (by kernel_rfl) op_5
theorem own : ownKnob Try.prog.godebug = none := by kernel_rfl
theorem laidOut : laidOutB Try.prog = true := by kernel_rfl
set_option maxRecDepth 100000 in
theorem lifted (os : Os) (started : os.Started) (H : Type) (enc : TypeId × Value → H) :
  ReturnsInHanded {} Try.checked os 5 .any (Rows.courtTrueSpec.pre6 enc Try.prog Try.f5 Rows.courtTrueRow.domain false) (Rows.courtTrueSpec.post enc Try.prog Try.f5 false true false false) := by
 refine returnsInHanded_of_change (C := Try.checked) own started (by kernel_rfl) Try.func5
  (ChangeSpec.witness6 (enc := enc) (C := Try.checked) false ⟨#[], #[.agg #[.slice none 0 0, .int .u8 0, .slice none 0 0], .int .u8 0, .agg #[.int .u8 0, .int .u8 0, .int .u8 0, .int .u8 0, .int .u8 0, .int .u8 0], .int .u8 0], []⟩ 8 (by kernel_rfl) (by kernel_rfl) (by kernel_rfl) (by kernel_rfl)) ?_
 intro W base args ds gs before hval0 hW hcnd _
 have hval : ∀ (j : Nat) t v, Try.f5.params[j]? = some t → args[j]? = some v → Value.okWide Try.prog W .any base t v := hval0
 have hW' := hW
 obtain ⟨p, q, hA0, hV, rfl, hfz, hnd⟩ := hW
 have hA : DataW.TrodAll enc Try.prog W 0 (fun _ => true) true Try.f5.params.toList args.toList ds p := hA0
 rw [Try.params5] at hA hval
 obtain ⟨v0, vs0, d0, ds0, p0, q0_, hargs, rfl, rfl, h0, r0⟩ := trodAll_cons hA
 obtain ⟨v1, vs1, d1, ds1, p1, q1_, rfl, rfl, rfl, h1, r1⟩ := trodAll_cons r0
 obtain ⟨v2, vs2, d2, ds2, p2, q2_, rfl, rfl, rfl, h2, r2⟩ := trodAll_cons r1
 obtain ⟨v3, vs3, d3, ds3, p3, q3_, rfl, rfl, rfl, h3, r3⟩ := trodAll_cons r2
 obtain ⟨rfl, rfl, rfl⟩ := trodAll_nil r3
 obtain rfl : args = #[v0, v1, v2, v3] := by cases args; simp_all
 obtain ⟨rfl, rfl⟩ := trodVars_none hV
 have k0 := h0
 have lt0 : ∀ x ∈ p0, x.block < W.heap.size := by obtain ⟨m, hm⟩ := k0; exact DataW.trod_lt m _ _ _ hm
 have k1 := h1
 have lt1 : ∀ x ∈ p1, x.block < W.heap.size := by obtain ⟨m, hm⟩ := k1; exact DataW.trod_lt m _ _ _ hm
 have k2 := h2
 have lt2 : ∀ x ∈ p2, x.block < W.heap.size := by obtain ⟨m, hm⟩ := k2; exact DataW.trod_lt m _ _ _ hm
 have k3 := h3
 have lt3 : ∀ x ∈ p3, x.block < W.heap.size := by obtain ⟨m, hm⟩ := k3; exact DataW.trod_lt m _ _ _ hm
 obtain ⟨x0, hr0, q0⟩ := open_struct Try.underlying25 op_25 rfl (hval 0 25 v0 rfl rfl) h0
 obtain ⟨x1, e1, _, _, q1⟩ := open_int Try.underlying5 (hval 1 5 v1 rfl rfl) h1
 obtain ⟨x2, hr2, q2⟩ := open_array Try.underlying54 op_54 rfl (hval 2 54 v2 rfl rfl) h2
 have e2 : v2 = .agg (cellsA (fun x => [.int .u8 x]) x2).toArray := rC_v.1 hr2
 obtain ⟨x3, e3, _, _, q3⟩ := open_int Try.underlying5 (hval 3 5 v3 rfl rfl) h3
 clear hA0 hval0
 obtain ⟨n_, hn_⟩ := Comp.val_some.1 (Go.Crt.law_CourtTrue q0.2.1 q1 x2 x3)
 have walk := ok_colletlaw43_CourtTrue (w0 := W) okO_O0 hr0 hn_
 refine Calls.mono (R := fun e W' => e = .returned (.bool true) ∧ Below W.heap.size W W') ?_ fun e W' ⟨he, bel⟩ => ?_
 ·rw [e1]; rw [e2]; rw [e3]; exact Calls.mono walk fun e W' ⟨_, h1, h2, h3⟩ => ⟨by rw [h1]; exact congrArg _ h3, h2⟩
 ·subst he
  exact ⟨_, rfl, _, _, _, [], _, [], hW', trodAll_mk1 (shut_bool Try.underlying4 _), (trodAll_cons_mk (Below.trod laidOut (by kernel_rfl) (of_decide_eq_true (by kernel_rfl)) k0 bel lt0) (trodAll_cons_mk (Below.trod laidOut (by kernel_rfl) (of_decide_eq_true (by kernel_rfl)) k1 bel lt1) (trodAll_cons_mk (Below.trod laidOut (by kernel_rfl) (of_decide_eq_true (by kernel_rfl)) k2 bel lt2) (trodAll_cons_mk (Below.trod laidOut (by kernel_rfl) (of_decide_eq_true (by kernel_rfl)) k3 bel lt3) trodAll_mk0)))), rfl, bel.frame _, fun h => by cases h⟩
theorem proved : Rows.CourtTrueSaid :=
 OpenClaim.holds_of_wide 5 Try.f5 rfl rfl rfl rfl rfl rfl rfl ⟨rfl, rfl, rfl, rfl, rfl⟩ rfl rfl rfl rfl rfl (by kernel_rfl) Try.func5 (by kernel_rfl)
  (of_decide_eq_true (by kernel_rfl)) (by unfold Func.isWrapper; first | (rw [if_pos (by decide +kernel)]; kernel_rfl) | (rw [if_neg (by decide +kernel)]; exact ⟨rfl, rfl⟩))
  (fun os started H enc _ => lifted os started H enc)
#print axioms proved
end Go.Proofs.Ytebmpjdegajhgaa.courtTrueDone
end
