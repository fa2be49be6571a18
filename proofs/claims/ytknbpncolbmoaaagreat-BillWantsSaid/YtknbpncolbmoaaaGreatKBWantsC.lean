/- Lemmas behind a claim of this seat. No statement of the program stands here. -/
import Derived.Test.YtknbpncolbmoaaaGreatKBWantsB
import Derived.Scope
set_option linter.unusedSimpArgs false
set_option linter.unusedVariables false
section
namespace Go.Den
open Go Go.RowKit Go.Eng Go.Lift
variable {α β γ δ : Type}
theorem mO {d : Nat} : ∀ {l : List Nat}, d ∈ l → memN d l = true
 | [], h => nomatch h
 | e :: l, h => by
  unfold memN
  cases hb : Nat.beq e d with
  | true => rfl
  | false =>
   rcases List.mem_cons.1 h with rfl | h
   ·rw [Nat.beq_refl] at hb; cases hb
   ·exact mO h
theorem YB {α : Type} {l m : List (Nat × α)} {t : Nat} {e : α} (h : look (l ++ m) t = some e) : look l t = some e ∨ (look l t = none ∧ look m t = some e) := by
 induction l with
 | nil => exact .inr ⟨rfl, h⟩
 | cons p l ih =>
  simp only [List.cons_append, look] at h ⊢
  cases hb : Nat.beq p.1 t with
  | true => rw [hb] at h; exact .inl h
  | false => rw [hb] at h; exact ih h
def AV.els : AV → List AV
 | .pr a b => a :: b.els
 | _ => []
theorem AV.DJ {X : Cx} {w : World} (φ : AV) : ∀ {vs : List Value}, (φ.sem X w).l vs → vs.length = φ.els.length ∧ ∀ (i : Nat) ψ v, φ.els[i]? = some ψ → vs[i]? = some v → ψ.holds X w v := by
 induction φ with
 | pr a b iha ihb =>
  intro vs h
  obtain ⟨v, vs', rfl, h1, h2⟩ := h
  obtain ⟨h3, h4⟩ := ihb h2
  refine ⟨by simp [AV.els, h3], fun i ψ u hi hu => ?_⟩
  cases i with
  | zero => simp only [AV.els, List.getElem?_cons_zero, Option.some.injEq] at hi hu; subst hi hu; exact h1
  | succ i => simp only [AV.els, List.getElem?_cons_succ] at hi hu; exact h4 i ψ u hi hu
 | un => intro vs h; rw [show vs = [] from h]; exact ⟨rfl, fun i ψ u hi => by simp [AV.els] at hi⟩
 | _ => intro vs h; exact False.elim h
def mIn (G : FE) (M : MS) : List (Option TypeId) → (ps : Ty) → List AV → Option (ps.D × List Nat)
 | some T :: io, .cons (.box e) q, φ :: l => match φ with
  | .bx k off => match off, look M k with
   | 0, some (_, .bx _ c T') => match Nat.beq T T', c.asT G M e, mIn G M io q l with
    | true, some x, some p => match memN k p.2 with
     | false => some ((x, p.1), k :: p.2)
     | true => none
    | _, _, _ => none
   | _, _ => none
  | _ => none
 | none :: io, .cons a q, φ :: l => match φ.asT G M a, mIn G M io q l with
  | some x, some p => some ((x, p.1), p.2)
  | _, _ => none
 | [], .nil, [] => some ((), [])
 | _, _, _ => none
inductive MSh : List (Option TypeId) → Ty → List AV → Prop
 | n : MSh [] .nil []
 | b {T io e q φ l} : MSh (some T :: io) (.cons (.box e) q) (φ :: l)
 | v {io a q φ l} : MSh (none :: io) (.cons a q) (φ :: l)
theorem JI {G : FE} {M : MS} {io : List (Option TypeId)} {ps : Ty} {l : List AV} {r} (h : mIn G M io ps l = some r) : MSh io ps l := by
 cases io with
 | nil => cases ps <;> cases l <;> first | exact .n | (simp [mIn] at h)
 | cons o io =>
  cases o with
  | none => cases ps <;> cases l <;> first | exact .v | (simp [mIn] at h)
  | some T =>
   cases ps with
   | cons p q => cases p <;> cases l <;> first | exact .b | (simp [mIn] at h)
   | _ => cases l <;> (simp [mIn] at h)
theorem uB {G : FE} {M : MS} {T io e q φ l} {x : (Ty.cons (.box e) q).D} {ks : List Nat} (h : mIn G M (some T :: io) (.cons (.box e) q) (φ :: l) = some (x, ks)) :
  ∃ k st nw c ks', φ = .bx k 0 ∧ look M k = some (st, .bx nw c T) ∧ c.asT G M e = some x.1 ∧ mIn G M io q l = some (x.2, ks') ∧ ks = k :: ks' ∧ memN k ks' = false := by
 unfold mIn at h
 split at h
 ·rename_i k off
  split at h
  ·rename_i st nw c T' hk
   split at h
   ·rename_i x1 p hT hc hp
    split at h
    ·rename_i hmem
     cases h
     have hTT : T = T' := MX hT
     subst hTT
     exact ⟨k, st, nw, c, p.2, rfl, hk, hc, hp, rfl, hmem⟩
    ·cases h
   ·cases h
  ·cases h
 ·cases h
theorem uA {G : FE} {M : MS} {io a q φ l} {x : (Ty.cons a q).D} {ks : List Nat} (h : mIn G M (none :: io) (.cons a q) (φ :: l) = some (x, ks)) : φ.asT G M a = some x.1 ∧ mIn G M io q l = some (x.2, ks) := by
 unfold mIn at h
 split at h
 ·rename_i x1 p hx hp; cases h; exact ⟨hx, hp⟩
 ·cases h
def BK (X : Cx) : List Nat → List Nat → Prop
 | [], [] => True
 | k :: ks, b :: bl => X.U k = .pointer (some ⟨b, 0, none⟩) ∧ X.O b = X.ι k ∧ BK X ks bl
 | _, _ => False
def OwnK (M : MS) (k : Nat) : Prop := ∃ e, look M k = some e ∧ e.2.own = true
theorem I0 {X : Cx} {w : World} {G : FE} (hG : FOk X.P G) {M : MS} (hM : KnowM M X w) (hinj : ∀ k k' e e', look M k = some e → look M k' = some e' → e.2.own = true → e'.2.own = true → X.ι k = X.ι k' → k = k') (hpos : ∀ k e, look M k = some e → e.2.own = true → X.ι k ≠ 0) :
  ∀ {io : List (Option TypeId)} {ps : Ty} {l : List AV} {x : ps.D} {ks : List Nat} {vs : List Value}, mIn G M io ps l = some (x, ks) → vs.length = l.length → (∀ (i : Nat) φ v, l[i]? = some φ → vs[i]? = some v → φ.holds X w v) →
   ∃ bl, MIn X.P X.O w io ps bl vs x ∧ BK X ks bl ∧ (∀ k ∈ ks, OwnK M k) ∧ (∀ b ∈ bl, ∃ k ∈ ks, X.O b = X.ι k) := by
 intro io
 induction io with
 | nil =>
  intro ps l x ks vs h hl hv
  cases JI h
  simp only [mIn] at h
  cases h
  have : vs = [] := List.length_eq_zero_iff.1 hl
  subst this
  exact ⟨[], ⟨rfl, rfl⟩, trivial, by simp, by simp⟩
 | cons o io ih =>
  intro ps l x ks vs h hl hv
  cases JI h with
  | @b T _ e q φ l' =>
   obtain ⟨k, st, nw, c, ks', rfl, hk, hc, hp, rfl, hmem⟩ := uB h
   cases vs with
   | nil => simp at hl
   | cons v vs' =>
   have hφ := hv 0 _ v rfl rfl
   obtain ⟨b, cs, h1, h2, h3, h4⟩ := hM k _ hk
   obtain ⟨_, b', h5, rfl⟩ := (hφ : k < X.n ∧ ∃ b, X.U k = .pointer (some ⟨b, 0, none⟩) ∧ v = .pointer (some ⟨b, 0, none⟩))
   rw [h1] at h5
   simp only [Value.pointer.injEq, Option.some.injEq, Addr.mk.injEq, and_true] at h5
   subst h5
   obtain ⟨bl, g1, g2, g3, g4⟩ := ih (vs := vs') (l := l') hp (by simpa using hl) (fun i φ v hi hv' => hv (i + 1) φ v (by simpa using hi) (by simpa using hv'))
   have hkk : OwnK M k := ⟨_, hk, rfl⟩
   have hnk : k ∉ ks' := fun hin => by rw [mO hin] at hmem; cases hmem
   refine ⟨b :: bl, ⟨b, bl, vs', cs, rfl, rfl, h2.own, ?_, fun c' hc' => ?_, (AV.kH hG c hM).vc hc h3, g1⟩, ⟨h1, h2.tag, g2⟩, fun j hj => ?_, fun c' hc' => ?_⟩
   ·rw [h2.tag]; exact hpos k _ hk rfl
   ·obtain ⟨j, hj, hj2⟩ := g4 c' hc'
    rw [h2.tag, hj2]
    obtain ⟨e', he', ho'⟩ := g3 j hj
    intro heq
    exact hnk (hinj j k _ _ he' hk ho' rfl heq ▸ hj)
   ·rcases List.mem_cons.1 hj with rfl | hj
    ·exact hkk
    ·exact g3 j hj
   ·rcases List.mem_cons.1 hc' with rfl | hc'
    ·exact ⟨k, by simp, h2.tag⟩
    ·obtain ⟨j, hj, hj2⟩ := g4 c' hc'; exact ⟨j, by simp [hj], hj2⟩
  | @v _ a q φ l' =>
   obtain ⟨hx, hp⟩ := uA h
   cases vs with
   | nil => simp at hl
   | cons v vs' =>
   obtain ⟨bl, g1, g2, g3, g4⟩ := ih (vs := vs') (l := l') hp (by simpa using hl) (fun i φ v hi hv' => hv (i + 1) φ v (by simpa using hi) (by simpa using hv'))
   exact ⟨bl, ⟨v, vs', rfl, AV.asT_v hG hM hx (hv 0 φ v rfl rfl), g1⟩, g2, g3, g4⟩
def mOut (M : MS) (n : Nat) : (io : List (Option TypeId)) → (ps : Ty) → List Nat → (ioT io ps).D → MS
 | some T :: io, .cons (.box e) q, k :: ks, y => match look M k with
  | some (_, .bx nw _ _) => (k, n, .bx nw (.rd e y.1) T) :: mOut M n io q ks y.2
  | _ => mOut M n io q ks y.2
 | none :: io, .cons _ q, ks, y => mOut M n io q ks y
 | _, _, _, _ => []
theorem mR {X X' : Cx} {w w' : World} {G : FE} {M : MS} (hM : KnowM M X w) (hP : X'.P = X.P) (hO : X'.O = X.O) (hU : X'.U = X.U) (hι : X'.ι = X.ι) (hA : X'.A = X.A) (hF : X'.F = X.F) {n : Nat} :
  ∀ {io : List (Option TypeId)} {ps : Ty} {l : List AV} {x : ps.D} {ks bl : List Nat} {y : (ioT io ps).D}, mIn G M io ps l = some (x, ks) → BK X ks bl → MOut X.P X.O w' io ps bl y →
   (∀ k e, look (mOut M n io ps ks y) k = some e → e.1 = n ∧ k ∈ ks ∧ e.2.holds X' w' k) ∧ (∀ k ∈ ks, look (mOut M n io ps ks y) k ≠ none) := by
 intro io
 induction io with
 | nil =>
  intro ps l x ks bl y h hb ho
  cases JI h
  simp only [mIn] at h
  cases h
  exact ⟨fun k e he => (nomatch he), by simp⟩
 | cons o io ih =>
  intro ps l x ks bl y h hb ho
  cases JI h with
  | @b T _ e q φ l' =>
   obtain ⟨k, st, nw, c, ks', rfl, hk, hc, hp, rfl, hmem⟩ := uB h
   obtain ⟨b0, cs0, h1, h2, h3, h4⟩ := hM k _ hk
   cases bl with
   | nil => exact hb.elim
   | cons b bl =>
   obtain ⟨hb1, hb2, hb3⟩ := hb
   obtain ⟨b', bl', cs, e1, h5, h6, h7⟩ := ho
   cases e1
   rw [h1] at hb1
   simp only [Value.pointer.injEq, Option.some.injEq, Addr.mk.injEq, and_true] at hb1
   subst hb1
   obtain ⟨g1, g2⟩ := ih hp hb3 h7
   have em : mOut M n (some T :: io) (.cons (.box e) q) (k :: ks') y = (k, n, .bx nw (.rd e y.1) T) :: mOut M n io q ks' y.2 := by
    simp only [mOut]
    rw [hk]
   rw [em]
   refine ⟨fun j f hf => ?_, fun j hj => ?_⟩
   ·rcases zF hf with ⟨e1, e2⟩ | ⟨e1, e2⟩
    ·subst e1 e2
     refine ⟨rfl, by simp, b0, cs, by rw [hU]; exact h1, ⟨h5, ?_, ?_⟩, ?_, rfl⟩
     ·rw [Cx.B_eq hA hF]; exact h2.ge
     ·rw [hO, hι]; exact hb2
     ·show (e.gr X'.P).rel X'.O w' cs.toList y.1
      rw [hP, hO]; exact h6
    ·obtain ⟨a1, a2, a3⟩ := g1 j f e2; exact ⟨a1, by simp [a2], a3⟩
   ·unfold look
    cases hkj : Nat.beq k j with
    | true => simp [hkj]
    | false =>
     simp only [hkj, cond_false]
     refine g2 j ?_
     rcases List.mem_cons.1 hj with rfl | hj
     ·rw [Nat.beq_refl] at hkj; cases hkj
     ·exact hj
  | @v _ a q φ l' =>
   obtain ⟨hx, hp⟩ := uA h
   exact ih hp hb ho
def wY (E : VE) (s : S) (d : Option Tmp) (φ : Option AV) (l : Option (List AV)) (k : S → Comp β) : Comp β := match φ, l with
 | some (.cl f ca cb), some l => match E.H f with
  | none => Comp.fail
  | some fs => match mIn E.G s.M fs.io fs.ps (ca.els ++ (l ++ cb.els)) with
   | some p => (fs.sem p.1).bind fun y => k (S.put { L := s.L, M := mOut s.M s.n fs.io fs.ps p.2 y.1 ++ s.M, n := s.n + 1, ep := s.n } d (resAV fs.rs y.2))
   | none => Comp.fail
 | _, _ => Comp.fail
section
variable {F : Frm} {s : S} {a : Act} {w : World} {X : Cx} {E : VE}
variable {d : Option Tmp} {T Y : TypeId} {pos : String} {aft : Array Edge} {g : Option (Nat × Bool)} {k : S → Comp β}
theorem wN {f : FuncId} {x : Operand} {xs : Array Operand} {ts : Array TypeId} {fst cap : Array Value} {R : Ending → World → Prop} {K : Act → World → Prop} {Q : Exit → Act → World → Prop} {P : Program} (hf : FnOk P f) (hu : a.eval x = .func (.func f) fst cap) (h : Calls P f (fst ++ xs.map a.eval ++ cap) w R)
  (hK : ∀ e w', R e w' → ∃ v, e = .returned v ∧ K (a.put d v) w') : Oper.wp P ⟨d, .call ⟨.value x, xs, ts⟩, T, pos, aft, g⟩ a w K Q := by
 obtain ⟨fn, h1, h2, h3⟩ := hf.h
 have hr : (execOp a.eval ⟨d, .call ⟨.value x, xs, ts⟩, T, pos, aft, g⟩).run P w = .ok (.enter f (fst ++ xs.map a.eval ++ cap)) w := by
  simp only [execOp, resolve, hu, Deferred.ofValue, Sem.run_bind, Sem.run_pure, Result.andThen, invoke, callFunc, run_program, h1]
  simp [h2, h3]
 unfold Oper.wp
 rw [hr]
 refine Calls.mono h fun e w' he => ?_
 obtain ⟨v, rfl, hv⟩ := hK e w' he
 exact hv
theorem RelX.modL (h : RelX F s a w X) (hG : FOk X.P E.G) {io : List (Option TypeId)} {ps : Ty} {l : List AV} {x : ps.D} {ks bl : List Nat} {y : (ioT io ps).D} {w' : World} (hi : mIn E.G s.M io ps l = some (x, ks)) (hb : BK X ks bl) (hk : ∀ k ∈ ks, OwnK s.M k) (hbl : ∀ b ∈ bl, ∃ k ∈ ks, X.O b = X.ι k) (hw : ButL bl w w') (ho : MOut X.P X.O w' io ps bl y) :
  RelX F { L := s.L, M := mOut s.M s.n io ps ks y ++ s.M, n := s.n + 1, ep := s.n } a w' { X with n := s.n + 1, ep := s.n } := by
 have hne : ∀ b, b ∈ bl → X.O b ≠ 0 ∧ X.O b ≠ F.x.st := fun b hb => by
  obtain ⟨k, h1, h2⟩ := hbl b hb
  obtain ⟨e, h3, h4⟩ := hk k h1
  rw [h2]; exact h.pos k e h3 h4
 have hkeep : ∀ t, (∀ b ∈ bl, X.O b ≠ t) → Keep t X.O w X.O w' := fun t ht => ⟨hw.size, fun b hb hbt => ⟨hbt, hw.block b hb fun hin => ht b hin hbt⟩⟩
 let X' : Cx := { X with n := s.n + 1, ep := s.n }
 have hout := mR (X := X) (X' := X') (w := w) (w' := w') (G := E.G) (n := s.n) h.m rfl rfl rfl rfl rfl rfl hi hb ho
 have hinbl : ∀ b ∈ bl, F.A b := fun b hbin => by
  have : ∀ {ks bl : List Nat}, BK X ks bl → (∀ k ∈ ks, OwnK s.M k ∧ ∃ st nw c T, look s.M k = some (st, .bx nw c T)) → ∀ b ∈ bl, F.A b := by
   intro ks
   induction ks with
   | nil => intro bl hb _ b hin; cases bl with | nil => cases hin | cons => exact hb.elim
   | cons k ks ih =>
    intro bl hb hks b hin
    cases bl with
    | nil => cases hin
    | cons b' bl =>
     obtain ⟨q1, q2, q3⟩ := hb
     rcases List.mem_cons.1 hin with rfl | hin
     ·obtain ⟨_, st, nw, c, T, hl⟩ := hks k (by simp)
      obtain ⟨b0, cs0, e1, e2, _⟩ := h.m k _ hl
      rw [q1] at e1
      simp only [Value.pointer.injEq, Option.some.injEq, Addr.mk.injEq, and_true] at e1
      subst e1
      exact (h.okB nw).sub _ e2.ge
     ·exact ih q3 (fun k' hk' => hks k' (by simp [hk'])) b hin
  refine this hb (fun k hkk => ⟨hk k hkk, ?_⟩) b hbin
  have hsome : ∀ {io : List (Option TypeId)} {ps : Ty} {l : List AV} {x : ps.D} {ks : List Nat}, mIn E.G s.M io ps l = some (x, ks) → ∀ k ∈ ks, ∃ st nw c T, look s.M k = some (st, .bx nw c T) := by
   intro io
   induction io with
   | nil =>
    intro ps l x ks h
    cases JI h
    simp only [mIn] at h
    cases h; simp
   | cons o io ih =>
    intro ps l x ks h
    cases JI h with
    | b =>
     obtain ⟨k, st, nw, c, ks', rfl, hk, hc, hp, rfl, hmem⟩ := uB h
     intro j hj
     rcases List.mem_cons.1 hj with rfl | hj
     ·exact ⟨_, _, _, _, hk⟩
     ·exact ih hp j hj
    | v =>
     obtain ⟨hx, hp⟩ := uA h
     exact ih hp
  exact hsome hi k hkk
 refine h.go h.fit rfl rfl rfl (fun j hj => hkeep j fun b hb e => by rcases hj with rfl | rfl; exact (hne b hb).1 e; exact (hne b hb).2 e) (fun _ _ => rfl) rfl rfl (Nat.le_succ _) (Nat.le_succ _) ?_ (fun hf => absurd (hf : s.n ≤ F.fe) (Nat.not_le.2 h.fe)) (fun _ _ _ => rfl) (fun t e he => .inr ⟨he, rfl, fun hfr hf => ?_⟩) (fun k' e he => ?_) (fun j k' e e' he he' ho ho' heq => ?_) (fun k' e he ho => ?_)
 ·have hB := h.base
  refine ⟨hw.os.trans hB.os, hw.tape.trans hB.tape, hw.output.trans hB.output, Nat.le_trans hB.size hw.size, fun b hb hA => ?_, fun b hb => hB.ok b (Nat.le_trans hw.size hb), hB.old, fun b hb h0 => ?_, hB.new⟩
  ·rw [hw.block b (Nat.lt_of_lt_of_le hb hB.size) fun hin => hA (hinbl b hin)]; exact hB.block b hb hA
  ·by_cases hlt : b < w.heap.size
   ·exact hB.zero b hlt h0
   ·exact h.ok0 b (by have := hB.size; omega)
 ·have := h.ln t e he
  simp only [fresh, hfr, Bool.not_true, Bool.false_or] at hf
  rw [jP] at hf
  have hf' : s.n ≤ e.1 := of_decide_eq_true hf
  omega
 ·rcases YB he with h1 | ⟨h1, h2⟩
  ·obtain ⟨a1, a2, a3⟩ := hout.1 k' e h1
   obtain ⟨e0, a4, a5⟩ := hk k' a2
   have := (h.mn k' e0 a4).2
   exact .inl ⟨by rw [a1]; exact Nat.lt_succ_self _, Nat.lt_succ_of_lt this, a3⟩
  ·refine .inr ⟨h2, rfl, fun ho => hkeep _ fun b hb heq => ?_⟩
   obtain ⟨j, g1, g2⟩ := hbl b hb
   obtain ⟨e0, g3, g4⟩ := hk j g1
   have : j = k' := h.inj j k' e0 e g3 h2 g4 ho (g2.symm.trans heq)
   subst this
   exact hout.2 j g1 h1
 ·have key : ∀ {k e}, look (mOut s.M s.n io ps ks y ++ s.M) k = some e → e.2.own = true → OwnK s.M k := fun {k e} he ho => by
   rcases YB he with h1 | ⟨h1, h2⟩
   ·exact hk k (hout.1 k e h1).2.1
   ·exact ⟨e, h2, ho⟩
  obtain ⟨e1, a1, a2⟩ := key he ho
  obtain ⟨e2, a3, a4⟩ := key he' ho'
  exact h.inj j k' e1 e2 a1 a3 a2 a4 heq
 ·rcases YB he with h1 | ⟨h1, h2⟩
  ·obtain ⟨e0, a4, a5⟩ := hk k' (hout.1 k' e h1).2.1
   exact h.pos k' e0 a4 a5
  ·exact h.pos k' e h2 ho
theorem Inv.modL (s : S) {io : List (Option TypeId)} {ps : Ty} {ks : List Nat} {y : (ioT io ps).D} (hn : ∀ k e, look (mOut s.M s.n io ps ks y) k = some e → e.1 = s.n) : Inv s { L := s.L, M := mOut s.M s.n io ps ks y ++ s.M, n := s.n + 1, ep := s.n } where
 le := Nat.le_succ _
 l := fun t e he _ => he
 m := fun k e he hlt => by
  rcases YB he with h1 | ⟨_, h2⟩
  ·rw [hn k e h1] at hlt; exact absurd hlt (Nat.lt_irrefl _)
  ·exact h2
theorem qo (hE : E.ok X.P) (h : RelX F s a w X) (hd : F.dst d) {x : Operand} {xs : Array Operand} {ts : Array TypeId} : ga F s a w ⟨d, .call ⟨.value x, xs, ts⟩, T, pos, aft, g⟩ (wY E s d (rdO s.ep s.L [] [] x) (rdAll (rdO s.ep s.L [] []) xs.toList) k) k := by
 intro nf y hr K Q hK
 rw [← h.P]
 rw [← h.ep] at hr
 unfold wY at hr
 split at hr
 ·rename_i f ca cb l hφ hl
  split at hr
  ·cases hr
  ·rename_i fs hs
   split at hr
   ·rename_i p hp
    obtain ⟨y0, hy0, hr⟩ := Comp.run_bind hr
    have H := h.rd (Op.operands (.call ⟨.value x, xs, ts⟩))
    have k1 := H x _ (by simp [Op.operands, Call.operands]) hφ
    have hlen := jF hl
    obtain ⟨vs, us, e1, e2, e3⟩ := k1
    obtain ⟨A1, A2⟩ := ca.DJ e1
    obtain ⟨B1, B2⟩ := cb.DJ e2
    have hget : ∀ (i : Nat) φ v, l[i]? = some φ → (xs.toList.map a.eval)[i]? = some v → φ.holds X w v := by
     intro i φ v hi hv
     rw [List.getElem?_map, Option.map_eq_some_iff] at hv
     obtain ⟨z, hz, rfl⟩ := hv
     obtain ⟨z', hz1, hz2⟩ := ji hl i φ hi
     rw [hz] at hz1; cases hz1
     refine H z φ ?_ hz2
     have hz' : z ∈ xs := Array.mem_toList_iff.1 (List.mem_of_getElem? hz)
     simp [Op.operands, Call.operands, hz']
    have hall := YY (R := fun (φ : AV) v => φ.holds X w v) A1 A2 (YY (l1 := l) (m1 := xs.toList.map a.eval) (by simp [hlen]) hget B2)
    obtain ⟨bl, g1, g2, g3, g4⟩ := I0 hE.G h.m h.inj (fun k e h1 h2 => (h.pos k e h1 h2).1) (vs := vs ++ (xs.toList.map a.eval ++ us)) (ks := p.2) (x := p.1) hp (by simp [A1, B1, hlen]) hall
    obtain ⟨f1, f2⟩ := hE.H f fs hs
    have hc := f2 X.O w h.okO bl _ p.1 g1 nf y0 hy0
    have harr : (vs ++ (xs.toList.map a.eval ++ us)).toArray = vs.toArray ++ xs.map a.eval ++ us.toArray := by
     rw [show xs.map a.eval = (xs.toList.map a.eval).toArray by rw [← Array.toList_map], kf]
    rw [harr] at hc
    refine wN f1 e3 hc fun e w' he => ?_
    obtain ⟨v, rs, q1, q2, q3, q4, q5⟩ := he
    refine ⟨v, q1, ?_⟩
    have hR := h.modL (E := E) hE.G hp g2 g3 g4 q4 q5
    have hst := mR (X := X) (X' := X) (w := w) (w' := w') (G := E.G) (n := s.n) h.m rfl rfl rfl rfl rfl rfl hp g2 q5
    have hR2 := hR.val (Ext.refl w') hd (Jp (X := { X with n := s.n + 1, ep := s.n }) q3 q2)
    exact hK _ _ _ ⟨_, hR2⟩ ((Inv.modL s fun k e he => (hst.1 k e he).1).trans (Inv.put _ _ _)) hr
   ·cases hr
 ·cases hr
end
end Go.Den
end
section
namespace Go.Den
open Go Go.RowKit Go.Eng Go.Lift
variable {α β γ δ : Type}
section
variable {F : Frm} {s : S} {a : Act} {w : World} {X : Cx} {E : VE}
variable {d : Option Tmp} {T Y : TypeId} {pos : String} {aft : Array Edge} {g : Option (Nat × Bool)} {k : S → Comp β}
def stPre (s : S) (d : Option Tmp) (p : Nat × Bool × TypeId × (t : Ty) × List t.D) (n : Option (IntKind × Int)) (k : S → Comp β) : Comp β := match n with
 | some n => (sub p.2.2.2.2 0 n.2).bind fun ys => k (s.ren d p.1 (.sl p.2.1 p.2.2.2.1 p.2.2.1 ys))
 | none => Comp.fail
theorem Ag (hE : E.ok X.P) (h : RelX F s a w X) (hd : F.dst d) {x y : Operand} {p : Nat × Bool × TypeId × (t : Ty) × List t.D} {φ : AV} (hφ : rdO s.ep s.L [] [] x = some φ) (hp : slMV s.M φ = some p) {i : TI} (hi : look E.T Y = some i) {e : TypeId} (he : slD i.dd = some e) {j : TI} (hj : look E.T e = some j) (hs : Nat.beq p.2.2.2.1.sz j.sz = true) :
  ga F s a w ⟨d, .slice Y x none (some y) none, T, pos, aft, g⟩ (stPre s d p ((rdO s.ep s.L [] [] y).bind AV.int?) k) k := by
 intro nf y' hr K Q hK
 rw [← h.P]
 unfold stPre at hr
 split at hr
 ·rename_i n hn
  obtain ⟨ys, hys, hr⟩ := Comp.run_bind hr
  have ht := (hE.T Y i hi).ty
  rw [j9 he] at ht
  have hj' := (hE.T e j hj).ty
  rw [← h.ep] at hφ hn
  have k1 := h.rd #[x] x φ (by simp) hφ
  have hn' := y7 (h.rd #[y]) (by simp) hn
  obtain ⟨e0, f1, f2, f3, f4⟩ := X9 h.m k1 hp
  have hs' : (p.2.2.2.1.gr X.P).sz = j.sz := by rw [Ty.gr_sz]; exact MX hs
  refine Zt ht hj' hs' rfl f3.lend hn' hys K Q fun v w' hEx hv => ?_
  have hv : v = preV (a.eval x) ys.length := hv
  subst hv
  have g1 := CP (f3.ext hEx) hys
  refine hK _ _ _ (h.ren hd f1 (by rw [f2]; rfl) (h.base.step hEx h.ok0) ⟨hEx.size, fun b hb _ => ⟨rfl, hEx.block b hb⟩⟩ (kz g1) fun X' e1 e2 e3 e4 e5 e6 hle => ?_) (Inv.ren _ _ _ _) hr
  show OwnL _ _ _ _ _ _ _ _
  rw [e5, e6, e1, e4, show X'.B = X.B from by funext nw; cases nw <;> simp [Cx.B, e2, e3]]
  exact g1
 ·cases hr
def zipE {α : Type} (xs : List α) (lo : Nat) (z : α) : List α := xs.take lo ++ List.replicate (xs.length - lo) z
def wV (E : VE) (s : S) (d : Option Tmp) (Y : TypeId) (φ : Option AV) (k : S → Comp β) : Comp β := match d, φ with
 | none, some φ => match φ with
  | .sx kk lo esz => match look s.M kk with
   | some (_, .sl nw t T xs) => match look E.T Y with
    | none => Comp.fail
    | some i => match slD i.dd with
     | none => Comp.fail
     | some e => match look E.T e with
      | none => Comp.fail
      | some j => match Nat.beq esz j.sz && (Nat.beq t.sz j.sz && Nat.beq T e), ofV t j.z with
       | true, some z => (sub xs (lo : Int) (lenL xs)).bind fun _ => k (s.mod kk (.sl nw t T (zipE xs lo z)))
       | _, _ => Comp.fail
   | _ => Comp.fail
  | _ => Comp.fail
 | _, _ => Comp.fail
theorem ql (hE : E.ok X.P) (h : RelX F s a w X) {x : Operand} : ga F s a w ⟨none, .call ⟨.builtin .clear, #[x], #[Y]⟩, T, pos, aft, g⟩ (wV E s none Y (rdO s.ep s.L [] [] x) k) k := by
 intro nf y' hr K Q hK
 rw [← h.P]
 rw [← h.ep] at hr
 unfold wV at hr
 split at hr
 ·rename_i φ _ hφ
  have k1 := h.rd #[x] x φ (by simp) hφ
  split at hr
  ·rename_i kk lo esz
   split at hr
   ·rename_i st nw t T' xs hk
    split at hr
    ·cases hr
    ·rename_i i hi
     split at hr
     ·cases hr
     ·rename_i e he
      split at hr
      ·cases hr
      ·rename_i j hj
       split at hr
       ·rename_i z hb hz
        simp only [MY] at hb
        obtain ⟨b1, b2, b3⟩ := hb
        have b1 := MX b1
        have b2 := MX b2
        have b3 := MX b3
        obtain ⟨ys, hys, hr⟩ := Comp.run_bind hr
        have ht := (hE.T Y i hi).ty
        rw [j9 he] at ht
        have hj' := (hE.T e j hj).ty
        have hO : OwnL (X.ι kk) (t.gr X.P) T' (X.B nw) X.O w (X.U kk) xs := h.m kk _ hk
        have hx : a.eval x = sufV (X.U kk) ((lo : Int).toNat) j.sz := by rw [← b1]; exact k1.1
        rw [b3] at hO
        refine DW (m := (lo : Int)) (Ty.fits X.P t) (by rw [Ty.gr_sz]; exact b2) h.ok0 h.base (h.okB nw) ht hj' hx hO (h.pos kk _ hk rfl).1 hys (fun O w => XN X.P hz O w) fun w' q1 q2 q3 => ?_
        have hR := h.mod hk rfl (mv := .sl nw t T' (zipE xs lo z)) q2 q3 fun X' e1 e2 e3 e4 e5 e6 hle => by
         show OwnL _ _ _ _ _ _ _ _
         rw [e6, e5, e1, e4, show X'.B = X.B from by funext nw; cases nw <;> simp [Cx.B, e2, e3], b3]
         exact q1
        exact hK _ _ _ hR (Inv.mod _ _ _) hr
       ·cases hr
   ·cases hr
  ·cases hr
 ·cases hr
end
end Go.Den
end
section
namespace Go.Den
open Go Go.RowKit Go.Eng Go.Lift
variable {α β γ δ : Type}
def S.frzB (E : VE) (s : S) (k : Nat) : S := match look s.M k with
 | some (_, .bx true c T) => match look E.T T with
  | some i => match c.asT E.G s.M i.τ with
   | some x => { L := s.L, M := (k, s.n, .fb i.τ x) :: s.M, n := s.n + 1, ep := s.ep }
   | none => s
  | none => s
 | _ => s
def S.frzBL (E : VE) (s : S) : List Nat → S
 | [] => s
 | k :: l => (s.frzB E k).frzBL E l
def AV.refs0 : AV → List Nat
 | .ob k | .bx k _ | .ba k .. | .el k .. | .sx k .. => [k]
 | .cl _ a b | .pr a b => a.refs0 ++ b.refs0
 | .tp l | .ag l => l.refs0
 | _ => []
def refsV : List AV → List Nat
 | [] => []
 | φ :: l => φ.refs0 ++ refsV l
def pv (M : MS) : List Nat → List Nat
 | [] => []
 | k :: l => match look M k with
  | some (_, .bx _ c _) => c.refs0 ++ pv M l
  | _ => pv M l
def S.frzV (E : VE) (s : S) (l : List AV) : S :=
 let r := refsV l
 (s.frzL (pv s.M r ++ r)).frzBL E r
section
variable {F : Frm} {s : S} {a : Act} {w : World} {X : Cx} {E : VE}
variable {d : Option Tmp} {T Y : TypeId} {pos : String} {aft : Array Edge} {g : Option (Nat × Bool)} {k : S → Comp β}
theorem Inv.frzB (s : S) (k : Nat) : Inv s (s.frzB E k) := by
 unfold S.frzB
 split
 ·split
  ·split
   ·exact ⟨Nat.le_succ _, yF, yy yF⟩
   ·exact Inv.refl s
  ·exact Inv.refl s
 ·exact Inv.refl s
theorem Rel.frzB (hE : E.ok F.P) (h : Rel F s a w) (k : Nat) : Rel F (s.frzB E k) a w := by
 unfold S.frzB
 split
 ·rename_i st c T hk
  split
  ·rename_i i hi
   split
   ·rename_i x hx
    obtain ⟨X, h⟩ := h
    obtain ⟨b, cs, g1, g2, g3, g4⟩ := h.m k _ hk
    have hp := h.pos k _ hk rfl
    have hG : FOk X.P E.G := by rw [h.P]; exact hE.G
    have hrel := (AV.kH hG c h.m).vc hx g3
    have hge : F.w0.heap.size ≤ b := by
     have : X.F b := g2.ge
     rw [h.Fn] at this; exact this
    let O' := tag X.O (some b) 0
    have hkx : KX (some (X.ι k)) X.O w O' w := KX.free fun g hg => by cases hg; exact g2.tag
    have hB : Base F.A F.O0 F.w0 O' w := h.base.untag h.ok0 (fun g hg => by cases hg; exact h.base.new b hge) fun g hg hlt => by cases hg; omega
    have h0 : Keep 0 X.O w O' w := hkx.keep (by simpa using hp.1.symm)
    let X' : Cx := { X with O := O', n := s.n + 1 }
    have hlt := (h.mn k _ hk).2
    have hv : (MV.fb i.τ x).holds X' w k := by
     show (rBox _).v O' w (X.U k) x
     rw [g1]
     have hcs : cs = cs.toList.toArray := by simp
     rw [hcs] at g2
     exact g2.freeze hp.1 hrel
    refine ⟨X', h.go h.fit rfl rfl rfl (fun j hj => hkx.keep (by rcases hj with rfl | rfl; simpa using hp.1.symm; simpa using hp.2.symm)) (fun _ _ => rfl) rfl h.ep (Nat.le_succ _) (Nat.le_succ_of_le h.epn) hB (fun hf => ⟨hf, Ext.refl _⟩) (fun _ _ _ => rfl) (fun t e he => .inr ⟨he, rfl, fun _ hf => ⟨hf, Ext.refl _⟩⟩) (fun k' e he => ?_) (fun j k' e e' he he' ho ho' heq => ?_) (fun k' e he ho => ?_)⟩
    ·rcases zF he with ⟨h1, h2⟩ | ⟨h1, h2⟩
     ·subst h1 h2; exact .inl ⟨Nat.lt_succ_self _, Nat.lt_succ_of_lt hlt, hv⟩
     ·refine .inr ⟨h2, rfl, fun ho => hkx.keep ?_⟩
      intro e1
      simp only [Option.some.injEq] at e1
      exact h1 (h.inj k k' _ e hk h2 rfl ho e1.symm)
    ·rcases zF he with ⟨h1, h2⟩ | ⟨h1, h2⟩
     ·rw [← h2] at ho; cases ho
     ·rcases zF he' with ⟨h3, h4⟩ | ⟨h3, h4⟩
      ·rw [← h4] at ho'; cases ho'
      ·exact h.inj j k' e e' h2 h4 ho ho' heq
    ·rcases zF he with ⟨h1, h2⟩ | ⟨h1, h2⟩
     ·rw [← h2] at ho; cases ho
     ·exact h.pos k' e h2 ho
   ·exact h
  ·exact h
 ·exact h
theorem Rel.frzBL (hE : E.ok F.P) : ∀ (l : List Nat) {s : S}, Rel F s a w → Rel F (s.frzBL E l) a w
 | [], _, h => h
 | k :: l, s, h => Rel.frzBL hE l (h.frzB hE k)
theorem Inv.frzBL : ∀ (l : List Nat) (s : S), Inv s (s.frzBL E l)
 | [], s => Inv.refl s
 | k :: l, s => (Inv.frzB s k).trans (Inv.frzBL l _)
theorem Rel.frzV (hE : E.ok F.P) (h : Rel F s a w) (l : List AV) : Rel F (s.frzV E l) a w := Rel.frzBL hE _ (h.frzL _)
theorem Inv.frzV (s : S) (l : List AV) : Inv s (s.frzV E l) := (Inv.frzL _ _).trans (Inv.frzBL _ _)
theorem tG {P : Program} {k T : Nat} {B : Nat → Prop} {O : Tags} {w : World} {u : Value} {t t' : Ty} {xs : List t.D} {ys : List t'.D} (e : Ty.sl t = .sl t') (h : Ty.cast e xs = ys) (hO : OwnL k (t.gr P) T B O w u xs) : OwnL k (t'.gr P) T B O w u ys := by
 injection e with e1
 subst e1
 subst h
 exact hO
def wW (E : VE) (s : S) (d : Option Tmp) (φ : Option AV) (l : Option (List AV)) (k : S → Comp β) : Comp β := match φ, l with
 | some (.cl f .un .un), some (x :: l) => match E.O f with
  | none => Comp.fail
  | some fs => match slMV s.M x with
   | none => Comp.fail
   | some p => match (Ty.sl p.2.2.2.1).to (.sl fs.e) p.2.2.2.2, Nat.beq p.2.2.1 fs.T, argsT (l.map (fun φ => φ.asT E.G s.M)) fs.ps with
    | some xs, true, some z => (fs.sem xs z).bind fun ys => match fs.ret with
     | true => k (s.ren d p.1 (.sl p.2.1 fs.e fs.T ys))
     | false => k ((s.mod p.1 (.sl p.2.1 fs.e fs.T ys)).put d .top)
    | _, _, _ => Comp.fail
 | _, _ => Comp.fail
theorem qm (hE : E.ok X.P) (h : RelX F s a w X) (hd : F.dst d) {x : Operand} {xs : Array Operand} {ts : Array TypeId} : ga F s a w ⟨d, .call ⟨.value x, xs, ts⟩, T, pos, aft, g⟩ (wW E s d (rdO s.ep s.L [] [] x) (rdAll (rdO s.ep s.L [] []) xs.toList) k) k := by
 intro nf y hr K Q hK
 rw [← h.P]
 rw [← h.ep] at hr
 unfold wW at hr
 split at hr
 ·rename_i f φ1 l hφ hl
  split at hr
  ·cases hr
  ·rename_i fs hs
   split at hr
   ·cases hr
   ·rename_i p hp
    split at hr
    ·rename_i xs0 z hxs hT hz
     obtain ⟨ys, hys, hr⟩ := Comp.run_bind hr
     have H := h.rd (Op.operands (.call ⟨.value x, xs, ts⟩))
     have k1 := H x _ (by simp [Op.operands, Call.operands]) hφ
     have hlen := jF hl
     obtain ⟨vs, us, e1, e2, e3⟩ := k1
     have e1 : vs = [] := e1
     have e2 : us = [] := e2
     subst e1 e2
     have hget : ∀ (i : Nat) φ v, (φ1 :: l)[i]? = some φ → (xs.toList.map a.eval)[i]? = some v → φ.holds X w v := by
      intro i φ v hi hv
      rw [List.getElem?_map, Option.map_eq_some_iff] at hv
      obtain ⟨z, hz, rfl⟩ := hv
      obtain ⟨z', hz1, hz2⟩ := ji hl i φ hi
      rw [hz] at hz1; cases hz1
      refine H z φ ?_ hz2
      have hz' : z ∈ xs := Array.mem_toList_iff.1 (List.mem_of_getElem? hz)
      simp [Op.operands, Call.operands, hz']
     obtain ⟨u, vs, hvs⟩ : ∃ u vs, xs.toList.map a.eval = u :: vs := by
      cases hxl : xs.toList with
      | nil => rw [hxl] at hlen; cases hlen
      | cons u vs => exact ⟨_, _, rfl⟩
     rw [hvs] at hget
     have hvl : vs.length = l.length := by
      have h1 := congrArg List.length hvs
      rw [List.length_map] at h1
      simp only [List.length_cons] at h1 hlen
      omega
     have hu := hget 0 φ1 u rfl rfl
     obtain ⟨e0, f1, f2, f3, f4⟩ := X9 h.m hu hp
     obtain ⟨ee, ee2⟩ := Ty.kL hxs
     have hne := h.pos p.1 e0 f1 (by rw [f2]; rfl)
     have hargs : fs.ps.args X.P X.O w vs z := kI hz (by simp [hvl]) fun i f v hf hv t y hy => by
      rw [List.getElem?_map, Option.map_eq_some_iff] at hf
      obtain ⟨ψ, g1, rfl⟩ := hf
      exact AV.asT_v hE.G h.m hy (hget (i + 1) ψ v (by simpa using g1) (by simpa using hv))
     obtain ⟨o1, o2⟩ := hE.O f fs hs
     have hO : OwnL (X.ι p.1) (fs.e.gr X.P) fs.T (X.B p.2.1) X.O w u xs0 := by
      have hT' := MX hT
      rw [hT'] at f3
      exact tG ee ee2 f3
     have hc := o2 X.O w h.okO u xs0 (l9 hO hne.1) vs z hargs nf ys hys
     have harr : (u :: vs).toArray = #[] ++ xs.map a.eval ++ #[] := by
      rw [show xs.map a.eval = (xs.toList.map a.eval).toArray by rw [← Array.toList_map], hvs]; simp
     rw [harr] at hc
     refine wN o1 e3 hc fun e w2 he => ?_
     obtain ⟨v, u2, he, h1, ⟨vs2, h2, h3⟩, h4⟩ := he
     refine ⟨v, he, ?_⟩
     have hge := hO.ge
     obtain ⟨hB2, hkx⟩ := Xq h.base h.ok0 h1 (fun g hg => (h.okB p.2.1).sub g (hge g hg).1) hne.1 (fun g hg => h2.gR g hg) hO.tagged
     have hnew : OwnL (X.ι p.1) (fs.e.gr X.P) fs.T (X.B p.2.1) (tag X.O u2.ownBlock (X.ι p.1)) w2 u2 ys := by
      refine ⟨vs2, h2, h3.mono ⟨Mb _, fun b _ hb => ⟨?_, rfl⟩⟩, fun g hg => ⟨by rw [hg]; exact yb _ _ _, ?_⟩⟩
      ·by_cases hg : u2.ownBlock = some b
       ·rw [hg, yb] at hb; cases hb
       ·rw [gI hg] at hb ⊢; exact hb
      ·rcases h1.at_ with h8 | h8
       ·exact (hge g (h8 ▸ hg)).1
       ·exact (h.okB p.2.1).new g (by have := h8 g hg; have := h.base.size; omega)
     split at hr
     ·rename_i hret
      rw [hret] at h4
      have h4 : v = u2 := h4
      subst h4
      refine hK _ _ _ (h.ren hd f1 (by rw [f2]; rfl) hB2 hkx (kz hnew) fun X' e1 e2 e3 e4 e5 e6 hle => ?_) (Inv.ren _ _ _ _) hr
      show OwnL _ _ _ _ _ _ _ _
      rw [e5, e6, e1, e4, show X'.B = X.B from by funext nw; cases nw <;> simp [Cx.B, e2, e3]]
      exact hnew
     ·rename_i hret
      rw [hret] at h4
      obtain ⟨h5, h6⟩ : u2 = u ∧ v = .tuple #[] := h4
      subst h5
      have hR := h.mod f1 (by rw [f2]; rfl) (mv := .sl p.2.1 fs.e fs.T ys) hB2 hkx fun X' e1 e2 e3 e4 e5 e6 hle => by
       show OwnL _ _ _ _ _ _ _ _
       rw [e6, e5, e1, e4, show X'.B = X.B from by funext nw; cases nw <;> simp [Cx.B, e2, e3], ← f4]
       exact hnew
      obtain ⟨X2, hX2⟩ := hR
      exact hK _ _ _ ⟨_, hX2.val (Ext.refl w2) hd (show AV.top.holds X2 w2 v from trivial)⟩ ((Inv.mod _ _ _).trans (Inv.put _ _ _)) hr
    ·cases hr
 ·cases hr
end
end Go.Den
end
section
namespace Go.Den
open Go Go.RowKit Go.Eng Go.Lift
variable {α β γ δ : Type}
theorem Yf {P : Program} {w : World} (t ti ty e : TypeId) (i : TypeInfo) (z : Value) (ik : IntKind) (ht : P.underlying t = some (.slice e)) (hti : P.underlying ti = some (.int ik)) (hi : P.info? e = some i) (hz : i.zero = some z)
  (k : IntKind) (n : Nat) (h0 : 0 < n) (h63 : (n : Int) ≤ 9223372036854775807) (h48 : n * i.bytes ≤ 281474976710656) (hsz : 0 < i.size) :
  (Builtin.append_ #[t, ti] ty #[.slice none 0 0, .int k n]).run P w =
   .ok (.slice (some ⟨w.heap.size, 0, none⟩) n (grownCap w n 0 e)) (w.drew.alloc (.cells (Builtin.zeroCells z.cells n ++ Builtin.zeroCells z.cells (grownCap w n 0 e - n)) e)) := by
 have hn : n ≠ 0 := by omega
 have hw : IntKind.i64.wrap (n : Int) = n := by rw [IntKind.wrap_i64]; omega
 have h63' : ¬ (9223372036854775807 < (n : Int)) := by omega
 have h48' : ¬ (281474976710656 < Builtin.nextslicecap n 0 * i.bytes) := by rw [nextslicecap_zero h0]; omega
 have h48i : ¬ ((281474976710656 : Int) < (n : Int) * (i.bytes : Int)) := by
  have h : ((n * i.bytes : Nat) : Int) ≤ 281474976710656 := by omega
  rw [Int.natCast_mul] at h; omega
 have hneg : ¬ ((n : Int) < 0) := by omega
 have hnz : ¬ (n = 0 ∨ i.size = 0) := by omega
 simp [Builtin.append_, run_underlying ht, run_underlying hti, sizeOf, typeInfo, zeroValue, hi, hz, asInt, asIntOf, hw, hneg, hn, h63', h48', h48i, hnz, Question.forced, run_firstCells_none, newRow, grownCap]
 intro hm
 rcases Nat.mul_eq_zero.1 hm with h | h <;> omega
section
variable {F : Frm} {s : S} {a : Act} {w : World} {X : Cx} {E : VE}
variable {d : Option Tmp} {T Y Z : TypeId} {pos : String} {aft : Array Edge} {g : Option (Nat × Bool)} {k : S → Comp β}
theorem rX {P : Program} {α : Type} {A : Nat → Prop} {K : Act → World → Prop} {Q : Exit → Act → World → Prop} {x y : Operand} {t ti e E bytes k : Nat} {ik : IntKind} {d0 : Option Tmp} {g0 : Option (Nat × Bool)} {dd : TypeDesc} {z z' zi : Value} {sz by_ szi byi : Nat} {r : GR α} (hr : r.fits) (hE : r.sz = E + 1) (hT : Eng.Ty P t (.slice e) z sz by_) (hti : Eng.Ty P ti (.int ik) zi szi byi) (he : Eng.Ty P e dd z' (E + 1) bytes) (hz : z'.cells.size = E + 1) (hby : bytes ≤ 131072)
  {O O0 : Tags} {w0 : World} (hO0 : OkO O0 w0) (hB : Base A O0 w0 O w) {B : Nat → Prop} (hAB : OkB A w0 B) (hx : a.eval x = .slice none 0 0) {kk : IntKind} {m : Int} (hy : a.eval y = .int kk m) {z0 : α} (hz0 : ∀ O w, r.v O w z' z0) {zs : List α} {n : Nat} (happ : (mk m z0).run n = some zs) (hk : k ≠ 0)
  (hK : ∀ u2 w2 O2, OwnL k r e B O2 w2 u2 zs → Base A O0 w0 O2 w2 → KX (some k) O w O2 w2 → K (a.put d0 u2) w2) : Oper.wp P ⟨d0, .call ⟨.builtin .append, #[x, y], #[t, ti]⟩, T, pos, aft, g0⟩ a w K Q := by
 obtain ⟨⟨h0, h1⟩, h2⟩ := run_mk happ
 unfold LIM at h1
 obtain ⟨i, hi, hzz, hsz, hby'⟩ := he.info
 obtain ⟨c, rfl⟩ : ∃ c : Nat, m = (c : Int) := ⟨m.toNat, by omega⟩
 rw [Int.toNat_natCast] at h2
 by_cases hc : c = 0
 ·subst hc
  have hu : a.eval y = .int kk 0 := hy
  have hw : IntKind.i64.wrap (0 : Int) = 0 := by rw [IntKind.wrap_i64]; omega
  have hrun : (Builtin.append_ #[t, ti] T #[.slice none 0 0, .int kk 0]).run P w = .ok (.slice none 0 0) w := by
   simp [Builtin.append_, hT.run_u, hti.run_u, he.zq, sizeOf, typeInfo, hi, asInt, asIntOf, hw]
  refine x_run (v := .slice none 0 0) (w' := w) (by simp [execOp, resolve, invoke, builtin, hx, hu, hrun]) (hK _ w O ?_ hB ⟨Mb _, fun _ _ _ => ⟨rfl, rfl⟩⟩)
  rw [← h2]; exact OwnL.nil _ _ _ _ _ _
 ·have hcb : c * i.bytes ≤ 1073741824 * 131072 := Nat.mul_le_mul (by omega) (by rw [hby']; exact hby)
  have hrun := Yf (P := P) (w := w) t ti T e i z' ik hT.u hti.u hi hzz kk c (by omega) (by omega) (by omega) (by rw [hsz]; omega)
  have hge := grownCap_ge w c 0 e
  have hcm : grownCap w c 0 e ≤ maxLen := grownCap_le_maxLen w c 0 e (by unfold maxLen; omega)
  have hEx : Ext w (w.drew.alloc (.cells (Builtin.zeroCells z'.cells c ++ Builtin.zeroCells z'.cells (grownCap w c 0 e - c)) e)) := ⟨rfl, rfl, rfl, by simp, fun k hk => heap_alloc_old w.drew _ hk⟩
  refine x_run (v := .slice (some ⟨w.heap.size, 0, none⟩) c (grownCap w c 0 e)) (w' := w.drew.alloc (.cells (Builtin.zeroCells z'.cells c ++ Builtin.zeroCells z'.cells (grownCap w c 0 e - c)) e)) (by simp [execOp, resolve, invoke, builtin, hx, hy, hrun]) ?_
  have hflat : (Builtin.zeroCells z'.cells c).toList = flat (List.replicate c z') := by
   rw [range_zero]
   unfold flat
   rw [List.flatMap_def, List.map_replicate]
  refine hK _ _ (tag O (some w.heap.size) k) ⟨List.replicate c z', ?_, ?_, fun g hg => ?_⟩ ?_ ?_
  ·rw [hE]
   refine ⟨fun x hx => by rw [List.eq_of_mem_replicate hx]; exact hz, ?_, .inr ⟨w.heap.size, grownCap w c 0 e, _, by rw [List.length_replicate], Nat.zero_le _, heap_alloc_new w.drew _, by rw [List.length_replicate]; exact hge, hcm, ?_, ?_⟩⟩
   ·rw [← hflat, List.length_replicate, Array.length_toList, size_zeroCells, hz]
   ·rw [Array.size_append, size_zeroCells, size_zeroCells, hz, ← Nat.add_mul]; congr 1; omega
   ·rw [Array.toList_append, ← hflat, List.length_replicate]
    have : c * (E + 1) = (Builtin.zeroCells z'.cells c).toList.length := by rw [Array.length_toList, size_zeroCells, hz]
    rw [this]; exact List.take_left
  ·rw [← h2]
   exact RelL.replicate (hz0 _ _) c
  ·simp only [Value.ownBlock, Option.some.injEq] at hg
   subst hg
   exact ⟨yb _ _ _, hAB.new _ hB.size⟩
  ·exact (hB.step hEx hO0).tag hk fun g hg => by cases hg; exact ⟨hB.new _ hB.size, by simp⟩
  ·have h3 : KX none O w (tag O (some w.heap.size) k) _ := KX.tag hEx fun g hg => by cases hg; exact Mb _
   exact ⟨h3.1, fun b hb _ => h3.2 b hb (by simp)⟩
def pS (E : VE) (s : S) (d : Option Tmp) (Y Z : TypeId) (φ : Option AV) (m : Option (IntKind × Int)) (k : S → Comp β) : Comp β := match φ, m with
 | some φ, some m => match look E.T Y, look E.T Z with
  | some i, some iz => match slD i.dd with
   | none => Comp.fail
   | some e => match look E.T e with
    | none => Comp.fail
    | some j => match YE φ && (okApp j j.τ && (intD iz.dd).isSome), ofV j.τ j.z with
     | true, some z => (mk m.2 z).bind fun zs => k (s.objw d (.sl true j.τ e zs) (.ob s.n))
     | _, _ => Comp.fail
  | _, _ => Comp.fail
 | _, _ => Comp.fail
theorem pR (hE : E.ok X.P) (h : RelX F s a w X) (hd : F.dst d) {x z : Operand} : ga F s a w ⟨d, .call ⟨.builtin .append, #[x, z], #[Y, Z]⟩, T, pos, aft, g⟩ (pS E s d Y Z (rdO s.ep s.L [] [] x) ((rdO s.ep s.L [] [] z).bind AV.int?) k) k := by
 intro nf y hr K Q hK
 rw [← h.P]
 rw [← h.ep] at hr
 unfold pS at hr
 split at hr
 ·rename_i φ m hφ hm
  have k1 := h.rd #[x] x φ (by simp) hφ
  have k2 := y7 (h.rd #[z]) (by simp) hm
  split at hr
  ·rename_i i iz hi hiz
   have ht := (hE.T Y i hi).ty
   have htz := (hE.T Z iz hiz).ty
   split at hr
   ·cases hr
   ·rename_i e he
    rw [j9 he] at ht
    split at hr
    ·cases hr
    ·rename_i j hj
     have ht' := (hE.T e j hj).ty
     split at hr
     ·rename_i z0 hb hz0
      simp only [MY] at hb
      obtain ⟨b1, b2, b3⟩ := hb
      obtain ⟨ik, hik⟩ := Option.isSome_iff_exists.1 b3
      rw [uE hik] at htz
      rw [kU b1] at k1
      unfold okApp at b2
      simp only [MY] at b2
      obtain ⟨c1, c2, c3, c4⟩ := b2
      rw [zX] at c1
      have c1 : 0 < j.sz := by simpa using c1
      have c2 := MX c2
      have c4 := MX c4
      have g1 : j.sz = (j.sz - 1) + 1 := by omega
      rw [g1] at ht'
      obtain ⟨zs, hz, hr⟩ := Comp.run_bind hr
      obtain ⟨τ, t0, t1⟩ := ZA X.ι s.M F.x.st
      refine rX (B := X.B true) (r := j.τ.gr X.P) (Ty.fits X.P _) (by rw [Ty.gr_sz]; omega) ht htz ht' (by omega) (Nat.le_of_ble_eq_true c3) h.ok0 h.base (h.okB true) k1 k2 (fun O w => XN X.P hz0 O w) hz t0.1 fun u2 w2 O2 q1 q2 q3 => hK _ _ _ (h.objw (φ := .ob s.n) hd (v := u2) (u := u2) q2 q3 t0 t1 fun X' e1 e2 e3 e4 e5 e6 e7 e8 hle => ⟨⟨e7.symm, by omega, kz q1⟩, ?_⟩) (Inv.objw _ _ _ _) hr
      show OwnL _ _ _ _ _ _ _ _
      rw [e7, e8, e1, e4, show X'.B = X.B from by funext nw; cases nw <;> simp [Cx.B, e2, e3]]
      exact q1
     ·cases hr
  ·cases hr
 ·cases hr
def wX (E : VE) (s : S) (d : Option Tmp) (φ : Option AV) (l : Option (List AV)) (k : S → Comp β) : Comp β := match φ, l with
 | some (.cl f .un .un), some (x :: l) => match E.N f, YE x with
  | some fs, true => match argsT (l.map (fun φ => φ.asT E.G s.M)) fs.ps with
   | some z => (fs.sem z).bind fun y => match ky fs.rk fs.rs y with
    | some q => k (s.obj d (.sl true q.2.1 q.1 q.2.2) (ownAV s.n fs.rk fs.rs y))
    | none => Comp.fail
   | none => Comp.fail
  | _, _ => Comp.fail
 | _, _ => Comp.fail
theorem rB {P : Program} {O : Tags} {B : Nat} {w : World} {ks : List (Option TypeId)} {rs : Ty} {vs : List Value} {y : rs.D} {q : TypeId × (t : Ty) × List t.D} (hq : ky ks rs y = some q) (h : resV P O B w ks rs vs y) : vs ≠ [] := by
 intro e; subst e
 match ks, rs, y, hq, h with
 | k :: ks, .cons a b, y, hq, h => obtain ⟨v, vs', h1, _⟩ := h; cases h1
theorem qn (hE : E.ok X.P) (h : RelX F s a w X) (hd : F.dst d) {x : Operand} {xs : Array Operand} {ts : Array TypeId} : ga F s a w ⟨d, .call ⟨.value x, xs, ts⟩, T, pos, aft, g⟩ (wX E s d (rdO s.ep s.L [] [] x) (rdAll (rdO s.ep s.L [] []) xs.toList) k) k := by
 intro nf y hr K Q hK
 rw [← h.P]
 rw [← h.ep] at hr
 unfold wX at hr
 split at hr
 ·rename_i f φ1 l hφ hl
  split at hr
  ·rename_i fs hs hn
   split at hr
   ·rename_i z hz
    obtain ⟨y0, hy0, hr⟩ := Comp.run_bind hr
    have H := h.rd (Op.operands (.call ⟨.value x, xs, ts⟩))
    have k1 := H x _ (by simp [Op.operands, Call.operands]) hφ
    have hlen := jF hl
    obtain ⟨vs, us, e1, e2, e3⟩ := k1
    have e1 : vs = [] := e1
    have e2 : us = [] := e2
    subst e1 e2
    have hget : ∀ (i : Nat) φ v, (φ1 :: l)[i]? = some φ → (xs.toList.map a.eval)[i]? = some v → φ.holds X w v := by
     intro i φ v hi hv
     rw [List.getElem?_map, Option.map_eq_some_iff] at hv
     obtain ⟨z, hz, rfl⟩ := hv
     obtain ⟨z', hz1, hz2⟩ := ji hl i φ hi
     rw [hz] at hz1; cases hz1
     refine H z φ ?_ hz2
     have hz' : z ∈ xs := Array.mem_toList_iff.1 (List.mem_of_getElem? hz)
     simp [Op.operands, Call.operands, hz']
    obtain ⟨u, vs, hvs⟩ : ∃ u vs, xs.toList.map a.eval = u :: vs := by
     cases hxl : xs.toList with
     | nil => rw [hxl] at hlen; cases hlen
     | cons u vs => exact ⟨_, _, rfl⟩
    rw [hvs] at hget
    have hvl : vs.length = l.length := by
     have h1 := congrArg List.length hvs
     rw [List.length_map] at h1
     simp only [List.length_cons] at h1 hlen
     omega
    have hu := hget 0 φ1 u rfl rfl
    rw [kU hn] at hu
    have hu : u = .slice none 0 0 := hu
    subst hu
    have hargs : fs.ps.args X.P X.O w vs z := kI hz (by simp [hvl]) fun i f v hf hv t y hy => by
     rw [List.getElem?_map, Option.map_eq_some_iff] at hf
     obtain ⟨ψ, g1, rfl⟩ := hf
     exact AV.asT_v hE.G h.m hy (hget (i + 1) ψ v (by simpa using g1) (by simpa using hv))
    obtain ⟨o1, o2⟩ := hE.N f fs hs
    have hc := o2 X.O w h.okO vs z hargs nf y0 hy0
    have harr : (Value.slice none 0 0 :: vs).toArray = #[] ++ xs.map a.eval ++ #[] := by
     rw [show xs.map a.eval = (xs.toList.map a.eval).toArray by rw [← Array.toList_map], hvs]; simp
    rw [harr] at hc
    refine wN o1 e3 hc fun e w2 he => ?_
    obtain ⟨v, he, hEx, rs, h3, h4⟩ := he
    refine ⟨v, he, ?_⟩
    split at hr
    ·rename_i q hq
     obtain ⟨u, h5, h6⟩ := YN (k := s.n) hq h4
     refine hK _ _ _ (h.newSl hEx hd h5 fun X' e1 hle e2 e3 e4 => ?_) (Inv.obj _ _ _ _) hr
     exact nI (h6 X' e1 e2 e3 e4) (rB hq h4) h3
    ·cases hr
   ·cases hr
  ·cases hr
 ·cases hr
end
end Go.Den
end
section
namespace Go.Den
open Go Go.RowKit Go.Eng Go.Lift
variable {α β γ δ : Type}
def wU (E : VE) (s : S) (d : Option Tmp) (Y : TypeId) (k : S → Comp β) : Option Operand → Comp β
 | some _ => Comp.fail
 | none => match look E.T Y with
  | some i => match mpD i.dd with
   | some kv => match look E.T kv.1, look E.T kv.2 with
    | some p, some q => k (s.obj d (.mp true p.τ q.τ []) (.ob s.n))
    | _, _ => Comp.fail
   | none => Comp.fail
  | none => Comp.fail
def mpOwn (M : MS) : AV → Option (Nat × Bool × (a : Ty) × (b : Ty) × List (a.D × b.D))
 | .ob k => match look M k with
  | some (_, .mp nw a b xs) => some (k, nw, ⟨a, b, xs⟩)
  | _ => none
 | _ => none
theorem Bc {M : MS} {φ : AV} {q} (h : mpOwn M φ = some q) : φ = .ob q.1 ∧ ∃ st, look M q.1 = some (st, .mp q.2.1 q.2.2.1 q.2.2.2.1 q.2.2.2.2) := by
 unfold mpOwn at h
 split at h
 ·split at h
  ·rename_i st nw a b xs hk; cases h; exact ⟨rfl, st, hk⟩
  ·cases h
 ·cases h
def pM (E : VE) (s : S) (Y : TypeId) (k : S → Comp β) : Option AV → Option AV → Option AV → Comp β
 | some φ, some ψ, some χ => match look E.T Y, mpOwn s.M φ with
  | some i, some q => match mpD i.dd with
   | some kv => match look E.T kv.1 with
    | some p => match p.kq && p.τ.beq q.2.2.1, ψ.asT E.G s.M q.2.2.1, χ.asT E.G s.M q.2.2.2.1 with
     | true, some y, some z => k (s.mod q.1 (.mp q.2.1 q.2.2.1 q.2.2.2.1 (mpB q.2.2.1.eqb q.2.2.2.2 y z)))
     | _, _, _ => Comp.fail
    | none => Comp.fail
   | none => Comp.fail
  | _, _ => Comp.fail
 | _, _, _ => Comp.fail
section
variable {F : Frm} {s : S} {a : Act} {w : World} {X : Cx} {E : VE}
variable {d : Option Tmp} {T Y : TypeId} {pos : String} {aft : Array Edge} {g : Option (Nat × Bool)} {k : S → Comp β}
theorem qk (h : RelX F s a w X) (hd : F.dst d) {n : Option Operand} : ga F s a w ⟨d, .makeMap Y n, T, pos, aft, g⟩ (wU E s d Y k n) k := by
 intro nf y hr K Q hK
 rw [← h.P]
 unfold wU at hr
 split at hr
 ·cases hr
 split at hr
 ·rename_i i hi
  split at hr
  ·rename_i kv hkv
   split at hr
   ·rename_i p q hp hq
    have hrun : (execOp a.eval ⟨d, .makeMap Y none, T, pos, aft, g⟩).run X.P w = .ok (.value (.map (some w.heap.size))) (w.alloc (.map #[] 0)) := by simp [execOp, run_makeMap]
    refine x_run hrun ?_
    obtain ⟨τ, h0, h1⟩ := ZA X.ι s.M F.x.st
    obtain ⟨O', hB', hk, hO⟩ := Ey (t := p.τ) (r := q.τ.gr X.P) h.ok0 h.base τ h0.1
    refine hK _ _ _ (h.obj (φ := .ob s.n) (Ext.alloc w (.map #[] 0)) hd (u := .map (some w.heap.size)) hB' hk h0 h1 fun X' e1 e2 e3 e4 e5 e6 e7 e8 hle => ⟨⟨e7.symm, by omega, rfl⟩, ?_⟩) (Inv.obj _ _ _ _) hr
    show OwnMp _ _ _ _ _ _ _ _
    rw [e7, e8, e1, e4]
    show OwnMp _ _ _ X'.F _ _ _ _
    rw [e3, h.Fn]; exact hO
   ·cases hr
  ·cases hr
 ·cases hr
theorem pL (hE : E.ok X.P) (h : RelX F s a w X) {m x v : Operand} : ga F s a w ⟨none, .mapUpdate Y m x v, T, pos, aft, g⟩ (pM E s Y k (rdO s.ep s.L [] [] m) (rdO s.ep s.L [] [] x) (rdO s.ep s.L [] [] v)) k := by
 intro nf y hr K Q hK
 rw [← h.P]
 rw [← h.ep] at hr
 unfold pM at hr
 split at hr
 ·rename_i φ ψ χ hφ hψ hχ
  have k1 := h.rd #[m] m φ (by simp) hφ
  have k2 := h.rd #[x] x ψ (by simp) hψ
  have k3 := h.rd #[v] v χ (by simp) hχ
  split at hr
  ·rename_i i q hi hq
   split at hr
   ·rename_i kv hkv
    split at hr
    ·rename_i p hp
     split at hr
     ·rename_i y0 z hb hy hz
      rw [MY] at hb
      obtain ⟨hkq, hbe⟩ := hb
      obtain ⟨rfl, st, hk⟩ := Bc hq
      have ht := (hE.T Y i hi).ty
      rw [C1 hkv] at ht
      have hK' := (hE.T _ p hp).key hkq
      rw [Ty.eq_of hbe] at hK'
      have hy' := enc_v hK'.clo (AV.asT_v hE.G h.m hy k2)
      have hne := h.pos _ _ hk rfl
      have hO : OwnMp (X.ι q.1) (encV q.2.2.1) (q.2.2.2.1.gr X.P) (X.B q.2.1) X.O w (X.U q.1) q.2.2.2.2 := h.m _ _ hk
      refine KT h.ok0 h.base (h.okB q.2.1) ht hK' k1.1 hO hne.1 hy' (AV.asT_v hE.G h.m hz k3) fun w' q1 q2 q3 => hK _ undef _ (h.mod hk rfl q2 q3 fun X' e1 e2 e3 e4 e5 e6 hle => ?_) (Inv.mod _ _ _) hr
      show OwnMp _ _ _ _ _ _ _ _
      rw [e6, e1, e4, e5, Cx.B_eq e2 e3]; exact q1
     ·cases hr
    ·cases hr
   ·cases hr
  ·cases hr
 ·cases hr
end
end Go.Den
end
section
namespace Go.Den
open Go Go.RowKit Go.Eng Go.Lift
variable {α β γ δ : Type}
section
variable {F : Frm} {s : S} {a : Act} {w : World} {X : Cx} {E : VE}
variable {d : Option Tmp} {T Y : TypeId} {pos : String} {aft : Array Edge} {g : Option (Nat × Bool)} {k : S → Comp β}
theorem CC (hE : E.ok X.P) {M : MS} (hM : KnowM M X w) (hO : OkO X.O w) {rd : Operand → Option AV} {x : Operand} {xs : Array Operand} {ts : Array TypeId} (H : RdOk X w a rd (Op.operands (.call ⟨.value x, xs, ts⟩))) {f : FuncId} {ca cb : AV} {l : List AV} (h1 : rd x = some (.cl f ca cb)) (h2 : rdAll rd xs.toList = some l) {fs : FS} (hs : E.G f = some fs)
  {z : fs.ps.D} (hz : argsT ((ca.asv E.G M).2.2 ++ (l.map (fun φ => φ.asT E.G M) ++ (cb.asv E.G M).2.2)) fs.ps = some z) {nf : Nat} {y : fs.rs.D} (hy : (fs.sem z).run nf = some y) :
  Ok X.P ⟨d, .call ⟨.value x, xs, ts⟩, T, pos, aft, g⟩ a w (fun w' v => ∃ rs, isTup rs v ∧ resV X.P X.O w.heap.size w' fs.rk fs.rs rs y) := by
 have k1 := H x _ (by simp [Op.operands, Call.operands]) h1
 have hlen := jF h2
 have hget := qX hE.G hM (a := a) h2 fun y ψ hy hψ => H y ψ (by have hy' : y ∈ xs := Array.mem_toList_iff.1 hy; simp [Op.operands, Call.operands, hy']) hψ
 have hmap : (xs.map a.eval) = (xs.toList.map a.eval).toArray := by rw [← Array.toList_map]
 obtain ⟨vs, us, e1, e2, e3⟩ := k1
 have A := AV.kH hE.G ca hM
 have B := AV.kH hE.G cb hM
 obtain ⟨f1, f2⟩ := hE.G f fs hs
 refine J0 e3 hmap (YW f1 ?_)
 rw [kf]
 have n1 := A.n e1
 have n2 := B.n e2
 have hargs : fs.ps.args X.P X.O w (vs ++ (xs.toList.map a.eval ++ us)) z := kI hz (by simp [n1, n2, hlen]) (YY (R := fun f v => ∀ t x, f t = some x → (t.gr X.P).v X.O w v x) n1 (A.e e1) (YY (by simp [hlen]) hget (B.e e2)))
 exact f2 X.O w hO _ _ hargs nf y hy
def I4 (G : FE) : Option AV → Bool
 | some (.cl f _ _) => match G f with
  | some fs => fs.rk.any Option.isSome
  | none => false
 | _ => false
def isIoC (G : ME) : Option AV → Bool
 | some (.cl f _ _) => (G f).isSome
 | _ => false
def isOwC {α : Type} (G : FuncId → Option α) : Option AV → Bool
 | some (.cl f _ _) => (G f).isSome
 | _ => false
def tlV : Option (List AV) → List AV
 | some (_ :: l) => l
 | _ => []
def pQ (E : VE) (s : S) (d : Option Tmp) (φ : Option AV) (l : Option (List AV)) (k : S → Comp β) : Comp β := match φ, l with
 | some (.cl f ca cb), some l => match E.G f with
  | none => Comp.fail
  | some fs => match argsT ((ca.asv E.G s.M).2.2 ++ (l.map (fun φ => φ.asT E.G s.M) ++ (cb.asv E.G s.M).2.2)) fs.ps with
   | some z => (fs.sem z).bind fun y => match ky fs.rk fs.rs y with
    | some q => k (s.obj d (.sl true q.2.1 q.1 q.2.2) (ownAV s.n fs.rk fs.rs y))
    | none => k (s.put d (resAV fs.rs y))
   | none => Comp.fail
 | _, _ => Comp.fail
theorem D9 {P : Program} {O : Tags} {B : Nat} {w : World} {ks : List (Option TypeId)} {rs : Ty} {vs : List Value} {y : rs.D} {q : TypeId × (t : Ty) × List t.D} (hq : ky ks rs y = some q) (h : resV P O B w ks rs vs y) : vs ≠ [] := by
 intro e; subst e
 match ks, rs, y, hq, h with
 | k :: ks, .cons a b, y, hq, h => obtain ⟨v, vs', h1, _⟩ := h; cases h1
theorem pP (hE : E.ok X.P) (h : RelX F s a w X) (hd : F.dst d) {x : Operand} {xs : Array Operand} {ts : Array TypeId} : ga F s a w ⟨d, .call ⟨.value x, xs, ts⟩, T, pos, aft, g⟩ (pQ E s d (rdO s.ep s.L [] [] x) (rdAll (rdO s.ep s.L [] []) xs.toList) k) k := by
 intro nf y hr K Q hK
 rw [← h.P]
 rw [← h.ep] at hr
 unfold pQ at hr
 split at hr
 ·rename_i f ca cb l hφ hl
  split at hr
  ·cases hr
  ·rename_i fs hs
   split at hr
   ·rename_i z hz
    obtain ⟨y0, hy0, hr⟩ := Comp.run_bind hr
    have hok := CC (d := d) (T := T) (pos := pos) (aft := aft) (g := g) (ts := ts) hE h.m h.okO (h.rd _) hφ hl hs hz hy0
    split at hr
    ·rename_i q hq
     refine hok K Q fun v w' hEx hv => ?_
     obtain ⟨rs, h3, h4⟩ := hv
     obtain ⟨u, h5, h6⟩ := YN (k := s.n) hq h4
     refine hK _ _ _ (h.newSl hEx hd h5 fun X' e1 hle e2 e3 e4 => ?_) (Inv.obj _ _ _ _) hr
     exact nI (h6 X' e1 e2 e3 e4) (D9 hq h4) h3
    ·refine hok K Q fun v w' hEx hv => ?_
     obtain ⟨rs, h3, h4⟩ := hv
     exact hK _ _ _ ⟨_, h.val hEx hd (Jp (ZS (fun b hb => h.okO b hb) h4) h3)⟩ (Inv.put _ _ _) hr
   ·cases hr
 ·cases hr
def two? {α : Type} : List α → Option (α × α)
 | [x, y] => some (x, y)
 | _ => none
theorem Jg {α : Type} {l : Array α} {p : α × α} (h : two? l.toList = some p) : l = #[p.1, p.2] := by
 unfold two? at h; split at h
 ·rename_i x y e; cases h; exact Array.ext' e
 ·cases h
def isClr : Builtin → Bool
 | .clear => true
 | _ => false
theorem Bm {b : Builtin} (h : isClr b = true) : b = .clear := by cases b <;> first | rfl | cases h
def one? {α : Type} : List α → Option α
 | [x] => some x
 | _ => none
theorem nQ {α : Type} {l : Array α} {p : α} (h : one? l.toList = some p) : l = #[p] := by
 unfold one? at h
 split at h
 ·rename_i x e; cases h; exact Array.ext' (by simpa using e)
 ·cases h
def preOf (E : VE) (s : S) (Y : TypeId) (x : Operand) (l h m : Option Operand) : Option (Operand × (Nat × Bool × TypeId × (t : Ty) × List t.D)) := match l, h, m with
 | none, some y, none => match rdO s.ep s.L [] [] x with
  | some φ => match slMV s.M φ, look E.T Y with
   | some p, some i => match slD i.dd with
    | some e => match look E.T e with
     | some j => match Nat.beq p.2.2.2.1.sz j.sz with
      | true => some (y, p)
      | false => none
     | none => none
    | none => none
   | _, _ => none
  | none => none
 | _, _, _ => none
def isApp : Builtin → Bool
 | .append => true
 | _ => false
theorem Bn {b : Builtin} (h : isApp b = true) : b = .append := by cases b <;> first | rfl | cases h
def AV.refs : AV → List Nat
 | .ob k | .bx k _ | .ba k .. | .el k .. | .sx k .. => [k]
 | .cl _ a b | .pr a b => a.refs ++ b.refs
 | .tp l | .ag l => l.refs
 | _ => []
def refsO (rd : Operand → Option AV) : List Operand → List Nat
 | [] => []
 | x :: xs => match rd x with
  | some φ => φ.refs ++ refsO rd xs
  | none => refsO rd xs
def isBx : Option AV → Bool
 | some (.bx _ _) => true
 | _ => false
def clC (G : FE) : Option AV → Bool
 | some (.cl f _ _) => match G f with
  | some fs => fs.rs.closed
  | none => true
 | some (.rd (.fn _ tr) _) => tr.closed
 | _ => true
def preF (E : VE) (s : S) (o : Op) : S := match o with
 | .buildSlice _ _ ps => s.frzL (refsO (rdO s.ep s.L [] []) (ps.toList.map (·.2)))
 | .store _ x z => match isBx (rdO s.ep s.L [] [] x) with
  | true => s
  | false => s.frzL (refsO (rdO s.ep s.L [] []) [z])
 | .call c => match c.callee with
  | .value x => match clC E.G (rdO s.ep s.L [] [] x) with
   | true => s
   | false => s.frzL (refsO (rdO s.ep s.L [] []) (x :: c.args.toList))
  | _ => s
 | _ => s
def step0 (E : VE) (wr : List Nat) (s : S) (o : Oper) (k : S → Comp β) : Comp β := match o.op with
 | .alloc Y => Jj E s o.dst Y k
 | .box Y x => stBox s o.dst Y (rdO s.ep s.L [] [] x) k
 | .store Y x z => match o.dst with
  | none => wT E s Y (rdO s.ep s.L [] [] x) (rdO s.ep s.L [] [] z) k
  | some _ => Comp.fail
 | .buildSlice Y n ps => stLit E s o.dst (vLit E.T E.G s.M (rdO s.ep s.L [] []) Y n ps.toList) k
 | .makeSlice Y x z => pO E s o.dst Y x z ((rdO s.ep s.L [] [] z).bind AV.int?) k
 | .call c => match c.callee with
  | .builtin b => match isApp b with
   | true => match two? c.args.toList, two? c.argTypes.toList with
    | some p, some q => match Nat.beq q.1 q.2 with
     | true => stApp E s o.dst q.1 (rdO s.ep s.L [] [] p.1) (rdO s.ep s.L [] [] p.2) k
     | false => pS E s o.dst q.1 q.2 (rdO s.ep s.L [] [] p.1) ((rdO s.ep s.L [] [] p.2).bind AV.int?) k
    | _, _ => Comp.fail
   | false => match isClr b with
    | true => match one? c.args.toList, one? c.argTypes.toList with
     | some x, some Y => wV E s o.dst Y (rdO s.ep s.L [] [] x) k
     | _, _ => Comp.fail
    | false => stVal (val E s.M s.ep s.L [] [] wr o.dst o.op) s o.dst k
  | .value x => match isIoC E.H (rdO s.ep s.L [] [] x) with
   | true => wY E s o.dst (rdO s.ep s.L [] [] x) (rdAll (rdO s.ep s.L [] []) c.args.toList) k
   | false => match isOwC E.O (rdO s.ep s.L [] [] x) with
   | true =>
    let s1 := s.frzV E (tlV (rdAll (rdO s.ep s.L [] []) c.args.toList))
    wW E s1 o.dst (rdO s1.ep s1.L [] [] x) (rdAll (rdO s1.ep s1.L [] []) c.args.toList) k
   | false => match isOwC E.N (rdO s.ep s.L [] [] x) with
   | true => wX E s o.dst (rdO s.ep s.L [] [] x) (rdAll (rdO s.ep s.L [] []) c.args.toList) k
   | false => match I4 E.G (rdO s.ep s.L [] [] x) with
   | true => pQ E s o.dst (rdO s.ep s.L [] [] x) (rdAll (rdO s.ep s.L [] []) c.args.toList) k
   | false => stVal (val E s.M s.ep s.L [] [] wr o.dst o.op) s o.dst k
  | .invoke _ _ => Comp.fail
 | .makeMap Y n => wU E s o.dst Y k n
 | .mapUpdate Y m x v => match o.dst with
  | none => pM E s Y k (rdO s.ep s.L [] [] m) (rdO s.ep s.L [] [] x) (rdO s.ep s.L [] [] v)
  | some _ => Comp.fail
 | .slice Y x l h m => match preOf E s Y x l h m with
  | some q => stPre s o.dst q.2 ((rdO s.ep s.L [] [] q.1).bind AV.int?) k
  | none => stVal (val E s.M s.ep s.L [] [] wr o.dst o.op) s o.dst k
 | _ => stVal (val E s.M s.ep s.L [] [] wr o.dst o.op) s o.dst k
theorem Ae (hE : E.ok X.P) (h : RelX F s a w X) (wr : List Nat) (o : Oper) (hd : F.dst o.dst) : ga F s a w o (step0 E wr s o k) k := by
 have hv : ga F s a w o (stVal (val E s.M s.ep s.L [] [] wr o.dst o.op) s o.dst k) k := by
  refine Af h hd ?_
  rw [← h.ep]
  exact Ys (R := []) (g := []) hE trivial h.okO h.m o (h.knowR o) trivial
 have hfail : ga F s a w o (Comp.fail : Comp β) k := fun nf y hr => nomatch hr
 obtain ⟨d, op, T, pos, aft, g⟩ := o
 unfold step0
 split
 ·rename_i Y e; simp only at e; subst e; exact qp hE h hd
 ·rename_i Y x e; simp only at e; subst e; exact Ai h hd
 ·rename_i Y x z e; simp only at e; subst e
  split
  ·rename_i e; simp only at e; subst e; exact qj hE h
  ·exact hfail
 ·rename_i Y n ps e; simp only at e; subst e; exact Ah hE h hd
 ·rename_i Y x z e; simp only at e; subst e; exact pN hE h hd
 ·rename_i c e
  simp only at e
  obtain ⟨cal, xs, ts⟩ := c
  split
  ·rename_i b e2
   simp only at e2
   split
   ·rename_i hb
    rw [Bn hb] at e2
    split
    ·rename_i p q hp hq
     split
     ·rename_i hpq
      have h1 := Jg hp
      have h2 := Jg hq
      simp only at h1 h2
      have h3 := MX hpq
      rw [← h3] at h2
      subst e2 h1 h2 e
      exact Aj hE h hd
     ·have h1 := Jg hp
      have h2 := Jg hq
      simp only at h1 h2
      subst e2 h1 h2 e
      exact pR hE h hd
    ·exact hfail
   ·split
    ·rename_i hb
     rw [Bm hb] at e2
     split
     ·rename_i x Y hx hY
      have h1 := nQ hx
      have h2 := nQ hY
      simp only at h1 h2
      subst e2 h1 h2 e
      cases d with
      | none => exact ql hE h
      | some d => exact fun nf y hr => (by cases hr)
     ·exact hfail
    ·exact hv
  ·rename_i x e2
   simp only at e2
   split
   ·subst e2 e; exact qo hE h hd
   ·split
    ·subst e2 e
     obtain ⟨X1, h1⟩ := Rel.frzV (E := E) (by rw [← h.P]; exact hE) ⟨X, h⟩ (tlV (rdAll (rdO s.ep s.L [] []) xs.toList))
     intro nf y hr K Q hK
     exact qm (by rw [h1.P, ← h.P]; exact hE) h1 hd nf y hr K Q fun s' v w' q1 q2 q3 => hK s' v w' q1 ((Inv.frzV _ _).trans q2) q3
    split
    ·subst e2 e; exact qn hE h hd
    split
    ·subst e2 e; exact pP hE h hd
    ·exact hv
  ·exact hfail
 ·rename_i Y n e; simp only at e; subst e; exact qk h hd
 ·rename_i Y m x v e; simp only at e; subst e
  split
  ·rename_i e; simp only at e; subst e; exact pL hE h
  ·exact hfail
 ·rename_i Y x l h' m e
  simp only at e
  split
  ·rename_i q hq
   unfold preOf at hq
   split at hq
   ·rename_i y
    split at hq
    ·rename_i φ hφ
     split at hq
     ·rename_i p i hp hi
      split at hq
      ·rename_i e' he'
       split at hq
       ·rename_i j hj
        split at hq
        ·rename_i hs
         cases hq
         subst e
         exact Ag hE h hd hφ hp hi he' hj hs
        ·cases hq
       ·cases hq
      ·cases hq
     ·cases hq
    ·cases hq
   ·cases hq
  ·exact hv
 ·exact hv
def step (E : VE) (wr : List Nat) (s : S) (o : Oper) (k : S → Comp β) : Comp β := step0 E wr (preF E s o.op) o k
theorem EH (h : Rel F s a w) (o : Op) : Rel F (preF E s o) a w ∧ Inv s (preF E s o) := by
 unfold preF
 split
 ·exact ⟨Rel.frzL _ h, Inv.frzL _ _⟩
 ·split
  ·exact ⟨h, Inv.refl _⟩
  ·exact ⟨Rel.frzL _ h, Inv.frzL _ _⟩
 ·split
  ·split
   ·exact ⟨h, Inv.refl _⟩
   ·exact ⟨Rel.frzL _ h, Inv.frzL _ _⟩
  ·exact ⟨h, Inv.refl _⟩
 ·exact ⟨h, Inv.refl _⟩
theorem Jh (hE : E.ok F.P) (h : Rel F s a w) (wr : List Nat) (o : Oper) (hd : F.dst o.dst) : ga F s a w o (step E wr s o k) k := by
 intro nf y hr K Q hK
 obtain ⟨⟨X, h1⟩, h2⟩ := EH (E := E) h o.op
 exact Ae (by rw [h1.P]; exact hE) h1 wr o hd nf y hr K Q fun s' v w' g1 g2 g3 => hK s' v w' g1 (h2.trans g2) g3
def stepL (E : VE) (wr : List Nat) (k : S → Comp β) : List Oper → S → Comp β
 | [], s => k s
 | o :: os, s => step E wr s o (stepL E wr k os)
theorem ug (hE : E.ok F.P) (wr : List Nat) {nf : Nat} {y : β} {ops : Array Oper} {Q : Exit → Act → World → Prop} {s0 : S} : ∀ {os : List Oper} {s : S} {a : Act} {w : World}, Rel F s a w → Inv s0 s → (stepL E wr k os s).run nf = some y → (∀ o ∈ os, (o.guard.isNone = true ∧ ∀ c, o.op ≠ .defer c) ∧ F.dst o.dst) →
  (∀ s' a' w', Rel F s' a' w' → Inv s0 s' → (k s').run nf = some y → Q .normal a' w') → gList (F.W Q) ops (Q .normal) os a w
 | [], s, a, w, h, hi, hr, _, hK => hK s a w h hi hr
 | o :: os, s, a, w, h, hi, hr, ho, hK => by
  have h1 := ho o (by simp)
  have hg : o.guard = none := by cases hgo : o.guard <;> simp_all
  have hw : Region.wanted o (yielded ops a.tmps) = true := by simp [Region.wanted, hg]
  simp only [gList, hw, if_true]
  refine Zd h1.1.2 (Jh (k := stepL E wr k os) hE h wr o h1.2 nf y hr _ _ fun s' v w' hR hi' hr' => ?_)
  exact ug hE wr hR (hi.trans hi') hr' (fun o' ho' => ho o' (by simp [ho'])) hK
end
def effB : Builtin → Bool
 | .len | .max | .min | .cap => false
 | _ => true
def eff (G : FE) : Op → Bool
 | .alloc _ | .box .. | .store .. | .buildSlice .. | .makeSlice .. | .makeMap .. | .mapUpdate .. | .insert .. | .panic _ | .defer _ => true
 | .call c => match c.callee with
  | .builtin b => effB b
  | .value (.func f) => match G f with
   | some fs => !fs.rs.closed
   | none => true
  | _ => false
 | _ => false
def hasG : List Oper → Bool
 | [] => false
 | o :: os => o.guard.isSome || hasG os
def cut (G : FE) (draw : Bool) (all : List Oper) : Nat → List Oper → Nat
 | i, [] => i
 | i, o :: os => match eff G o.op && (!hasG (o :: os) && (!draw || Z2 all i)) with
  | true => i
  | false => cut G draw all (i + 1) os
def wrS : List Oper → List Nat
 | [] => []
 | o :: os => match o.op with
  | .store _ (.tmp t) _ => t :: wrS os
  | .fieldAddr _ (.tmp t) _ => match memO o.dst (wrS os) with
   | true => t :: wrS os
   | false => wrS os
  | .indexAddr _ (.tmp t) _ => match memO o.dst (wrS os) with
   | true => t :: wrS os
   | false => wrS os
  | _ => wrS os
def denG {β : Type} (E : VE) (draw : Bool) (os : List Oper) (s : S) (k : S → Comp β) : Comp β :=
 denR E s.M s.ep s.L s.n (wrS os) (fun tl R F => match !hasG tl && (!draw || Z2 os R.length) with
  | true => stepL E (wrS os) k tl { s with L := F, n := s.n + 1 }
  | false => Comp.fail) (cut E.G draw os 0 os) 0 os [] s.L
theorem uF : ∀ {os : List Oper}, hasG os = false → ∀ o ∈ os, o.guard.isNone = true
 | [], _, o, h => by cases h
 | o' :: os, h, o, ho => by
  simp only [hasG, Bool.or_eq_false_iff] at h
  rcases List.mem_cons.1 ho with rfl | ho
  ·have := h.1
   cases hg : o.guard <;> simp_all
  ·exact uF h.2 o ho
theorem GJ {F : Frm} (hLh : ∀ t φ, ¬ F.Lh t φ) {E : VE} (hE : E.ok F.P) {s0 s : S} {a : Act} {w : World} (hR : Rel F s a w) (hi : Inv s0 s) {os : List Oper} {id nf : Nat} {draw : Bool} {β : Type} {y : β} {k : S → Comp β} {Q : Exit → Act → World → Prop} (hm : F.P.follows .mixedOrders = true)
  (hok : okReg F.N os = true) (h : (denG E draw os s k).run nf = some y) (hK : ∀ s' a' w', Rel F s' a' w' → Inv s0 s' → (k s').run nf = some y → Q .normal a' w') : F.wp (Code.region id os.toArray draw) Q a w := by
 refine qz hLh hE hR (draw := draw) (fun _ => hm) hok h fun tl R' F' hF hr => ?_
 split at hr
 ·rename_i hb
  rw [MY] at hb
  have hg : hasG tl = false := by simpa using hb.1
  refine ⟨List.all_eq_true.2 (uF hg), fun hd => ?_, fun a' w' hR' hmem => ?_⟩
  ·have := hb.2; rw [hd] at this; simpa using this
  ·refine ug hE (wrS os) hR' (hi.trans ⟨Nat.le_succ _, hF, yF⟩) hr (fun o ho => ⟨⟨uF hg o ho, J2 hok o (hmem o ho)⟩, fun t ht => ?_⟩) hK
   obtain ⟨j, hj⟩ := List.mem_iff_getElem?.1 (hmem o ho)
   exact ⟨((zR (YO hok) hj).2.1 t ht).1, fun φ => hLh t φ⟩
 ·cases hr
end Go.Den
end
section
namespace Go.Den
open Go Go.RowKit Go.Eng Go.Lift
variable {α β γ δ : Type}
def AV.bd (n : Nat) : AV → Prop
 | .ob k | .bx k _ | .ba k .. | .el k .. | .sx k .. => k < n
 | .cl _ a b | .pr a b => a.bd n ∧ b.bd n
 | .tp l | .ag l => l.bd n
 | _ => True
theorem AV.bd_of {X : Cx} {w : World} (φ : AV) : (∀ u, (φ.sem X w).v u → φ.bd X.n) ∧ (∀ vs, (φ.sem X w).l vs → φ.bd X.n) ∧ (∀ cs, (φ.sem X w).c cs → φ.bd X.n) := by
 have one_case : ∀ {q : Value → Prop} {p : Prop}, (∀ u, q u → p) → (∀ u, (one q).v u → p) ∧ (∀ vs, (one q).l vs → p) ∧ (∀ cs, (one q).c cs → p) :=
  fun h => ⟨h, fun _ h => h.elim, fun cs ⟨u, _, _, h3⟩ => h u h3⟩
 induction φ with
 | ob k => exact one_case fun u h => h.2.1
 | bx k off => exact one_case fun u h => h.1
 | ba k off sz i esz off2 => exact one_case fun u h => h.1
 | el k i esz off2 => exact one_case fun u h => h.1
 | sx k lo esz => exact one_case fun u h => h.2
 | yl => exact one_case fun u h => trivial
 | cl f a b iha ihb =>
  refine one_case fun u h => ?_
  obtain ⟨vs, us, h1, h2, _⟩ := h
  exact ⟨iha.2.1 _ h1, ihb.2.1 _ h2⟩
 | pr a b iha ihb =>
  refine ⟨fun _ h => h.elim, fun vs h => ?_, fun cs h => ?_⟩
  ·obtain ⟨v, vs', _, h2, h3⟩ := h; exact ⟨iha.1 _ h2, ihb.2.1 _ h3⟩
  ·obtain ⟨c1, c2, _, h2, h3⟩ := h; exact ⟨iha.2.2 _ h2, ihb.2.2 _ h3⟩
 | tp l ih => exact ⟨fun u ⟨vs, h1, _⟩ => ih.2.1 _ h1, fun _ h => h.elim, fun _ h => h.elim⟩
 | ag l ih => exact ⟨fun u ⟨cs, h1, _⟩ => ih.2.2 _ h1, fun _ h => h.elim, fun cs h => ih.2.2 _ h⟩
 | _ => exact ⟨fun _ _ => trivial, fun _ _ => trivial, fun _ _ => trivial⟩
structure Cx.al (X X' : Cx) (n : Nat) : Prop where
 P : X'.P = X.P
 O : X'.O = X.O
 U : ∀ k, k < n → X'.U k = X.U k
 n : n ≤ X'.n
 L : X'.Lp = X.Lp
theorem AV.al {X X' : Cx} {n : Nat} (hX : X.al X' n) {w : World} (φ : AV) (hb : φ.bd n) : (∀ u, (φ.sem X w).v u → (φ.sem X' w).v u) ∧ (∀ vs, (φ.sem X w).l vs → (φ.sem X' w).l vs) ∧ (∀ cs, (φ.sem X w).c cs → (φ.sem X' w).c cs) := by
 induction φ with
 | rd t x =>
  refine ⟨fun u h => ?_, fun _ h => h, fun cs h => ?_⟩
  ·show (t.gr X'.P).v _ _ _ _; rw [hX.P, hX.O]; exact h
  ·show (t.gr X'.P).rel _ _ _ _; rw [hX.P, hX.O]; exact h
 | pt t x => refine vG fun u h => ?_; rw [hX.P, hX.O]; exact h
 | ob k => exact vG fun u h => ⟨by rw [h.1, hX.U k hb], Nat.lt_of_lt_of_le hb hX.n, h.2.2⟩
 | bx k off =>
  refine vG fun u h => ?_
  obtain ⟨h1, b, h2, h3⟩ := h
  exact ⟨Nat.lt_of_lt_of_le hb hX.n, b, by rw [hX.U k hb]; exact h2, h3⟩
 | ba k off sz i esz off2 =>
  refine vG fun u h => ?_
  obtain ⟨h1, h2, h3, b, h4, h5⟩ := h
  exact ⟨Nat.lt_of_lt_of_le hb hX.n, h2, h3, b, by rw [hX.U k hb]; exact h4, h5⟩
 | el k i esz off2 =>
  refine vG fun u h => ?_
  obtain ⟨h1, h2, h3, h4⟩ := h
  exact ⟨Nat.lt_of_lt_of_le hb hX.n, h2, by rw [hX.U k hb]; exact h3, by rw [hX.U k hb]; exact h4⟩
 | pq t x =>
  refine ⟨fun u h => ?_, fun _ h => h, fun _ h => h⟩
  show ∃ v, PtrTo w u v ∧ (t.gr X'.P).v X'.O w v x
  rw [hX.P, hX.O]; exact h
 | cl f a b iha ihb =>
  refine vG fun u h => ?_
  obtain ⟨vs, us, h1, h2, h3⟩ := h
  exact ⟨vs, us, (iha hb.1).2.1 _ h1, (ihb hb.2).2.1 _ h2, h3⟩
 | un => exact ⟨fun _ h => h, fun _ h => h, fun _ h => h⟩
 | pr a b iha ihb =>
  refine ⟨fun _ h => h, fun vs h => ?_, fun cs h => ?_⟩
  ·obtain ⟨v, vs', h1, h2, h3⟩ := h
   exact ⟨v, vs', h1, (iha hb.1).1 _ h2, (ihb hb.2).2.1 _ h3⟩
  ·obtain ⟨c1, c2, h1, h2, h3⟩ := h
   exact ⟨c1, c2, h1, (iha hb.1).2.2 _ h2, (ihb hb.2).2.2 _ h3⟩
 | tp l ih =>
  refine ⟨fun u h => ?_, fun _ h => h, fun _ h => h⟩
  obtain ⟨vs, h1, h2⟩ := h
  exact ⟨vs, (ih hb).2.1 _ h1, h2⟩
 | ag l ih =>
  refine ⟨fun u h => ?_, fun _ h => h, fun cs h => (ih hb).2.2 _ h⟩
  obtain ⟨cs, h1, h2⟩ := h
  exact ⟨cs, (ih hb).2.2 _ h1, h2⟩
 | ex v => exact ⟨fun _ h => h, fun _ h => h, fun _ h => h⟩
 | nb p e => exact ⟨fun _ h => h, fun _ h => h, fun _ h => h⟩
 | sx k lo esz => exact vG fun u h => ⟨by rw [h.1, hX.U k hb], Nat.lt_of_lt_of_le hb hX.n⟩
 | yl => exact vG fun u h => by rw [hX.L]; exact h
 | em t => exact ⟨fun _ h => h, fun _ h => h, fun _ h => h⟩
 | top => exact ⟨fun _ h => h, fun _ h => h, fun _ h => h⟩
inductive Knd
 | v (t : Ty)
 | o (nw : Bool) (t : Ty) (T : TypeId)
 | m (nw : Bool) (a b : Ty)
 | un
 | pr (a b : Knd)
 | ag (l : Knd)
def Knd.D : Knd → Type
 | .v t => t.D
 | .o _ t _ => List t.D
 | .m _ a b => List (a.D × b.D)
 | .un => Unit
 | .pr a b => a.D × b.D
 | .ag l => l.D
def Knd.put (st : Nat) : (k : Knd) → k.D → Nat → AV × MS × Nat
 | .v t, x, n => (.rd t x, [], n)
 | .o nw t T, xs, n => (.ob n, [(n, st, .sl nw t T xs)], n + 1)
 | .m nw a b, xs, n => (.ob n, [(n, st, .mp nw a b xs)], n + 1)
 | .un, _, n => (.un, [], n)
 | .pr a b, x, n =>
  let p := a.put st x.1 n
  let q := b.put st x.2 p.2.2
  (.pr p.1 q.1, p.2.1 ++ q.2.1, q.2.2)
 | .ag l, x, n =>
  let p := l.put st x n
  (.ag p.1, p.2.1, p.2.2)
def asPr : AV → Option AV
 | .ag l => some l
 | .rd t x => match t.agg && okE t with
  | true => some (expl t x)
  | false => none
 | _ => none
def Ty.nslo : Ty → Bool
 | .slo _ => false
 | _ => true
theorem Eu {P : Program} {k : Nat} {B : Nat → Prop} {O : Tags} {w : World} {u : Value} {a b a' b' : Ty} {xs : List (a.D × b.D)} {ys : List (a'.D × b'.D)} (e : Ty.mp a b = .mp a' b') (h : Ty.cast e xs = ys) (hO : OwnMp k (encV a) (b.gr P) B O w u xs) : OwnMp k (encV a') (b'.gr P) B O w u ys := by
 injection e with e1 e2
 subst e1 e2
 subst h
 exact hO
def mpMV (M : MS) : AV → Option (Nat × Bool × (a : Ty) × (b : Ty) × List (a.D × b.D))
 | .ob k => match look M k with
  | some (_, .mp nw a b xs) => some (k, nw, ⟨a, b, xs⟩)
  | _ => none
 | _ => none
theorem Ev {M : MS} {φ : AV} {p : Nat × Bool × (a : Ty) × (b : Ty) × List (a.D × b.D)} (h : mpMV M φ = some p) : φ = .ob p.1 ∧ ∃ e, look M p.1 = some e ∧ e.2 = .mp p.2.1 p.2.2.1 p.2.2.2.1 p.2.2.2.2 := by
 unfold mpMV at h
 split at h
 ·split at h
  ·rename_i k _ st nw a b xs hk
   cases h
   exact ⟨rfl, _, hk, rfl⟩
  ·cases h
 ·cases h
def Knd.get (G : FE) (M : MS) : (k : Knd) → AV → Option (k.D × List (Option Nat))
 | .v t, φ => match t.nslo, φ.asT G M t with
  | true, some x => some (x, [])
  | _, _ => none
 | .o nw t T, φ => match slMV M φ with
  | some p => match beqB p.2.1 nw && Nat.beq p.2.2.1 T, (Ty.sl p.2.2.2.1).to (.sl t) p.2.2.2.2 with
   | true, some xs => some ((xs : List t.D), [some p.1])
   | _, _ => none
  | none => match YE φ && nw with
   | true => some (([] : List t.D), [none])
   | false => none
 | .m nw a b, φ => match mpMV M φ with
  | some p => match beqB p.2.1 nw, (Ty.mp p.2.2.1 p.2.2.2.1).to (.mp a b) p.2.2.2.2 with
   | true, some xs => some ((xs : List (a.D × b.D)), [some p.1])
   | _, _ => none
  | none => none
 | .un, φ => match φ with
  | .un => some ((), [])
  | _ => none
 | .pr a b, φ => match φ with
  | .pr φ1 φ2 => match a.get G M φ1, b.get G M φ2 with
   | some p, some q => some ((p.1, q.1), p.2 ++ q.2)
   | _, _ => none
  | _ => none
 | .ag l, φ => match asPr φ with
  | some φ => l.get G M φ
  | none => none
structure Ren (X X' : Cx) (n : Nat) (olds : List (Option Nat)) : Prop where
 P : X'.P = X.P
 O : X'.O = X.O
 A : X'.A = X.A
 F : X'.F = X.F
 L : X'.Lp = X.Lp
 U : ∀ i k, olds[i]? = some (some k) → X'.U (n + i) = X.U k ∧ X'.ι (n + i) = X.ι k
 N : ∀ i, olds[i]? = some none → X'.U (n + i) = .slice none 0 0
 n : n + olds.length ≤ X'.n
theorem Ren.left {X X' : Cx} {n : Nat} {a b : List (Option Nat)} (h : Ren X X' n (a ++ b)) : Ren X X' n a :=
 ⟨h.P, h.O, h.A, h.F, h.L, fun i k hi => h.U i k (by rw [List.getElem?_append_left (List.getElem?_eq_some_iff.1 hi).1]; exact hi), fun i hi => h.N i (by rw [List.getElem?_append_left (List.getElem?_eq_some_iff.1 hi).1]; exact hi), by have := h.n; rw [MZ] at this; omega⟩
theorem Ren.right {X X' : Cx} {n : Nat} {a b : List (Option Nat)} (h : Ren X X' n (a ++ b)) : Ren X X' (n + a.length) b :=
 ⟨h.P, h.O, h.A, h.F, h.L, fun i k hi => by
   have := h.U (a.length + i) k (by rw [List.getElem?_append_right (by omega), Nat.add_sub_cancel_left]; exact hi)
   rwa [← Nat.add_assoc] at this, fun i hi => by
   have := h.N (a.length + i) (by rw [List.getElem?_append_right (by omega), Nat.add_sub_cancel_left]; exact hi)
   rwa [← Nat.add_assoc] at this, by have := h.n; rw [MZ] at this; omega⟩
theorem kC {α : Type} {l m : List (Nat × α)} {t : Nat} {e : α} (h : look (l ++ m) t = some e) : look l t = some e ∨ (look l t = none ∧ look m t = some e) := by
 induction l with
 | nil => exact .inr ⟨rfl, h⟩
 | cons x l ih =>
  obtain ⟨k, y⟩ := x
  rw [List.cons_append] at h
  simp only [look] at h ⊢
  cases hb : Nat.beq k t with
  | true => rw [hb] at h; exact .inl h
  | false => rw [hb] at h; exact ih h
def OldOk (M : MS) (k : Nat) : Prop := ∃ e, look M k = some e ∧ e.2.own = true
theorem Knd.ok {X X' : Cx} {G : FE} (hG : FOk X.P G) {M : MS} {w : World} (hM : KnowM M X w) {st : Nat} : ∀ {kd : Knd} {φ : AV} {x : kd.D} {olds : List (Option Nat)} {n : Nat}, kd.get G M φ = some (x, olds) → Ren X X' n olds →
  (kd.put st x n).2.2 = n + olds.length ∧ (∀ u, (φ.sem X w).v u → ((kd.put st x n).1.sem X' w).v u) ∧ (∀ cs, (φ.sem X w).c cs → ((kd.put st x n).1.sem X' w).c cs ∧ (kd.put st x n).1.frail = false) ∧ (kd.put st x n).1.frail = false ∧
  (∀ j e, look (kd.put st x n).2.1 j = some e → e.1 = st ∧ n ≤ j ∧ j < n + olds.length ∧ e.2.holds X' w j) ∧ (∀ (i : Nat) k, olds[i]? = some (some k) → OldOk M k) := by
 intro kd
 induction kd with
 | v t =>
  intro φ x olds n h hR
  simp only [Knd.get] at h
  split at h
  ·rename_i y _ hy
   cases h
   have hA := AV.kH hG φ hM
   refine ⟨rfl, fun u hu => ?_, fun cs hc => ⟨?_, rfl⟩, rfl, fun j e he => (nomatch he), fun i k hi => by simp at hi⟩
   ·show (t.gr X'.P).v _ _ _ _; rw [hR.P, hR.O]; exact hA.v hy hu
   ·show (t.gr X'.P).rel _ _ _ _; rw [hR.P, hR.O]; exact hA.vc hy hc
  ·cases h
 | o nw t T =>
  intro φ x olds n h hR
  simp only [Knd.get] at h
  have hn1 : olds.length = 1 → n < X'.n := fun hl => by have := hR.n; omega
  split at h
  ·rename_i p hp
   split at h
   ·rename_i xs hb hx
    cases h
    rw [MY] at hb
    have hb1 := YX hb.1
    have hb2 := MX hb.2
    obtain ⟨hU, hι⟩ := hR.U 0 p.1 rfl
    rw [Nat.add_zero] at hU hι
    have hn := hn1 rfl
    have hmv : ∀ u, φ.holds X w u → (AV.ob n).holds X' w u ∧ ∃ e, look M p.1 = some e ∧ e.2 = .sl p.2.1 p.2.2.2.1 p.2.2.1 p.2.2.2.2 := by
     intro u hu
     obtain ⟨e, h1, h2, h3, h4⟩ := X9 hM hu hp
     exact ⟨⟨by rw [hU]; exact h4, hn, kz h3⟩, e, h1, h2⟩
    have hob : ∃ k, φ = .ob k ∧ p.1 = k ∧ ∃ e, look M k = some e ∧ e.2 = .sl p.2.1 p.2.2.2.1 p.2.2.1 p.2.2.2.2 := by
     unfold slMV at hp
     split at hp
     ·split at hp
      ·rename_i k _ st' nw' t' T' xs' hk
       cases hp
       exact ⟨k, rfl, rfl, _, hk, rfl⟩
      ·cases hp
     ·cases hp
    obtain ⟨k, hφ, hpk, e, he1, he2⟩ := hob
    refine ⟨rfl, fun u hu => (hmv u hu).1, fun cs hc => ⟨?_, rfl⟩, rfl, fun j e' he' => ?_, fun i k' hi => ?_⟩
    ·subst hφ
     obtain ⟨u, h1, h2, h3⟩ := hc
     exact ⟨u, h1, h2, (hmv u h3).1⟩
    ·rcases zF he' with ⟨h1, h2⟩ | ⟨_, h2⟩
     ·subst h1 h2
      refine ⟨rfl, Mb _, Nat.lt_succ_self _, ?_⟩
      have := hM k e he1
      rw [he2] at this
      show OwnL _ _ _ _ _ _ _ _
      rw [hU, hι, hR.P, hR.O, Cx.B_eq hR.A hR.F, hpk]
      obtain ⟨e3, hx⟩ := Ty.kL hx
      rw [hb1, hb2] at this
      cases e3; cases hx
      exact this
     ·cases h2
    ·match i, hi with
     | 0, hi => cases hi; rw [hpk]; exact ⟨e, he1, by rw [he2]; rfl⟩
     | i + 1, hi => simp at hi
   ·cases h
  ·split at h
   ·rename_i hb
    cases h
    rw [MY] at hb
    have hφ := kU hb.1
    subst hφ
    have hU := hR.N 0 rfl
    rw [Nat.add_zero] at hU
    have hn := hn1 rfl
    refine ⟨rfl, fun u hu => ⟨by rw [hU]; exact hu, hn, by rw [show u = _ from hu]; rfl⟩, fun cs hc => ⟨⟨.slice none 0 0, hc, rfl, hU.symm, hn, rfl⟩, rfl⟩, rfl, fun j e' he' => ?_, fun i k' hi => ?_⟩
    ·rcases zF he' with ⟨h1, h2⟩ | ⟨_, h2⟩
     ·subst h1 h2
      refine ⟨rfl, Mb _, Nat.lt_succ_self _, ?_⟩
      show OwnL _ _ _ _ _ _ _ _
      rw [hU]; exact OwnL.nil _ _ _ _ _ _
     ·cases h2
    ·match i, hi with
     | 0, hi => cases hi
     | i + 1, hi => simp at hi
   ·cases h
 | m nw a b =>
  intro φ x olds n h hR
  simp only [Knd.get] at h
  split at h
  ·rename_i p hp
   split at h
   ·rename_i xs hb hx
    cases h
    have hb1 := YX hb
    obtain ⟨hU, hι⟩ := hR.U 0 p.1 rfl
    rw [Nat.add_zero] at hU hι
    have hn : n < X'.n := by have := hR.n; simp at this; omega
    obtain ⟨hφ, e, he1, he2⟩ := Ev hp
    have hmm := hM _ e he1
    rw [he2] at hmm
    have h1c : (X.U p.1).oneCell' = true := by
     obtain ⟨c, es, clock, q1, _⟩ := hmm
     rw [q1]; rfl
    have hmv : ∀ u, (φ.sem X w).v u → (AV.ob n).holds X' w u := fun u hu => by
     subst hφ
     exact ⟨by rw [hU]; exact hu.1, hn, hu.2.2⟩
    refine ⟨rfl, fun u hu => hmv u hu, fun cs hc => ⟨?_, rfl⟩, rfl, fun j e' he' => ?_, fun i k' hi => ?_⟩
    ·subst hφ
     obtain ⟨u, g1, g2, g3⟩ := hc
     exact ⟨u, g1, g2, hmv u g3⟩
    ·rcases zF he' with ⟨h1, h2⟩ | ⟨_, h2⟩
     ·subst h1 h2
      refine ⟨rfl, Mb _, Nat.lt_succ_self _, ?_⟩
      show OwnMp _ _ _ _ _ _ _ _
      rw [hU, hι, hR.P, hR.O, Cx.B_eq hR.A hR.F]
      obtain ⟨e3, hx⟩ := Ty.kL hx
      rw [hb1] at hmm
      exact Eu e3 hx hmm
     ·cases h2
    ·match i, hi with
     | 0, hi => cases hi; exact ⟨e, he1, by rw [he2]; rfl⟩
     | i + 1, hi => simp at hi
   ·cases h
  ·cases h
 | un =>
  intro φ x olds n h hR
  simp only [Knd.get] at h
  split at h
  ·cases h
   exact ⟨rfl, fun u hu => hu, fun cs hc => ⟨hc, rfl⟩, rfl, fun j e he => (nomatch he), fun i k hi => by simp at hi⟩
  ·cases h
 | pr a b iha ihb =>
  intro φ x olds n h hR
  simp only [Knd.get] at h
  split at h
  ·rename_i φ1 φ2
   split at h
   ·rename_i p q hp hq
    cases h
    obtain ⟨a1, a2, a3, a4, a5, a6⟩ := iha hp hR.left
    obtain ⟨b1, b2, b3, b4, b5, b6⟩ := ihb hq hR.right
    simp only [Knd.put]
    rw [a1]
    refine ⟨by rw [b1, MZ]; omega, fun u hu => hu.elim, fun cs hc => ?_, by simp [AV.frail, a4, b4], fun j e he => ?_, fun i k hi => ?_⟩
    ·obtain ⟨c1, c2, h1, h2, h3⟩ := hc
     exact ⟨⟨c1, c2, h1, (a3 _ h2).1, (b3 _ h3).1⟩, by simp [AV.frail, a4, b4]⟩
    ·rw [MZ]
     rcases kC he with h1 | ⟨_, h1⟩
     ·obtain ⟨g1, g2, g3, g4⟩ := a5 j e h1; exact ⟨g1, g2, by omega, g4⟩
     ·obtain ⟨g1, g2, g3, g4⟩ := b5 j e h1; exact ⟨g1, by omega, by omega, g4⟩
    ·by_cases hlt : i < p.2.length
     ·rw [List.getElem?_append_left hlt] at hi; exact a6 i k hi
     ·rw [List.getElem?_append_right (by omega)] at hi; exact b6 _ k hi
   ·cases h
  ·cases h
 | ag l ih =>
  intro φ x olds n h hR
  simp only [Knd.get] at h
  split at h
  ·rename_i ψ hψ
   obtain ⟨a1, a2, a3, a4, a5, a6⟩ := ih h hR
   simp only [Knd.put]
   have hc : ∀ cs, (φ.sem X w).c cs → (ψ.sem X w).c cs := by
    intro cs hc
    unfold asPr at hψ
    split at hψ
    ·cases hψ; exact hc
    ·split at hψ
     ·rename_i hb
      cases hψ
      rw [MY] at hb
      exact DF hb.2 hc
     ·cases hψ
    ·cases hψ
   refine ⟨a1, fun u hu => ?_, fun cs h1 => ⟨(a3 cs (hc cs h1)).1, a4⟩, a4, a5, a6⟩
   unfold asPr at hψ
   split at hψ
   ·obtain ⟨cs, h1, h2⟩ := hu
    exact ⟨cs, (a3 cs (hc cs h1)).1, h2⟩
   ·split at hψ
    ·rename_i hb
     rw [MY] at hb
     obtain ⟨cs, h1, h2⟩ := hu
     refine ⟨cs, (a3 cs (hc cs h1)).1, ?_⟩
     rw [h2, Ty.jr, hb.1]; rfl
    ·cases hψ
   ·cases hψ
  ·cases h
end Go.Den
end
section
namespace Go.Den
open Go Go.RowKit Go.Eng Go.Lift
variable {α β γ δ : Type}
abbrev KE := Bool × Nat × Knd
def LD : List KE → Type
 | [] => Unit
 | [e] => e.2.2.D
 | e :: e' :: l => e.2.2.D × LD (e' :: l)
def LD.hd : (e : KE) → (l : List KE) → LD (e :: l) → e.2.2.D
 | _, [], x => x
 | _, _ :: _, x => x.1
def LD.tl : (e : KE) → (l : List KE) → LD (e :: l) → LD l
 | _, [], _ => ()
 | _, _ :: _, x => x.2
def LD.mk : (e : KE) → (l : List KE) → e.2.2.D → LD l → LD (e :: l)
 | _, [], x, _ => x
 | _, _ :: _, x, y => (x, y)
theorem LD.hd_mk {e : KE} {l : List KE} {x : e.2.2.D} {y : LD l} : LD.hd e l (LD.mk e l x y) = x := by cases l <;> rfl
theorem LD.tl_mk {e : KE} {l : List KE} {x : e.2.2.D} {y : LD l} : LD.tl e l (LD.mk e l x y) = y := by
 cases l with
 | nil => cases y; rfl
 | cons _ _ => rfl
def boxAt (s : S) (t : Nat) : Option (Nat × Bool × TypeId) := match look s.L t with
 | some (_, .bx k 0) => match look s.M k with
  | some (_, .bx nw _ T) => some (k, nw, T)
  | _ => none
 | _ => none
theorem rU {s : S} {t : Nat} {p : Nat × Bool × TypeId} (h : boxAt s t = some p) : ∃ st c, look s.M p.1 = some (st, .bx p.2.1 c p.2.2) := by
 unfold boxAt at h
 split at h
 ·split at h
  ·rename_i k _ st nw c T hk
   cases h; exact ⟨st, c, hk⟩
  ·cases h
 ·cases h
def slAt (s : S) (t : Nat) : Option (Nat × Bool × TypeId) := match look s.L t with
 | some (_, .ob k) => match look s.M k with
  | some (_, .sl nw _ T _) => some (k, nw, T)
  | _ => none
 | _ => none
theorem pW {s : S} {t : Nat} {p : Nat × Bool × TypeId} (h : slAt s t = some p) : ∃ e, look s.M p.1 = some e := by
 unfold slAt at h
 split at h
 ·split at h
  ·rename_i hk; cases h; exact ⟨_, hk⟩
  ·cases h
 ·cases h
def slM (M : MS) (b : Nat × Bool × TypeId) : Option ((t : Ty) × List t.D) := match look M b.1 with
 | some (_, .sl nw t T xs) => match beqB nw b.2.1 && Nat.beq T b.2.2 with
  | true => some ⟨t, xs⟩
  | false => none
 | _ => none
theorem Aq {M : MS} {b : Nat × Bool × TypeId} {r : (t : Ty) × List t.D} (h : slM M b = some r) : ∃ st, look M b.1 = some (st, .sl b.2.1 r.1 b.2.2 r.2) := by
 unfold slM at h
 split at h
 ·rename_i st nw t T xs hk
  split at h
  ·rename_i hb
   rw [MY] at hb
   cases h
   rw [← YX hb.1, ← MX hb.2]
   exact ⟨st, hk⟩
  ·cases h
 ·cases h
def slMV' (k st : Nat) (nw : Bool) (T : TypeId) : AV → MS
 | .rd (.sl t) xs => [(k, st, .sl nw t T xs)]
 | _ => []
theorem Gp {a b : Ty} {x : a.D} {y : b.D} (hn : b.nslo = true) (h : a.toN b x = some y) : a.to b x = some y := by
 unfold Ty.toN at h
 split at h
 ·rename_i z hz; cases h; exact hz
 ·split at h
  ·cases hn
  ·cases h
theorem I1 {G : FE} {M : MS} {ek : Knd} {t : Ty} {xs : List t.D} {p : ek.D × List (Option Nat)} (h : ek.get G M (.rd (.sl t) xs) = some p) (st n : Nat) : ek.put st p.1 n = (.rd (.sl t) xs, [], n) ∧ p.2 = [] := by
 cases ek with
 | v t' =>
  simp only [Knd.get] at h
  split at h
  ·rename_i x hn hx
   cases h
   have hx : (Ty.sl t).toN t' xs = some x := hx
   obtain ⟨e, h2⟩ := Ty.kL (Gp hn hx)
   subst e
   have h2 : xs = x := h2
   subst h2
   exact ⟨rfl, rfl⟩
  ·cases h
 | o nw t' T => simp only [Knd.get, slMV, YE] at h; simp at h
 | m nw a b => simp only [Knd.get, mpMV] at h; cases h
 | un => simp only [Knd.get] at h; cases h
 | pr a b => simp only [Knd.get] at h; cases h
 | ag l => simp only [Knd.get, asPr, Ty.agg] at h; simp at h
def putA (s : S) : (l : List KE) → LD l → Nat → LS × MS × Nat
 | [], _, n => ([], [], n)
 | e :: l, x, n =>
  let p := e.2.2.put s.n (LD.hd e l x) n
  let q := putA s l (LD.tl e l x) p.2.2
  match e.1 with
  | false => ((e.2.1, s.n, p.1) :: q.1, p.2.1 ++ q.2.1, q.2.2)
  | true => match boxAt s e.2.1 with
   | some b => (q.1, (b.1, s.n, .bx b.2.1 p.1 b.2.2) :: (p.2.1 ++ q.2.1), q.2.2)
   | none => match slAt s e.2.1 with
    | none => (q.1, p.2.1 ++ q.2.1, q.2.2)
    | some b => (q.1, slMV' b.1 s.n b.2.1 b.2.2 p.1 ++ (p.2.1 ++ q.2.1), q.2.2)
def bxM (M : MS) (b : Nat × Bool × TypeId) : Option AV := match look M b.1 with
 | some (_, .bx nw c T) => match beqB nw b.2.1 && Nat.beq T b.2.2 with
  | true => some c
  | false => none
 | _ => none
theorem CD {M : MS} {b : Nat × Bool × TypeId} {c : AV} (h : bxM M b = some c) : ∃ st, look M b.1 = some (st, .bx b.2.1 c b.2.2) := by
 unfold bxM at h
 split at h
 ·rename_i st nw c' T hk
  split at h
  ·rename_i hb
   cases h
   rw [MY] at hb
   rw [YX hb.1, MX hb.2] at hk
   exact ⟨st, hk⟩
  ·cases h
 ·cases h
def getA (G : FE) (s s1 : S) : (l : List KE) → Option (LD l × List (Option Nat) × List Nat)
 | [] => some ((), [], [])
 | e :: l => match getA G s s1 l with
  | none => none
  | some q => match e.1 with
   | false => match look s1.L e.2.1 with
    | none => none
    | some f => match fresh s1.ep f, e.2.2.get G s1.M f.2 with
     | true, some p => some (LD.mk e l p.1 q.1, p.2 ++ q.2.1, q.2.2)
     | _, _ => none
   | true => match boxAt s e.2.1 with
    | none => match slAt s e.2.1 with
     | none => none
     | some b => match slM s1.M b with
      | none => none
      | some r => match e.2.2.get G s1.M (.rd (.sl r.1) r.2) with
       | some p => some (LD.mk e l p.1 q.1, p.2 ++ q.2.1, b.1 :: q.2.2)
       | none => none
    | some b => match bxM s1.M b with
     | none => none
     | some c => match e.2.2.get G s1.M c with
      | some p => some (LD.mk e l p.1 q.1, p.2 ++ q.2.1, b.1 :: q.2.2)
      | none => none
theorem YA {α : Type} {l m : List (Nat × α)} {t : Nat} (h : look (l ++ m) t = none) : look l t = none ∧ look m t = none := by
 induction l with
 | nil => exact ⟨rfl, h⟩
 | cons x l ih =>
  obtain ⟨k, y⟩ := x
  rw [List.cons_append] at h
  simp only [look] at h ⊢
  cases hb : Nat.beq k t with
  | true => rw [hb] at h; cases h
  | false => rw [hb] at h; exact ih h
theorem jD {α : Type} {k : Nat} {x : α} {l : List (Nat × α)} {t : Nat} (h : look ((k, x) :: l) t = none) : k ≠ t ∧ look l t = none := by
 simp only [look] at h
 cases hb : Nat.beq k t with
 | true => rw [hb] at h; cases h
 | false => rw [hb] at h; rw [zV] at hb; exact ⟨by simpa using hb, h⟩
structure AOk (s s1 : S) (X' : Cx) (w : World) (a : Act) (n : Nat) (olds : List (Option Nat)) (obs : List Nat) (r : LS × MS × Nat) : Prop where
 nn : r.2.2 = n + olds.length
 l : ∀ t e, look r.1 t = some e → e.1 = s.n ∧ e.2.holds X' w (a.get t)
 m : ∀ j e, look r.2.1 j = some e → e.1 = s.n ∧ e.2.holds X' w j ∧ ((n ≤ j ∧ j < n + olds.length) ∨ j ∈ obs)
 o : ∀ (i : Nat) k, olds[i]? = some (some k) → OldOk s1.M k
 b : ∀ k, k ∈ obs → OldOk s1.M k ∧ k < s.n ∧ look r.2.1 k ≠ none
theorem Jv {s s1 : S} {a : Act} {w : World} {X X' : Cx} {E : VE} (hE : E.ok X.P) (hM : KnowM s1.M X w) (hL : KnowL s1.L X w a) (hep : X.ep = s1.ep) (hmn : ∀ k e, look s.M k = some e → k < s.n) (hU : ∀ k, k < s.n → X'.U k = X.U k ∧ X'.ι k = X.ι k) : ∀ {l : List KE} {x : LD l} {olds : List (Option Nat)} {obs : List Nat} {n : Nat}, getA E.G s s1 l = some (x, olds, obs) → s.n ≤ n → Ren X X' n olds → AOk s s1 X' w a n olds obs (putA s l x n)
 | [], x, olds, obs, n, h, hn, hR => by
  cases h
  exact ⟨rfl, fun t e he => (nomatch he), fun j e he => (nomatch he), fun i k hi => by simp at hi, fun k hk => by cases hk⟩
 | e :: l, x, olds, obs, n, h, hn, hR => by
  obtain ⟨eb, et, ek⟩ := e
  simp only [getA] at h
  cases hq : getA E.G s s1 l with
  | none => rw [hq] at h; cases h
  | some q =>
   obtain ⟨y, olds2, obs2⟩ := q
   rw [hq] at h
   simp only at h
   cases eb with
   | false =>
    simp only at h
    split at h
    ·cases h
    ·rename_i f hf
     split at h
     ·rename_i p hfr hp
      cases h
      obtain ⟨k1, k2, k3, k4, k5, k6⟩ := Knd.ok hE.G hM (st := s.n) hp hR.left
      have ih := Jv hE hM hL hep hmn hU hq (n := n + p.2.length) (by omega) hR.right
      simp only [putA]
      rw [LD.hd_mk, LD.tl_mk, k1]
      refine ⟨by rw [ih.nn, MZ]; omega, fun t e' he' => ?_, fun j e' he' => ?_, fun i k hi => ?_, fun k hk => ?_⟩
      ·rcases zF he' with ⟨h1, h2⟩ | ⟨_, h2⟩
       ·subst h1 h2
        exact ⟨rfl, k2 _ (hL _ f hf (by rw [hep]; exact hfr))⟩
       ·exact ih.l t e' h2
      ·rw [MZ]
       rcases kC he' with h1 | ⟨_, h1⟩
       ·obtain ⟨g1, g2, g3, g4⟩ := k5 j e' h1; exact ⟨g1, g4, .inl ⟨g2, by omega⟩⟩
       ·obtain ⟨g1, g2, g3⟩ := ih.m j e' h1
        exact ⟨g1, g2, g3.imp (fun h => ⟨by omega, by omega⟩) id⟩
      ·by_cases hlt : i < p.2.length
       ·rw [List.getElem?_append_left hlt] at hi; exact k6 i k hi
       ·rw [List.getElem?_append_right (by omega)] at hi; exact ih.o _ k hi
      ·obtain ⟨g1, g2, g3⟩ := ih.b k hk
       exact ⟨g1, g2, fun hnn => g3 (YA hnn).2⟩
     ·cases h
   | true =>
    simp only at h
    split at h
    ·rename_i hnb
     split at h
     ·cases h
     ·rename_i b hb
      split at h
      ·cases h
      ·rename_i r hr
       split at h
       ·rename_i p hp
        cases h
        obtain ⟨pe1, pe2⟩ := I1 hp s.n n
        have ih := Jv hE hM hL hep hmn hU hq (n := n) hn (by have := hR; rw [pe2] at this; exact this)
        simp only [putA, hnb, hb]
        rw [LD.hd_mk, LD.tl_mk, pe1, pe2]
        obtain ⟨st1, hb1⟩ := Aq hr
        obtain ⟨e0, hb0⟩ := pW hb
        have hlt := hmn _ _ hb0
        have hO : OwnL _ _ _ _ _ _ _ _ := hM _ _ hb1
        obtain ⟨u1, u2⟩ := hU _ hlt
        show AOk s s1 X' w a n ([] ++ olds2) (b.1 :: obs2) ((putA s l y n).1, (b.1, s.n, MV.sl b.2.1 r.1 b.2.2 r.2) :: ([] ++ (putA s l y n).2.1), (putA s l y n).2.2)
        refine ⟨ih.nn, ih.l, fun j e' he' => ?_, ih.o, fun k hk => ?_⟩
        ·rcases zF he' with ⟨h1, h2⟩ | ⟨_, h2⟩
         ·subst h1 h2
          refine ⟨rfl, ?_, .inr (by simp)⟩
          show OwnL _ _ _ _ _ _ _ _
          rw [u1, u2, hR.P, hR.O, Cx.B_eq hR.A hR.F]; exact hO
         ·obtain ⟨g1, g2, g3⟩ := ih.m j e' h2
          exact ⟨g1, g2, g3.imp id (fun h => by simp [h])⟩
        ·rcases List.mem_cons.1 hk with rfl | hk
         ·refine ⟨⟨_, hb1, rfl⟩, hlt, fun hnn => ?_⟩
          exact (jD hnn).1 rfl
         ·obtain ⟨g1, g2, g3⟩ := ih.b k hk
          exact ⟨g1, g2, fun hnn => g3 (jD hnn).2⟩
       ·cases h
    ·rename_i b hb
     split at h
     ·cases h
     ·rename_i c hc
      split at h
      ·rename_i p hp
       cases h
       obtain ⟨k1, k2, k3, k4, k5, k6⟩ := Knd.ok hE.G hM (st := s.n) hp hR.left
       have ih := Jv hE hM hL hep hmn hU hq (n := n + p.2.length) (by omega) hR.right
       simp only [putA, hb]
       rw [LD.hd_mk, LD.tl_mk, k1]
       obtain ⟨st0, c0, hb0⟩ := rU hb
       obtain ⟨st1, hb1⟩ := CD hc
       have hlt := hmn _ _ hb0
       obtain ⟨bb, cs, m1, m2, m3, m4⟩ := hM _ _ hb1
       obtain ⟨u1, u2⟩ := hU _ hlt
       refine ⟨by rw [ih.nn, MZ]; omega, ih.l, fun j e' he' => ?_, fun i k hi => ?_, fun k hk => ?_⟩
       ·rw [MZ]
        rcases zF he' with ⟨h1, h2⟩ | ⟨_, h2⟩
        ·subst h1 h2
         refine ⟨rfl, ⟨bb, cs, by rw [u1]; exact m1, ?_, (k3 _ m3).1, k4⟩, .inr (by simp)⟩
         rw [u2, hR.O, Cx.B_eq hR.A hR.F]; exact m2
        ·rcases kC h2 with h1 | ⟨_, h1⟩
         ·obtain ⟨g1, g2, g3, g4⟩ := k5 j e' h1; exact ⟨g1, g4, .inl ⟨g2, by omega⟩⟩
         ·obtain ⟨g1, g2, g3⟩ := ih.m j e' h1
          exact ⟨g1, g2, g3.imp (fun h => ⟨by omega, by omega⟩) (fun h => by simp [h])⟩
       ·by_cases hlt : i < p.2.length
        ·rw [List.getElem?_append_left hlt] at hi; exact k6 i k hi
        ·rw [List.getElem?_append_right (by omega)] at hi; exact ih.o _ k hi
       ·rcases List.mem_cons.1 hk with rfl | hk
        ·refine ⟨⟨_, hb1, rfl⟩, hlt, fun hnn => ?_⟩
         exact (jD hnn).1 rfl
        ·obtain ⟨g1, g2, g3⟩ := ih.b k hk
         exact ⟨g1, g2, fun hnn => g3 (YA (jD hnn).2).2⟩
      ·cases h
def keepL (L : LS) : List Nat → LS
 | [] => []
 | t :: l => match look L t with
  | some e => match e.2.frail with
   | false => (t, e) :: keepL L l
   | true => keepL L l
  | none => keepL L l
theorem jY {L : LS} : ∀ {l : List Nat} {t : Nat} {e : Nat × AV}, look (keepL L l) t = some e → look L t = some e ∧ e.2.frail = false ∧ memN t l = true
 | [], t, e, h => by cases h
 | u :: l, t, e, h => by
  have st : memN t l = true → memN t (u :: l) = true := fun h => by simp only [memN]; cases Nat.beq u t <;> simp [h]
  simp only [keepL] at h
  split at h
  ·rename_i f hf
   split at h
   ·rename_i hfr
    rcases zF h with ⟨h1, h2⟩ | ⟨_, h2⟩
    ·subst h1 h2; exact ⟨hf, hfr, by simp [memN, zV]⟩
    ·obtain ⟨g1, g2, g3⟩ := jY h2; exact ⟨g1, g2, st g3⟩
   ·obtain ⟨g1, g2, g3⟩ := jY h; exact ⟨g1, g2, st g3⟩
  ·obtain ⟨g1, g2, g3⟩ := jY h; exact ⟨g1, g2, st g3⟩
def keepM (M : MS) : List Nat → MS
 | [] => []
 | t :: l => match look M t with
  | some e => (t, e) :: keepM M l
  | none => keepM M l
theorem YU {M : MS} : ∀ {l : List Nat} {t : Nat} {e : Nat × MV}, look (keepM M l) t = some e → look M t = some e ∧ memN t l = true
 | [], t, e, h => by cases h
 | u :: l, t, e, h => by
  have st : memN t l = true → memN t (u :: l) = true := fun h => by simp only [memN]; cases Nat.beq u t <;> simp [h]
  simp only [keepM] at h
  split at h
  ·rename_i f hf
   rcases zF h with ⟨h1, h2⟩ | ⟨_, h2⟩
   ·subst h1 h2; exact ⟨hf, by simp [memN, zV]⟩
   ·obtain ⟨g1, g3⟩ := YU h2; exact ⟨g1, st g3⟩
  ·obtain ⟨g1, g3⟩ := YU h; exact ⟨g1, st g3⟩
def chkL (s s1 : S) : List Nat → Bool
 | [] => true
 | t :: l => (match look s.L t with
  | none => true
  | some e => match e.2.frail with
   | true => true
   | false => match look s1.L t with
    | some e1 => Nat.blt e1.1 s.n
    | none => false) && chkL s s1 l
theorem lY {s s1 : S} (hi : Inv s s1) : ∀ {l : List Nat}, chkL s s1 l = true → ∀ {t e}, memN t l = true → look s.L t = some e → e.2.frail = false → look s1.L t = some e
 | [], _, t, e, h, _, _ => by cases h
 | u :: l, hc, t, e, h, he, hf => by
  simp only [chkL, MY] at hc
  simp only [memN] at h
  cases hb : Nat.beq u t with
  | false => rw [hb] at h; exact lY hi hc.2 h he hf
  | true =>
   have := MX hb
   subst this
   have h1 := hc.1
   rw [he] at h1
   simp only [hf] at h1
   split at h1
   ·rename_i e1 he1
    rw [zX] at h1
    have h2 := hi.l u e1 he1 (by simpa using h1)
    rw [he] at h2; cases h2; exact he1
   ·cases h1
def chkM (s s1 : S) (obs : List Nat) : List Nat → Bool
 | [] => true
 | t :: l => (memN t obs || match look s.M t with
  | none => true
  | some e => match look s1.M t with
   | some e1 => Nat.blt e1.1 s.n
   | none => false) && chkM s s1 obs l
theorem Z7 {t : Nat} : ∀ {l : List Nat}, memN t l = true ↔ t ∈ l
 | [] => by simp [memN]
 | u :: l => by
  simp only [memN, List.mem_cons]
  cases hb : Nat.beq u t with
  | true => have := MX hb; simp [this]
  | false =>
   rw [zV] at hb
   have : ¬ u = t := by simpa using hb
   simp only [cond_false, Z7]
   exact ⟨.inr, fun h => h.resolve_left fun e => this e.symm⟩
theorem lX {s s1 : S} (hi : Inv s s1) {obs : List Nat} : ∀ {l : List Nat}, chkM s s1 obs l = true → ∀ {t e}, memN t l = true → t ∉ obs → look s.M t = some e → look s1.M t = some e
 | [], _, t, e, h, _, _ => by cases h
 | u :: l, hc, t, e, h, ho, he => by
  simp only [chkM, MY, Bool.or_eq_true] at hc
  simp only [memN] at h
  cases hb : Nat.beq u t with
  | false => rw [hb] at h; exact lX hi hc.2 h ho he
  | true =>
   have := MX hb
   subst this
   rcases hc.1 with h1 | h1
   ·exact absurd (Z7.1 h1) ho
   ·rw [he] at h1
    simp only at h1
    split at h1
    ·rename_i e1 he1
     rw [zX] at h1
     have h2 := hi.m u e1 he1 (by simpa using h1)
     rw [he] at h2; cases h2; exact he1
    ·cases h1
def chkT (no : List Nat) : List (Option Nat) → Bool
 | [] => true
 | none :: l => chkT no l
 | some k :: l => !memN k no && chkT (k :: no) l
theorem uR : ∀ {l : List (Option Nat)} {no : List Nat}, chkT no l = true → (∀ (i : Nat) k, l[i]? = some (some k) → k ∉ no) ∧ ∀ (i j : Nat) k, l[i]? = some (some k) → l[j]? = some (some k) → i = j
 | [], no, _ => ⟨fun i k h => by simp at h, fun i j k h => by simp at h⟩
 | none :: l, no, h => by
  obtain ⟨h1, h2⟩ := uR (l := l) h
  refine ⟨fun i k hi => ?_, fun i j k hi hj => ?_⟩
  ·cases i with
   | zero => simp at hi
   | succ i => exact h1 i k (by simpa using hi)
  ·cases i with
   | zero => simp at hi
   | succ i =>
    cases j with
    | zero => simp at hj
    | succ j => rw [h2 i j k (by simpa using hi) (by simpa using hj)]
 | some k0 :: l, no, h => by
  simp only [chkT, MY] at h
  obtain ⟨h1, h2⟩ := uR (l := l) h.2
  have h0 : k0 ∉ no := fun hm => by rw [Z7.2 hm] at h; simp at h
  refine ⟨fun i k hi => ?_, fun i j k hi hj => ?_⟩
  ·cases i with
   | zero => simp at hi; subst hi; exact h0
   | succ i => exact fun hm => h1 i k (by simpa using hi) (by simp [hm])
  ·cases i with
   | zero =>
    simp at hi; subst hi
    cases j with
    | zero => rfl
    | succ j => exact absurd (by simp) (h1 j k0 (by simpa using hj))
   | succ i =>
    cases j with
    | zero => simp at hj; subst hj; exact absurd (by simp) (h1 i k0 (by simpa using hi))
    | succ j => rw [h2 i j k (by simpa using hi) (by simpa using hj)]
def refsL : LS → List Nat
 | [] => []
 | e :: L => e.2.2.refs ++ refsL L
def refsM (M : MS) : List Nat → List Nat
 | [] => []
 | k :: l => match look M k with
  | some (_, .bx _ c _) => c.refs ++ refsM M l
  | _ => refsM M l
structure Sh where
 l : List KE
 keep : List Nat
 fz : List Nat
def slotK (s : S) : List Nat → List Nat
 | [] => []
 | t :: l => match look s.L t with
  | some (_, φ) => φ.refs ++ (refsM s.M φ.refs ++ slotK s l)
  | none => slotK s l
def bxIds (s : S) : List KE → List Nat
 | [] => []
 | e :: l => match e.1 with
  | false => bxIds s l
  | true => match boxAt s e.2.1 with
   | some b => b.1 :: bxIds s l
   | none => bxIds s l
def tV (no : List Nat) : List Nat → List Nat
 | [] => []
 | k :: l => match memN k no with
  | true => tV no l
  | false => k :: tV no l
def Sh.tags (sh : Sh) (s : S) : List Nat :=
 let no := bxIds s sh.l
 let a := refsL (keepL s.L sh.keep)
 let b := refsM s.M (tV no a)
 a ++ (b ++ refsM s.M (tV no b))
abbrev Sh.D (sh : Sh) : Type := LD sh.l
def Sh.put (sh : Sh) (s : S) (x : sh.D) : S :=
 let p := putA s sh.l x s.n
 { L := p.1 ++ keepL s.L sh.keep, M := p.2.1 ++ keepM s.M (sh.tags s), n := p.2.2 + 1, ep := s.n }
def Sh.get0 (sh : Sh) (G : FE) (s s1 : S) : Option sh.D := match getA G s s1 sh.l with
 | none => none
 | some q => match chkL s s1 sh.keep && (chkM s s1 q.2.2 (sh.tags s) && chkT (q.2.2 ++ sh.tags s) q.2.1) with
  | true => some q.1
  | false => none
def Knd.vals : Knd → AV → List Nat
 | .v _, φ => φ.refs
 | .o .., _ => []
 | .m .., _ => []
 | .un, _ => []
 | .pr a b, φ => match φ with
  | .pr x y => a.vals x ++ b.vals y
  | _ => []
 | .ag l, φ => match asPr φ with
  | some ψ => l.vals ψ
  | none => []
def valsA (s1 : S) : List KE → List Nat
 | [] => []
 | e :: l => match look s1.L e.2.1 with
  | none => valsA s1 l
  | some f => match e.1 with
   | false => e.2.2.vals f.2 ++ valsA s1 l
   | true => match f.2 with
    | .bx k _ => match look s1.M k with
     | some (_, .bx _ c _) => e.2.2.vals c ++ valsA s1 l
     | _ => valsA s1 l
    | _ => valsA s1 l
def Sh.get (sh : Sh) (G : FE) (s s1 : S) : Option sh.D := sh.get0 G s (s1.frzL (valsA s1 sh.l ++ slotK s1 sh.fz))
theorem Gs (ι : Nat → Nat) (M : MS) : ∃ B, 0 < B ∧ ∀ k e, look M k = some e → ι k < B :=
 ⟨1 + (M.map fun e => ι e.1).sum, by omega, fun k e h => by
  have := tf (l := M.map fun e => ι e.1) (x := ι k) (List.mem_map.2 ⟨_, J4 h, rfl⟩)
  omega⟩
structure Frm.kin (F F0 : Frm) : Prop where
 fe : F0.fe = F.fe
 bl : F0.bl = F.bl
 kv : F0.x.kv = F.x.kv
theorem Frm.Yk (F : Frm) : F.kin F := ⟨rfl, rfl, rfl⟩
theorem Frm.Same.kin {F F' : Frm} (h : F.Same F') : F'.kin F := ⟨h.fe.symm, h.bl.symm, h.kv.symm⟩
theorem Bl {F : Frm} (hLh : ∀ t φ, ¬ F.Lh t φ) {E : VE} (hE : E.ok F.P) {s s1 : S} {a0 a1 : Act} {w0 w1 : World} {F0 : Frm} (hff : F.kin F0) (h0 : Rel F0 s a0 w0) (h1 : Rel F s1 a1 w1) (hi : Inv s s1) {sh : Sh} {x : sh.D} (hg : sh.get0 E.G s s1 = some x) : Rel F (sh.put s x) a1 w1 ∧ Inv s (sh.put s x) := by
 obtain ⟨X0, h0⟩ := h0
 obtain ⟨X, h1⟩ := h1
 unfold Sh.get0 at hg
 cases hq : getA E.G s s1 sh.l with
 | none => rw [hq] at hg; cases hg
 | some q =>
  obtain ⟨y, olds, obs⟩ := q
  rw [hq] at hg
  simp only at hg
  split at hg
  ·rename_i hc
   cases hg
   simp only [MY] at hc
   obtain ⟨c1, c2, c3⟩ := hc
   obtain ⟨t1, t2⟩ := uR c3
   obtain ⟨B, hB0, hBs, hB⟩ : ∃ B, 0 < B ∧ F.x.st < B ∧ ∀ k e, look s1.M k = some e → X.ι k < B := by
    obtain ⟨B, hB0, hB⟩ := Gs X.ι s1.M
    exact ⟨B + F.x.st, by omega, by omega, fun k e he => by have := hB k e he; omega⟩
   have hfe0 := hff.fe ▸ h0.fe
   have hbl0 := hff.bl ▸ h0.bl
   let pick : Nat → Option Nat := fun k => (olds[k - s.n]?).bind id
   let X' : Cx := { X with
    U := fun k => if k < s.n then X.U k else match pick k with | some j => X.U j | none => .slice none 0 0
    ι := fun k => if k < s.n then X.ι k else match pick k with | some j => X.ι j | none => B + k
    n := s.n + olds.length + 1
    ep := s.n }
   have hU : ∀ k, k < s.n → X'.U k = X.U k ∧ X'.ι k = X.ι k := fun k hk => ⟨if_pos hk, if_pos hk⟩
   have hpk : ∀ i o, olds[i]? = some o → pick (s.n + i) = o := fun i o hi' => by
    show (olds[s.n + i - s.n]?).bind id = o
    rw [Nat.add_sub_cancel_left, hi']; rfl
   have hU2 : ∀ i o, olds[i]? = some o → X'.U (s.n + i) = (match o with | some j => X.U j | none => .slice none 0 0) ∧ X'.ι (s.n + i) = (match o with | some j => X.ι j | none => B + (s.n + i)) := fun i o hi' => by
    have h := hpk i o hi'
    refine ⟨?_, ?_⟩
    ·show (if s.n + i < s.n then _ else match pick (s.n + i) with | some j => X.U j | none => _) = _
     rw [if_neg (by omega), h]
    ·show (if s.n + i < s.n then _ else match pick (s.n + i) with | some j => X.ι j | none => _) = _
     rw [if_neg (by omega), h]
   have hR : Ren X X' s.n olds := ⟨rfl, rfl, rfl, rfl, rfl, fun i k hi' => hU2 i _ hi', fun i hi' => (hU2 i _ hi').1, Nat.le_succ _⟩
   have hmn : ∀ k e, look s.M k = some e → k < s.n := fun k e he => (h0.mn k e he).2
   have hA := Jv (by rw [h1.P]; exact hE) h1.m h1.l h1.ep hmn hU hq (Mb _) hR
   have hn : (sh.put s x).n = s.n + olds.length + 1 := by show (putA s sh.l x s.n).2.2 + 1 = _; rw [hA.nn]
   have hal : X.al X' s.n := ⟨rfl, rfl, fun k hk => (hU k hk).1, by show s.n ≤ s.n + olds.length + 1; omega, rfl⟩
   -- the objects
   have cls : ∀ k e, look (sh.put s x).M k = some e → e.1 = s.n ∧ e.2.holds X' w1 k ∧ (s.n ≤ k ∧ k < s.n + olds.length) ∨ (e.1 = s.n ∧ e.2.holds X' w1 k ∧ k ∈ obs ∧ k < s.n) ∨ (k ∉ obs ∧ k < s.n ∧ memN k (sh.tags s) = true ∧ look s.M k = some e ∧ look s1.M k = some e) := by
    intro k e he
    rcases kC he with h2 | ⟨h2, h3⟩
    ·obtain ⟨g1, g2, g3⟩ := hA.m k e h2
     rcases g3 with g3 | g3
     ·exact .inl ⟨g1, g2, g3⟩
     ·exact .inr (.inl ⟨g1, g2, g3, (hA.b k g3).2.1⟩)
    ·obtain ⟨g1, g2⟩ := YU h3
     have hno : k ∉ obs := fun hm => (hA.b k hm).2.2 h2
     exact .inr (.inr ⟨hno, hmn k e g1, g2, g1, lX hi c2 g2 hno g1⟩)
   -- the tags of the call's own objects
   have tg : ∀ k e, look (sh.put s x).M k = some e → e.2.own = true → (∃ k0, OldOk s1.M k0 ∧ X'.ι k = X.ι k0 ∧ ((k0 = k ∧ k < s.n ∧ (k ∈ obs ∨ memN k (sh.tags s) = true)) ∨ (∃ i, k = s.n + i ∧ olds[i]? = some (some k0)))) ∨ X'.ι k = B + k := by
    intro k e he ho
    rcases cls k e he with ⟨_, _, g1, g2⟩ | ⟨_, _, g1, g2⟩ | ⟨g1, g2, g3, g4, g5⟩
    ·have hlt : k - s.n < olds.length := by omega
     have hget : olds[k - s.n]? = some olds[k - s.n] := List.getElem?_eq_getElem hlt
     have h2 := (hU2 (k - s.n) _ hget).2
     have e1 : s.n + (k - s.n) = k := by omega
     rw [e1] at h2
     cases ho2 : olds[k - s.n] with
     | none => rw [ho2] at h2; exact .inr h2
     | some k0 =>
      rw [ho2] at h2 hget
      exact .inl ⟨k0, hA.o _ k0 hget, h2, .inr ⟨k - s.n, e1.symm, hget⟩⟩
    ·exact .inl ⟨k, (hA.b k g1).1, (hU k g2).2, .inl ⟨rfl, g2, .inl g1⟩⟩
    ·exact .inl ⟨k, ⟨e, g5, ho⟩, (hU k g2).2, .inl ⟨rfl, g2, .inr g3⟩⟩
   refine ⟨⟨X', ?_⟩, ?_⟩
   ·refine ⟨h1.P, h1.A, h1.Fn, hn.symm, rfl, h1.ok0, h1.fit, h1.base, fun t e he hf => ?_, fun k e he => ?_, fun t e he => ?_, fun k e he => ?_, fun k k' e e' he he' ho ho' heq => ?_, fun k e he ho => ?_, by rw [hn]; show s.n ≤ _; omega, by rw [hn]; have := hfe0; omega, fun t φ hp => absurd hp (hLh t φ), ⟨by rw [hn]; have := hbl0.1; omega, fun j b hj => (hU j (Nat.lt_of_lt_of_le (List.getElem?_eq_some_iff.1 hj).1 hbl0.1)).1.trans (h1.bl.2 j b hj)⟩, ⟨h1.ex.st, h1.ex.sys, fun v φ hv => ⟨(h1.ex.kv v φ hv).1, (AV.al hal φ (by have := (AV.bd_of φ).1 _ (h0.ex.kv v φ (by rw [hff.kv]; exact hv)).2; rwa [h0.n] at this)).1 _ (h1.ex.kv v φ hv).2⟩, h1.ex.since, h1.ex.L⟩⟩
    ·rcases kC he with h2 | ⟨_, h2⟩
     ·exact (hA.l t e h2).2
     ·obtain ⟨g1, g2, g3⟩ := jY h2
      have g4 := lY hi c1 g3 g1 g2
      have hfr : ∀ ep, fresh ep e = true := fun ep => by simp [fresh, g2]
      have hb : e.2.bd s.n := by
       have := (AV.bd_of e.2).1 _ (h0.l t e g1 (hfr _))
       rwa [h0.n] at this
      exact (AV.al hal e.2 hb).1 _ (h1.l t e g4 (hfr _))
    ·rcases cls k e he with ⟨_, g2, _⟩ | ⟨_, g2, _⟩ | ⟨g1, g2, g3, g4, g5⟩
     ·exact g2
     ·exact g2
     ·have hh := h1.m k e g5
      have hh0 := h0.m k e g4
      obtain ⟨st, mv⟩ := e
      cases mv with
      | sl nw t T xs =>
       show OwnL _ _ _ _ _ _ _ _
       rw [(hU k g2).1, (hU k g2).2]
       exact hh
      | bx nw c T =>
       obtain ⟨b, cs, m1, m2, m3, m4⟩ := hh
       obtain ⟨_, cs0, _, _, m5, _⟩ := hh0
       have hb := (AV.bd_of c).2.2 _ m5
       rw [h0.n] at hb
       refine ⟨b, cs, by rw [(hU k g2).1]; exact m1, ?_, (AV.al hal c hb).2.2 _ m3, m4⟩
       rw [(hU k g2).2]; exact m2
      | fs t xs => show (rSl _).v _ _ _ _; rw [(hU k g2).1]; exact hh
      | fb t x => show (rBox _).v _ _ _ _; rw [(hU k g2).1]; exact hh
      | fg f => intro t x hx; show (rBox _).v _ _ _ _; rw [(hU k g2).1]; exact hh t x hx
      | mp nw a b xs =>
       show OwnMp _ _ _ _ _ _ _ _
       rw [(hU k g2).1, (hU k g2).2]
       exact hh
      | fm a b xs => show ((Ty.mp a b).gr X.P).v _ _ _ _; rw [(hU k g2).1]; exact hh
      | dead => trivial
    ·rw [hn]
     rcases kC he with h2 | ⟨_, h2⟩
     ·rw [(hA.l t e h2).1]; omega
     ·have := h0.ln t e (jY h2).1; omega
    ·rw [hn]
     rcases cls k e he with ⟨g1, _, g2⟩ | ⟨g1, _, _, g2⟩ | ⟨_, g2, _, g4, _⟩
     ·omega
     ·omega
     ·have := (h0.mn k e g4).1; omega
    ·rcases tg k e he ho with ⟨k0, a1, a2, a3⟩ | a2 <;> rcases tg k' e' he' ho' with ⟨k1, b1, b2, b3⟩ | b2
     ·have hkk : k0 = k1 := by
       obtain ⟨e1, f1, f2⟩ := a1
       obtain ⟨e2, f3, f4⟩ := b1
       exact h1.inj k0 k1 e1 e2 f1 f3 f2 f4 (by rw [← a2, ← b2, heq])
      subst hkk
      rcases a3 with ⟨a3, a4, a5⟩ | ⟨i, a3, a4⟩ <;> rcases b3 with ⟨b3, b4, b5⟩ | ⟨j, b3, b4⟩
      ·omega
      ·refine absurd ?_ (t1 j k0 b4)
       rw [a3, List.mem_append]
       exact a5.imp id Z7.1
      ·refine absurd ?_ (t1 i k0 a4)
       rw [b3, List.mem_append]
       exact b5.imp id Z7.1
      ·have := t2 i j k0 a4 b4; omega
     ·obtain ⟨e1, f1, _⟩ := a1
      have := hB k0 e1 f1
      rw [a2, b2] at heq; omega
     ·obtain ⟨e1, f1, _⟩ := b1
      have := hB k1 e1 f1
      rw [a2, b2] at heq; omega
     ·rw [a2, b2] at heq; omega
    ·rcases tg k e he ho with ⟨k0, ⟨e1, f1, f2⟩, a2, _⟩ | a2
     ·rw [a2]; exact h1.pos k0 e1 f1 f2
     ·rw [a2]; exact ⟨by omega, by omega⟩
   ·refine ⟨by rw [hn]; omega, fun t e he hl => ?_, fun k e he hl => ?_⟩
    ·rcases kC he with h2 | ⟨_, h2⟩
     ·rw [(hA.l t e h2).1] at hl; omega
     ·exact (jY h2).1
    ·rcases cls k e he with ⟨g1, _⟩ | ⟨g1, _⟩ | ⟨_, _, _, g4, _⟩
     ·omega
     ·omega
     ·exact g4
  ·cases hg
theorem k8 {F : Frm} (hLh : ∀ t φ, ¬ F.Lh t φ) {E : VE} (hE : E.ok F.P) {s s1 : S} {a0 a1 : Act} {w0 w1 : World} {F0 : Frm} (hff : F.kin F0) (h0 : Rel F0 s a0 w0) (h1 : Rel F s1 a1 w1) (hi : Inv s s1) {sh : Sh} {x : sh.D} (hg : sh.get E.G s s1 = some x) : Rel F (sh.put s x) a1 w1 ∧ Inv s (sh.put s x) :=
 Bl hLh hE hff h0 (Rel.frzL _ h1) (hi.trans (Inv.frzL _ _)) hg
end Go.Den
end
section
namespace Go.Den
open Go Go.RowKit Go.Eng Go.Lift
variable {α β γ δ : Type}
section
variable {F : Frm} {s : S} {a : Act} {w w' : World} {X : Cx} {E : VE}
theorem RelX.ghost (h : RelX F s a w X) (hLh : ∀ t φ, ¬ F.Lh t φ) (hL : s.L = []) (hE : Ext w w') (hsb : F.x.sb ≤ F.w0.heap.size) {d : Option Tmp} {v : Value} {b : Nat} {o0 : Obj} (hb : w.heap.size ≤ b) (ho : w'.heap[b]? = some o0) :
  RelX (F.sys fun c o => F.x.sys c o ∨ (c = b ∧ o = o0)) s (a.put d v) w' { X with O := tag X.O (some b) F.x.st } := by
 have hlt := (Array.getElem?_eq_some_iff.1 ho).1
 have hk : KX none X.O w (tag X.O (some b) F.x.st) w' := KX.tag hE fun g hg => by cases hg; exact hb
 have hB : Base F.A F.O0 F.w0 (tag X.O (some b) F.x.st) w' := (h.base.step hE h.ok0).tag h.ex.st (fun g hg => by cases hg; exact ⟨h.base.new _ (Nat.le_trans h.base.size hb), hlt⟩)
 have h1 : RelX F s (a.put d v) w' { X with O := tag X.O (some b) F.x.st } := h.go (ju h.fit d v) rfl rfl rfl (fun _ _ => hk.keep (by simp)) (fun _ _ => rfl) h.n h.ep (Mb _) h.epn hB (fun hf => ⟨hf, hE⟩) (fun t φ hp => absurd hp (hLh t φ)) (fun t e he => by rw [hL] at he; cases he) (fun k e he => .inr ⟨he, rfl, fun _ => hk.keep (by simp)⟩) h.inj h.pos
 refine ⟨h1.P, h1.A, h1.Fn, h1.n, h1.ep, h1.ok0, h1.fit, h1.base, h1.l, h1.m, h1.ln, h1.mn, h1.inj, h1.pos, h1.epn, h1.fe, h1.lh, h1.bl, h1.ex.st, fun c o hc => ?_, h1.ex.kv, h1.ex.since, h1.ex.L⟩
 rcases hc with hc | ⟨rfl, rfl⟩
 ·exact h1.ex.sys c o hc
 ·exact ⟨⟨ho, yb _ _ _⟩, Nat.le_trans hsb (Nat.le_trans h.base.size hb)⟩
theorem RelX.take {q : Nat → Obj → Prop} {b : Nat} {cs : Array Value} {Y : TypeId} {o0 : Obj} {d : Nat} {c : AV} (h : RelX (F.sys q) s a w X) (hq : ∀ c o, F.x.sys c o → c ≠ b ∧ q c o) (hb : q b o0) (hw : F.w0.heap.size ≤ b) (hO : ∀ w : World, w.heap[b]? = some o0 → Own w b cs Y)
  (hd : a.get d = .pointer (some ⟨b, 0, none⟩)) (hc : (c.sem X w).c cs.toList) (hf : c.frail = false) (hdl : ∀ φ, ¬ F.Lh d φ) : Rel F (s.obj (some d) (.bx true c Y) (.bx s.n 0)) a w := by
 obtain ⟨τ, hτ0, hτ⟩ := ZA X.ι s.M F.x.st
 obtain ⟨⟨e1, e2⟩, e3⟩ := h.ex.sys b o0 hb
 have hlt := (Array.getElem?_eq_some_iff.1 e1).1
 have hKeep : ∀ k, k ≠ F.x.st → Keep k X.O w (tag X.O (some b) τ) w := fun k hk => ⟨Mb _, fun c hc hO => ⟨by rw [gI (fun e => hk (by cases e; rw [← hO]; exact e2))]; exact hO, rfl⟩⟩
 have hB : Base F.A F.O0 F.w0 (tag X.O (some b) τ) w := Base.tag h.base hτ0.1 (fun g hg => by cases hg; exact ⟨Base.new h.base _ hw, hlt⟩)
 let X' : Cx := { X with O := tag X.O (some b) τ, U := upd1 X.U s.n (.pointer (some ⟨b, 0, none⟩)), ι := upd1 X.ι s.n τ, n := s.n + 1 }
 have hU : ∀ k, k < s.n → X'.U k = X.U k := fun k hk => ZO _ _ (by omega)
 have hι : ∀ k, k ≠ s.n → X'.ι k = X.ι k := fun k hk => ZO _ _ hk
 have hιn : X'.ι s.n = τ := vm _ _ _
 have hUn : X'.U s.n = .pointer (some ⟨b, 0, none⟩) := vm _ _ _
 have hle : X.le w X' w := ⟨rfl, hKeep 0 h.ex.st.symm, fun k hk => hU k (by rw [← h.n]; exact hk), by rw [h.n]; exact Nat.le_succ _, rfl⟩
 have mono : ∀ {φ : AV} {v : Value}, φ.holds X w v → φ.holds X' w v := fun {φ v} hv => (φ.mono hle fun _ => Ext.refl _).1 v hv
 have hmn : ∀ k e, look s.M k = some e → k < s.n := fun k e he => (h.mn k e he).2
 refine ⟨X', h.P, h.A, h.Fn, rfl, h.ep, h.ok0, h.fit, hB, fun t e he hf' => ?_, fun k e he => ?_, fun t e he => ?_, fun k e he => ?_, fun k k' e e' he he' ho ho' heq => ?_, fun k e he ho => ?_, Nat.le_succ_of_le h.epn, Nat.lt_succ_of_lt h.fe, fun t φ hp hf' => mono (h.lh t φ hp hf'), ⟨Nat.le_succ_of_le h.bl.1, fun j b' hj => (hU j (Nat.lt_of_lt_of_le (List.getElem?_eq_some_iff.1 hj).1 h.bl.1)).trans (h.bl.2 j b' hj)⟩, ?_⟩
 ·rcases zF he with ⟨h1, h2⟩ | ⟨h1, h2⟩
  ·subst h1 h2
   exact ⟨Nat.lt_succ_self _, b, hUn, hd⟩
  ·exact mono (h.l t e h2 hf')
 ·rcases zF he with ⟨h1, h2⟩ | ⟨h1, h2⟩
  ·subst h1 h2
   refine ⟨b, cs, hUn, ⟨hO w e1, ?_, ?_⟩, (c.mono hle fun h => by rw [hf] at h; cases h).2.2 _ hc, hf⟩
   ·show X'.F b
    rw [show X'.F = X.F from rfl, h.Fn]; exact hw
   ·rw [hιn]; exact yb _ _ _
  ·exact MV.le hle (h.mnX k e h2) (hι k (Nat.ne_of_lt (hmn k e h2))) rfl rfl _ (fun ho => hKeep _ (h.pos k e h2 ho).2) (h.m k e h2)
 ·rcases zF he with ⟨h1, h2⟩ | ⟨h1, h2⟩
  ·subst h1 h2; exact Nat.lt_succ_self _
  ·exact Nat.lt_succ_of_lt (h.ln t e h2)
 ·rcases zF he with ⟨h1, h2⟩ | ⟨h1, h2⟩
  ·subst h1 h2; exact ⟨Nat.lt_succ_self _, Nat.lt_succ_self _⟩
  ·exact ⟨Nat.lt_succ_of_lt (h.mn k e h2).1, Nat.lt_succ_of_lt (h.mn k e h2).2⟩
 ·rcases zF he with ⟨h1, h2⟩ | ⟨h1, h2⟩ <;> rcases zF he' with ⟨h3, h4⟩ | ⟨h3, h4⟩
  ·omega
  ·subst h1
   rw [hιn, hι k' (Ne.symm h3)] at heq
   exact absurd heq.symm (hτ k' e' h4)
  ·subst h3
   rw [hιn, hι k (Ne.symm h1)] at heq
   exact absurd heq (hτ k e h2)
  ·rw [hι k (Ne.symm h1), hι k' (Ne.symm h3)] at heq
   exact h.inj k k' e e' h2 h4 ho ho' heq
 ·rcases zF he with ⟨h1, h2⟩ | ⟨h1, h2⟩
  ·subst h1; rw [hιn]; exact hτ0
  ·rw [hι k (Ne.symm h1)]; exact h.pos k e h2 ho
 ·refine ⟨h.ex.st, fun c o hc => ?_, fun v φ hv => ⟨(h.ex.kv v φ hv).1, mono (h.ex.kv v φ hv).2⟩, h.ex.since.trans hle.k, h.ex.L⟩
  obtain ⟨g1, g2⟩ := hq c o hc
  obtain ⟨⟨g3, g4⟩, g5⟩ := h.ex.sys c o g2
  exact ⟨⟨g3, by rw [show X'.O = tag X.O (some b) τ from rfl, gI (fun e => g1 (by cases e; rfl))]; exact g4⟩, g5⟩
end
end Go.Den
end
section
namespace Go.Den
open Go Go.RowKit Go.Eng Go.Lift
variable {α β γ δ : Type}
structure It where
 i : Nat
 d : Nat
 n : Nat
 φ : AV
 L : LS
 M : MS
 ep : Nat
def bit (b : Array Nat) (i k : Nat) : Bool := (b.getD i 0).testBit k
def wOf : List Oper → Nat → Nat → Option Nat
 | [], _, _ => none
 | o :: os, i, t => match memO o.dst [t] with
  | true => some i
  | false => wOf os (i + 1) t
def ndD : List Oper → Bool
 | [] => true
 | o :: os => (match o.dst with
  | some d => (wOf os 0 d).isNone
  | none => true) && ndD os
def itAt : List It → Nat → Option It
 | [], _ => none
 | e :: l, i => bif Nat.beq e.i i then some e else itAt l i
def rdX (b : Array Nat) (os : List Oper) (C : List It) (L0 : LS) (i t : Nat) : Option (Nat × AV) := match wOf os 0 t with
 | none => look L0 t
 | some j => match bit b i j with
  | true => match itAt C j with
   | some e => some (e.n, e.φ)
   | none => none
  | false => match bit b j i with
   | true => look L0 t
   | false => none
def tmps : List Operand → List Nat
 | [] => []
 | .tmp t :: l => t :: tmps l
 | _ :: l => tmps l
def lof (b : Array Nat) (os : List Oper) (C : List It) (L0 : LS) (i : Nat) : List Nat → LS
 | [] => []
 | t :: l => match rdX b os C L0 i t with
  | some e => (t, e) :: lof b os C L0 i l
  | none => lof b os C L0 i l
def frX (b : Array Nat) (i : Nat) : List Nat → Bool
 | [] => true
 | e :: l => (bit b i e || bit b e i) && frX b i l
def fltM (kill : List Nat) : MS → MS
 | [] => []
 | p :: M => match memN p.1 kill with
  | true => fltM kill M
  | false => p :: fltM kill M
def anyF : LS → Bool
 | [] => false
 | e :: l => e.2.2.frail || anyF l
def mvX (b : Array Nat) (i : Nat) (ch : List Nat) (kill : Nat → List Nat) (s : S) (L : LS) : MS × Nat := match frX b i ch with
 | true => (s.M, s.ep)
 | false => (fltM (kill i) s.M, match anyF L with
  | true => s.ep
  | false => s.n + 1000000000)
def subM (M M' : MS) : MS → Bool
 | [] => true
 | p :: l => (match look M p.1, look M' p.1 with
  | some e, some e' => Nat.beq e.1 e'.1
  | _, _ => false) && subM M M' l
def stays (b : Array Nat) (i : Nat) (s' : S) : List It → Bool
 | [] => true
 | it :: C => (bit b i it.i || (subM it.M s'.M it.M && Nat.ble s'.ep it.ep)) && stays b i s' C
def K2 (b : Array Nat) (i : Nat) : List Nat → Bool
 | [] => true
 | j :: l => bit b j i && K2 b i l
def dropN (al : Nat) : List Nat → List Nat
 | [] => []
 | i :: l => match Nat.beq i al with
  | true => dropN al l
  | false => i :: dropN al l
def alX (b : Array Nat) (os : List Oper) (ch : List Nat) : List Nat → Nat
 | [] => os.length
 | i :: l => match os[i]? with
  | some o => match o.op with
   | .alloc _ => match frX b i (dropN i ch) with
    | true => alX b os ch l
    | false => i
   | _ => alX b os ch l
  | none => alX b os ch l
def alOk (E : VE) (os : List Oper) (ch : List Nat) (al : Nat) : Bool := match os[al]? with
 | none => true
 | some o => memN al ch && (match o.op, o.dst with
  | .alloc Y, some _ => (look E.T Y).isSome
  | _, _ => false)
def outL : List It → LS
 | [] => []
 | it :: C => (it.d, it.n, it.φ) :: outL C
def canX {β : Type} (E : VE) (wr : List Nat) (b : Array Nat) (os : List Oper) (ch : List Nat) (al : Nat) (kill : Nat → List Nat) (L0 : LS) (k : S → Comp β) : List Nat → List It → S → Comp β
 | [], C, s => k { s with L := outL C ++ L0, n := s.n + 1 }
 | i :: rest, C, s => match memN i rest, os[i]? with
  | false, some o => match memN i ch with
   | true => match K2 b i (dropN al rest) with
    | true => step E wr { L := lof b os C L0 i (tmps o.op.operands.toList), M := s.M, n := s.n + 1, ep := s.ep } o fun s' => match Nat.ble s.ep s'.ep && stays b i s' C with
     | true => match o.dst with
      | none => canX E wr b os ch al kill L0 k rest C { L := [], M := s'.M, n := s'.n, ep := s'.ep }
      | some d => match look s'.L d with
       | some e => match Nat.ble s.n e.1 with
        | true => canX E wr b os ch al kill L0 k rest (⟨i, d, e.1, e.2, [], [], s.n + 1000000000⟩ :: C) { L := [], M := s'.M, n := s'.n, ep := s'.ep }
        | false => Comp.fail
       | none => Comp.fail
     | false => Comp.fail
    | false => Comp.fail
   | false => match o.dst with
    | none => Comp.fail
    | some d => match val E (mvX b i ch kill s (lof b os C L0 i (tmps o.op.operands.toList))).1 (mvX b i ch kill s (lof b os C L0 i (tmps o.op.operands.toList))).2 (lof b os C L0 i (tmps o.op.operands.toList)) [] [] wr (some d) o.op with
     | .no => Comp.fail
     | .tot φ => canX E wr b os ch al kill L0 k rest (⟨i, d, s.n, φ, lof b os C L0 i (tmps o.op.operands.toList), (mvX b i ch kill s (lof b os C L0 i (tmps o.op.operands.toList))).1, (mvX b i ch kill s (lof b os C L0 i (tmps o.op.operands.toList))).2⟩ :: C) s
     | .par t c mk => c.bind fun x => canX E wr b os ch al kill L0 k rest (⟨i, d, s.n, mk x, lof b os C L0 i (tmps o.op.operands.toList), (mvX b i ch kill s (lof b os C L0 i (tmps o.op.operands.toList))).1, (mvX b i ch kill s (lof b os C L0 i (tmps o.op.operands.toList))).2⟩ :: C) s
  | _, _ => Comp.fail
def appS : List Oper → List Nat
 | [] => []
 | o :: os => match o.op with
  | .call c => match c.callee with
   | .builtin .append => tmps (c.args.toList.take 1) ++ appS os
   | _ => appS os
  | _ => appS os
def refsX (L : LS) : List Nat → List Nat
 | [] => []
 | t :: l => match look L t with
  | some e => e.2.refs ++ refsX L l
  | none => refsX L l
def noG : List Oper → Bool
 | [] => true
 | o :: os => o.guard.isNone && noG os
def allIn (can : List Nat) : Nat → Bool
 | 0 => true
 | n + 1 => memN n can && allIn can n
def pk (M : MS) : List Nat → List Nat
 | [] => []
 | k :: l => match look M k with
  | some (_, .bx _ c _) => c.refs ++ pk M l
  | _ => pk M l
def killX (L : LS) (M : MS) (dflt : List Nat) : List (Nat × List Nat) → Nat → List Nat
 | [], _ => dflt
 | e :: l, i => match Nat.beq e.1 i with
  | true => refsX L e.2 ++ pk M (refsX L e.2)
  | false => killX L M dflt l i
def denX {β : Type} (E : VE) (os : List Oper) (ch can : List Nat) (kl : List (Nat × List Nat)) (s : S) (k : S → Comp β) : Comp β := match ndD os && (noG os && (allIn can os.length && alOk E os ch (alX (bitsOf os) os ch ch))) with
 | true => canX E (wrS os) (bitsOf os) os ch (alX (bitsOf os) os ch ch) (killX s.L s.M (refsX s.L (wrS os ++ appS os)) kl) s.L k can [] { s with L := [] }
 | false => Comp.fail
theorem Zv {d : Nat} : ∀ {l : List Nat}, memN d l = true ↔ d ∈ l
 | [] => by simp [memN]
 | e :: l => by
  unfold memN
  cases hb : Nat.beq e d with
  | true => have := MX hb; simp [this]
  | false =>
   rw [zV] at hb
   have hne : ¬ e = d := by simpa using hb
   simp only [cond_false, Zv, List.mem_cons]
   exact ⟨.inr, fun h => h.resolve_left fun h => hne h.symm⟩
theorem tX {o : Option Tmp} {t : Nat} : memO o [t] = true ↔ o = some t := by
 cases o with
 | none => simp [memO]
 | some d =>
  show memN d [t] = true ↔ _
  rw [Zv]; simp
theorem Jb : ∀ {os : List Oper} {i t j : Nat}, wOf os i t = some j → i ≤ j ∧ ∃ o, os[j - i]? = some o ∧ o.dst = some t
 | [], _, _, _, h => by cases h
 | o :: os, i, t, j, h => by
  unfold wOf at h
  cases hb : memO o.dst [t] with
  | true => rw [hb] at h; cases h; exact ⟨Mb _, o, by simp, tX.1 hb⟩
  | false =>
   rw [hb] at h
   obtain ⟨h1, o', h2, h3⟩ := Jb h
   refine ⟨by omega, o', ?_, h3⟩
   rw [show j - i = (j - (i + 1)) + 1 by omega, List.getElem?_cons_succ]; exact h2
theorem Jc : ∀ {os : List Oper} {i t : Nat}, wOf os i t = none → ∀ (j : Nat) o, os[j]? = some o → o.dst ≠ some t
 | [], _, _, _, j, o, h => by simp at h
 | o :: os, i, t, h, j, o', ho => by
  unfold wOf at h
  cases hb : memO o.dst [t] with
  | true => rw [hb] at h; cases h
  | false =>
   rw [hb] at h
   cases j with
   | zero =>
    simp only [List.getElem?_cons_zero, Option.some.injEq] at ho
    subst ho
    intro e
    rw [tX.2 e] at hb; cases hb
   | succ j => exact Jc h j o' (by simpa using ho)
theorem JG : ∀ {os : List Oper}, ndD os = true → ∀ {i j : Nat} {o o' : Oper} {t : Nat}, os[i]? = some o → os[j]? = some o' → o.dst = some t → o'.dst = some t → i = j
 | [], _, i, j, o, o', t, h, _, _, _ => by simp at h
 | x :: os, hn, i, j, o, o', t, hi, hj, h1, h2 => by
  simp only [ndD, MY] at hn
  have key : ∀ {j : Nat} {o' : Oper}, x.dst = some t → os[j]? = some o' → o'.dst = some t → False := by
   intro j o' hx hj h2
   have h := hn.1
   rw [hx] at h
   simp only at h
   exact Jc (Option.isNone_iff_eq_none.1 h) j o' hj h2
  cases i with
  | zero =>
   cases j with
   | zero => rfl
   | succ j =>
    simp only [List.getElem?_cons_zero, Option.some.injEq] at hi
    subst hi
    exact (key h1 (by simpa using hj) h2).elim
  | succ i =>
   cases j with
   | zero =>
    simp only [List.getElem?_cons_zero, Option.some.injEq] at hj
    subst hj
    exact (key h2 (by simpa using hi) h1).elim
   | succ j => exact congrArg Nat.succ (JG (os := os) (i := i) (j := j) hn.2 (by simpa using hi) (by simpa using hj) h1 h2)
theorem K3 : ∀ {C : List It} {j : Nat} {e : It}, itAt C j = some e → e ∈ C ∧ e.i = j
 | [], _, _, h => by cases h
 | x :: C, j, e, h => by
  unfold itAt at h
  cases hb : Nat.beq x.i j with
  | true => rw [hb] at h; cases h; exact ⟨by simp, MX hb⟩
  | false =>
   rw [hb] at h
   obtain ⟨h1, h2⟩ := K3 h
   exact ⟨List.mem_cons_of_mem _ h1, h2⟩
theorem Yi {b : Array Nat} {os : List Oper} {C : List It} {L0 : LS} {i : Nat} : ∀ {l : List Nat} {t : Nat} {e : Nat × AV}, look (lof b os C L0 i l) t = some e → rdX b os C L0 i t = some e
 | [], _, _, h => by cases h
 | u :: l, t, e, h => by
  unfold lof at h
  split at h
  ·rename_i e' he
   rcases zF h with ⟨h1, h2⟩ | ⟨_, h2⟩
   ·subst h1 h2; exact he
   ·exact Yi h2
  ·exact Yi h
theorem XV {kill : List Nat} : ∀ {M : MS} {k : Nat} {e : Nat × MV}, look (fltM kill M) k = some e → memN k kill = false ∧ look M k = some e
 | [], _, _, h => by cases h
 | p :: M, k, e, h => by
  unfold fltM at h
  cases hb : memN p.1 kill with
  | true =>
   rw [hb] at h
   obtain ⟨h1, h2⟩ := XV h
   refine ⟨h1, ?_⟩
   unfold look
   rw [zV, decide_eq_false (fun e => by rw [e, h1] at hb; cases hb)]
   exact h2
  | false =>
   rw [hb] at h
   rcases zF (k := p.1) (x := p.2) h with ⟨h1, h2⟩ | ⟨h1, h2⟩
   ·subst h1
    refine ⟨hb, ?_⟩
    unfold look
    rw [zV, decide_eq_true rfl, ← h2]; rfl
   ·obtain ⟨h3, h4⟩ := XV h2
    refine ⟨h3, ?_⟩
    unfold look
    rw [zV, decide_eq_false h1]; exact h4
theorem pI {M M' : MS} : ∀ {l : MS}, subM M M' l = true → ∀ {k : Nat} {e x : Nat × MV}, look M k = some e → look l k = some x → ∃ e', look M' k = some e' ∧ e'.1 = e.1
 | [], _, k, e, x, _, h => by cases h
 | p :: l, h, k, e, x, he, hl => by
  simp only [subM, MY] at h
  rcases zF (k := p.1) (x := p.2) hl with ⟨h1, _⟩ | ⟨_, h2⟩
  ·have h0 := h.1
   rw [h1, he] at h0
   cases hm : look M' k with
   | none => rw [hm] at h0; cases h0
   | some e' => rw [hm] at h0; exact ⟨e', rfl, (MX h0).symm⟩
  ·exact pI h.2 he h2
theorem uh {b : Array Nat} {i : Nat} {s' : S} : ∀ {C : List It}, stays b i s' C = true → ∀ it ∈ C, bit b i it.i = true ∨ (subM it.M s'.M it.M = true ∧ s'.ep ≤ it.ep)
 | [], _, it, h => by cases h
 | x :: C, h, it, hm => by
  simp only [stays, MY, Bool.or_eq_true] at h
  rcases List.mem_cons.1 hm with rfl | hm
  ·exact h.1.imp id fun h => ⟨h.1, Nat.le_of_ble_eq_true h.2⟩
  ·exact uh h.2 it hm
theorem KI {al j : Nat} : ∀ {l : List Nat}, j ∈ l → j ≠ al → j ∈ dropN al l
 | x :: l, hm, hj => by
  unfold dropN
  rcases List.mem_cons.1 hm with rfl | hm
  ·rw [zV, decide_eq_false hj]; exact List.mem_cons_self ..
  ·split
   ·exact KI hm hj
   ·exact List.mem_cons_of_mem _ (KI hm hj)
theorem K1 {b : Array Nat} {i : Nat} : ∀ {l : List Nat}, K2 b i l = true → ∀ j ∈ l, bit b j i = true
 | [], _, j, h => by cases h
 | x :: l, h, j, hm => by
  simp only [K2, MY] at h
  rcases List.mem_cons.1 hm with rfl | hm
  ·exact h.1
  ·exact K1 h.2 j hm
theorem Kn : ∀ {C : List It} {t : Nat} {e : Nat × AV}, look (outL C) t = some e → ∃ it ∈ C, it.d = t ∧ (it.n, it.φ) = e
 | [], _, _, h => by cases h
 | it :: C, t, e, h => by
  rcases zF (k := it.d) (x := (it.n, it.φ)) h with ⟨h1, h2⟩ | ⟨_, h2⟩
  ·exact ⟨it, by simp, h1, h2⟩
  ·obtain ⟨it', h3, h4⟩ := Kn h2
   exact ⟨it', List.mem_cons_of_mem _ h3, h4⟩
theorem Km : ∀ {C : List It} {t : Nat}, look (outL C) t = none → ∀ it ∈ C, it.d ≠ t
 | [], _, _, it, h => by cases h
 | x :: C, t, h, it, hm => by
  unfold outL look at h
  simp only at h
  cases hb : Nat.beq x.d t with
  | true => rw [hb] at h; cases h
  | false =>
   rw [hb] at h
   rcases List.mem_cons.1 hm with rfl | hm
   ·intro e; rw [zV, decide_eq_true e] at hb; cases hb
   ·exact Km h it hm
theorem mF : ∀ {os : List Oper}, noG os = true → ∀ o ∈ os, o.guard = none
 | [], _, o, h => by cases h
 | x :: os, h, o, hm => by
  simp only [noG, MY] at h
  rcases List.mem_cons.1 hm with rfl | hm
  ·exact Option.isNone_iff_eq_none.1 h.1
  ·exact mF h.2 o hm
theorem qb {can : List Nat} : ∀ {n : Nat}, allIn can n = true → ∀ i, i < n → i ∈ can
 | 0, _, i, h => by omega
 | n + 1, h, i, hi => by
  simp only [allIn, MY] at h
  by_cases e : i = n
  ·subst e; exact Zv.1 h.1
  ·exact qb h.2 i (by omega)
structure Rdy (P : Program) (os : List Oper) (L0 : LS) (C : List It) (s : S) (it : It) : Prop where
 sub : ∀ k e, look it.M k = some e → look s.M k = some e
 ep : s.ep ≤ it.ep
 op : ∀ t e, look it.L t = some e → (wOf os 0 t = none ∧ look L0 t = some e) ∨ (∃ j, wOf os 0 t = some j ∧ bit (bitsOf os) j it.i = true ∧ look L0 t = some e) ∨ (∃ jt ∈ C, jt.i ≠ it.i ∧ wOf os 0 t = some jt.i ∧ bit (bitsOf os) it.i jt.i = true ∧ (jt.n, jt.φ) = e)
 ok : ∃ o, os[it.i]? = some o ∧ o.dst = some it.d ∧ ∀ {X : Cx} {w : World} {a : Act}, X.P = P → OkO X.O w → KnowM it.M X w → X.ep = it.ep → KnowL it.L X w a → Ok P o a w (fun w v => it.φ.holds X w v)
structure JS (F : Frm) (al : Nat) (os : List Oper) (L0 : LS) (M0 : MS) (n0 : Nat) (rest : List Nat) (C : List It) (s : S) (T : Nat → Bool) (a : Act) (w : World) (X : Cx) : Prop where
 rel : RelX F s a w X
 sL : s.L = []
 hn : n0 ≤ s.n
 l0 : ∀ t e, look L0 t = some e → e.1 < n0
 im : ∀ k e, look s.M k = some e → e.1 < n0 → look M0 k = some e
 c : ∀ it ∈ C, T it.i = true → fresh s.ep (it.n, it.φ) = true → it.φ.holds X w (a.get it.d)
 l : ∀ t e, look L0 t = some e → (∀ j o, os[j]? = some o → o.dst = some t → T j = false) → fresh s.ep e = true → e.2.holds X w (a.get t)
 rd : ∀ it ∈ C, T it.i = false → Rdy F.P os L0 C s it
 rs : ∀ i ∈ rest, T i = false ∨ i = al
 nc : ∀ it ∈ C, it.i ∉ rest
 un : ∀ it ∈ C, ∀ it' ∈ C, it.i = it'.i → it = it'
 cov : ∀ i o, os[i]? = some o → i ∈ rest ∨ (o.dst = none ∧ T i = true) ∨ ∃ it ∈ C, it.i = i
 dst : ∀ it ∈ C, ∃ o, os[it.i]? = some o ∧ o.dst = some it.d
 st : ∀ it ∈ C, n0 ≤ it.n ∧ it.n ≤ s.n
section
variable {F : Frm} {E : VE} {os : List Oper} {L0 : LS} {M0 : MS} {n0 nf : Nat} {rest : List Nat} {C : List It} {s : S} {T : Nat → Bool} {a : Act} {w : World} {X : Cx} {wr ch : List Nat} {al : Nat} {kill : Nat → List Nat} {β : Type} {y : β} {k : S → Comp β}
theorem Rdy.cons {P : Program} {it : It} (h : Rdy P os L0 C s it) (x : It) : Rdy P os L0 (x :: C) s it :=
 ⟨h.sub, h.ep, fun t e he => (h.op t e he).imp id (·.imp id fun ⟨jt, h1, h2⟩ => ⟨jt, List.mem_cons_of_mem _ h1, h2⟩), h.ok⟩
theorem u6 {b : Array Nat} {i t : Nat} {e : Nat × AV} (h : rdX b os C L0 i t = some e) : (wOf os 0 t = none ∧ look L0 t = some e) ∨ (∃ j, wOf os 0 t = some j ∧ bit b j i = true ∧ look L0 t = some e) ∨ (∃ jt ∈ C, wOf os 0 t = some jt.i ∧ bit b i jt.i = true ∧ (jt.n, jt.φ) = e) := by
 unfold rdX at h
 split at h
 ·rename_i hw; exact .inl ⟨hw, h⟩
 ·rename_i j hw
  split at h
  ·rename_i hb
   split at h
   ·rename_i e' he
    cases h
    obtain ⟨h1, h2⟩ := K3 he
    exact .inr (.inr ⟨e', h1, by rw [h2]; exact hw, by rw [h2]; exact hb, rfl⟩)
   ·cases h
  ·split at h
   ·rename_i hb; exact .inr (.inl ⟨j, hw, hb, h⟩)
   ·cases h
theorem Et {b : Array Nat} {i : Nat} {L : LS} : ∀ k e, look (mvX b i ch kill s L).1 k = some e → look s.M k = some e := by
 intro k e h
 unfold mvX at h
 split at h
 ·exact h
 ·exact (XV h).2
theorem Iw {b : Array Nat} {i : Nat} {L : LS} (h : s.ep ≤ s.n) : s.ep ≤ (mvX b i ch kill s L).2 := by
 unfold mvX
 split
 ·exact Mb _
 ·show s.ep ≤ (match anyF L with
  | true => s.ep
  | false => s.n + 1000000000)
  split
  ·exact Mb _
  ·exact Nat.le_trans h (Nat.le_add_right _ _)
theorem JS.add (hE : E.ok F.P) {i : Nat} (h : JS F al os L0 M0 n0 (i :: rest) C s T a w X) (hn : i ∉ rest) (hia : i ≠ al) {o : Oper} (ho : os[i]? = some o) {d : Nat} (hd : o.dst = some d) {φ : AV}
  (hv : ∀ {X : Cx} {w : World} {a : Act}, X.P = F.P → OkO X.O w → KnowM (mvX (bitsOf os) i ch kill s (lof (bitsOf os) os C L0 i (tmps o.op.operands.toList))).1 X w → X.ep = (mvX (bitsOf os) i ch kill s (lof (bitsOf os) os C L0 i (tmps o.op.operands.toList))).2 → KnowL (lof (bitsOf os) os C L0 i (tmps o.op.operands.toList)) X w a → Ok F.P o a w (fun w v => φ.holds X w v)) :
  JS F al os L0 M0 n0 rest (⟨i, d, s.n, φ, lof (bitsOf os) os C L0 i (tmps o.op.operands.toList), (mvX (bitsOf os) i ch kill s (lof (bitsOf os) os C L0 i (tmps o.op.operands.toList))).1, (mvX (bitsOf os) i ch kill s (lof (bitsOf os) os C L0 i (tmps o.op.operands.toList))).2⟩ :: C) s T a w X := by
 have hTi : T i = false := (h.rs i (by simp)).resolve_right hia
 have hCi : ∀ it ∈ C, it.i ≠ i := fun it hm e => h.nc it hm (by rw [e]; simp)
 refine ⟨h.rel, h.sL, h.hn, h.l0, h.im, fun it hm ht => ?_, h.l, fun it hm ht => ?_, fun j hj => h.rs j (List.mem_cons_of_mem _ hj), fun it hm => ?_, fun it hm it' hm' he => ?_, fun j o' hj => ?_, fun it hm => ?_, fun it hm => ?_⟩
 ·rcases List.mem_cons.1 hm with rfl | hm
  ·rw [hTi] at ht; cases ht
  ·exact h.c it hm ht
 ·rcases List.mem_cons.1 hm with rfl | hm
  ·refine ⟨Et, Iw h.rel.epn, fun t e he => ?_, o, ho, hd, hv⟩
   rcases u6 (Yi he) with h1 | h1 | ⟨jt, h1, h2⟩
   ·exact .inl h1
   ·exact .inr (.inl h1)
   ·exact .inr (.inr ⟨jt, List.mem_cons_of_mem _ h1, hCi jt h1, h2⟩)
  ·exact (h.rd it hm ht).cons _
 ·rcases List.mem_cons.1 hm with rfl | hm
  ·exact hn
  ·exact fun hr => h.nc it hm (List.mem_cons_of_mem _ hr)
 ·rcases List.mem_cons.1 hm with rfl | hm <;> rcases List.mem_cons.1 hm' with rfl | hm'
  ·rfl
  ·exact absurd he.symm (hCi it' hm')
  ·exact absurd he (hCi it hm)
  ·exact h.un it hm it' hm' he
 ·rcases h.cov j o' hj with h1 | h1 | ⟨it, h1, h2⟩
  ·rcases List.mem_cons.1 h1 with rfl | h1
   ·exact .inr (.inr ⟨_, List.Mem.head _, rfl⟩)
   ·exact .inl h1
  ·exact .inr (.inl h1)
  ·exact .inr (.inr ⟨it, List.mem_cons_of_mem _ h1, h2⟩)
 ·rcases List.mem_cons.1 hm with rfl | hm
  ·exact ⟨o, ho, hd⟩
  ·exact h.dst it hm
 ·rcases List.mem_cons.1 hm with rfl | hm
  ·exact ⟨h.hn, Mb _⟩
  ·exact h.st it hm
theorem JS.opnd (hnd : ndD os = true) (h : JS F al os L0 M0 n0 rest C s T a w X) {i : Nat} (haft : ∀ k, bit (bitsOf os) k i = true → T k = false) (hbef : ∀ k, bit (bitsOf os) i k = true → addS T i k = true) {t : Nat} {e : Nat × AV}
  (hc : (wOf os 0 t = none ∧ look L0 t = some e) ∨ (∃ j, wOf os 0 t = some j ∧ bit (bitsOf os) j i = true ∧ look L0 t = some e) ∨ (∃ jt ∈ C, jt.i ≠ i ∧ wOf os 0 t = some jt.i ∧ bit (bitsOf os) i jt.i = true ∧ (jt.n, jt.φ) = e)) (hf : fresh s.ep e = true) : e.2.holds X w (a.get t) := by
 rcases hc with ⟨h1, h2⟩ | ⟨j, h1, h2, h3⟩ | ⟨jt, h1, h2, h3, h4, h5⟩
 ·exact h.l t e h2 (fun j o hj hd => absurd hd (Jc h1 j o hj)) hf
 ·refine h.l t e h3 (fun j' o hj hd => ?_) hf
  obtain ⟨_, o', g1, g2⟩ := Jb h1
  have : j' = j := JG hnd hj (by simpa using g1) hd g2
  rw [this]; exact haft j h2
 ·obtain ⟨_, o', g1, g2⟩ := Jb h3
  obtain ⟨o2, g3, g4⟩ := h.dst jt h1
  rw [Nat.sub_zero, g3] at g1
  cases g1
  rw [g4] at g2; cases g2
  have hT : T jt.i = true := by
   have := hbef _ h4
   simp only [addS, Bool.or_eq_true] at this
   exact this.resolve_right fun hb => h2 (MX hb)
  rw [← h5] at hf ⊢
  exact h.c jt h1 hT hf
theorem RelX.set (hLh : ∀ t φ, ¬ F.Lh t φ) (h : RelX F s a w X) (hL : s.L = []) {w' : World} (hE : Ext w w') (d : Option Tmp) (v : Value) : RelX F s (a.put d v) w' X :=
 h.go (ju h.fit d v) rfl rfl rfl (fun _ _ => Keep.ext hE) (fun _ _ => rfl) h.n h.ep (Mb _) h.epn (h.base.step hE h.ok0) (fun hf => ⟨hf, hE⟩) (fun t φ hp => absurd hp (hLh t φ)) (fun t e he => by rw [hL] at he; cases he) (fun k e he => .inr ⟨he, rfl, fun _ => Keep.ext hE⟩) h.inj h.pos
theorem uV {T : Nat → Bool} {i j : Nat} (h : addS T i j = true) (hne : j ≠ i) : T j = true := by
 simp only [addS, Bool.or_eq_true] at h
 exact h.resolve_right fun hb => hne (MX hb)
theorem kb (T : Nat → Bool) (i : Nat) : addS T i i = true := by simp [addS, zV]
theorem Zk {T : Nat → Bool} {i j : Nat} (h : addS T i j = false) : T j = false ∧ j ≠ i := by
 unfold addS at h
 rw [Bool.or_eq_false_iff, zV] at h
 exact ⟨h.1, by simpa using h.2⟩
theorem JS.val (hLh : ∀ t φ, ¬ F.Lh t φ) (hok : z8 F.N os = true) (hnd : ndD os = true) (h : JS F al os L0 M0 n0 rest C s T a w X) {it : It} (hm : it ∈ C) (hT : T it.i = false) (haft : ∀ k, bit (bitsOf os) k it.i = true → T k = false) (hbef : ∀ k, bit (bitsOf os) it.i k = true → addS T it.i k = true) :
  ∃ o, os[it.i]? = some o ∧ Ok F.P o a w (fun w' v => Ext w w' → JS F al os L0 M0 n0 rest C s (addS T it.i) (a.put o.dst v) w' X) := by
 obtain ⟨r1, r2, r3, o, ho, hd, r4⟩ := h.rd it hm hT
 refine ⟨o, ho, fun K Q hK => ?_⟩
 let X1 : Cx := { X with ep := it.ep }
 have to1 : ∀ {φ : AV} {w : World} {v : Value}, φ.holds X w v → φ.holds X1 w v := fun {φ w v} hv => (φ.mono (X := X) (X' := X1) (w := w) (w' := w) ⟨rfl, Keep.refl _ _ _, fun _ _ => rfl, Mb _, rfl⟩ fun _ => Ext.refl _).1 v hv
 have of1 : ∀ {φ : AV} {w : World} {v : Value}, φ.holds X1 w v → φ.holds X w v := fun {φ w v} hv => (φ.mono (X := X1) (X' := X) (w := w) (w' := w) ⟨rfl, Keep.refl _ _ _, fun _ _ => rfl, Mb _, rfl⟩ fun _ => Ext.refl _).1 v hv
 have hMn := h.rel.mnX
 have hM1 : KnowM it.M X1 w := fun k e he => MV.le (X := X) (X' := X1) ⟨rfl, Keep.refl _ _ _, fun _ _ => rfl, Mb _, rfl⟩ (hMn k e (r1 k e he)) rfl rfl rfl _ (fun _ => Keep.refl _ _ _) (h.rel.m k e (r1 k e he))
 have hL1 : KnowL it.L X1 w a := fun t e he hf => by
  have hf' : fresh s.ep e = true := by
   unfold fresh at hf ⊢
   rw [Bool.or_eq_true] at hf ⊢
   exact hf.imp id fun hb => by
    rw [jP, decide_eq_true_eq] at hb ⊢
    exact Nat.le_trans r2 hb
  exact to1 (h.opnd hnd haft hbef (r3 t e he) hf')
 refine r4 (X := X1) h.rel.P h.rel.okO hM1 rfl hL1 K Q fun v w' hEx hv => ?_
 refine hK v w' hEx fun _ => ?_
 rw [hd]
 have hv := of1 hv
 have hdN := ((zR hok ho).2.1 it.d hd).1
 have hother : ∀ it' ∈ C, it'.i ≠ it.i → it.d ≠ it'.d := fun it' hm' hne e => by
  obtain ⟨o', g1, g2⟩ := h.dst it' hm'
  exact hne (JG hnd g1 ho (by rw [g2, e]) hd)
 refine ⟨h.rel.set hLh h.sL hEx _ _, h.sL, h.hn, h.l0, h.im, fun it' hm' ht hf => ?_, fun t e he ht hf => ?_, fun it' hm' ht => h.rd it' hm' (Zk ht).1, fun j hj => ?_, h.nc, h.un, fun j o' hj => ?_, h.dst, h.st⟩
 ·by_cases hne : it'.i = it.i
  ·have := h.un it' hm' it hm hne
   subst this
   rw [y4 h.rel.fit hdN]; exact hv
  ·rw [vJ (hother it' hm' hne)]
   exact it'.φ.ext hEx (h.c it' hm' (uV ht hne) hf)
 ·have hne : it.d ≠ t := fun e => by
   have := ht it.i o ho (by rw [hd, e])
   rw [kb] at this; cases this
  rw [vJ hne]
  exact e.2.ext hEx (h.l t e he (fun j o' hj hd' => (Zk (ht j o' hj hd')).1) hf)
 ·have h1 := h.rs j hj
  have hne : j ≠ it.i := fun e => h.nc it hm (by rw [← e]; exact hj)
  refine h1.imp (fun h1 => ?_) id
  unfold addS
  rw [h1, zV, decide_eq_false hne]; rfl
 ·rcases h.cov j o' hj with h1 | ⟨h1, h2⟩ | h1
  ·exact .inl h1
  ·exact .inr (.inl ⟨h1, by simp [addS, h2]⟩)
  ·exact .inr (.inr h1)
def frmX (ep : Nat) (os : List Oper) (L0 : LS) (C : List It) (T : Nat → Bool) (i : Nat) : Nat → AV → Prop := fun t φ => (∀ o, os[i]? = some o → o.dst ≠ some t) ∧
 ((∃ it ∈ C, T it.i = true ∧ it.d = t ∧ it.φ = φ ∧ fresh ep (it.n, it.φ) = true) ∨ (∃ x, look L0 t = some x ∧ x.2 = φ ∧ fresh ep x = true ∧ ∀ j o, os[j]? = some o → o.dst = some t → T j = false))
theorem JS.nxt (hLh : ∀ t φ, ¬ F.Lh t φ) (hnd : ndD os = true) {q : Nat → Obj → Prop} {i : Nat} (h : JS (F.sys q) al os L0 M0 n0 (i :: rest) C s T a w X) (hn : i ∉ rest) {o : Oper} (ho : os[i]? = some o) (hbef : ∀ k, bit (bitsOf os) i k = true → addS T i k = true)
  {s' : S} {a' : Act} {w' : World} {X' : Cx} {Le : LS} (hX : RelX { F with Lh := frmX s.ep os L0 C T i, fe := s.n } s' a' w' X') (hi : Inv { L := Le, M := s.M, n := s.n + 1, ep := s.ep } s') (hmono : s.ep ≤ s'.ep) (hst : stays (bitsOf os) i s' C = true)
  {nw : List It} (h1 : ∀ it ∈ nw, it.i = i ∧ o.dst = some it.d ∧ look s'.L it.d = some (it.n, it.φ) ∧ s.n ≤ it.n) (h2 : ∀ it ∈ nw, ∀ it' ∈ nw, it = it') (h3 : o.dst = none ∨ ∃ it, it ∈ nw) :
  JS F al os L0 M0 n0 rest (nw ++ C) { L := [], M := s'.M, n := s'.n, ep := s'.ep } (addS T i) a' w' X' := by
 have hle : s.n + 1 ≤ s'.n := hi.le
 have hCi : ∀ it ∈ C, it.i ≠ i := fun it hm e => h.nc it hm (by rw [e]; simp)
 have hXF : RelX F { L := [], M := s'.M, n := s'.n, ep := s'.ep } a' w' X' := ⟨hX.P, hX.A, hX.Fn, hX.n, hX.ep, hX.ok0, hX.fit, hX.base, fun t e he => (nomatch he), hX.m, fun t e he => (nomatch he), hX.mn, hX.inj, hX.pos, hX.epn, Nat.lt_of_lt_of_le h.rel.fe (by show s.n ≤ s'.n; omega), fun t φ hp => absurd hp (hLh t φ), hX.bl, hX.ex⟩
 have hep : ∀ {e : Nat × AV}, fresh s'.ep e = true → e.1 ≤ s.n → e.2.frail = true → s'.ep ≤ s.n := fun {e} hf hl hfr => by
  simp only [fresh, hfr, Bool.not_true, Bool.false_or] at hf
  rw [jP] at hf
  exact Nat.le_trans (of_decide_eq_true hf) hl
 have hfe : ∀ {e : Nat × AV}, fresh s'.ep e = true → fresh s.ep e = true := fun {e} hf => by
  unfold fresh at hf ⊢
  rw [Bool.or_eq_true] at hf ⊢
  exact hf.imp id fun hb => by
   rw [jP, decide_eq_true_eq] at hb ⊢
   exact Nat.le_trans hmono hb
 refine ⟨hXF, rfl, Nat.le_trans h.hn (by show s.n ≤ s'.n; omega), h.l0, fun k e he hlt => h.im k e (hi.m k e he (by have := h.hn; show e.1 < s.n + 1; omega)) hlt,
  fun it hm ht hf => ?_, fun t e he ht hf => ?_, fun it hm ht => ?_, fun j hj => ?_, fun it hm => ?_, fun it hm it' hm' he => ?_, fun j o' hj => ?_, fun it hm => ?_, fun it hm => ?_⟩
 ·rcases List.mem_append.1 hm with hm | hm
  ·obtain ⟨_, _, g1, _⟩ := h1 it hm
   exact hX.l _ _ g1 (by rw [hX.ep]; exact hf)
  ·refine hX.lh it.d it.φ ⟨fun o' ho' e => ?_, .inl ⟨it, hm, uV ht (hCi it hm), rfl, rfl, hfe hf⟩⟩ (hep hf (h.st it hm).2)
   obtain ⟨o2, g1, g2⟩ := h.dst it hm
   exact hCi it hm (JG hnd g1 ho' g2 e)
 ·refine hX.lh t e.2 ⟨fun o' ho' e' => ?_, .inr ⟨e, he, rfl, hfe hf, fun j o' hj hd => (Zk (ht j o' hj hd)).1⟩⟩ (hep hf (by have := h.l0 t e he; have := h.hn; omega))
  have := ht i o' ho' e'
  rw [kb] at this; cases this
 ·rcases List.mem_append.1 hm with hm | hm
  ·rw [(h1 it hm).1, kb] at ht; cases ht
  ·obtain ⟨r1, r2, r3, r4⟩ := h.rd it hm (Zk ht).1
   rcases uh hst it hm with g | ⟨g1, g2⟩
   ·rw [hbef _ g] at ht; cases ht
   ·refine ⟨fun k e he => ?_, g2, fun t e he => (r3 t e he).imp id (·.imp id fun ⟨jt, q1, q2⟩ => ⟨jt, List.mem_append_right _ q1, q2⟩), r4⟩
    obtain ⟨e', q1, q2⟩ := pI g1 he he
    have q3 := r1 k e he
    have q4 := (h.rel.mn k e q3).1
    have q5 := hi.m k e' q1 (by show e'.1 < s.n + 1; omega)
    have q6 : look s.M k = some e' := q5
    rw [q3] at q6
    cases q6; exact q1
 ·have g1 := h.rs j (List.mem_cons_of_mem _ hj)
  have hne : j ≠ i := fun e => hn (by rw [← e]; exact hj)
  refine g1.imp (fun g1 => ?_) id
  unfold addS
  rw [g1, zV, decide_eq_false hne]; rfl
 ·rcases List.mem_append.1 hm with hm | hm
  ·rw [(h1 it hm).1]; exact hn
  ·exact fun hr => h.nc it hm (List.mem_cons_of_mem _ hr)
 ·rcases List.mem_append.1 hm with hm | hm <;> rcases List.mem_append.1 hm' with hm' | hm'
  ·exact h2 it hm it' hm'
  ·rw [(h1 it hm).1] at he; exact absurd he.symm (hCi it' hm')
  ·rw [(h1 it' hm').1] at he; exact absurd he (hCi it hm)
  ·exact h.un it hm it' hm' he
 ·rcases h.cov j o' hj with g | ⟨g1, g2⟩ | ⟨it, g1, g2⟩
  ·rcases List.mem_cons.1 g with rfl | g
   ·rw [ho] at hj; cases hj
    rcases h3 with g | ⟨it, g⟩
    ·exact .inr (.inl ⟨g, kb _ _⟩)
    ·exact .inr (.inr ⟨it, List.mem_append_left _ g, (h1 it g).1⟩)
   ·exact .inl g
  ·exact .inr (.inl ⟨g1, by simp [addS, g2]⟩)
  ·exact .inr (.inr ⟨it, List.mem_append_right _ g1, g2⟩)
 ·rcases List.mem_append.1 hm with hm | hm
  ·exact ⟨o, by rw [(h1 it hm).1]; exact ho, (h1 it hm).2.1⟩
  ·exact h.dst it hm
 ·rcases List.mem_append.1 hm with hm | hm
  ·exact ⟨Nat.le_trans h.hn (h1 it hm).2.2.2, Nat.le_of_lt (hX.ln _ _ (h1 it hm).2.2.1)⟩
  ·have := h.st it hm; exact ⟨this.1, by show it.n ≤ s'.n; omega⟩
theorem JS.hrel (h : JS F al os L0 M0 n0 rest C s T a w X) (i : Nat) : RelX { F with Lh := frmX s.ep os L0 C T i, fe := s.n } { L := [], M := s.M, n := s.n + 1, ep := s.ep } a w { X with n := s.n + 1 } := by
 let Xe : Cx := { X with n := s.n + 1 }
 have toe : ∀ {φ : AV} {v : Value}, φ.holds X w v → φ.holds Xe w v := fun {φ v} hv => (φ.mono (X := X) (X' := Xe) (w := w) (w' := w) ⟨rfl, Keep.refl _ _ _, fun _ _ => rfl, by rw [h.rel.n]; exact Nat.le_succ _, rfl⟩ fun _ => Ext.refl _).1 v hv
 have hgo : RelX F { L := [], M := s.M, n := s.n + 1, ep := s.ep } a w Xe :=
  h.rel.go (X' := Xe) h.rel.fit rfl rfl rfl (fun _ _ => Keep.refl _ _ _) (fun _ _ => rfl) rfl h.rel.ep (Nat.le_succ _) (Nat.le_succ_of_le h.rel.epn) h.rel.base (fun hf => ⟨hf, Ext.refl _⟩) (fun _ _ _ => rfl) (fun t e he => nomatch he) (fun k e he => .inr ⟨he, rfl, fun _ => Keep.refl _ _ _⟩) h.rel.inj h.rel.pos
 refine ⟨hgo.P, hgo.A, hgo.Fn, hgo.n, hgo.ep, hgo.ok0, hgo.fit, hgo.base, hgo.l, hgo.m, hgo.ln, hgo.mn, hgo.inj, hgo.pos, hgo.epn, Nat.lt_succ_self _, fun t φ hp _ => toe ?_, hgo.bl, hgo.ex⟩
 rcases hp.2 with ⟨it, g1, g2, g3, g4, g5⟩ | ⟨x, g1, g2, g5, g3⟩
 ·rw [← g3, ← g4]; exact h.c it g1 g2 g5
 ·rw [← g2]; exact h.l t x g1 g3 g5
def Gh (E : VE) (F : Frm) (q : Nat → Obj → Prop) (al : Nat) (os : List Oper) (rest : List Nat) (T : Nat → Bool) (a : Act) : Prop :=
 (q = F.x.sys ∧ (al ∈ rest → T al = false)) ∨ (al ∈ rest ∧ T al = true ∧ (∀ k, bit (bitsOf os) al k = true → T k = true) ∧ ∃ b Y d i o0 o, os[al]? = some o ∧ o.op = .alloc Y ∧ o.dst = some d ∧ look E.T Y = some i ∧ a.get d = .pointer (some ⟨b, 0, none⟩) ∧
  (∀ c o, F.x.sys c o → c ≠ b ∧ q c o) ∧ q b o0 ∧ F.w0.heap.size ≤ b ∧ ∀ w : World, w.heap[b]? = some o0 → Own w b i.z.cells Y)
theorem Gh.no {q : Nat → Obj → Prop} (h : Gh E F q al os rest T a) (hT : al ∈ rest → T al = false) : q = F.x.sys := by
 rcases h with h | ⟨h1, h2, _⟩
 ·exact h.1
 ·rw [hT h1] at h2; cases h2
theorem Gh.tail {q : Nat → Obj → Prop} {i : Nat} (h : Gh E F q al os (i :: rest) T a) (hi : i ≠ al) : Gh E F q al os rest T a :=
 h.imp (fun h => ⟨h.1, fun hm => h.2 (List.mem_cons_of_mem _ hm)⟩) fun h => ⟨(List.mem_cons.1 h.1).resolve_left (Ne.symm hi), h.2⟩
theorem Gh.step {q : Nat → Obj → Prop} (hnd : ndD os = true) (h : Gh E F q al os rest T a) {i : Nat} {o : Oper} (ho : os[i]? = some o) (hi : al ∈ rest → i ≠ al) (v : Value) : Gh E F q al os rest (addS T i) (a.put o.dst v) := by
 rcases h with ⟨h1, h2⟩ | ⟨h1, h2, h3, b, Y, d, j, o0, o', h4, h5, h6, h7, h8, h9⟩
 ·refine .inl ⟨h1, fun hm => ?_⟩
  unfold addS
  rw [h2 hm, zV, decide_eq_false (Ne.symm (hi hm))]; rfl
 ·refine .inr ⟨h1, by simp [addS, h2], fun k hk => by simp [addS, h3 k hk], b, Y, d, j, o0, o', h4, h5, h6, h7, ?_, h9⟩
  rw [vz (fun e => hi h1 (JG hnd ho h4 e h6))]; exact h8
theorem qi {o : Oper} {Y : TypeId} {i : TI} (hop : o.op = .alloc Y) (hi : look E.T Y = some i) {k : S → Comp β} : step E wr s o k = k (s.obj o.dst (.bx true (zeroA i) Y) (.bx s.n 0)) := by
 obtain ⟨d, op, T, pos, aft, g⟩ := o
 simp only at hop
 subst hop
 simp only [step, preF, step0, Jj, hi]
theorem Gc (h : T al = true) : addS T al = T := by
 funext j
 unfold addS
 by_cases e : j = al
 ·rw [e, h]; rfl
 ·rw [zV, decide_eq_false e, Bool.or_false]
theorem JS.adv (hLh : ∀ t φ, ¬ F.Lh t φ) (hE : E.ok F.P) (hnd : ndD os = true) (hal : alOk E os ch al = true) : ∀ {rest : List Nat} {C : List It} {s : S} {X : Cx} {q : Nat → Obj → Prop}, JS (F.sys q) al os L0 M0 n0 rest C s T a w X → Gh E F q al os rest T a → (canX E wr (bitsOf os) os ch al kill L0 k rest C s).run nf = some y →
  ∃ rest' C' s' X' q', JS (F.sys q') al os L0 M0 n0 rest' C' s' T a w X' ∧ Gh E F q' al os rest' T a ∧ (canX E wr (bitsOf os) os ch al kill L0 k rest' C' s').run nf = some y ∧ (∀ i l, rest' = i :: l → memN i ch = true ∧ T i = false)
 | [], C, s, X, q, h, hg, hr => ⟨[], C, s, X, q, h, hg, hr, fun _ _ e => nomatch e⟩
 | i :: rest, C, s, X, q, h, hg, hr => by
  cases hc : memN i ch with
  | true =>
   cases hT : T i with
   | false => exact ⟨i :: rest, C, s, X, q, h, hg, hr, fun j l e => by cases e; exact ⟨hc, hT⟩⟩
   | true =>
    obtain rfl : al = i := ((h.rs i (by simp)).resolve_left fun e => by rw [hT] at e; cases e).symm
    rcases hg with hg | ⟨_, _, g3, b, Y, d, j, o0, o', g4, g5, g6, g7, g8, g9, g10, g11, g12⟩
    ·rw [hg.2 (by simp)] at hT; cases hT
    simp only [canX] at hr
    split at hr
    ·rename_i o hn ho
     rw [g4] at ho; cases ho
     have hn' : al ∉ rest := fun hm => by rw [Zv.2 hm] at hn; cases hn
     rw [hc] at hr
     simp only at hr
     split at hr
     ·rw [qi g5 g7] at hr
      have hlof : lof (bitsOf os) os C L0 al (tmps o'.op.operands.toList) = [] := by rw [g5]; rfl
      rw [hlof, g6] at hr
      obtain ⟨X', hX'⟩ := RelX.take (F := { F with Lh := frmX s.ep os L0 C T al, fe := s.n }) (d := d) (h.hrel al) g9 g10 g11 g12 g8 rW rV fun φ hp => hp.1 _ g4 g6
      have hi' := Inv.obj { L := [], M := s.M, n := s.n + 1, ep := s.ep } (some d) (.bx true (zeroA j) Y) (.bx (s.n + 1) 0)
      have hTT := Gc hT
      have hbef : ∀ k, bit (bitsOf os) al k = true → addS T al k = true := fun k hk => by rw [hTT]; exact g3 k hk
      split at hr
      ·rename_i hst
       rw [MY] at hst
       obtain ⟨hmo, hst⟩ := hst
       have hmo := Nat.le_of_ble_eq_true hmo
       simp only at hr
       split at hr
       ·rename_i e he
        split at hr
        ·rename_i hb
         have h2 := h.nxt (nw := [⟨al, d, e.1, e.2, [], [], s.n + 1000000000⟩]) hLh hnd hn' g4 hbef hX' hi' hmo hst (fun it hm => by
          obtain rfl := List.mem_singleton.1 hm
          exact ⟨rfl, g6, he, Nat.le_of_ble_eq_true hb⟩) (fun it hm it' hm' => by rw [List.mem_singleton.1 hm, List.mem_singleton.1 hm']) (.inr ⟨_, List.Mem.head _⟩)
         rw [hTT] at h2
         have h3 : JS (F.sys F.x.sys) al os L0 M0 n0 rest _ _ T a w X' := h2
         exact JS.adv hLh hE hnd hal h3 (.inl ⟨rfl, fun hm => absurd hm hn'⟩) hr
        ·cases hr
       ·cases hr
      ·cases hr
     ·cases hr
    ·cases hr
  | false =>
   simp only [canX] at hr
   split at hr
   ·rename_i o hn ho
    have hn' : i ∉ rest := fun hm => by rw [Zv.2 hm] at hn; cases hn
    have hia : i ≠ al := fun e => by
     subst e
     unfold alOk at hal
     rw [ho] at hal
     simp only [MY] at hal
     rw [hal.1] at hc; cases hc
    rw [hc] at hr
    simp only at hr
    split at hr
    ·cases hr
    ·rename_i d hd
     split at hr
     ·cases hr
     ·rename_i φ hv
      refine JS.adv hLh hE hnd hal (JS.add (F := F.sys q) (ch := ch) (kill := kill) hE h hn' hia ho hd fun {X w a} hP hO hM hep hL => ?_) (hg.tail hia) hr
      have := Ys (X := X) (R := []) (g := []) (wr := wr) (L := lof (bitsOf os) os C L0 i (tmps o.op.operands.toList)) (by rw [hP]; exact hE) trivial hO hM o (fun t _ => fun e he hf => hL t e he hf) trivial
      rw [hep, hd, hv] at this
      rw [← hP]; exact this
     ·rename_i t c mk hv
      obtain ⟨x, hx, hr⟩ := Comp.run_bind hr
      refine JS.adv hLh hE hnd hal (JS.add (F := F.sys q) (ch := ch) (kill := kill) hE h hn' hia ho hd fun {X w a} hP hO hM hep hL => ?_) (hg.tail hia) hr
      have := Ys (X := X) (R := []) (g := []) (wr := wr) (L := lof (bitsOf os) os C L0 i (tmps o.op.operands.toList)) (by rw [hP]; exact hE) trivial hO hM o (fun t _ => fun e he hf => hL t e he hf) trivial
      rw [hep, hd, hv] at this
      rw [← hP]; exact this nf x hx
   ·cases hr
theorem JS.early (hLh : ∀ t φ, ¬ F.Lh t φ) (hE : E.ok F.P) (hsb : F.x.sb ≤ F.w0.heap.size) (hok : z8 F.N os = true) (hnd : ndD os = true) (hal : alOk E os ch al = true) (h : JS F al os L0 M0 n0 rest C s T a w X) (hm : al ∈ rest) (hT : T al = false) {o : Oper} (ho : os[al]? = some o) (hbef : ∀ k, bit (bitsOf os) al k = true → addS T al k = true) :
  ∀ (K : Act → World → Prop) (Q : Exit → Act → World → Prop), (∀ v w', (∃ q X', JS (F.sys q) al os L0 M0 n0 rest C s (addS T al) (a.put o.dst v) w' X' ∧ Gh E F q al os rest (addS T al) (a.put o.dst v)) → K (a.put o.dst v) w') → o.wp F.P a w K Q := by
 intro K Q hK
 unfold alOk at hal
 rw [ho] at hal
 simp only [MY] at hal
 obtain ⟨_, hal⟩ := hal
 split at hal
 ·rename_i Y d hop hd
  obtain ⟨i, hi⟩ := Option.isSome_iff_exists.1 hal
  obtain ⟨d', op, T0, pos, aft, g⟩ := o
  simp only at hop hd
  subst hop hd
  refine tM (Mb _) (hE.T Y i hi).ty K Q fun v w' hEx hv => hK v w' ?_
  obtain ⟨b, hb1, hb2, fr, hb3, hb4⟩ := hv
  have hg := h.rel.ghost hLh h.sL hEx hsb (d := some d) (v := v) hb1 hb3
  have hdN := ((zR hok ho).2.1 d rfl).1
  have hk : KX none X.O w (tag X.O (some b) F.x.st) w' := KX.tag hEx fun g hg => by cases hg; exact hb1
  have hle : X.le w { X with O := tag X.O (some b) F.x.st } w' := ⟨rfl, hk.keep (by simp), fun _ _ => rfl, Mb _, rfl⟩
  have mono : ∀ {φ : AV} {v : Value}, φ.holds X w v → φ.holds { X with O := tag X.O (some b) F.x.st } w' v := fun {φ v} hv => (φ.mono hle fun _ => hEx).1 v hv
  refine ⟨_, _, ⟨hg, h.sL, h.hn, h.l0, h.im, fun it hi' ht hf => ?_, fun t e he ht hf => ?_, fun it hi' ht => h.rd it hi' (Zk ht).1, fun j hj => ?_, h.nc, h.un, fun j o' hj => ?_, h.dst, h.st⟩, .inr ⟨hm, kb _ _, hbef, b, Y, d, i, _, _, ho, rfl, rfl, hi, ?_, fun c o hc => ⟨fun e => ?_, .inl hc⟩, .inr ⟨rfl, rfl⟩, Nat.le_trans h.rel.base.size hb1, fun w hw => ⟨fr, hw, hb4⟩⟩⟩
  ·have hne : it.i ≠ al := fun e => h.nc it hi' (by rw [e]; exact hm)
   obtain ⟨o', g1, g2⟩ := h.dst it hi'
   rw [vJ (fun e => hne (JG hnd g1 ho g2 (by rw [e])))]
   exact mono (h.c it hi' (uV ht hne) hf)
  ·have hne : d ≠ t := fun e => by
    have := ht al _ ho (by rw [e])
    rw [kb] at this; cases this
   rw [vJ hne]
   exact mono (h.l t e he (fun j o' hj hd' => (Zk (ht j o' hj hd')).1) hf)
  ·by_cases e : j = al
   ·exact .inr e
   ·refine .inl ?_
    have := (h.rs j hj).resolve_right e
    unfold addS
    rw [this, zV, decide_eq_false e]; rfl
  ·rcases h.cov j o' hj with h1 | ⟨h1, h2⟩ | h1
   ·exact .inl h1
   ·exact .inr (.inl ⟨h1, by simp [addS, h2]⟩)
   ·exact .inr (.inr h1)
  ·rw [y4 h.rel.fit hdN]; exact hb2
  ·have := (Array.getElem?_eq_some_iff.1 (h.rel.ex.sys c o hc).1.1).1
   omega
 ·cases hal
theorem JS.eff (hLh : ∀ t φ, ¬ F.Lh t φ) (hE : E.ok F.P) (hok : z8 F.N os = true) (hnd : ndD os = true) (hal : alOk E os ch al = true) {q : Nat → Obj → Prop} {i : Nat} (h : JS (F.sys q) al os L0 M0 n0 (i :: rest) C s T a w X) (hgh : Gh E F q al os (i :: rest) T a) (hTi : T i = false) (hch : memN i ch = true) (hr : (canX E wr (bitsOf os) os ch al kill L0 k (i :: rest) C s).run nf = some y)
  (haft : ∀ k, bit (bitsOf os) k i = true → T k = false) (hbef : ∀ k, bit (bitsOf os) i k = true → addS T i k = true) :
  ∃ o, os[i]? = some o ∧ ∀ (K : Act → World → Prop) (Q : Exit → Act → World → Prop), (∀ v w', (∃ rest' C' s' X' q', JS (F.sys q') al os L0 M0 n0 rest' C' s' (addS T i) (a.put o.dst v) w' X' ∧ Gh E F q' al os rest' (addS T i) (a.put o.dst v) ∧ (canX E wr (bitsOf os) os ch al kill L0 k rest' C' s').run nf = some y ∧ (∀ j l, rest' = j :: l → memN j ch = true ∧ addS T i j = false)) → K (a.put o.dst v) w') → o.wp F.P a w K Q := by
 simp only [canX] at hr
 split at hr
 ·rename_i o hn ho
  have hn' : i ∉ rest := fun hm => by rw [Zv.2 hm] at hn; cases hn
  rw [hch] at hr
  simp only at hr
  split at hr
  ·refine ⟨o, ho, fun K Q hK => ?_⟩
   have hCi : ∀ it ∈ C, it.i ≠ i := fun it hm e => h.nc it hm (by rw [e]; simp)
   let Xe : Cx := { X with n := s.n + 1 }
   have toe : ∀ {φ : AV} {v : Value}, φ.holds X w v → φ.holds Xe w v := fun {φ v} hv => (φ.mono (X := X) (X' := Xe) (w := w) (w' := w) ⟨rfl, Keep.refl _ _ _, fun _ _ => rfl, by rw [h.rel.n]; exact Nat.le_succ _, rfl⟩ fun _ => Ext.refl _).1 v hv
   have hcase : ∀ t e, look (lof (bitsOf os) os C L0 i (tmps o.op.operands.toList)) t = some e → (wOf os 0 t = none ∧ look L0 t = some e) ∨ (∃ j, wOf os 0 t = some j ∧ bit (bitsOf os) j i = true ∧ look L0 t = some e) ∨ (∃ jt ∈ C, jt.i ≠ i ∧ wOf os 0 t = some jt.i ∧ bit (bitsOf os) i jt.i = true ∧ (jt.n, jt.φ) = e) := fun t e he => by
    rcases u6 (Yi he) with g | g | ⟨jt, g1, g2⟩
    ·exact .inl g
    ·exact .inr (.inl g)
    ·exact .inr (.inr ⟨jt, g1, hCi jt g1, g2⟩)
   have h0 := h.hrel i
   have hrel : RelX { F.sys q with Lh := frmX s.ep os L0 C T i, fe := s.n } { L := lof (bitsOf os) os C L0 i (tmps o.op.operands.toList), M := s.M, n := s.n + 1, ep := s.ep } a w Xe := by
    refine ⟨h0.P, h0.A, h0.Fn, h0.n, h0.ep, h0.ok0, h0.fit, h0.base, fun t e he hf => toe (h.opnd hnd haft hbef (hcase t e he) (by rw [← h0.ep]; exact hf)), h0.m, fun t e he => ?_, h0.mn, h0.inj, h0.pos, h0.epn, h0.fe, h0.lh, h0.bl, h0.ex⟩
    rcases hcase t e he with ⟨_, g⟩ | ⟨_, _, _, g⟩ | ⟨jt, g1, _, _, _, g⟩
    ·have := h.l0 t e g; have := h.hn; show e.1 < s.n + 1; omega
    ·have := h.l0 t e g; have := h.hn; show e.1 < s.n + 1; omega
    ·rw [← g]; have := (h.st jt g1).2; show jt.n < s.n + 1; omega
   have hgh2 : ∀ v, Gh E F q al os rest (addS T i) (a.put o.dst v) := fun v => by
    by_cases hia : i = al
    ·subst hia
     exact .inl ⟨hgh.no fun _ => hTi, fun hm => absurd hm hn'⟩
    ·exact (hgh.tail hia).step hnd ho (fun _ => hia) v
   refine Jh (F := { F.sys q with Lh := frmX s.ep os L0 C T i, fe := s.n }) hE ⟨_, hrel⟩ wr o (fun t ht => ⟨((zR hok ho).2.1 t ht).1, fun φ hp => hp.1 o ho ht⟩) nf y hr K Q fun s' v w' hR' hi' hr' => hK v w' ?_
   obtain ⟨X', hX'⟩ := hR'
   split at hr'
   ·rename_i hst
    rw [MY] at hst
    obtain ⟨hmo, hst⟩ := hst
    have hmo := Nat.le_of_ble_eq_true hmo
    split at hr'
    ·rename_i hd
     obtain ⟨rest', C', s2, X2, q', g⟩ := JS.adv hLh hE hnd hal (JS.nxt (F := F.sys q) (q := q) (nw := []) hLh hnd h hn' ho hbef hX' hi' hmo hst (fun _ hm => nomatch hm) (fun _ hm => nomatch hm) (.inl hd)) (hgh2 v) hr'
     exact ⟨rest', C', s2, X2, q', g⟩
    ·rename_i d hd
     split at hr'
     ·rename_i e he
      split at hr'
      ·rename_i hb
       obtain ⟨rest', C', s2, X2, q', g⟩ := JS.adv hLh hE hnd hal (JS.nxt (F := F.sys q) (q := q) (nw := [⟨i, d, e.1, e.2, [], [], s.n + 1000000000⟩]) hLh hnd h hn' ho hbef hX' hi' hmo hst (fun it hm => by
        obtain rfl := List.mem_singleton.1 hm
        exact ⟨rfl, hd, he, Nat.le_of_ble_eq_true hb⟩) (fun it hm it' hm' => by rw [List.mem_singleton.1 hm, List.mem_singleton.1 hm']) (.inr ⟨_, List.Mem.head _⟩)) (hgh2 v) hr'
       exact ⟨rest', C', s2, X2, q', g⟩
      ·cases hr'
     ·cases hr'
   ·cases hr'
  ·cases hr
 ·cases hr
theorem rT {b : Array Nat} {i : Nat} (hch : memN i ch = true) (hr : (canX E wr b os ch al kill L0 k (i :: rest) C s).run nf = some y) : K2 b i (dropN al rest) = true := by
 simp only [canX] at hr
 split at hr
 ·rw [hch] at hr
  simp only at hr
  split at hr
  ·rename_i h; exact h
  ·cases hr
 ·cases hr
theorem qa : ∀ os : List Oper, AllSt TrueE (os.map fun _ => SP.tt)
 | [] => .nil
 | _ :: os => .cons (Gv _) (qa os)
end
theorem GG {F : Frm} (hLh : ∀ t φ, ¬ F.Lh t φ) {E : VE} (hE : E.ok F.P) {s0 s : S} {a : Act} {w : World} (hR : Rel F s a w) (hi : Inv s0 s) {os : List Oper} {id nf : Nat} {draw : Bool} {ch can : List Nat} {kl : List (Nat × List Nat)} {β : Type} {y : β} {k : S → Comp β} {Q : Exit → Act → World → Prop} (hm : F.P.follows .mixedOrders = true) (hsb : F.x.sb ≤ F.w0.heap.size)
  (hok : okReg F.N os = true) (h : (denX E os ch can kl s k).run nf = some y) (hK : ∀ s' a' w', Rel F s' a' w' → Inv s0 s' → (k s').run nf = some y → Q .normal a' w') : F.wp (Code.region id os.toArray draw) Q a w := by
 have hokI := hok
 replace hok := YO hok
 unfold denX at h
 split at h
 ·rename_i hb
  simp only [MY] at hb
  obtain ⟨hnd, hng, hall, hal⟩ := hb
  generalize hale : alX (bitsOf os) os ch ch = al at h hal
  obtain ⟨X, hX⟩ := hR
  let J : (Nat → Bool) → Act → World → Prop := fun T a w => ∃ rest C s' X' q, JS (F.sys q) al os s.L s.M s.n rest C s' T a w X' ∧ Gh E F q al os rest T a ∧ (canX E (wrS os) (bitsOf os) os ch al (killX s.L s.M (refsX s.L (wrS os ++ appS os)) kl) s.L k rest C s').run nf = some y ∧ (∀ i l, rest = i :: l → memN i ch = true ∧ T i = false)
  have obl : ∀ (os' : List Oper) (i : Nat), (∀ j, os'[j]? = os[i + j]?) → OblsX J F.P F.N F.D os (os.map fun _ => SP.tt) a i os' (os'.map fun _ => SP.tt) := by
   intro os'
   induction os' with
   | nil => exact fun _ _ => .nil
   | cons o os' ih =>
    intro i hos
    have ho : os[i]? = some o := by have := hos 0; simpa using this.symm
    refine .cons (fun T a' w' hfit hJ hTi haft hbef _ _ K Q hcont => ?_) (ih (i + 1) fun j => by have := hos (j + 1); simp only [List.getElem?_cons_succ] at this; rw [this]; congr 1; omega)
    obtain ⟨rest, C, s', X', q, hJS, hgh, hrun, hbd⟩ := hJ
    rcases hJS.cov i o ho with hr | ⟨_, h2⟩ | ⟨it, hm', rfl⟩
    ·match rest, hr, hJS, hgh, hrun, hbd with
     | e :: l, hr, hJS, hgh, hrun, hbd =>
      obtain ⟨hch, hTe⟩ := hbd e l rfl
      rcases List.mem_cons.1 hr with rfl | hr'
      ·obtain ⟨o', g1, g2⟩ := hJS.eff hLh hE hok hnd hal hgh hTe hch hrun haft hbef
       rw [ho] at g1; cases g1
       exact g2 K Q fun v w' hJ' => hcont v w' hJ' trivial
      ·by_cases hia : i = al
       ·subst hia
        obtain rfl := hgh.no fun _ => hTi
        refine JS.early hLh hE hsb hok hnd hal hJS hr hTi ho hbef K Q fun v w' hJ' => hcont v w' ?_ trivial
        obtain ⟨q, X2, g1, g2⟩ := hJ'
        refine ⟨_, C, s', X2, q, g1, g2, hrun, fun j l' he => ?_⟩
        cases he
        refine ⟨hch, ?_⟩
        have hne : e ≠ i := fun e' => by
         subst e'
         simp only [canX] at hrun
         split at hrun
         ·rename_i hn _
          rw [Zv.2 hr'] at hn; cases hn
         ·cases hrun
        unfold addS
        rw [hTe, zV, decide_eq_false hne]; rfl
       ·have g1 := K1 (rT hch hrun) i (KI hr' hia)
        have g2 := hbef e g1
        have g4 : e = i := by
         unfold addS at g2
         rw [hTe, Bool.false_or] at g2
         exact MX g2
        subst g4
        obtain ⟨o', g1, g2⟩ := hJS.eff hLh hE hok hnd hal hgh hTe hch hrun haft hbef
        rw [ho] at g1; cases g1
        exact g2 K Q fun v w' hJ' => hcont v w' hJ' trivial
    ·rw [hTi] at h2; cases h2
    ·obtain ⟨o', g1, g2⟩ := JS.val (F := F.sys q) hLh hok hnd hJS hm' hTi haft hbef
     rw [ho] at g1; cases g1
     refine g2 K Q fun v w' hEx hJ' => hcont v w' ⟨rest, C, s', X', q, hJ' hEx, hgh.step hnd ho (fun hm2 e => hJS.nc it hm' (by rw [e]; exact hm2)) v, hrun, fun j l he => ⟨(hbd j l he).1, ?_⟩⟩ trivial
     have hne : j ≠ it.i := fun e => hJS.nc it hm' (by rw [← e, he]; simp)
     unfold addS
     rw [(hbd j l he).2, zV, decide_eq_false hne]; rfl
  refine J9 (fun _ => hm) (Gz Yl (fun i o ho => tN hokI i o (by simpa using ho)) ?_)
  refine Az J (os.map fun _ => SP.tt) hX.fit (qa os) (obl os 0 fun j => by simp) (fun i o S a' w' ho hact => ?_) (fun w1 hEx => ?_) hok ?_ fun a' w' hfit _ hJ => ?_
  ·rw [Yq ho (mF hng o (List.mem_of_getElem? ho))] at hact; cases hact
  ·have hX0 : RelX F { s with L := [] } a w1 X := hX.go hX.fit rfl rfl rfl (fun _ _ => Keep.ext hEx) (fun _ _ => rfl) hX.n hX.ep (Mb _) hX.epn (hX.base.step hEx hX.ok0) (fun hf => ⟨hf, hEx⟩) (fun _ _ _ => rfl) (fun t e he => nomatch he) (fun k e he => .inr ⟨he, rfl, fun _ => Keep.ext hEx⟩) hX.inj hX.pos
   have h0 : JS (F.sys F.x.sys) al os s.L s.M s.n can [] { s with L := [] } (fun _ => false) a w1 X := by
    refine ⟨hX0, rfl, Mb _, hX.ln, fun k e he _ => he, fun it hm => (nomatch hm), fun t e he _ hf => ?_, fun it hm => (nomatch hm), fun _ _ => .inl rfl, fun it hm => (nomatch hm), fun it hm => (nomatch hm), fun i o ho => .inl (qb hall i (List.getElem?_eq_some_iff.1 ho).1), fun it hm => (nomatch hm), fun it hm => (nomatch hm)⟩
    exact e.2.ext hEx (hX.l t e he (by rw [hX.ep]; exact hf))
   exact JS.adv hLh hE hnd hal h0 (.inl ⟨rfl, fun _ => rfl⟩) h
  ·unfold jU
   rw [List.all_eq_true]
   intro o ho
   rw [mF hng o ho]
  ·obtain ⟨rest, C, s', X', q, hJS, hgh, hrun, hbd⟩ := hJ
   cases rest with
   | cons i l =>
    exfalso
    have g1 : Nat.blt i os.length = false := (hbd i l rfl).2
    rw [zX] at g1
    have g2 : os.length ≤ i := by simpa using g1
    simp only [canX] at hrun
    split at hrun
    ·rename_i o _ ho
     have := (List.getElem?_eq_some_iff.1 ho).1
     omega
    ·cases hrun
   | nil =>
    obtain rfl := hgh.no fun hm => nomatch hm
    have hlt : ∀ it ∈ C, Nat.blt it.i os.length = true := fun it hm => by
     obtain ⟨o, g1, _⟩ := hJS.dst it hm
     rw [zX]; exact decide_eq_true (List.getElem?_eq_some_iff.1 g1).1
    have hcl : ∀ t e, look (outL C ++ s.L) t = some e → (∃ it ∈ C, it.d = t ∧ (it.n, it.φ) = e) ∨ (look s.L t = some e ∧ ∀ (j : Nat) (o : Oper), os[j]? = some o → o.dst ≠ some t) := fun t e he => by
     rcases kC he with g | ⟨g1, g2⟩
     ·exact .inl (Kn g)
     ·refine .inr ⟨g2, fun j o hj hd => ?_⟩
      rcases hJS.cov j o hj with g | ⟨g, _⟩ | ⟨it, g3, g4⟩
      ·cases g
      ·rw [hd] at g; cases g
      ·obtain ⟨o', g5, g6⟩ := hJS.dst it g3
       rw [g4, hj] at g5; cases g5
       rw [hd] at g6; cases g6
       exact Km g1 it g3 rfl
    let X1 : Cx := { X' with n := s'.n + 1 }
    have to1 : ∀ {φ : AV} {v : Value}, φ.holds X' w' v → φ.holds X1 w' v := fun {φ v} hv => (φ.mono (X := X') (X' := X1) (w := w') (w' := w') ⟨rfl, Keep.refl _ _ _, fun _ _ => rfl, by rw [hJS.rel.n]; exact Nat.le_succ _, rfl⟩ fun _ => Ext.refl _).1 v hv
    refine hK _ a' w' ⟨X1, hJS.rel.go (X' := X1) (s' := { s' with L := outL C ++ s.L, n := s'.n + 1 }) hJS.rel.fit rfl rfl rfl (fun _ _ => Keep.refl _ _ _) (fun _ _ => rfl) rfl hJS.rel.ep (Nat.le_succ _) (Nat.le_succ_of_le hJS.rel.epn) hJS.rel.base (fun hf => ⟨hf, Ext.refl _⟩) (fun _ _ _ => rfl) (fun t e he => .inl ?_) (fun k e he => .inr ⟨he, rfl, fun _ => Keep.refl _ _ _⟩) hJS.rel.inj hJS.rel.pos⟩ (hi.trans ⟨?_, fun t e he hlt' => ?_, hJS.im⟩) hrun
    ·rcases hcl t e he with ⟨it, g1, g2, g3⟩ | ⟨g1, g2⟩
     ·subst g3
      refine ⟨Nat.lt_succ_of_le (hJS.st it g1).2, fun hf => ?_⟩
      rw [← g2]; exact to1 (hJS.c it g1 (hlt it g1) hf)
     ·refine ⟨?_, fun hf => to1 (hJS.l t e g1 (fun j o hj hd => absurd hd (g2 j o hj)) hf)⟩
      have := hJS.l0 t e g1; have := hJS.hn; show e.1 < s'.n + 1; omega
    ·exact Nat.le_succ_of_le hJS.hn
    ·rcases hcl t e he with ⟨it, g1, g2, g3⟩ | ⟨g1, g2⟩
     ·rw [← g3] at hlt'
      have := (hJS.st it g1).1
      change it.n < s.n at hlt'
      omega
     ·exact g1
 ·cases h
end Go.Den
end
section
namespace Go.Den
open Go Go.RowKit Go.Eng Go.Lift
variable {α β γ δ : Type}
def exG : AV → Option (Option Bool)
 | .ex (.bool b) => some (some b)
 | .ex (.tuple vs) => match vs.toList with
  | [] => some none
  | _ => none
 | _ => none
theorem qJ {φ : AV} {b : Bool} (h : exG φ = some (some b)) : φ = .ex (.bool b) := by
 unfold exG at h; split at h
 ·cases h; rfl
 ·split at h <;> cases h
 ·cases h
theorem qK {φ : AV} (h : exG φ = some none) : φ = .ex undef := by
 unfold exG at h; split at h
 ·cases h
 ·rename_i vs
  split at h
  ·rename_i e
   have : vs = #[] := Array.ext' (by simpa using e)
   rw [this]; rfl
  ·cases h
 ·cases h
def dstAt (all : List Oper) (i : Nat) : Option Tmp := match all[i]? with
 | some o => o.dst
 | none => none
def wantB (b : Option Bool) (w : Bool) : Bool := match b, w with
 | some true, true => true
 | some false, false => true
 | _, _ => false
def stepC (E : VE) (wr : List Nat) (all : List Oper) (k : S → Comp β) : List Oper → S → Comp β
 | [], s => k s
 | o :: os, s => match o.guard with
  | none => step E wr s o (stepC E wr all k os)
  | some g => match dstAt all g.1 with
   | none => Comp.fail
   | some t => match rdO s.ep s.L [] [] (.tmp t) with
    | none => Comp.fail
    | some φ => match exG φ with
     | some b => match wantB b g.2 with
      | true => step E wr s o (stepC E wr all k os)
      | false => stepC E wr all k os (s.put o.dst (.ex undef))
     | none => match φ.bool? with
      | none => Comp.fail
      | some b => if gB b g.2 = true then step E wr (s.put (some t) (.ex (.bool g.2))) o (stepC E wr all k os) else stepC E wr all k os ((s.put (some t) (.ex (.bool (ntB g.2)))).put o.dst (.ex undef))
section
variable {F : Frm} {E : VE} {k : S → Comp β}
theorem Rel.know {s : S} {a : Act} {w : World} {X : Cx} (h : RelX F s a w X) {t : Nat} {φ : AV} (hφ : ∀ X' : Cx, X'.P = X.P → φ.holds X' w (a.get t)) : Rel F (s.put (some t) φ) a w := by
 refine ⟨{ X with n := s.n + 1 }, h.go h.fit rfl rfl rfl (fun _ _ => Keep.refl _ _ _) (fun _ _ => rfl) rfl h.ep (Nat.le_succ _) (Nat.le_succ_of_le h.epn) h.base (fun hf => ⟨hf, Ext.refl _⟩) (fun _ _ _ => rfl) (fun u e he => ?_) (fun k e he => .inr ⟨he, rfl, fun _ => Keep.refl _ _ _⟩) h.inj h.pos⟩
 rcases zF he with ⟨h1, h2⟩ | ⟨h1, h2⟩
 ·subst h1 h2; exact .inl ⟨Nat.lt_succ_self _, fun _ => hφ _ rfl⟩
 ·exact .inr ⟨h2, rfl, fun hfr hf => ⟨hf, Ext.refl _⟩⟩
theorem Rel.skip {s : S} {a : Act} {w : World} (h : Rel F s a w) {d : Option Tmp} (hd : F.dst d) : Rel F (s.put d (.ex undef)) (a.put d undef) w := by
 obtain ⟨X, hX⟩ := h
 exact ⟨_, hX.val (Ext.refl w) hd (show (AV.ex undef).holds X w undef from rfl)⟩
theorem j5 {all : List Oper} {a : Act} {g t : Nat} (hd : dstAt all g = some t) {b : Bool} (h : a.get t = .bool b) : yielded all.toArray a.tmps g = some b := by
 unfold dstAt at hd
 split at hd
 ·rename_i o ho
  have h1 : all.toArray[g]? = some o := by simpa using ho
  unfold yielded
  simp only [h1, MW, hd]
  have h2 : a.tmps.getD t undef = .bool b := h
  rw [Array.getD_eq_getD_getElem?] at h2
  cases h3 : a.tmps[t]? with
  | none => rw [h3] at h2; simp [undef] at h2
  | some v => rw [h3] at h2; simp only [Option.getD_some] at h2; subst h2; rfl
 ·cases hd
theorem Zy {all : List Oper} {a : Act} {g t : Nat} (hd : dstAt all g = some t) (h : a.get t = undef) : yielded all.toArray a.tmps g = none := by
 unfold dstAt at hd
 split at hd
 ·rename_i o ho
  have h1 : all.toArray[g]? = some o := by simpa using ho
  unfold yielded
  simp only [h1, MW, hd]
  have h2 : a.tmps.getD t undef = undef := h
  rw [Array.getD_eq_getD_getElem?] at h2
  cases h3 : a.tmps[t]? with
  | none => rfl
  | some v => rw [h3] at h2; simp only [Option.getD_some] at h2; subst h2; rfl
 ·cases hd
theorem C8 {b w : Bool} : gB b w = true ↔ b = w := by cases b <;> cases w <;> decide
theorem Cw {b w : Bool} (h : ¬ gB b w = true) : b = ntB w := by cases b <;> cases w <;> first | rfl | exact absurd rfl h
theorem Yg (hE : E.ok F.P) (wr : List Nat) {all : List Oper} {nf : Nat} {y : β} {Q : Exit → Act → World → Prop} {s0 : S} : ∀ {os : List Oper} {s : S} {a : Act} {w : World}, Rel F s a w → Inv s0 s → (stepC E wr all k os s).run nf = some y → (∀ o ∈ os, (∀ c, o.op ≠ .defer c) ∧ F.dst o.dst) →
  (∀ s' a' w', Rel F s' a' w' → Inv s0 s' → (k s').run nf = some y → Q .normal a' w') → gList (F.W Q) all.toArray (Q .normal) os a w
 | [], s, a, w, h, hi, hr, _, hK => hK s a w h hi hr
 | o :: os, s, a, w, h, hi, hr, ho, hK => by
  have h1 := ho o (by simp)
  have ho' : ∀ o ∈ os, (∀ c, o.op ≠ .defer c) ∧ F.dst o.dst := fun o' ho' => ho o' (by simp [ho'])
  have act : ∀ {s : S}, Rel F s a w → Inv s0 s → (step E wr s o (stepC E wr all k os)).run nf = some y → Region.wanted o (yielded all.toArray a.tmps) = true → gList (F.W Q) all.toArray (Q .normal) (o :: os) a w := fun {s} h hi hr hw => by
   simp only [gList, hw, if_true]
   refine Zd h1.1 (Jh (k := stepC E wr all k os) hE h wr o h1.2 nf y hr _ _ fun s' v w' hR hi' hr' => ?_)
   exact Yg hE wr hR (hi.trans hi') hr' ho' hK
  have off : ∀ {s : S}, Rel F s a w → Inv s0 s → (stepC E wr all k os (s.put o.dst (.ex undef))).run nf = some y → Region.wanted o (yielded all.toArray a.tmps) = false → gList (F.W Q) all.toArray (Q .normal) (o :: os) a w := fun {s} h hi hr hw => by
   simp only [gList, hw, Bool.false_eq_true, if_false]
   exact Yg hE wr (h.skip h1.2) (hi.trans (Inv.put _ _ _)) hr ho' hK
  simp only [stepC] at hr
  split at hr
  ·rename_i hg
   exact act h hi hr (by simp [Region.wanted, hg])
  ·rename_i g hg
   have hwant : Region.wanted o (yielded all.toArray a.tmps) = (yielded all.toArray a.tmps g.1 == some g.2) := by simp [Region.wanted, hg]
   split at hr
   ·cases hr
   ·rename_i t ht
    split at hr
    ·cases hr
    ·rename_i φ hφ
     obtain ⟨X, hX⟩ := h
     rw [← hX.ep] at hφ
     have hv : φ.holds X w (a.get t) := hX.rd #[.tmp t] (.tmp t) φ (by simp) hφ
     split at hr
     ·rename_i b hb
      have hy : yielded all.toArray a.tmps g.1 = b := by
       cases b with
       | none => rw [qK hb] at hv; exact Zy ht hv
       | some b => rw [qJ hb] at hv; exact j5 ht hv
      rw [hy] at hwant
      split at hr
      ·rename_i hw
       refine act ⟨X, hX⟩ hi hr ?_
       rw [hwant]
       unfold wantB at hw
       split at hw <;> first | simp_all | cases hw
      ·rename_i hw
       refine off ⟨X, hX⟩ hi hr ?_
       rw [hwant]
       cases b with
       | none => rfl
       | some b =>
        generalize g.2 = v at hw
        cases b <;> cases v <;> first | rfl | (simp [wantB] at hw)
     ·split at hr
      ·cases hr
      ·rename_i b hb
       have hab : a.get t = .bool b := by rw [AV.kZ hb] at hv; exact jj.1 hv
       have hy := j5 ht hab
       rw [hy] at hwant
       split at hr
       ·rename_i hgb
        have e := C8.1 hgb
        refine act (Rel.know hX (φ := .ex (.bool g.2)) fun X' _ => (by rw [hab, e]; exact rfl)) (hi.trans (Inv.put _ _ _)) hr ?_
        rw [hwant, e]; simp
       ·rename_i hgb
        have e := Cw hgb
        refine off (Rel.know hX (φ := .ex (.bool (ntB g.2))) fun X' _ => (by rw [hab, e]; exact rfl)) (hi.trans (Inv.put _ _ _)) hr ?_
        rw [hwant, e]; cases g.2 <;> rfl
theorem GK (hLh : ∀ t φ, ¬ F.Lh t φ) (hE : E.ok F.P) {s0 s : S} {a : Act} {w : World} (hR : Rel F s a w) (hi : Inv s0 s) {os : List Oper} {id nf : Nat} {y : β} {Q : Exit → Act → World → Prop}
  (hok : okReg F.N os = true) (h : (stepC E (wrS os) os k os s).run nf = some y) (hK : ∀ s' a' w', Rel F s' a' w' → Inv s0 s' → (k s').run nf = some y → Q .normal a' w') : F.wp (Code.region id os.toArray false) Q a w := by
 have key : gList (F.W Q) os.toArray (Q .normal) os a w := Yg hE (wrS os) hR hi h (fun o ho => ⟨J2 hok o ho, fun t ht => ?_⟩) hK
 ·refine J9 (fun h => nomatch h) ?_
  show gOps (F.W Q) os.toArray (Q .normal) (List.range os.toArray.size) a w
  rw [List.range_eq_range', List.size_toArray, k9 os 0 (by simp)]; exact key
 obtain ⟨j, hj⟩ := List.mem_iff_getElem?.1 ho
 exact ⟨((zR (YO hok) hj).2.1 t ht).1, fun φ => hLh t φ⟩
end
end Go.Den
end
section
namespace Go.Den
open Go Go.RowKit Go.Eng Go.Lift
variable {α β γ δ σ ε : Type}
def foldL (body : σ → α → Comp (Comp.Step σ ε)) : List α → σ → Comp (Comp.Step σ ε)
 | [], s => Comp.pure (.next s)
 | x :: xs, s => (body s x).bind fun r => match r with
  | .next s' => foldL body xs s'
  | .done e => Comp.pure (.done e)
def S.tick (s : S) : S := { s with n := s.n + 1, ep := s.n }
def uu (n : Nat) : LS → LS
 | [] => []
 | e :: L => (match e.2.2.frail with
  | true => (e.1, n, .top)
  | false => e) :: uu n L
def S.solid (s : S) : S := { s with L := uu s.n s.L, n := s.n + 1 }
def S.back (s : S) (L : LS) : S := { s with L := L }
theorem Inv.tick (s : S) : Inv s s.tick := ⟨Nat.le_succ _, fun _ _ h _ => h, fun _ _ h _ => h⟩
theorem jg {n : Nat} : ∀ {L : LS} {t : Nat} {e : Nat × AV}, look (uu n L) t = some e → e.2.frail = false ∧ (look L t = some e ∨ e = (n, .top))
 | [], t, e, h => by cases h
 | f :: L, t, e, h => by
  obtain ⟨t0, n0, φ⟩ := f
  simp only [uu] at h
  cases hf : φ.frail with
  | true =>
   rw [hf] at h
   rcases zF h with ⟨h1, h2⟩ | ⟨h1, h2⟩
   ·exact ⟨by rw [← h2]; rfl, .inr h2.symm⟩
   ·obtain ⟨g1, g2⟩ := jg h2
    exact ⟨g1, g2.imp (fun g => by simp only [look]; rw [show Nat.beq t0 t = false by rw [zV]; simpa using h1]; exact g) id⟩
  | false =>
   rw [hf] at h
   rcases zF h with ⟨h1, h2⟩ | ⟨h1, h2⟩
   ·refine ⟨by rw [← h2]; exact hf, .inl ?_⟩
    simp only [look]; rw [show Nat.beq t0 t = true by rw [zV]; simpa using h1]; exact congrArg some h2
   ·obtain ⟨g1, g2⟩ := jg h2
    exact ⟨g1, g2.imp (fun g => by simp only [look]; rw [show Nat.beq t0 t = false by rw [zV]; simpa using h1]; exact g) id⟩
theorem Inv.solid (s : S) : Inv s s.solid := ⟨Nat.le_succ _, fun t e h hl => by
 rcases (jg h).2 with h1 | h1
 ·exact h1
 ·rw [h1] at hl; exact absurd hl (Nat.lt_irrefl _), fun _ _ h _ => h⟩
section
variable {F : Frm} {s : S} {a : Act} {w w' : World} {X : Cx}
theorem RelX.conv (h : RelX F s a w X) {F' : Frm} {L' : LS} {a' : Act} (hP : F'.P = F.P) (hA : F'.A = F.A) (hO : F'.O0 = F.O0) (hw : F'.w0 = F.w0) (hLh : ∀ t φ, ¬ F'.Lh t φ) (hfe : F'.fe = F.fe) (hbl : F'.bl = F.bl) (hst : F'.x.st = F.x.st)
  (hfit : a'.fitD F'.N F'.D) (hL : KnowL L' X w a') (hln : ∀ t e, look L' t = some e → e.1 < s.n) (hex : Exx F'.x X w) : RelX F' { s with L := L' } a' w X :=
 ⟨h.P.trans hP.symm, h.A.trans hA.symm, by rw [hw]; exact h.Fn, h.n, h.ep, by rw [hO, hw]; exact h.ok0, hfit, by rw [hA, hO, hw]; exact h.base, hL, h.m, hln, h.mn, h.inj, by rw [hst]; exact h.pos, h.epn, by rw [hfe]; exact h.fe, fun t φ hp => absurd hp (hLh t φ), by rw [hbl]; exact h.bl, hex⟩
theorem RelX.solid (h : RelX F s a w X) (hLh : ∀ t φ, ¬ F.Lh t φ) : RelX F s.solid a w { X with n := s.n + 1 } := by
 have hle : X.le w { X with n := s.n + 1 } w := ⟨rfl, Keep.refl _ _ _, fun _ _ => rfl, by rw [h.n]; exact Nat.le_succ _, rfl⟩
 refine h.go h.fit rfl rfl rfl (fun _ _ => Keep.refl _ _ _) (fun _ _ => rfl) rfl h.ep (Nat.le_succ _) (Nat.le_succ_of_le h.epn) h.base (fun hf => ⟨hf, Ext.refl _⟩) (fun _ _ _ => rfl) (fun t e he => ?_) (fun k e he => .inr ⟨he, rfl, fun _ => Keep.refl _ _ _⟩) h.inj h.pos
 rcases jg he with ⟨h1, h2 | h2⟩
 ·exact .inr ⟨h2, rfl, fun hf => by rw [h1] at hf; cases hf⟩
 ·subst h2; exact .inl ⟨Nat.lt_succ_self _, fun _ => trivial⟩
theorem RelX.CW (h : RelX F s a w X) (hsb : F.x.sb = F.w0.heap.size) (o0 : Obj) : RelX (F.sys fun c o => F.x.sys c o ∨ (c = w.heap.size ∧ o = o0)) s a (w.alloc o0) { X with O := tag X.O (some w.heap.size) F.x.st } := by
 have hE := Ext.alloc w o0
 have hk : KX none X.O w (tag X.O (some w.heap.size) F.x.st) (w.alloc o0) := KX.tag hE fun g hg => by cases hg; exact Mb _
 have hB : Base F.A F.O0 F.w0 (tag X.O (some w.heap.size) F.x.st) (w.alloc o0) := (h.base.step hE h.ok0).tag h.ex.st (fun g hg => by cases hg; exact ⟨h.base.new _ h.base.size, by simp⟩)
 have h1 : RelX F s a (w.alloc o0) { X with O := tag X.O (some w.heap.size) F.x.st } := h.go h.fit rfl rfl rfl (fun _ _ => hk.keep (by simp)) (fun _ _ => rfl) h.n h.ep (Mb _) h.epn hB (fun hf => ⟨hf, hE⟩) (fun _ _ _ => rfl) (fun t e he => .inr ⟨he, rfl, fun _ hf => ⟨hf, hE⟩⟩) (fun k e he => .inr ⟨he, rfl, fun _ => hk.keep (by simp)⟩) h.inj h.pos
 refine ⟨h1.P, h1.A, h1.Fn, h1.n, h1.ep, h1.ok0, h1.fit, h1.base, h1.l, h1.m, h1.ln, h1.mn, h1.inj, h1.pos, h1.epn, h1.fe, h1.lh, h1.bl, h1.ex.st, fun c o hc => ?_, h1.ex.kv, h1.ex.since, h1.ex.L⟩
 rcases hc with hc | ⟨rfl, rfl⟩
 ·exact h1.ex.sys c o hc
 ·exact ⟨⟨World.alloc_heap_new w _, yb _ _ _⟩, show F.x.sb ≤ w.heap.size by rw [hsb]; exact h.base.size⟩
theorem RelX.ext (h : RelX F s a w X) (hE : Ext w w') : RelX F s a w' X :=
 h.go h.fit rfl rfl rfl (fun _ _ => Keep.ext hE) (fun _ _ => rfl) h.n h.ep (Mb _) h.epn (h.base.step hE h.ok0) (fun hf => ⟨hf, hE⟩) (fun _ _ _ => rfl) (fun t e he => .inr ⟨he, rfl, fun _ hf => ⟨hf, hE⟩⟩) (fun k e he => .inr ⟨he, rfl, fun _ => Keep.ext hE⟩) h.inj h.pos
end
theorem Frm.To.sys {F F' : Frm} (h : F.To F') {b : Nat} {o : Obj} (hs : F.x.sys b o) : F'.x.sys b o := by
 induction h with
 | refl => exact hs
 | mark _ _ _ _ ih => exact .inl ih
theorem Frm.Same.Aa {A B C : Frm} {q : Nat → Obj → Prop} (h1 : A.Same B) (h2 : (B.sys q).Same C) : A.Same C :=
 ⟨h2.P.trans h1.P, h2.N.trans h1.N, h2.A.trans h1.A, h2.O0.trans h1.O0, h2.w0.trans h1.w0, h2.Lh.trans h1.Lh, h2.fe.trans h1.fe, h2.bl.trans h1.bl, h2.st.trans h1.st, h2.kv.trans h1.kv, h2.sO.trans h1.sO, h2.sw.trans h1.sw, h2.rd.trans h1.rd, h2.Lp.trans h1.Lp, h2.sb.trans h1.sb, h2.nr.trans h1.nr⟩
def bindV {β : Type} (a : Ty) (x : a.D) (k : AV → Comp β) : Comp β := match a, x with
 | .slo e, x => match (x : Option (List e.D)) with
  | none => k (.ex (.slice none 0 0))
  | some xs => k (.rd (.sl e) xs)
 | a, x => k (.rd a x)
def bindP {β : Type} : List Nat → (t : Ty) → t.D → S → (S → Comp β) → Comp β
 | p :: ps, .cons a b, x, s, k => bindV a x.1 fun φ => bindP ps b x.2 (s.put (some p) φ) k
 | [], .nil, _, s, k => k s
 | _, _, _, _, _ => Comp.fail
theorem CG {β : Type} {X : Cx} {w : World} {v : Value} {a : Ty} {x : a.D} (h : (a.gr X.P).v X.O w v x) {k : AV → Comp β} {nf : Nat} {y : β} (hr : (bindV a x k).run nf = some y) : ∃ φ, (k φ).run nf = some y ∧ ∀ X' : Cx, X'.P = X.P → X'.O = X.O → φ.holds X' w v := by
 have gen : ∀ {a : Ty} {x : a.D}, (a.gr X.P).v X.O w v x → (k (.rd a x)).run nf = some y → ∃ φ, (k φ).run nf = some y ∧ ∀ X' : Cx, X'.P = X.P → X'.O = X.O → φ.holds X' w v := fun {a x} h hr => ⟨_, hr, fun X' e1 e2 => by show (a.gr X'.P).v X'.O w v x; rw [e1, e2]; exact h⟩
 cases a <;> try exact gen h hr
 rename_i e
 cases x with
 | none =>
  refine ⟨_, hr, fun X' _ _ => ?_⟩
  obtain ⟨cs, h1, h2⟩ := h
  rw [show cs = _ from h1] at h2
  exact h2
 | some xs =>
  refine ⟨_, hr, fun X' e1 e2 => ?_⟩
  obtain ⟨cs, h1, h2⟩ := h
  show ((Ty.sl e).gr X'.P).v X'.O w v xs
  rw [e1, e2]; exact ⟨cs, h1, h2⟩
def putP : List Nat → List Value → Act → Act
 | p :: ps, v :: vs, a => putP ps vs (a.put (some p) v)
 | _, _, a => a
theorem p7 : ∀ (ps : List Nat) (vs : List Value) (a : Act), putP ps vs a = { tmps := (ps.zip vs).foldl (fun t p => t.setIfInBounds p.1 p.2) a.tmps, defers := a.defers }
 | [], _, _ => rfl
 | _ :: _, [], _ => rfl
 | p :: ps, v :: vs, a => by rw [putP, p7 ps vs]; rfl
def psOk (N : Nat) : List Nat → Bool
 | [] => true
 | p :: ps => Nat.blt p N && psOk N ps
theorem CH {β : Type} {F : Frm} (hLh : ∀ t φ, ¬ F.Lh t φ) {w : World} {k : S → Comp β} {nf : Nat} {y : β} : ∀ {ps : List Nat} {t : Ty} {x : t.D} {vs : List Value} {s : S} {a : Act} {X : Cx}, RelX F s a w X → t.args X.P X.O w vs x → psOk F.N ps = true → (bindP ps t x s k).run nf = some y →
  ∃ s2 X2, RelX F s2 (putP ps vs a) w X2 ∧ X2.O = X.O ∧ Inv s s2 ∧ (k s2).run nf = some y ∧ ps.length = vs.length := by
 intro ps
 induction ps with
 | nil =>
  intro t x vs s a X h ha _ hr
  cases t <;> first | (rw [show vs = [] from ha]; exact ⟨s, X, h, rfl, Inv.refl s, hr, rfl⟩) | cases hr
 | cons p ps ih =>
  intro t x vs s a X h ha hps hr
  cases t <;> first | cases hr | skip
  rename_i p1 q1
  obtain ⟨v, vs', rfl, h1, h2⟩ := ha
  simp only [bindP] at hr
  simp only [psOk, MY] at hps
  obtain ⟨φ, hr, hφ⟩ := CG h1 hr
  have h3 := h.val (Ext.refl w) (d := some p) (fun t e => by cases e; exact ⟨by have := hps.1; rw [zX] at this; simpa using this, fun φ => hLh _ φ⟩) (hφ X rfl rfl)
  obtain ⟨s2, X2, g1, g2, g3, g4, g5⟩ := ih h3 (X := { X with n := s.n + 1 }) h2 hps.2 hr
  exact ⟨s2, X2, g1, g2, (Inv.put _ _ _).trans g3, g4, by simp [g5]⟩
def seqA : Option AV → Option ((t : Ty) × Comp (List t.D))
 | some (.rd (.seq t) C) => some ⟨t, C⟩
 | _ => none
theorem D1 {o : Option AV} {q : (t : Ty) × Comp (List t.D)} (h : seqA o = some q) : o = some (.rd (.seq q.1) q.2) := by
 unfold seqA at h; split at h
 ·cases h; rfl
 ·cases h
def noRF : Code → Bool
 | .seq a b => noRF a && noRF b
 | .cond _ a b => noRF a && noRF b
 | .block _ a | .loop a | .scope a => noRF a
 | .rangeFunc .. => false
 | _ => true
end Go.Den
end
noncomputable section
namespace Go.Den
open Go Go.RowKit Go.Eng Go.Lift
variable {α β γ δ : Type}
inductive H
 | z
 | s (a b : H)
 | b (a : H)
 | j (sh : Sh) (a b : H)
 | jb (sh : Sh) (a : H)
 | l (sh : Sh) (ex : List (Option Nat × Sh)) (a : H)
 | xr (ch can : List Nat) (kl : List (Nat × List Nat))
 | xg (sh : Sh)
 | f (l : List Nat) (a : H)
 | y
def H.l1 : H → H
 | .s x _ | .j _ x _ | .b x | .jb _ x | .l _ _ x => x
 | .z | .xr .. | .xg _ | .f .. | .y => .z
def H.l2 : H → H
 | .s _ x | .j _ _ x => x
 | _ => .z
def jn (f : α → Comp β) (g : (α → Comp β) → Comp β) : Comp β := g f
def amb {β : Type} (e : Bool) (c1 c2 : Comp β) : Comp β := match e with
 | false => c2
 | true => ⟨fun n => match c1.run n, c2.run n with
  | some x, some y => match Classical.propDecidable (x = y) with
   | isTrue _ => some x
   | isFalse _ => none
  | _, _ => none, by
   intro n m a hnm h
   cases h1 : c1.run n with
   | none => rw [h1] at h; cases h
   | some x =>
    cases h2 : c2.run n with
    | none => rw [h1, h2] at h; cases h
    | some y => rw [h1, h2] at h; rw [c1.mono hnm h1, c2.mono hnm h2]; exact h⟩
theorem KO {β : Type} {e : Bool} {c1 c2 : Comp β} {n : Nat} {y : β} (h : (amb e c1 c2).run n = some y) : c2.run n = some y ∧ (e = true → c1.run n = some y) := by
 cases e with
 | false => exact ⟨h, fun h => nomatch h⟩
 | true =>
  unfold amb at h
  simp only at h
  cases h1 : c1.run n with
  | none => rw [h1] at h; cases h
  | some x =>
   cases h2 : c2.run n with
   | none => rw [h1, h2] at h; cases h
   | some z =>
    rw [h1, h2] at h
    simp only at h
    split at h
    ·rename_i heq _; cases h; subst heq; exact ⟨rfl, fun _ => rfl⟩
    ·cases h
def AV.nb? : Option AV → Option (Bool × Bool)
 | some (.nb p e) => some (p, e)
 | _ => none
theorem AV.Iv {o : Option AV} {q : Bool × Bool} (h : AV.nb? o = some q) : o = some (.nb q.1 q.2) := by
 unfold AV.nb? at h; split at h
 ·cases h; rfl
 ·cases h
def ambP {β : Type} (p e : Bool) (c1 c2 : Comp β) : Comp β := match p with
 | true => amb e c1 c2
 | false => amb e c2 c1
theorem CM {β : Type} {p e b : Bool} {c1 c2 : Comp β} {n : Nat} {y : β} (h : (ambP p e c1 c2).run n = some y) (hb : b = p → e = true) : (b = true → c1.run n = some y) ∧ (b = false → c2.run n = some y) := by
 cases p with
 | true => exact ⟨fun h1 => (KO h).2 (hb h1), fun _ => (KO h).1⟩
 | false => exact ⟨fun _ => (KO h).1, fun h1 => (KO h).2 (hb h1)⟩
def goJ (G : FE) (sh : Sh) (s s' : S) (j : sh.D → Comp β) : Comp β := match sh.get G s s' with
 | some x => j x
 | none => Comp.fail
def ED : List (Option Nat × Sh) → Type
 | [] => Empty
 | [e] => e.2.D
 | e :: e' :: l => Sum e.2.D (ED (e' :: l))
def eqO : Option Nat → Option Nat → Bool
 | none, none => true
 | some a, some b => Nat.beq a b
 | _, _ => false
theorem DH {a b : Option Nat} (h : eqO a b = true) : a = b := by
 cases a <;> cases b <;> simp_all [eqO]
def injE (G : FE) (s : S) (o : Option Nat) (s' : S) : (l : List (Option Nat × Sh)) → Option (ED l)
 | [] => none
 | [e] => match eqO e.1 o with
  | true => e.2.get G s s'
  | false => none
 | e :: e' :: l => match eqO e.1 o with
  | true => match e.2.get G s s' with
   | some x => some (Sum.inl x : Sum e.2.D (ED (e' :: l)))
   | none => none
  | false => match injE G s o s' (e' :: l) with
   | some x => some (Sum.inr x : Sum e.2.D (ED (e' :: l)))
   | none => none
def doneE {σ : Type} (G : FE) (s : S) (l : List (Option Nat × Sh)) (o : Option Nat) (s' : S) : Comp (Comp.Step σ (ED l)) := match injE G s o s' l with
 | some x => Comp.pure (.done x)
 | none => Comp.fail
def toE (s : S) (ex : Nat → S → Comp β) (rt : S → Comp β) (e : Option Nat × Sh) (x : e.2.D) : Comp β := match e.1 with
 | some i => ex i (e.2.put s x)
 | none => rt (e.2.put s x)
def outE (s : S) (ex : Nat → S → Comp β) (rt : S → Comp β) : (l : List (Option Nat × Sh)) → ED l → Comp β
 | [], x => nomatch x
 | [e], x => toE s ex rt e x
 | e :: e' :: l, x => match (x : Sum e.2.D (ED (e' :: l))) with
  | .inl x => toE s ex rt e x
  | .inr x => outE s ex rt (e' :: l) x
def nextE {ε : Type} (G : FE) (sh : Sh) (s s' : S) : Comp (Comp.Step sh.D ε) := match sh.get G s s' with
 | some x => Comp.pure (.next x)
 | none => Comp.fail
def slotV (s : S) : List Nat → List AV
 | [] => []
 | t :: l => match look s.L t with
  | some e => e.2 :: slotV s l
  | none => slotV s l
def regD {β : Type} (E : VE) (ops : Array Oper) (draw : Bool) (h : H) (s : S) (k : S → Comp β) : Comp β := match h with
 | .xr ch can kl => denX E ops.toList ch can kl s k
 | .xg sh => match draw with
  | false => jn (fun x => k (sh.put s x)) fun j => stepC E (wrS ops.toList) ops.toList (fun s' => goJ E.G sh s s' j) ops.toList s
  | true => Comp.fail
 | _ => denG E draw ops.toList s k
def den (E : VE) : Code → (β : Type) → H → S → (S → Comp β) → (Nat → S → Comp β) → (S → Comp β) → Comp β
 | .skip, _, _, s, k, _, _ => k s
 | .label _, _, _, s, k, _, _ => k s
 | .region _ ops draw, _, h, s, k, _, _ => match h with
  | .f l h' => regD E ops draw h' (s.frzV E (slotV s l)) k
  | h => regD E ops draw h s k
 | .seq a b, β, h, s, k, ex, rt => den E a β h.l1 s (fun s' => den E b β h.l2 s' k ex rt) ex rt
 | .cond c t e, β, h, s, k, ex, rt => match (rdO s.ep s.L [] [] c).bind AV.bool? with
  | none => match AV.nb? (rdO s.ep s.L [] [] c) with
   | some q => ambP q.1 q.2 (den E t β h.l1 s k ex rt) (den E e β h.l2 s k ex rt)
   | none => Comp.fail
  | some b => match h with
   | .j sh h1 h2 => jn (fun x => k (sh.put s x)) fun j => if b = true then den E t β h1 s (fun s' => goJ E.G sh s s' j) ex rt else den E e β h2 s (fun s' => goJ E.G sh s s' j) ex rt
   | h => if b = true then den E t β h.l1 s k ex rt else den E e β h.l2 s k ex rt
 | .block id c, β, h, s, k, ex, rt => match h with
  | .jb sh h1 => jn (fun x => k (sh.put s x)) fun j => den E c β h1 s (fun s' => goJ E.G sh s s' j) (fun i s' => match Nat.beq i id with | true => goJ E.G sh s s' j | false => ex i s') rt
  | h => den E c β h.l1 s k (fun i s' => match Nat.beq i id with | true => k s' | false => ex i s') rt
 | .loop c, β, h, s, k, ex, rt => match h with
  | .l sh l h1 => match sh.get E.G s s with
   | none => Comp.fail
   | some x0 => (Comp.loop (fun x => den E c (Comp.Step sh.D (ED l)) h1 (sh.put s x) (nextE E.G sh s) (fun i s' => doneE E.G s l (some i) s') (doneE E.G s l none)) x0).bind (outE s ex rt l)
  | _ => Comp.fail
 | .scope c, β, h, s, k, ex, rt => den E c β h.l1 s k ex rt
 | .exit i, _, _, s, _, ex, _ => ex i s
 | .ret, _, _, s, _, _, rt => rt s
 | .rangeFunc g ps asg bd, β, h, s, k, ex, rt => match h with
  | .l sh l h1 => match seqA (rdO s.ep s.L [] [] g), sh.get E.G s.solid s.solid with
   | some q, some x0 => q.2.bind fun xs => (foldL (fun x d => bindP ps.toList q.1 d (sh.put s.solid x) fun s2 => den E asg (Comp.Step sh.D (ED l)) h1.l1 s2
     (fun s3 => den E bd (Comp.Step sh.D (ED l)) h1.l2 s3.tick (fun s' => nextE E.G sh s.solid (s'.back s.solid.L).tick) (fun i s' => doneE E.G s.solid l (some i) (s'.back s.solid.L).tick) (fun s' => doneE E.G s.solid l none (s'.back s.solid.L).tick))
     (fun _ _ => Comp.fail) (fun _ => Comp.fail)) xs x0).bind fun r => match r with
    | .next x => k (sh.put s.solid x).tick
    | .done e => outE s.solid (fun i s' => ex i s'.tick) (fun s' => rt s'.tick) l e
   | _, _ => Comp.fail
  | _ => Comp.fail
 | _, _, _, _, _, _, _ => Comp.fail
def okC (N : Nat) : Code → Bool
 | .region _ ops _ => okReg N ops.toList
 | .seq a b => okC N a && okC N b
 | .cond _ a b => okC N a && okC N b
 | .block _ a | .loop a | .scope a => okC N a
 | .rangeFunc _ ps a b => okC N a && (okC N b && (noRF a && (noRF b && psOk N ps.toList)))
 | _ => true
theorem KU {F : Fence} {n : Nat} {P : Program} {Q : Exit → Act → World → Prop} {c : Code} (I : Nat → Act → World → Prop) (round : ∀ m a w, I m a w → c.wpIn F n P (Exit.then (fun a' w' => ∃ m', m' < m ∧ I m' a' w') Q) a w) {m : Nat} {a : Act} {w : World} (h₀ : I m a w) : (Code.loop c).wpIn F n P Q a w := by
 intro b k cs hro hb hr
 have key : ∀ j a w, I j a w → ∃ e a' w', Q e a' w' ∧ ArrivesIn (Machine.fenced P F) P (lone (b.atR a (.code c :: .inLoop c :: k)) cs w) b k cs e a' w' := by
  intro j
  induction j using Nat.strongRecOn with
  | _ j ih =>
   intro a w hI
   obtain ⟨e, a₁, w₁, hq, harr⟩ := round j a w hI b (.inLoop c :: k) cs hro hb hr
   cases e with
   | normal =>
    obtain ⟨m', hlt, hI₁⟩ := hq
    obtain ⟨e₂, a₂, w₂, hq₂, harr₂⟩ := ih m' hlt a₁ w₁ hI₁
    exact ⟨e₂, a₂, w₂, hq₂, .of_steps (StepsIn.trans harr (.one (fenced_calm hb hr rfl) stepR_inLoop)) harr₂⟩
   | exit id => exact ⟨_, a₁, w₁, hq, .pass (x := .inLoop c) rfl (fun _ _ => .inl (by simp)) harr⟩
   | goto l => exact ⟨_, a₁, w₁, hq, .pass (x := .inLoop c) rfl (fun _ _ => .inl (by simp)) harr⟩
   | ret => exact ⟨_, a₁, w₁, hq, .pass (x := .inLoop c) rfl (fun _ _ => .inl (by simp)) harr⟩
   | panic ch => exact ⟨_, a₁, w₁, hq, .pass (x := .inLoop c) rfl (fun _ _ => .inl (by simp)) harr⟩
   | outgrown => exact ⟨_, a₁, w₁, hq, .pass (x := .inLoop c) rfl (fun _ _ => .inl (by simp)) harr⟩
 obtain ⟨e, a', w', hq, harr⟩ := key _ a w h₀
 exact ⟨e, a', w', hq, .of_steps (.one (fenced_calm hb hr rfl) stepR_loop) harr⟩
theorem X4 {F : Fence} {n : Nat} {P : Program} {Q : Exit → Act → World → Prop} {c : Code} {a : Act} {w : World} (h : c.wpIn F n P (Exit.noGoto Q) a w) : (Code.scope c).wpIn F n P Q a w := by
 intro b k cs hro hb hr
 have h0 : (lone (b.atR a (.code (.scope c) :: k)) cs w).fenced P F := fenced_calm hb hr rfl
 obtain ⟨e, a₁, w₁, hq, harr⟩ := h b (.inScope c :: k) cs hro hb hr
 cases e with
 | normal => exact ⟨.normal, a₁, w₁, hq, .head h0 gz (StepsIn.trans harr (.one (fenced_calm hb hr rfl) Ji))⟩
 | exit id =>
  have hx : exitTo id (.inScope c :: k) = exitTo id k := by simp [exitTo]
  exact ⟨.exit id, a₁, w₁, hq, fun k' hk => .head h0 gz (harr.1 k' (by rw [hx]; exact hk)), fun hr' hk => let ⟨k₁, h1, h2⟩ := harr.2 hr' (by rw [hx]; exact hk); ⟨k₁, h1, .head h0 gz h2⟩⟩
 | goto l => exact hq.elim
 | ret => exact ⟨_, a₁, w₁, hq, .of_steps (.one h0 gz) harr⟩
 | panic ch => exact ⟨_, a₁, w₁, hq, .of_steps (.one h0 gz) harr⟩
 | outgrown => exact ⟨_, a₁, w₁, hq, .of_steps (b := b) (k := k) (cs := cs) (e := .outgrown) (.one h0 gz) harr⟩
section
variable {F : Frm} {E : VE}
structure Ways (F : Frm) (s0 : S) (nf : Nat) {β : Type} (y : β) (k : S → Comp β) (ex : Nat → S → Comp β) (rt : S → Comp β) (Q : Exit → Act → World → Prop) : Prop where
 k : ∀ F' s' a' w', F.To F' → Rel F' s' a' w' → Inv s0 s' → (k s').run nf = some y → Q .normal a' w'
 ex : ∀ i F' s' a' w', F.To F' → Rel F' s' a' w' → Inv s0 s' → (ex i s').run nf = some y → Q (.exit i) a' w'
 rt : ∀ F' s' a' w', F.To F' → Rel F' s' a' w' → Inv s0 s' → (rt s').run nf = some y → Q .ret a' w'
theorem Ways.to {F F' : Frm} {s0 : S} {nf : Nat} {β : Type} {y : β} {k : S → Comp β} {ex : Nat → S → Comp β} {rt : S → Comp β} {Q : Exit → Act → World → Prop} (h : Ways F s0 nf y k ex rt Q) (ht : F.To F') : Ways F' s0 nf y k ex rt Q :=
 ⟨fun F2 s' a' w' g => h.k F2 s' a' w' (ht.trans g), fun i F2 s' a' w' g => h.ex i F2 s' a' w' (ht.trans g), fun F2 s' a' w' g => h.rt F2 s' a' w' (ht.trans g)⟩
theorem K6 (hLh : ∀ t φ, ¬ F.Lh t φ) (hE : E.ok F.P) {s s1 : S} {a0 a1 : Act} {w0 w1 : World} {F0 : Frm} (hff : F.kin F0) (h0 : Rel F0 s a0 w0) (h1 : Rel F s1 a1 w1) (hi : Inv s s1) {sh : Sh} {j : sh.D → Comp β} {nf : Nat} {y : β} (h : (goJ E.G sh s s1 j).run nf = some y) :
  ∃ x, Rel F (sh.put s x) a1 w1 ∧ Inv s (sh.put s x) ∧ (j x).run nf = some y := by
 unfold goJ at h
 split at h
 ·rename_i x hx
  obtain ⟨g1, g2⟩ := k8 hLh hE hff h0 h1 hi hx
  exact ⟨x, g1, g2, h⟩
 ·cases h
theorem J7 (hLh : ∀ t φ, ¬ F.Lh t φ) (hE : E.ok F.P) {s s1 : S} {a0 a1 : Act} {w0 w1 : World} {F0 : Frm} (hff : F.kin F0) (h0 : Rel F0 s a0 w0) (h1 : Rel F s1 a1 w1) (hi : Inv s s1) {o : Option Nat} {ex : Nat → S → Comp β} {rt : S → Comp β} {nf : Nat} {y : β} : ∀ {l : List (Option Nat × Sh)} {x : ED l}, injE E.G s o s1 l = some x → (outE s ex rt l x).run nf = some y →
  ∃ s', Rel F s' a1 w1 ∧ Inv s s' ∧ (match o with | some i => ex i s' | none => rt s').run nf = some y
 | [], x, h, _ => nomatch x
 | [e], x, h, hr => by
  simp only [injE] at h
  split at h
  ·rename_i he
   obtain ⟨g1, g2⟩ := k8 hLh hE hff h0 h1 hi h
   have := DH he
   subst this
   refine ⟨_, g1, g2, ?_⟩
   simp only [outE, toE] at hr
   split at hr <;> rename_i he2 <;> first | exact hr | (rw [he2]; exact hr)
  ·cases h
 | e :: e' :: l, x, h, hr => by
  simp only [injE] at h
  split at h
  ·rename_i he
   split at h
   ·rename_i x1 hx
    cases h
    obtain ⟨g1, g2⟩ := k8 hLh hE hff h0 h1 hi hx
    have := DH he
    subst this
    refine ⟨_, g1, g2, ?_⟩
    simp only [outE, toE] at hr
    split at hr <;> rename_i he2 <;> first | exact hr | (rw [he2]; exact hr)
   ·cases h
  ·split at h
   ·rename_i x1 hx
    cases h
    exact J7 hLh hE hff h0 h1 hi hx hr
   ·cases h
theorem Jr (hLh : ∀ t φ, ¬ F.Lh t φ) (hE : E.ok F.P) (hm : F.P.follows .mixedOrders = true) (hsb : F.x.sb ≤ F.w0.heap.size) {id : Nat} {ops : Array Oper} {draw : Bool} (hok : okReg F.N ops.toList = true) {β : Type} {h : H} {s0 s : S} {a : Act} {w : World} {k : S → Comp β} {nf : Nat} {y : β} {Q : Exit → Act → World → Prop}
  (hR : Rel F s a w) (hi : Inv s0 s) (hr : (regD E ops draw h s k).run nf = some y) (hk : ∀ s' a' w', Rel F s' a' w' → Inv s0 s' → (k s').run nf = some y → Q .normal a' w') : F.wp (Code.region id ops draw) Q a w := by
 unfold regD at hr
 split at hr
 ·have := GG (id := id) (draw := draw) hLh hE hR hi hm hsb hok hr hk
  simpa using this
 ·rename_i sh
  split at hr
  ·dsimp only [jn] at hr
   have := GK (id := id) hLh hE hR (Inv.refl s) hok hr (Q := Q) fun s' a' w' g1 g2 g3 => by
    obtain ⟨x, q1, q2, q3⟩ := K6 hLh hE (Frm.Yk F) hR g1 g2 g3
    exact hk _ _ _ q1 (hi.trans q2) q3
   simpa using this
  ·cases hr
 ·have := GJ (id := id) hLh hE hR hi hm hok hr hk
  simpa using this
theorem wA : ∀ (c : Code), ∀ {F : Frm}, F.P.follows .mixedOrders = true → (∀ t φ, ¬ F.Lh t φ) → E.ok F.P → okC F.N c = true → ((F.x.rd = none ∧ F.x.nr = false) ∨ noRF c = true) → F.x.sb = F.w0.heap.size → ∀ {β : Type} {h : H} {s0 s : S} {a : Act} {w : World} {k : S → Comp β} {ex : Nat → S → Comp β} {rt : S → Comp β} {nf : Nat} {y : β} {Q : Exit → Act → World → Prop},
  Rel F s a w → Inv s0 s → (den E c β h s k ex rt).run nf = some y → Ways F s0 nf y k ex rt Q → F.wp c Q a w := by
 intro c
 induction c with
 | skip => intro F hm hLh hE _ hrd hsb β h s0 s a w k ex rt nf y Q hR hi hr hW; exact wpIn_skip (hW.k F s a w (.refl F) hR hi hr)
 | label l => intro F hm hLh hE _ hrd hsb β h s0 s a w k ex rt nf y Q hR hi hr hW; exact wpIn_label (hW.k F s a w (.refl F) hR hi hr)
 | exit i => intro F hm hLh hE _ hrd hsb β h s0 s a w k ex rt nf y Q hR hi hr hW; exact wpIn_exit (hW.ex i F s a w (.refl F) hR hi hr)
 | ret => intro F hm hLh hE _ hrd hsb β h s0 s a w k ex rt nf y Q hR hi hr hW; exact wpIn_ret (hW.rt F s a w (.refl F) hR hi hr)
 | region id ops draw =>
  intro F hm hLh hE hok hrd hsb β h s0 s a w k ex rt nf y Q hR hi hr hW
  simp only [den] at hr
  split at hr
  ·rename_i l h'
   exact Jr hLh hE hm (Nat.le_of_eq hsb) hok (Rel.frzV hE hR _) (hi.trans (Inv.frzV _ _)) hr fun s' a' w' => hW.k F s' a' w' (.refl F)
  ·exact Jr hLh hE hm (Nat.le_of_eq hsb) hok hR hi hr fun s' a' w' => hW.k F s' a' w' (.refl F)
 | seq x z ihx ihz =>
  intro F hm hLh hE hok hrd hsb β h s0 s a w k ex rt nf y Q hR hi hr hW
  simp only [okC, MY] at hok
  simp only [den] at hr
  have hrd1 : (F.x.rd = none ∧ F.x.nr = false) ∨ noRF x = true := hrd.imp id fun h => by simp only [noRF, MY] at h; exact h.1
  have hrd2 : (F.x.rd = none ∧ F.x.nr = false) ∨ noRF z = true := hrd.imp id fun h => by simp only [noRF, MY] at h; exact h.2
  refine wpIn_seq (ihx hm hLh hE hok.1 hrd1 hsb hR hi hr ⟨fun F' s' a' w' h0 h1 h2 h3 => ?_, hW.ex, hW.rt⟩)
  have hs := h0.same
  have := ihz (F := F') (by rw [hs.P]; exact hm) (by rw [hs.Lh]; exact hLh) (by rw [hs.P]; exact hE) (by rw [hs.N]; exact hok.2) (by rw [hs.rd, hs.nr]; exact hrd2) (by rw [hs.sb, hs.w0]; exact hsb) h1 h2 h3 (hW.to h0)
  unfold Frm.wp at this
  rwa [hs.P, hs.rd] at this
 | scope x ih =>
  intro F hm hLh hE hok hrd hsb β h s0 s a w k ex rt nf y Q hR hi hr hW
  simp only [den] at hr
  exact X4 (ih hm hLh hE hok hrd hsb hR hi hr ⟨hW.k, hW.ex, hW.rt⟩)
 | cond c t e iht ihe =>
  intro F hm hLh hE hok hrd hsb β h s0 s a w k ex rt nf y Q hR hi hr hW
  have hrd1 : (F.x.rd = none ∧ F.x.nr = false) ∨ noRF t = true := hrd.imp id fun h => by simp only [noRF, MY] at h; exact h.1
  have hrd2 : (F.x.rd = none ∧ F.x.nr = false) ∨ noRF e = true := hrd.imp id fun h => by simp only [noRF, MY] at h; exact h.2
  simp only [okC, MY] at hok
  simp only [den] at hr
  split at hr
  ·split at hr
   ·rename_i q hq
    obtain ⟨b, hc, hb⟩ : ∃ b, a.eval c = .bool b ∧ (b = q.1 → q.2 = true) := by
     obtain ⟨X, hX⟩ := hR
     have hq := AV.Iv hq
     rw [← hX.ep] at hq
     exact hX.rd #[c] c _ (by simp) hq
    have hr := CM hr hb
    exact wpIn_cond_split hc (fun hbt => iht hm hLh hE hok.1 hrd1 hsb hR hi (hr.1 hbt) hW) (fun hbf => ihe hm hLh hE hok.2 hrd2 hsb hR hi (hr.2 hbf) hW)
   ·cases hr
  ·rename_i b hb
   have hc : a.eval c = .bool b := by
    obtain ⟨X, hX⟩ := hR
    rw [← hX.ep] at hb
    cases h1 : rdO X.ep s.L [] [] c with
    | none => rw [h1] at hb; cases hb
    | some φ => rw [h1] at hb; exact Zc (hX.rd #[c] c φ (by simp) h1) hb
   split at hr
   ·rename_i sh h1 h2
    dsimp only [jn] at hr
    have hW' : Ways F s nf y (fun s' => goJ E.G sh s s' (fun x => k (sh.put s x))) ex rt Q := by
     refine ⟨fun F' s' a' w' g0 g1 g2 g3 => ?_, fun i F' s' a' w' g0 g1 g2 g3 => hW.ex i F' s' a' w' g0 g1 (hi.trans g2) g3, fun F' s' a' w' g0 g1 g2 g3 => hW.rt F' s' a' w' g0 g1 (hi.trans g2) g3⟩
     have hs := g0.same
     obtain ⟨x, q1, q2, q3⟩ := K6 (F := F') (by rw [hs.Lh]; exact hLh) (by rw [hs.P]; exact hE) hs.kin hR g1 g2 g3
     exact hW.k _ _ _ _ g0 q1 (hi.trans q2) q3
    refine wpIn_cond_split hc (fun hbt => ?_) (fun hbf => ?_)
    ·rw [if_pos hbt] at hr; exact iht hm hLh hE hok.1 hrd1 hsb hR (Inv.refl s) hr hW'
    ·rw [if_neg (by rw [hbf]; simp)] at hr; exact ihe hm hLh hE hok.2 hrd2 hsb hR (Inv.refl s) hr hW'
   ·refine wpIn_cond_split hc (fun hbt => ?_) (fun hbf => ?_)
    ·rw [if_pos hbt] at hr; exact iht hm hLh hE hok.1 hrd1 hsb hR hi hr hW
    ·rw [if_neg (by rw [hbf]; simp)] at hr; exact ihe hm hLh hE hok.2 hrd2 hsb hR hi hr hW
 | block id x ih =>
  intro F hm hLh hE hok hrd hsb β h s0 s a w k ex rt nf y Q hR hi hr hW
  simp only [den] at hr
  refine wpIn_block ?_
  split at hr
  ·rename_i sh h1
   dsimp only [jn] at hr
   have hk : ∀ F' s' a' w', F.To F' → Rel F' s' a' w' → Inv s s' → (goJ E.G sh s s' (fun x => k (sh.put s x))).run nf = some y → Q .normal a' w' := by
    intro F' s' a' w' g0 g1 g2 g3
    have hs := g0.same
    obtain ⟨x, q1, q2, q3⟩ := K6 (F := F') (by rw [hs.Lh]; exact hLh) (by rw [hs.P]; exact hE) hs.kin hR g1 g2 g3
    exact hW.k _ _ _ _ g0 q1 (hi.trans q2) q3
   refine ih hm hLh hE hok hrd hsb hR (Inv.refl s) hr ⟨fun F' s' a' w' g0 g1 g2 g3 => hk F' s' a' w' g0 g1 g2 g3, fun i F' s' a' w' g0 g1 g2 g3 => ?_, fun F' s' a' w' g0 g1 g2 g3 => hW.rt F' s' a' w' g0 g1 (hi.trans g2) g3⟩
   show (if i = id then Q .normal a' w' else Q (.exit i) a' w')
   cases hb : Nat.beq i id with
   | true => rw [hb] at g3; rw [if_pos (MX hb)]; exact hk F' s' a' w' g0 g1 g2 g3
   | false =>
    rw [hb] at g3
    rw [zV] at hb
    rw [if_neg (by simpa using hb)]; exact hW.ex i F' s' a' w' g0 g1 (hi.trans g2) g3
  ·refine ih hm hLh hE hok hrd hsb hR hi hr ⟨fun F' s' a' w' g0 g1 g2 g3 => hW.k F' s' a' w' g0 g1 g2 g3, fun i F' s' a' w' g0 g1 g2 g3 => ?_, fun F' s' a' w' g0 g1 g2 g3 => hW.rt F' s' a' w' g0 g1 g2 g3⟩
   show (if i = id then Q .normal a' w' else Q (.exit i) a' w')
   cases hb : Nat.beq i id with
   | true => rw [hb] at g3; rw [if_pos (MX hb)]; exact hW.k F' s' a' w' g0 g1 g2 g3
   | false =>
    rw [hb] at g3
    rw [zV] at hb
    rw [if_neg (by simpa using hb)]; exact hW.ex i F' s' a' w' g0 g1 g2 g3
 | loop x ih =>
  intro F hm hLh hE hok hrd hsb β h s0 s a w k ex rt nf y Q hR hi hr hW
  simp only [den] at hr
  split at hr
  ·rename_i sh l h1
   split at hr
   ·cases hr
   ·rename_i x0 hx0
    obtain ⟨e, he, hr⟩ := Comp.run_bind hr
    obtain ⟨g1, g2⟩ := k8 hLh hE (Frm.Yk F) hR hR (Inv.refl s) hx0
    refine KU (fun m a' w' => ∃ F' x, F.To F' ∧ Rel F' (sh.put s x) a' w' ∧ Inv s (sh.put s x) ∧ Comp.loopN (fun x => den E _ (Comp.Step sh.D (ED l)) h1 (sh.put s x) (nextE E.G sh s) (fun i s' => doneE E.G s l (some i) s') (doneE E.G s l none)) nf m x = some e) (fun m a' w' hI => ?_) ⟨F, x0, .refl F, g1, g2, Comp.Jm he⟩
    obtain ⟨F', x, q0, q1, q2, q3⟩ := hI
    have hs := q0.same
    obtain ⟨m', hlt, st, hst, hn, hd⟩ := Comp.JK q3
    have hdone : ∀ (o : Option Nat) (F2 : Frm) (s' : S) (a2 : Act) (w2 : World), F'.To F2 → Rel F2 s' a2 w2 → Inv s s' → (doneE (σ := sh.D) E.G s l o s').run nf = some st → ∃ s2, Rel F2 s2 a2 w2 ∧ Inv s s2 ∧ (match o with | some i => ex i s2 | none => rt s2).run nf = some y := by
     intro o F2 s' a2 w2 f0 f1 f2 f3
     have hs2 := (q0.trans f0).same
     unfold doneE at f3
     split at f3
     ·rename_i z hz
      have hst := Comp.run_pure f3
      have := hd z hst.symm
      subst this
      exact J7 (F := F2) (by rw [hs2.Lh]; exact hLh) (by rw [hs2.P]; exact hE) hs2.kin hR f1 f2 hz hr
     ·cases f3
    have hgoal : ∀ {cc : Code} {R : Exit → Act → World → Prop}, F'.wp cc R a' w' → cc.wpIn (fw F.x.rd) 0 F.P R a' w' := fun {cc R} h => by
     unfold Frm.wp at h
     rwa [hs.P, hs.rd] at h
    refine hgoal (ih (F := F') (by rw [hs.P]; exact hm) (by rw [hs.Lh]; exact hLh) (by rw [hs.P]; exact hE) (by rw [hs.N]; exact hok) (by rw [hs.rd, hs.nr]; exact hrd) (by rw [hs.sb, hs.w0]; exact hsb) q1 q2 hst ⟨fun F2 s' a2 w2 f0 f1 f2 f3 => ?_, fun i F2 s' a2 w2 f0 f1 f2 f3 => ?_, fun F2 s' a2 w2 f0 f1 f2 f3 => ?_⟩)
    ·have hs2 := (q0.trans f0).same
     unfold nextE at f3
     split at f3
     ·rename_i z hz
      have hst := Comp.run_pure f3
      obtain ⟨r1, r2⟩ := k8 (F := F2) (by rw [hs2.Lh]; exact hLh) (by rw [hs2.P]; exact hE) hs2.kin hR f1 f2 hz
      exact ⟨m', hlt, F2, z, q0.trans f0, r1, r2, hn z hst.symm⟩
     ·cases f3
    ·obtain ⟨s2, r1, r2, r3⟩ := hdone (some i) F2 s' a2 w2 f0 f1 f2 f3
     exact hW.ex i F2 s2 a2 w2 (q0.trans f0) r1 (hi.trans r2) r3
    ·obtain ⟨s2, r1, r2, r3⟩ := hdone none F2 s' a2 w2 f0 f1 f2 f3
     exact hW.rt F2 s2 a2 w2 (q0.trans f0) r1 (hi.trans r2) r3
  ·cases hr
 | goto l => intro F hm hLh hE _ hrd hsb β h s0 s a w k ex rt nf y Q hR hi hr hW; cases hr
 | refuse l => intro F hm hLh hE _ hrd hsb β h s0 s a w k ex rt nf y Q hR hi hr hW; cases hr
 | rangeFunc g ps asg bd iha ihb =>
  intro F hm hLh hE hok hrd hsb β h s0 s a w k ex rt nf y Q hR hi hr hW
  obtain ⟨hrd, hnr⟩ := hrd.resolve_right (by simp [noRF])
  simp only [okC, MY] at hok
  obtain ⟨hoka, hokb, hna, hnb, hps⟩ := hok
  simp only [den] at hr
  split at hr
  case h_2 => cases hr
  rename_i sh l h1
  split at hr
  case h_2 => cases hr
  rename_i q x0 hq hx0
  obtain ⟨xs, hxs, hr⟩ := Comp.run_bind hr
  obtain ⟨r, hr1, hr2⟩ := Comp.run_bind hr
  obtain ⟨X, hX⟩ := hR
  -- the function
  have hq := D1 hq
  rw [← hX.ep] at hq
  obtain ⟨cs, ⟨f, us, e1, hf, hC⟩, e2⟩ := hX.rd #[g] g _ (by simp) hq
  have hg : a.eval g = .func (.func f) #[] us.toArray := by rw [e2, e1]; rfl
  clear e1 e2 cs
  have his : Inv s0 s.solid := hi.trans (Inv.solid s)
  generalize hs1 : s.solid = s1 at *
  have hX1 : RelX F s1 a w { X with n := s.n + 1 } := hs1 ▸ hX.solid hLh
  have hnf : ∀ t e, look s1.L t = some e → e.2.frail = false := fun t e he => by rw [← hs1] at he; exact (jg he).1
  have hkv0 : ∀ t e, look s1.L t = some e → e.2.holds { X with n := s.n + 1 } w (a.get t) := fun t e he => hX1.l t e he (by simp [fresh, hnf t e he])
  unfold Frm.wp
  rw [hrd]
  refine wpIn_rangeFunc (F := fw none) fun fn _ => ?_
  -- the machine's blocks
  let D := w.heap.size
  let r0 : Loop := { state := .ready, pending := none, fn := fn, tmps := a.tmps, params := ps, assign := asg, body := bd, defers := D }
  let wE := (w.alloc (.deferred (some []))).alloc (.loop r0)
  let qS : Loop → Nat → Obj → Prop := fun r c o => (F.x.sys c o ∨ (c = D ∧ o = .deferred (some []))) ∨ (c = D + 1 ∧ o = .loop r)
  let kv1 : Value → AV → Prop := fun v φ => F.x.kv v φ ∨ ∃ t e, look s1.L t = some e ∧ v = a.get t ∧ φ = e.2
  let FJ : Loop → Frm := fun r => { F with x := { F.x with sys := qS r, kv := kv1, sO := X.O, sw := w } }
  have hsz : (w.alloc (.deferred (some []))).heap.size = D + 1 := by simp [D]
  have hsysF : ∀ c o, F.x.sys c o → c < D := fun c o hc => (Array.getElem?_eq_some_iff.1 (hX.ex.sys c o hc).1.1).1
  have hX2 := (hX1.CW hsb (.deferred (some []))).CW hsb (.loop r0)
  rw [hsz] at hX2
  have hExt : Ext w wE := (Ext.alloc w _).trans (Ext.alloc _ _)
  let XE : Cx := { X with n := s.n + 1, O := tag (tag X.O (some D) F.x.st) (some (D + 1)) F.x.st }
  have hX2 : RelX { F with x := { F.x with sys := qS r0 } } s1 a wE XE := hX2
  have hKE : Keep 0 X.O w XE.O wE := by
   refine ⟨hExt.size, fun b hb h0 => ⟨?_, hExt.block b hb⟩⟩
   show tag (tag X.O (some D) F.x.st) (some (D + 1)) F.x.st b = 0
   rw [gI (by simp only [D]; intro e; cases e; omega), gI (by simp only [D]; intro e; cases e; omega)]; exact h0
  have hleE : ({ X with n := s.n + 1 } : Cx).le w XE wE := ⟨rfl, hKE, fun _ _ => rfl, Mb _, rfl⟩
  have hexJ : Exx (FJ r0).x XE wE := by
   refine ⟨hX2.ex.st, hX2.ex.sys, fun v φ hv => ?_, hKE, hX2.ex.L⟩
   rcases hv with hv | ⟨t, e, he, rfl, rfl⟩
   ·exact hX2.ex.kv v φ hv
   ·exact ⟨hnf t e he, e.2.le (hnf t e he) hleE (hkv0 t e he)⟩
  have hLhJ : ∀ r t φ, ¬ (FJ r).Lh t φ := fun r => hLh
  have hXJ : RelX (FJ r0) s1 a wE XE := hX2.conv (F' := FJ r0) (L' := s1.L) rfl rfl rfl rfl hLh rfl rfl rfl hX2.fit hX2.l hX2.ln hexJ
  obtain ⟨j1, j2⟩ := k8 (F := FJ r0) hLh hE (Frm.Yk _) ⟨_, hXJ⟩ ⟨_, hXJ⟩ (Inv.refl s1) hx0
  -- what holds between the rounds
  generalize hB : (fun x d => bindP ps.toList q.1 d (sh.put s1 x) fun s2 => den E asg (Comp.Step sh.D (ED l)) h1.l1 s2 (fun s3 => den E bd (Comp.Step sh.D (ED l)) h1.l2 s3.tick (fun s' => nextE E.G sh s1 (s'.back s1.L).tick) (fun i s' => doneE E.G s1 l (some i) (s'.back s1.L).tick) (fun s' => doneE E.G s1 l none (s'.back s1.L).tick)) (fun _ _ => Comp.fail) (fun _ => Comp.fail)) = B at *
  let J : List q.1.D → Tags → World → Prop := fun pre O W => ∃ rest x Xc, xs = pre ++ rest ∧ (foldL B rest x).run nf = some r ∧ RelX (FJ r0) (sh.put s1 x) a W Xc ∧ Xc.O = O ∧ Inv s1 (sh.put s1 x)
  let Jx : Tags → World → Prop := fun O W => ∃ c s2 Xc, RelX (FJ { r0 with state := .done, pending := some c }) s2 a W Xc ∧ Xc.O = O ∧ Inv s1 s2 ∧ ((∃ i, c = .exit i ∧ (ex i s2.tick).run nf = some y) ∨ (c = .ret ∧ (rt s2.tick).run nf = some y))
  have hwE : ∀ b, b < wE.heap.size ↔ b < D + 2 := fun b => by simp [wE, D]
  -- at the end
  have hend : ∀ (r1 : Loop) (s2 : S) (W : World), r1.state ≠ .busy → Rel (FJ r1) s2 a W → ∃ W', (Instr.endLoop (D + 1)).run F.P W = .ok r1.pending W' ∧ Rel (F.mark D) s2.tick { a with defers := markD D :: a.defers } W' := by
   intro r1 s2 W hb ⟨Xc, hXc⟩
   obtain ⟨⟨k1, k2⟩, k3⟩ := hXc.ex.sys (D + 1) (.loop r1) (.inr ⟨rfl, rfl⟩)
   refine ⟨_, run_endLoop k1 hb, { Xc with n := s2.n + 1, ep := s2.n }, ?_⟩
   have ht := hXc.turn (o' := .loop { r1 with state := .exhausted }) (q := fun c o => F.x.sys c o ∨ (c = D ∧ o = .deferred (some []))) k2 (by have := hX.base.size; show F.w0.heap.size ≤ D + 1; simp only [D]; omega) (Array.getElem?_eq_some_iff.1 k1).1 fun c o hc => .inl ⟨by rcases hc with hc | ⟨hc, _⟩; have := hsysF c o hc; omega; omega, .inl hc⟩
   refine ht.conv (F' := F.mark D) (L' := s2.L) rfl rfl rfl rfl hLh rfl rfl rfl ⟨hXc.fit.size, by show markD D :: a.defers = _; rw [show a.defers = F.D from hXc.fit.defers]; rfl⟩ (fun t e he hf => ht.l t e he hf) ht.ln ⟨ht.ex.st, fun c o hc => ht.ex.sys c o hc, fun v φ hv => ht.ex.kv v φ (.inl hv), ?_, ht.ex.L⟩
   have hsince : Keep 0 X.O w Xc.O (W.putObj (D + 1) (.loop { r1 with state := .exhausted })) := ht.ex.since
   exact hX.ex.since.trans hsince
  have hmk : F.To (F.mark D) := .mark (.refl F) D (fun o hc => absurd (hsysF D o hc) (Nat.lt_irrefl _)) hnr
  refine ⟨D + 1, [markD D], wE, { target := .fn (.func f) us.toArray, args := #[.func (.yield (D + 1)) #[] #[]] }, wE, f, #[.func (.yield (D + 1)) #[] #[]] ++ us.toArray, wE, ?_, ?_, fun _ _ => trivial, ?_, fun h => by simp [Fence.wide] at h, ?_⟩
  ·show (Instr.enterLoop fn a.tmps _ _ _ none).run F.P w = _
   rw [run_enterLoop_outer]
  ·have h2 : ∀ v, a.eval (.const v) = v := fun _ => rfl
   simp [resolve, hg, Deferred.ofValue, h2]
  ·obtain ⟨fnc, hf1, hf2, hf3⟩ := hf.h
   have hP : X.P = F.P := hX.P
   rw [hP] at hf1
   simp only [invoke, callFunc, run_program, Sem.run_bind, Sem.run_pure, Result.andThen, hf1]
   simp [hf2, hf3]
  ·have hP : X.P = F.P := hX.P
   obtain ⟨XJ, hXJ1⟩ := j1
   have hz : J [] XJ.O wE := ⟨xs, x0, XJ, rfl, hr1, hXJ1, rfl, j2⟩
   have hcall := hC XJ.O wE hXJ1.okO hXJ1.ex.since nf xs hxs (D + 1) J Jx ?_
   ·rw [hP] at hcall
    rw [show #[Value.func (Fn.yield (D + 1)) #[] #[]] ++ us.toArray = (Value.func (.yield (D + 1)) #[] #[] :: us).toArray by simp]
    refine JT (m := 0) (Calls.mono hcall fun e W he => ?_)
    obtain ⟨rfl, ⟨O', rest, x, Xc, g1, g2, g3, g4, g5⟩ | ⟨O', c, s2, Xc, g3, g4, g5, g6⟩⟩ := he
    ·have hrest : rest = [] := by simpa using g1
     subst hrest
     have := Comp.run_pure g2
     subst this
     obtain ⟨W', k1, k2⟩ := hend r0 _ W (by simp [r0]) ⟨_, g3⟩
     exact ⟨none, W', k1, hW.k _ _ _ _ hmk k2 (his.trans (g5.trans (Inv.tick _))) hr2⟩
    ·obtain ⟨W', k1, k2⟩ := hend _ s2 W (by simp) ⟨_, g3⟩
     refine ⟨some c, W', k1, ?_⟩
     rcases g6 with ⟨i, rfl, g6⟩ | ⟨rfl, g6⟩
     ·exact wpIn_exit (hW.ex i _ _ _ _ hmk k2 (his.trans (g5.trans (Inv.tick _))) g6)
     ·exact wpIn_ret (hW.rt _ _ _ _ hmk k2 (his.trans (g5.trans (Inv.tick _))) g6)
   ·-- a round
    refine ⟨fun pre O1 w1 w2 ⟨rest, x, Xc, g1, g2, g3, g4, g5⟩ hE1 => ⟨rest, x, Xc, g1, g2, g3.ext hE1, g4, g5⟩, fun O1 w1 w2 ⟨c, s2, Xc, g1, g2, g3, g4⟩ hE1 => ⟨c, s2, Xc, g1.ext hE1, g2, g3, g4⟩,
     fun pre O1 w1 ⟨rest, x, Xc, g1, g2, g3, g4, g5⟩ => g4 ▸ g3.okO, fun O1 w1 ⟨c, s2, Xc, g1, g2, g3, g4⟩ => g2 ▸ g1.okO, ?_, hz⟩
    rintro pre d post O1 w1 vs hpre ⟨rest, x, Xc, g1, g2, g3, g4, g5⟩ hvs
    subst g4
    have hrest : rest = d :: post := by rw [g1] at hpre; simpa using hpre
    subst hrest
    obtain ⟨st1, hst1, hst2⟩ := Comp.run_bind g2
    rw [← hB] at hst1
    obtain ⟨⟨k1, k2⟩, k3⟩ := g3.ex.sys (D + 1) (.loop r0) (.inr ⟨rfl, rfl⟩)
    -- the round's own frame
    let FR : Loop → Frm := fun r => { F with D := [], x := { F.x with sys := qS r, kv := kv1, sO := Xc.O, sw := w1, rd := some (D + 1) } }
    have hfit0 : (⟨a.tmps, []⟩ : Act).fitD F.N [] := ⟨g3.fit.size, rfl⟩
    have hXR : RelX (FR r0) (sh.put s1 x) ⟨a.tmps, []⟩ w1 Xc := g3.conv (F' := FR r0) (L' := (sh.put s1 x).L) rfl rfl rfl rfl hLh rfl rfl rfl hfit0 g3.l g3.ln ⟨g3.ex.st, g3.ex.sys, g3.ex.kv, Keep.refl _ _ _, g3.ex.L⟩
    have hPc : Xc.P = F.P := g3.P
    rw [hP] at hvs
    obtain ⟨s2, X2, p1, p2, p3, p4, p5⟩ := CH (F := FR r0) hLh hXR (by rw [hPc]; exact hvs) hps hst1
    have hsince0 : ∀ {O2 : Tags} {w2 : World}, Keep 0 Xc.O w1 O2 w2 → Keep 0 X.O w O2 w2 := fun h => g3.ex.since.trans h
    rw [hP]
    refine ⟨fn, _, asg, bd, run_yield k1 (by simp [r0, ← p5]), ?_⟩
    have hact : ({ tmps := (r0.params.zip vs.toArray).foldl (fun tmps p => tmps.setIfInBounds p.1 p.2) r0.tmps, defers := [] } : Act) = putP ps.toList vs ⟨a.tmps, []⟩ := by
     rw [p7, ← Array.foldl_toList]; simp [r0, Array.toList_zip]
    refine roundIn_of_wpIn trivial ?_
    show asg.wpIn (fw (some (D + 1))) 0 F.P _ { tmps := (r0.params.zip vs.toArray).foldl (fun tmps p => tmps.setIfInBounds p.1 p.2) r0.tmps, defers := [] } w1
    rw [hact]
    refine iha (F := FR r0) hm hLh hE hoka (.inr hna) hsb ⟨_, p1⟩ (Inv.refl s2) p4 ⟨fun F' s3 a3 w3 f0 f1 f2 f3 => ?_, fun i F' s3 a3 w3 _ _ _ f3 => (nomatch f3), fun F' s3 a3 w3 _ _ _ f3 => (nomatch f3)⟩
    obtain ⟨X3, hX3⟩ := f1
    have hs3 := f0.same
    obtain ⟨⟨m1, m2⟩, m3⟩ := hX3.ex.sys (D + 1) (.loop r0) (f0.sys (.inr ⟨rfl, rfl⟩))
    let rb : Loop := { r0 with state := .busy }
    let q' : Nat → Obj → Prop := fun c o => (c ≠ D + 1 ∧ F'.x.sys c o) ∨ (c = D + 1 ∧ o = .loop rb)
    have hwD : F.w0.heap.size ≤ D + 1 := by have := hX.base.size; simp only [D]; omega
    have hX4 := hX3.turn (o' := .loop rb) (q := q') m2 (by rw [hs3.w0]; exact hwD) (Array.getElem?_eq_some_iff.1 m1).1 fun c o hc => hc.imp (fun h => h) fun h => ⟨h.1, h.2, m3⟩
    refine ⟨w3.putObj (D + 1) (.loop rb), run_beginRound m1 rfl, ?_⟩
    show bd.wpIn (fw (some (D + 1))) 0 F.P _ a3 _
    have hgoal : ∀ {cc : Code} {R : Exit → Act → World → Prop} {a' : Act} {w' : World}, (F'.sys q').wp cc R a' w' → cc.wpIn (fw (some (D + 1))) 0 F.P R a' w' := fun {cc R a' w'} h => by
     unfold Frm.wp at h
     change cc.wpIn (fw F'.x.rd) 0 F'.P R a' w' at h
     rwa [hs3.P, hs3.rd] at h
    let FK : Loop → Frm := fun r => { F with x := { F.x with sys := qS r, kv := kv1, sO := Xc.O, sw := w1 } }
    -- the end of a round
    have hback : ∀ (F2 : Frm) (s' : S) (a2 : Act) (W3 : World) (r1 : Loop), (F'.sys q').To F2 → Rel F2 s' a2 W3 → Inv s2 s' → (W3.heap[D + 1]? = some (.loop rb)) ∧ Rel (FK r1) (s'.back s1.L).tick a (W3.putObj (D + 1) (.loop r1)) := by
     intro F2 s' a2 W3 r1 u0 ⟨X5, hX5⟩ u2
     have hs5 : (FR r0).Same F2 := hs3.Aa u0.same
     have hsys5 : ∀ {c o}, c ≠ D + 1 → qS r0 c o → F2.x.sys c o := fun {c o} hc hq => u0.sys (.inl ⟨hc, f0.sys hq⟩)
     obtain ⟨⟨n1, n2⟩, n3⟩ := hX5.ex.sys (D + 1) (.loop rb) (u0.sys (.inr ⟨rfl, rfl⟩))
     refine ⟨n1, ?_⟩
     have hk5 : Keep 0 Xc.O w1 X5.O W3 := by
      have := hX5.ex.since
      rwa [hs5.sO, hs5.sw] at this
     have hXb : RelX (FK rb) (s'.back s1.L) a W3 X5 := by
      refine hX5.conv (F' := FK rb) (L' := s1.L) (by rw [hs5.P]) (by rw [hs5.A]) (by rw [hs5.O0]) (by rw [hs5.w0]) hLh (by rw [hs5.fe]) (by rw [hs5.bl]) (by rw [hs5.st]) hX.fit (fun t e he _ => ?_) (fun t e he => Nat.lt_of_lt_of_le (hX1.ln t e he) ?_) ⟨by have := hX5.ex.st; rwa [hs5.st] at this, fun c o hc => ?_, fun v φ hv => hX5.ex.kv v φ (by rw [hs5.kv]; exact hv), hk5, by have := hX5.ex.L; rwa [hs5.Lp] at this⟩
      ·exact (hX5.ex.kv _ _ (by rw [hs5.kv]; exact .inr ⟨t, e, he, rfl, rfl⟩)).2
      ·exact ((g5.trans p3).trans u2).le
      ·have hst5 : F2.x.st = F.x.st := hs5.st
       have hsb5 : F2.x.sb = F.x.sb := hs5.sb
       rcases hc with hc | ⟨rfl, rfl⟩
       ·have hne : c ≠ D + 1 := by
         rcases hc with hc | ⟨hc, _⟩
         ·have := hsysF c o hc; omega
         ·omega
        have := hX5.ex.sys c o (hsys5 hne (.inl hc))
        rw [hst5, hsb5] at this; exact this
       ·have := hX5.ex.sys (D + 1) (.loop rb) (u0.sys (.inr ⟨rfl, rfl⟩))
        rw [hst5, hsb5] at this; exact this
     have hbO : X5.O (D + 1) = F.x.st := (hXb.ex.sys (D + 1) (.loop rb) (.inr ⟨rfl, rfl⟩)).1.2
     have hsbD : F.x.sb ≤ D + 1 := (hXb.ex.sys (D + 1) (.loop rb) (.inr ⟨rfl, rfl⟩)).2
     have hlt5 := (Array.getElem?_eq_some_iff.1 n1).1
     have ht := hXb.turn (o' := .loop r1) (q := qS r1) hbO hwD hlt5 fun c o hc => by
      rcases hc with hc | ⟨rfl, rfl⟩
      ·refine .inl ⟨?_, .inl hc⟩
       rcases hc with hc | ⟨hc, _⟩
       ·have := hsysF c o hc; omega
       ·omega
      ·exact .inr ⟨rfl, rfl, hsbD⟩
     exact ⟨_, ht⟩
    have hInvB : ∀ {s' : S}, Inv s2 s' → Inv s1 (s'.back s1.L).tick := fun {s'} hi' => (⟨((g5.trans p3).trans hi').le, fun t e he _ => he, fun k e he hl => ((g5.trans p3).trans hi').m k e he hl⟩ : Inv s1 (s'.back s1.L)).trans (Inv.tick _)
    have hJkin : ∀ r1, (FK r1).kin (FJ r0) := fun r1 => ⟨rfl, rfl, rfl⟩
    have hKJ : ∀ {r1 : Loop} {s' : S} {W : World} {Xg : Cx}, RelX (FK r1) s' a W Xg → RelX (FJ r1) s' a W Xg := fun {r1 s' W Xg} h => h.conv (F' := FJ r1) (L' := s'.L) rfl rfl rfl rfl hLh rfl rfl rfl h.fit h.l h.ln ⟨h.ex.st, h.ex.sys, h.ex.kv, hsince0 h.ex.since, h.ex.L⟩
    have hdone : ∀ (o : Option Nat) (c : Code) (F2 : Frm) (s' : S) (a2 : Act) (W3 : World), (∀ i, o = some i → c = .exit i) → (o = none → c = .ret) → (F'.sys q').To F2 → Rel F2 s' a2 W3 → Inv s2 s' → (doneE (σ := sh.D) E.G s1 l o (s'.back s1.L).tick).run nf = some st1 →
      ∃ v w', (Instr.endRound (D + 1) (some c)).run F.P W3 = .ok v w' ∧ (∃ b, Ending.returned v = .returned (.bool b) ∧ ∃ O2, Keep 0 Xc.O w1 O2 w' ∧ match b with | true => J (pre ++ [d]) O2 w' | false => Jx O2 w') := by
     intro o c F2 s' a2 W3 hc1 hc2 u0 u1 u2 u3
     obtain ⟨n1, n2⟩ := hback F2 s' a2 W3 { r0 with state := .done, pending := some c } u0 u1 u2
     refine ⟨_, _, run_endRound (some c) n1, false, rfl, ?_⟩
     unfold doneE at u3
     split at u3
     ·rename_i z hz
      have hst := Comp.run_pure u3
      rw [← hst] at hst2
      have hr := Comp.run_pure hst2
      rw [← hr] at hr2
      obtain ⟨s3', ⟨Xg, v1⟩, v2, v3⟩ := J7 (F := FK { r0 with state := .done, pending := some c }) (o := o) (ex := fun i s' => ex i s'.tick) (rt := fun s' => rt s'.tick) hLh hE (hJkin _) ⟨_, hXJ⟩ n2 (hInvB u2) hz hr2
      refine ⟨Xg.O, v1.ex.since, c, s3', Xg, hKJ v1, rfl, v2, ?_⟩
      cases o with
      | some i => exact .inl ⟨i, hc1 i rfl, v3⟩
      | none => exact .inr ⟨hc2 rfl, v3⟩
     ·cases u3
    refine hgoal (ihb (F := F'.sys q') (by rw [show (F'.sys q').P = F'.P from rfl, hs3.P]; exact hm) (by rw [show (F'.sys q').Lh = F'.Lh from rfl, hs3.Lh]; exact hLh) (by rw [show (F'.sys q').P = F'.P from rfl, hs3.P]; exact hE) (by rw [show (F'.sys q').N = F'.N from rfl, hs3.N]; exact hokb) (.inr hnb) (by rw [show (F'.sys q').x.sb = F'.x.sb from rfl, show (F'.sys q').w0 = F'.w0 from rfl, hs3.sb, hs3.w0]; exact hsb) ⟨_, hX4⟩ (f2.trans (Inv.tick _)) f3 ⟨fun F2 s' a2 W3 u0 u1 u2 u3 => ?_, fun i F2 s' a2 W3 u0 u1 u2 u3 => ?_, fun F2 s' a2 W3 u0 u1 u2 u3 => ?_⟩)
    ·obtain ⟨n1, n2⟩ := hback F2 s' a2 W3 r0 u0 u1 u2
     refine ⟨_, _, run_endRound none n1, true, rfl, ?_⟩
     unfold nextE at u3
     split at u3
     ·rename_i z hz
      have hst := Comp.run_pure u3
      rw [← hst] at hst2
      obtain ⟨⟨Xg, v1⟩, v2⟩ := k8 (F := FK r0) hLh hE (hJkin r0) ⟨_, hXJ⟩ n2 (hInvB u2) hz
      exact ⟨Xg.O, v1.ex.since, post, z, Xg, by rw [g1]; simp, hst2, hKJ v1, rfl, v2⟩
     ·cases u3
    ·exact hdone (some i) (.exit i) F2 s' a2 W3 (fun _ h => by cases h; rfl) (fun h => nomatch h) u0 u1 u2 u3
    ·exact hdone none .ret F2 s' a2 W3 (fun _ h => nomatch h) (fun _ => rfl) u0 u1 u2 u3
end
end Go.Den
end
section
namespace Go.Den
open Go Go.RowKit Go.Eng Go.Lift
variable {α β γ δ : Type}
def frzV : MV → MV
 | .sl true t T xs => .fs t xs
 | .fs t xs => .fs t xs
 | .fb t x => .fb t x
 | .mp true a b xs => .fm a b xs
 | .fm a b xs => .fm a b xs
 | _ => .dead
def frz : MS → MS
 | [] => []
 | e :: M => (e.1, e.2.1, frzV e.2.2) :: frz M
theorem YH : ∀ {M : MS} {k : Nat} {e : Nat × MV}, look (frz M) k = some e → ∃ m, look M k = some (e.1, m) ∧ e.2 = frzV m
 | [], k, e, h => by cases h
 | f :: M, k, e, h => by
  obtain ⟨k0, st, m⟩ := f
  simp only [frz, look] at h ⊢
  cases hb : Nat.beq k0 k with
  | true => rw [hb] at h; cases h; exact ⟨m, rfl, rfl⟩
  | false => rw [hb] at h; exact YH h
section
variable {F : Frm} {s : S} {a : Act} {w : World} {X : Cx} {E : VE}
def Cx.out (X : Cx) (F : Frm) : Cx := { X with O := F.O0 }
theorem RelX.K0 (h : RelX F s a w X) : X.le w (X.out F) w := ⟨rfl, ⟨Mb _, fun b hb hz => ⟨h.base.zero b hb hz, rfl⟩⟩, fun _ _ => rfl, Mb _, rfl⟩
theorem RelX.out_m (h : RelX F s a w X) : KnowM (frz s.M) (X.out F) w := by
 intro k e he
 obtain ⟨m, h1, h2⟩ := YH he
 have hh := h.m k _ h1
 have hk0 := h.K0.k
 rw [h2]
 cases m with
 | sl nw t T xs =>
  cases nw with
  | false => trivial
  | true =>
   obtain ⟨vs, g1, g2, g3⟩ := hh
   refine rSl_v.2 ⟨vs, g1.slv, g2.mono hk0, fun _ g hg => ⟨g1.gR g hg, ?_⟩⟩
   have := (g3 g hg).2
   change X.F g at this
   rw [h.Fn] at this
   exact h.ok0 g this
 | bx nw c T => cases nw <;> trivial
 | fs t xs => exact GR.vU _ hh hk0
 | fb t x => exact GR.vU _ hh hk0
 | fg f => trivial
 | mp nw a b xs =>
  cases nw with
  | false => trivial
  | true =>
   obtain ⟨c, es, clock, g1, g2, g3, g4, g5⟩ := hh
   have hc : F.w0.heap.size ≤ c := by
    have : X.F c := g4
    rw [h.Fn] at this; exact this
   exact ⟨_, .inr ⟨c, es, clock, rfl, g2, g3.mono hk0, h.ok0 c hc⟩, g1⟩
 | fm a b xs => exact GR.vU _ hh hk0
 | dead => trivial
def resA1 (E : VE) (s : S) : ResultVar → Option AV
 | .tmp t => rdO s.ep s.L [] [] (.tmp t)
 | .cell t T => match rdO s.ep s.L [] [] (.tmp t), look E.T T with
  | some (.bx k off), some i => match bxOf s.M k with
   | some c => match c.at_ i.sz (vD i.dd) true off with
    | some φ => match φ.oneOk with
     | true => some φ
     | false => none
    | none => none
   | none => none
  | _, _ => none
def resA (E : VE) (s : S) : List ResultVar → Option (List AV)
 | [] => some []
 | r :: l => match resA1 E s r, resA E s l with
  | some φ, some m => some (φ :: m)
  | _, _ => none
def resF (tmps : Array Value) : ResultVar → Sem Value
 | .tmp t => pure (tmps.getD t undef)
 | .cell a t => do loadVar t (← asAddr (tmps.getD a undef))
theorem wa {P : Program} {Y : TypeId} {i : TI} (ht : Eng.Ty P Y i.dd i.z i.sz i.by_) {b off : Nat} {c2 : List Value} (hp : PtrTo w (.pointer (some ⟨b, off, none⟩)) (packV (vD i.dd) c2)) (hl : c2.length = i.sz) (h1 : vD i.dd = false → c2.length = 1) (ho : ∀ c ∈ c2, c.oneCell' = true) : (loadVar Y ⟨b, off, none⟩).run P w = .ok (packV (vD i.dd) c2) w := by
 obtain ⟨b', o', e1, e2⟩ := hp
 cases e1
 rw [gX h1 ho] at e2
 cases hag : vD i.dd with
 | true =>
  have hs : c2.toArray.size = i.sz := by simpa using hl
  have := Go.Eng.run_loadCells (P := P) (w := w) (b := b) (off := off) (cs := c2.toArray) e2
  rw [hs] at this
  simp [loadVar, ht.kr, hag, ht.zq, this, packV]
 | false =>
  have hl1 := h1 hag
  match c2, hl1 with
  | [v0], _ =>
   have := e2 0 (by simp)
   simp [loadVar, ht.kr, hag, packV, this] at this ⊢
   simp [this]
theorem Aw (hE : E.ok X.P) (h : RelX F s a w X) {r : ResultVar} {φ : AV} (hr : resA1 E s r = some φ) : ∃ v, (resF a.tmps r).run X.P w = .ok v w ∧ φ.holds X w v := by
 cases r with
 | tmp t =>
  refine ⟨a.get t, rfl, ?_⟩
  simp only [resA1] at hr
  rw [← h.ep] at hr
  exact h.rd #[.tmp t] (.tmp t) φ (by simp) hr
 | cell t T =>
  simp only [resA1] at hr
  rw [← h.ep] at hr
  split at hr
  ·rename_i k off i h1 h2
   split at hr
   ·rename_i c hc
    split at hr
    case h_2 => cases hr
    rename_i ψ hat
    split at hr
    case h_2 => cases hr
    rename_i hoo
    cases hr
    have k1 := h.rd #[.tmp t] (.tmp t) _ (by simp) h1
    obtain ⟨T', nw, b, cs, e1, e2, e3⟩ := lg h.m hc
    obtain ⟨c1, c2, c3, f1, f2, f3, f4, f5, f6⟩ := (AV.at_ok c hat e3).h
    obtain ⟨_, b', e4, e5⟩ := k1
    rw [e1] at e4; cases e4
    have hone := AV.Cc φ hoo f4
    have hl : vD i.dd = false → c2.length = 1 := fun ha => by rw [f3]; exact f5 ha
    refine ⟨_, ?_, f6⟩
    have hrun := wa (hE.T T i h2).ty (tB e2.own f1 f2 hl hone) f3 hl hone
    have e6 : a.tmps.getD t undef = .pointer (some ⟨b, off, none⟩) := e5
    simp [resF, e6, asAddr, hrun]
   ·cases hr
  ·cases hr
theorem Y7 (hE : E.ok X.P) (h : RelX F s a w X) : ∀ {l : List ResultVar} {m : List AV}, resA E s l = some m → ∃ vs, (l.mapM (resF a.tmps)).run X.P w = .ok vs w ∧ vs.length = m.length ∧ ∀ (i : Nat) φ v, m[i]? = some φ → vs[i]? = some v → φ.holds X w v
 | [], m, hr => by cases hr; exact ⟨[], by simp, rfl, fun i φ v hi => by simp at hi⟩
 | r :: l, m, hr => by
  simp only [resA] at hr
  split at hr
  ·rename_i φ m' h1 h2
   cases hr
   obtain ⟨v, e1, e2⟩ := Aw hE h h1
   obtain ⟨vs, f1, f2, f3⟩ := Y7 hE h h2
   refine ⟨v :: vs, by simp [List.mapM_cons, e1, f1, Result.andThen], by simp [f2], fun i φ' v' hi hv => ?_⟩
   cases i with
   | zero => simp at hi hv; subst hi hv; exact e2
   | succ i => exact f3 i φ' v' (by simpa using hi) (by simpa using hv)
  ·cases hr
theorem ku {P : Program} {fn : Func} {tmps : Array Value} {w : World} {vs : List Value} (h : (fn.results.toList.mapM (resF tmps)).run P w = .ok vs w) : ∃ v, (results fn tmps).run P w = .ok v w ∧ isTup vs v := by
 have e : (fn.results.mapM (resF tmps)).run P w = .ok vs.toArray w := by
  rw [Array.mapM_eq_mapM_toList]
  rw [map_eq_pure_bind]
  simp [h, Result.andThen]
 have e4 : results fn tmps = (do let vs ← fn.results.mapM (resF tmps); pure (if h : vs.size = 1 then vs[0] else .tuple vs)) := by
  unfold results
  congr 2
 have e3 : (results fn tmps).run P w = .ok (if h : vs.toArray.size = 1 then vs.toArray[0] else .tuple vs.toArray) w := by
  rw [e4]
  simp only [Sem.run_bind, e, Result.andThen, Sem.run_pure]
 refine ⟨_, e3, ?_⟩
 match vs with
 | [] => exact .inl rfl
 | [v] => exact .inr rfl
 | v :: u :: vs => exact .inr (by rw [dif_neg (by simp)]; rfl)
def slTo {t : Ty} (xs : List t.D) (a : Ty) : Option a.D := (Ty.sl t).to a xs
def nilT : (a : Ty) → Option a.D
 | .sl e => some ([] : List e.D)
 | _ => none
def retT (G : FE) (M : MS) : List (Option TypeId) → (rs : Ty) → List AV → Option rs.D
 | [], .nil, [] => some ()
 | none :: ks, .cons a b, φ :: l => match φ.asT G (frz M) a, retT G M ks b l with
  | some x, some y => some (x, y)
  | _, _ => none
 | some T :: ks, .cons a b, φ :: l => match slMV M φ with
  | some p => match p.2.1 && Nat.beq p.2.2.1 T, slTo p.2.2.2.2 a, retT G M ks b l with
   | true, some x, some y => some (x, y)
   | _, _, _ => none
  | none => match YE φ, nilT a, retT G M ks b l with
   | true, some x, some y => some (x, y)
   | _, _, _ => none
 | _, _, _ => none
theorem Y6 (hG : FOk X.P E.G) (h : RelX F s a w X) : ∀ {ks : List (Option TypeId)} {rs : Ty} {l : List AV} {y : rs.D}, retT E.G s.M ks rs l = some y → ∀ {vs : List Value}, vs.length = l.length → (∀ (i : Nat) φ v, l[i]? = some φ → vs[i]? = some v → φ.holds X w v ∧ φ.frail = false) →
  resV X.P F.O0 F.w0.heap.size w ks rs vs y
 | [], .nil, [], y, hr, vs, hl, _ => List.length_eq_zero_iff.1 hl
 | none :: ks, .cons t b, φ :: l, y, hr, vs, hl, hv => by
  simp only [retT] at hr
  split at hr
  ·rename_i x y' h1 h2
   cases hr
   match vs, hl with
   | v :: vs, hl =>
    obtain ⟨k1, k2⟩ := hv 0 φ v rfl rfl
    have k3 := φ.le k2 h.K0 k1
    exact ⟨v, vs, rfl, AV.asT_v (X := X.out F) hG h.out_m h1 k3, Y6 hG h h2 (by simpa using hl) fun i ψ u hi hu => hv (i + 1) ψ u (by simpa using hi) (by simpa using hu)⟩
  ·cases hr
 | some T :: ks, .cons t b, φ :: l, y, hr, vs, hl, hv => by
  simp only [retT] at hr
  match vs, hl with
  | v :: vs, hl =>
   obtain ⟨k1, k2⟩ := hv 0 φ v rfl rfl
   have rest := fun {y' : b.D} (h2 : retT E.G s.M ks b l = some y') => Y6 hG h h2 (vs := vs) (by simpa using hl) fun i ψ u hi hu => hv (i + 1) ψ u (by simpa using hi) (by simpa using hu)
   split at hr
   ·rename_i p hp
    split at hr
    ·rename_i x y' hb h1 h2
     cases hr
     rw [MY] at hb
     obtain ⟨e, f1, f2, f3, f4⟩ := X9 h.m k1 hp
     obtain ⟨e1, e2⟩ := Ty.kL h1
     refine ⟨v, vs, rfl, ?_, rest h2⟩
     have hne := h.pos p.1 e f1 (by rw [f2]; rfl)
     rw [hb.1, MX hb.2] at f3
     change OwnL _ _ _ X.F _ _ _ _ at f3
     rw [h.Fn] at f3
     have := OwnL.res (O0 := F.O0) f3 hne.1 (fun b hb hz => h.base.zero b hb hz)
     subst e1
     have e2 : p.2.2.2.2 = _ := e2
     show OwnR _ _ _ _ _ _ _
     rw [← e2]; exact this
    ·cases hr
   ·split at hr
    ·rename_i x y' hb h1 h2
     cases hr
     refine ⟨v, vs, rfl, ?_, rest h2⟩
     rw [kU hb] at k1
     cases t <;> simp only [nilT] at h1 <;> cases h1
     show OwnR _ _ _ _ _ _ _
     rw [show v = _ from k1]
     exact OwnR.nil _ _ _ _ _
    ·cases hr
 | [], .nil, _ :: _, _, h, _, _, _ => by cases h
 | [], .int _, _, _, h, _, _, _ | [], .bool, _, _, h, _, _, _ | [], .str, _, _, h, _, _, _ | [], .sl _, _, _, h, _, _, _ | [], .cons .., _, _, h, _, _, _ | [], .arr .., _, _, h, _, _, _ | [], .box .., _, _, h, _, _, _ | [], .fn .., _, _, h, _, _, _ | [], .seq .., _, _, h, _, _, _ | [], .slo .., _, _, h, _, _, _ | [], .mp .., _, _, h, _, _, _ => by cases h
 | none :: _, .int _, _, _, h, _, _, _ | none :: _, .bool, _, _, h, _, _, _ | none :: _, .str, _, _, h, _, _, _ | none :: _, .sl _, _, _, h, _, _, _ | none :: _, .nil, _, _, h, _, _, _ | none :: _, .arr .., _, _, h, _, _, _ | none :: _, .box .., _, _, h, _, _, _ | none :: _, .fn .., _, _, h, _, _, _ | none :: _, .seq .., _, _, h, _, _, _ | none :: _, .slo .., _, _, h, _, _, _ | none :: _, .mp .., _, _, h, _, _, _ => by cases h
 | some _ :: _, .int _, _, _, h, _, _, _ | some _ :: _, .bool, _, _, h, _, _, _ | some _ :: _, .str, _, _, h, _, _, _ | some _ :: _, .sl _, _, _, h, _, _, _ | some _ :: _, .nil, _, _, h, _, _, _ | some _ :: _, .arr .., _, _, h, _, _, _ | some _ :: _, .box .., _, _, h, _, _, _ | some _ :: _, .fn .., _, _, h, _, _, _ | some _ :: _, .seq .., _, _, h, _, _, _ | some _ :: _, .slo .., _, _, h, _, _, _ | some _ :: _, .mp .., _, _, h, _, _, _ => by cases h
 | none :: _, .cons .., [], _, h, _, _, _ | some _ :: _, .cons .., [], _, h, _, _, _ => by cases h
end
end Go.Den
end
noncomputable section
namespace Go.Den
open Go Go.RowKit Go.Eng Go.Lift
variable {α β γ δ : Type}
def initL : (ps : Ty) → ps.D → Nat → LS
 | .cons p q, x, i => (i, 0, .rd p x.1) :: initL q x.2 (i + 1)
 | _, _, _ => []
def k7 : List AV → Bool
 | [] => true
 | φ :: l => !φ.frail && k7 l
def rtF (E : VE) (rk : List (Option TypeId)) (rs : Ty) (l : List ResultVar) (s : S) : Comp rs.D := match resA E s l with
 | some m => match k7 m, retT E.G s.M rk rs m with
  | true, some y => Comp.pure y
  | _, _ => Comp.fail
 | none => Comp.fail
def fnDen (E : VE) (c : Code) (h : H) (l : List ResultVar) (ps rs : Ty) (rk : List (Option TypeId)) (x : ps.D) : Comp rs.D :=
 den E c rs.D h ⟨initL ps x 0, [], 1, 0⟩ (rtF E rk rs l) (fun _ _ => Comp.fail) (rtF E rk rs l)
def Ty.len : Ty → Nat
 | .cons _ b => b.len + 1
 | _ => 0
theorem YK {P : Program} {O w} : ∀ {t : Ty} {vs : List Value} {x : t.D}, t.args P O w vs x → vs.length = t.len
 | .cons a b, vs, x, ⟨v, vs', h, _, h2⟩ => by rw [h, List.length_cons, YK h2]; rfl
 | .nil, vs, x, h => by rw [show vs = [] from h]; rfl
 | .int _, _, _, h | .bool, _, _, h | .str, _, _, h | .sl _, _, _, h | .arr .., _, _, h | .box .., _, _, h | .fn .., _, _, h | .seq .., _, _, h | .slo .., _, _, h | .mp .., _, _, h => h.elim
theorem YG {P : Program} {O w} {X : Cx} (hP : X.P = P) (hO : X.O = O) {a : Act} : ∀ {t : Ty} {vs : List Value} {x : t.D} {i : Nat}, t.args P O w vs x → (∀ (j : Nat) v, vs[j]? = some v → a.get (i + j) = v) → ∀ {u e}, look (initL t x i) u = some e → e.1 = 0 ∧ e.2.holds X w (a.get u)
 | .cons p q, vs, x, i, ⟨v, vs', h, h1, h2⟩, ha, u, e, he => by
  rcases zF he with ⟨e1, e2⟩ | ⟨_, e2⟩
  ·subst e1 e2
   refine ⟨rfl, ?_⟩
   have := ha 0 v (by rw [h]; rfl)
   rw [Nat.add_zero] at this
   rw [this]
   show (p.gr X.P).v _ _ _ _
   rw [hP, hO]; exact h1
  ·exact YG hP hO h2 (fun j v hj => by have := ha (j + 1) v (by rw [h]; simpa using hj); rw [← this]; congr 1; omega) e2
 | .nil, _, _, _, _, _, _, _, he => by cases he
 | .int _, _, _, _, h, _, _, _, _ | .bool, _, _, _, h, _, _, _, _ | .str, _, _, _, h, _, _, _, _ | .sl _, _, _, _, h, _, _, _, _ | .arr .., _, _, _, h, _, _, _, _ | .box .., _, _, _, h, _, _, _, _ | .fn .., _, _, _, h, _, _, _, _ | .seq .., _, _, _, h, _, _, _, _ | .slo .., _, _, _, h, _, _, _, _ | .mp .., _, _, _, h, _, _, _, _ => h.elim
theorem Y8 {E : VE} {s : S} {ep n : Nat} : ∀ {l : List ResultVar} {m : List AV}, resA E s l = some m → k7 m = true → resA E { s with ep := ep, n := n } l = some m
 | [], m, h, _ => h
 | r :: l, m, h, hn => by
  have rd : ∀ {t : Nat} {φ : AV}, rdO s.ep s.L [] [] (.tmp t) = some φ → φ.frail = false → rdO ep s.L [] [] (.tmp t) = some φ := fun {t φ} h hf => by
   simp only [rdO, lookR] at h ⊢
   cases he : look s.L t with
   | none => rw [he] at h; cases h
   | some e =>
    rw [he] at h
    simp only at h ⊢
    cases hfr : fresh s.ep e with
    | false => rw [hfr] at h; cases h
    | true =>
     rw [hfr] at h; cases h
     simp [fresh, hf]
  simp only [resA] at h ⊢
  split at h
  ·rename_i φ m' h1 h2
   cases h
   simp only [k7, MY] at hn
   rw [Y8 h2 hn.2]
   have : resA1 E { s with ep := ep, n := n } r = some φ := by
    cases r with
    | tmp t => exact rd h1 (by simpa using hn.1)
    | cell t T =>
     simp only [resA1] at h1 ⊢
     cases hr : rdO s.ep s.L [] [] (.tmp t) with
     | none => rw [hr] at h1; cases h1
     | some ψ =>
      rw [hr] at h1
      cases ψ <;> first | (rw [rd hr rfl]; exact h1) | cases h1
   rw [this]
  ·cases h
theorem td {P : Program} {fn : Func} {R : Ending → World → Prop} {F : Frm} (hsb : F.w0.heap.size ≤ F.x.sb) {a : Act} {s : S} : ∀ (bs : List Nat) {q : Nat → Obj → Prop} {n ep : Nat} {w : World}, Rel (F.sys q) { s with n := n, ep := ep } a w → bs.Nodup → (∀ b ∈ bs, q b (.deferred (some []))) →
  (∀ q' n' ep' w', Rel (F.sys q') { s with n := n', ep := ep' } a w' → ∃ v, (results fn a.tmps).run P w' = .ok v w' ∧ R (.returned v) w') → LeavesInM Fence.wide 0 P fn a.tmps R (bs.map markD) .returning w
 | [], q, n, ep, w, h, _, _, hK => hK _ _ _ _ h
 | b :: bs, q, n, ep, w, ⟨X, h⟩, hn, hb, hK => by
  obtain ⟨hn1, hn2⟩ := List.nodup_cons.1 hn
  obtain ⟨⟨h1, h2⟩, h3⟩ := h.ex.sys b _ (hb b (by simp))
  refine ⟨by simp, .inl ⟨b, _, rfl, run_takeDeferred h1, ?_⟩⟩
  have := h.turn (o' := .deferred none) (q := fun c o => q c o ∧ c ≠ b) h2 (Nat.le_trans hsb h3) (Array.getElem?_eq_some_iff.1 h1).1 fun c o hc => .inl ⟨hc.2, hc.1⟩
  exact td hsb bs (q := fun c o => q c o ∧ c ≠ b) ⟨_, this⟩ hn2 (fun c hc => ⟨hb c (by simp [hc]), fun e => hn1 (by rw [← e]; exact hc)⟩) hK
theorem leaves {P : Program} {fn : Func} {R : Ending → World → Prop} {F F' : Frm} (hT : F.To F') (hD : F.D = []) (hs : ∀ b o, ¬ F.x.sys b o) (hsb : F.w0.heap.size ≤ F.x.sb) {a : Act} {s : S} {w : World} (h : Rel F' s a w)
  (hK : ∀ q' n' ep' w', Rel (F'.sys q') { s with n := n', ep := ep' } a w' → ∃ v, (results fn a.tmps).run P w' = .ok v w' ∧ R (.returned v) w') : LeavesInM Fence.wide 0 P fn a.tmps R a.defers .returning w := by
 obtain ⟨bs, h1, h2, h3⟩ := hT.marks hD hs
 have hsm := hT.same
 have hd : a.defers = bs.map markD := by obtain ⟨X, hX⟩ := h; rw [hX.fit.defers]; exact h1
 rw [hd]
 exact td (F := F') (s := s) (q := F'.x.sys) (n := s.n) (ep := s.ep) (by rw [hsm.w0, hsm.sb]; exact hsb) bs h h2 (fun b hb => (h3 b _).2 ⟨hb, rfl⟩) hK
theorem kS : ∀ {l : List AV}, k7 l = true → ∀ φ ∈ l, φ.frail = false
 | [], _, φ, h => by cases h
 | ψ :: l, h, φ, hm => by
  simp only [k7, MY] at h
  rcases List.mem_cons.1 hm with rfl | hm
  ·simpa using h.1
  ·exact kS h.2 φ hm
theorem fn_ok {P : Program} {E : VE} (hE : E.ok P) (hm : P.follows .mixedOrders = true) {f : FuncId} {fn : Func} {c : Code} {h : H} {fs : FS} (hF : FnOk P f) (hf : P.funcs[f]? = some fn) (hb : fn.body = some c) (hc : okC fn.ntmps c = true) (hl : Nat.ble fs.ps.len fn.ntmps = true)
  (hs : ∀ x, fnDen E c h fn.results.toList fs.ps fs.rs fs.rk x = fs.sem x) : fs.ok P f := by
 refine ⟨hF, fun O w hO vs x ha n y hy => ?_⟩
 rw [← hs x] at hy
 have hfit := ZY vs.toArray fn.ntmps (by have := YK ha; simp only [List.size_toArray]; rw [this]; exact Nat.le_of_ble_eq_true hl)
 have hget : ∀ (j : Nat) v, vs[j]? = some v → Act.get { tmps := vs.toArray ++ Array.replicate (fn.ntmps - vs.toArray.size) undef, defers := [] } j = v := fun j v hj => ZX (by simpa using hj)
 refine callsIn_wide.1 (callsIn_of_wp_marks (n := 0) hf hb trivial ?_)
 generalize ({ tmps := vs.toArray ++ Array.replicate (fn.ntmps - vs.toArray.size) undef, defers := [] } : Act) = a at hfit hget ⊢
 let F : Frm := ⟨P, fn.ntmps, [], Go.Lift.Fr w, O, w, fun _ _ => False, 0, [], FrX.no 1 O w⟩
 let X : Cx := ⟨P, O, fun _ => .nilIface, 1, fun k => k, Go.Lift.Fr w, Go.Lift.Fr w, 0, 0⟩
 have hR : Rel F ⟨initL fs.ps x 0, [], 1, 0⟩ a w := by
  have hin := fun {u e} => YG (X := X) (a := a) (i := 0) rfl rfl ha (fun j v hj => by rw [Nat.zero_add]; exact hget j v hj) (u := u) (e := e)
  refine ⟨X, rfl, rfl, rfl, rfl, rfl, hO, hfit, Base.start hO, fun t e he _ => (hin he).2, fun k e he => (nomatch he), fun t e he => (by rw [(hin he).1]; exact Nat.zero_lt_one), fun k e he => (nomatch he), fun k k' e e' he => (nomatch he), fun k e he => (nomatch he), Nat.zero_le _, Nat.zero_lt_one, fun _ _ h => h.elim, ⟨Nat.zero_le _, fun j b hj => (nomatch hj)⟩, Exx.no Nat.one_ne_zero rfl⟩
 have hrt : ∀ F' s' a' w', F.To F' → Rel F' s' a' w' → (rtF E fs.rk fs.rs fn.results.toList s').run n = some y → LeavesInM Fence.wide 0 P fn a'.tmps (fun e w' => ∃ v, e = .returned v ∧ Ext w w' ∧ ∃ rs, isTup rs v ∧ resV P O w.heap.size w' fs.rk fs.rs rs y) a'.defers .returning w' := by
  intro F' s' a' w' hT h' hr
  refine leaves hT rfl (fun _ _ h => h) (Mb _) h' fun q n' ep' w' hX' => ?_
  obtain ⟨X', hX'⟩ := hX'
  have hs := hT.same
  have hP : X'.P = P := hX'.P.trans hs.P
  have hE' : E.ok X'.P := by rw [hP]; exact hE
  unfold rtF at hr
  split at hr
  ·rename_i m hm'
   split at hr
   ·rename_i y' hnf hy'
    have e := Comp.run_pure hr
    subst e
    obtain ⟨vs', g1, g2, g3⟩ := Y7 hE' hX' (Y8 hm' hnf)
    obtain ⟨v, g4, g5⟩ := ku g1
    rw [hP] at g4
    refine ⟨v, g4, v, rfl, ?_, vs', g5, ?_⟩
    ·have := hX'.base
     change Base F'.A F'.O0 F'.w0 _ _ at this
     rw [hs.A, hs.O0, hs.w0] at this
     exact this.ext
    ·have := Y6 hE'.G hX' hy' g2 fun i φ u hi hu => ⟨g3 i φ u hi hu, kS hnf φ (List.mem_of_getElem? hi)⟩
     change resV _ F'.O0 F'.w0.heap.size _ _ _ _ _ at this
     rwa [hP, hs.O0, hs.w0] at this
   ·cases hr
  ·cases hr
 exact wA c (F := F) hm (fun _ _ h => h) hE hc (.inl ⟨rfl, rfl⟩) rfl hR (Inv.refl _) hy ⟨fun F' s' a' w' h0 h1 _ h2 => hrt F' s' a' w' h0 h1 h2, fun i F' s' a' w' _ _ _ h2 => (nomatch h2), fun F' s' a' w' h0 h1 _ h2 => hrt F' s' a' w' h0 h1 h2⟩
end Go.Den
end
noncomputable section
namespace Go.Den
open Go Go.RowKit Go.Eng Go.Lift
variable {α β γ δ : Type}
def initM : List (Option TypeId) → (ps : Ty) → ps.D → Nat → Nat → LS × MS
 | some T :: io, .cons (.box e) q, x, i, j => ((i, 0, .bx j 0) :: (initM io q x.2 (i + 1) (j + 1)).1, (j, 0, .bx false (.rd e x.1) T) :: (initM io q x.2 (i + 1) (j + 1)).2)
 | none :: io, .cons a q, x, i, j => ((i, 0, .rd a x.1) :: (initM io q x.2 (i + 1) j).1, (initM io q x.2 (i + 1) j).2)
 | _, _, _, _, _ => ([], [])
def nbx : List (Option TypeId) → Nat
 | [] => 0
 | some _ :: io => nbx io + 1
 | none :: io => nbx io
def outM (G : FE) (M Mf : MS) : (io : List (Option TypeId)) → (ps : Ty) → Nat → Option (ioT io ps).D
 | some T :: io, .cons (.box e) q, j => match look M j with
  | some (_, .bx _ c T') => match Nat.beq T T', c.asT G Mf e, outM G M Mf io q (j + 1) with
   | true, some x, some y => some (x, y)
   | _, _, _ => none
  | _ => none
 | none :: io, .cons _ q, j => outM G M Mf io q j
 | [], .nil, _ => some ()
 | _, _, _ => none
def nones : Ty → List (Option TypeId)
 | .cons _ b => none :: nones b
 | _ => []
def rtM (E : VE) (io : List (Option TypeId)) (ps rs : Ty) (l : List ResultVar) (s : S) : Comp ((ioT io ps).D × rs.D) := match resA E s l with
 | some m => match k7 m, retT E.G s.M (nones rs) rs m, outM E.G s.M (frz s.M) io ps 0 with
  | true, some y, some x => Comp.pure (x, y)
  | _, _, _ => Comp.fail
 | none => Comp.fail
def DD (E : VE) (c : Code) (h : H) (l : List ResultVar) (ps : Ty) (io : List (Option TypeId)) (rs : Ty) (x : ps.D) : Comp ((ioT io ps).D × rs.D) :=
 den E c ((ioT io ps).D × rs.D) h ⟨(initM io ps x 0 0).1, (initM io ps x 0 0).2, nbx io + 1, 0⟩ (rtM E io ps rs l) (fun _ _ => Comp.fail) (rtM E io ps rs l)
structure Start (P : Program) (O : Tags) (w : World) (bl : List Nat) (X : Cx) (n : Nat) : Prop where
 U : ∀ (j : Nat) b, bl[j]? = some b → X.U j = .pointer (some ⟨b, 0, none⟩) ∧ X.ι j = O b
 A : ∀ b ∈ bl, X.A b
 n : X.n = n
 P : X.P = P
 O : X.O = O
theorem MIn.len {P : Program} {O : Tags} {w : World} : ∀ {io : List (Option TypeId)} {ps : Ty} {bl : List Nat} {vs : List Value} {x : ps.D}, MIn P O w io ps bl vs x →
  bl.length = nbx io ∧ (∀ b ∈ bl, O b ≠ 0 ∧ b < w.heap.size) ∧ vs.length = ps.len ∧ bl.Pairwise (fun b c => O c ≠ O b) := by
 intro io
 induction io with
 | nil =>
  intro ps bl vs x h
  cases ps <;> first | exact h.elim | skip
  obtain ⟨rfl, rfl⟩ := h
  exact ⟨rfl, by simp, rfl, .nil⟩
 | cons o io ih =>
  intro ps bl vs x h
  cases ps with
  | cons p q =>
   cases o with
   | none =>
    obtain ⟨v, vs', rfl, h1, h2⟩ := h
    obtain ⟨g1, g2, g3, g4⟩ := ih h2
    exact ⟨g1, g2, by simp [Ty.len, g3], g4⟩
   | some T =>
    cases p with
    | box e =>
     obtain ⟨b, bl', vs', cs, rfl, rfl, h1, h2, h3, h4, h5⟩ := h
     obtain ⟨g1, g2, g3, g4⟩ := ih h5
     refine ⟨by simp [nbx, g1], fun c hc => ?_, by simp [Ty.len, g3], .cons h3 g4⟩
     rcases List.mem_cons.1 hc with rfl | hc
     ·obtain ⟨fr, h6, _⟩ := h1
      exact ⟨h2, (Array.getElem?_eq_some_iff.1 h6).1⟩
     ·exact g2 c hc
    | _ => exact h.elim
  | _ => cases o <;> exact h.elim
theorem Bq {P : Program} {O : Tags} {w : World} {all : List Nat} {X : Cx} {n : Nat} (hs : Start P O w all X n) (hn : all.length ≤ n) {a : Act} : ∀ {io : List (Option TypeId)} {ps : Ty} {bl : List Nat} {vs : List Value} {x : ps.D} {i j : Nat}, MIn P O w io ps bl vs x → (∀ k, all[j + k]? = bl[k]?) → (∀ (k : Nat) v, vs[k]? = some v → a.get (i + k) = v) →
  (∀ {t e}, look (initM io ps x i j).1 t = some e → e.1 = 0 ∧ e.2.holds X w (a.get t)) ∧ (∀ {k e}, look (initM io ps x i j).2 k = some e → e.1 = 0 ∧ j ≤ k ∧ k < j + bl.length ∧ e.2.holds X w k) := by
 intro io
 induction io with
 | nil =>
  intro ps bl vs x i j h hb hv
  cases ps <;> first | exact h.elim | skip
  obtain ⟨rfl, rfl⟩ := h
  exact ⟨fun {t e} he => (nomatch he), fun {k e} he => (nomatch he)⟩
 | cons o io ih =>
  intro ps bl vs x i j h hb hv
  cases ps with
  | cons p q =>
   cases o with
   | none =>
    obtain ⟨v, vs', rfl, h1, h2⟩ := h
    obtain ⟨g1, g2⟩ := ih (i := i + 1) h2 hb (fun k u hk => by rw [show i + 1 + k = i + (k + 1) by omega]; exact hv (k + 1) u (by simpa using hk))
    refine ⟨fun {t e} he => ?_, fun {k e} he => g2 he⟩
    rcases zF he with ⟨rfl, rfl⟩ | ⟨_, he⟩
    ·refine ⟨rfl, ?_⟩
     have := hv 0 v rfl
     rw [Nat.add_zero] at this
     rw [this]
     show (p.gr X.P).v X.O w v x.1
     rw [hs.P, hs.O]; exact h1
    ·exact g1 he
   | some T =>
    cases p with
    | box e =>
     obtain ⟨b, bl', vs', cs, rfl, rfl, h1, h2, h3, h4, h5⟩ := h
     obtain ⟨g1, g2⟩ := ih (i := i + 1) (j := j + 1) h5 (fun k => by rw [show j + 1 + k = j + (k + 1) by omega, hb (k + 1)]; rfl) (fun k u hk => by rw [show i + 1 + k = i + (k + 1) by omega]; exact hv (k + 1) u (by simpa using hk))
     have hj : all[j]? = some b := by have := hb 0; simpa using this
     obtain ⟨k1, k2⟩ := hs.U j b hj
     have hjn : j < X.n := by rw [hs.n]; exact Nat.lt_of_lt_of_le (List.getElem?_eq_some_iff.1 hj).1 hn
     refine ⟨fun {t f} he => ?_, fun {k f} he => ?_⟩
     ·rcases zF he with ⟨rfl, rfl⟩ | ⟨_, he⟩
      ·refine ⟨rfl, ?_⟩
       have := hv 0 _ rfl
       rw [Nat.add_zero] at this
       rw [this]
       exact ⟨hjn, b, k1, rfl⟩
      ·exact g1 he
     ·rcases zF he with ⟨rfl, rfl⟩ | ⟨_, he⟩
      ·refine ⟨rfl, Mb _, by simp, b, cs, k1, ⟨h1, ?_, ?_⟩, ?_, rfl⟩
       ·exact hs.A b (List.mem_of_getElem? hj)
       ·rw [hs.O]; exact k2.symm
       ·show (e.gr X.P).rel X.O w cs.toList x.1
        rw [hs.P, hs.O]; exact h4
      ·obtain ⟨a1, a2, a3, a4⟩ := g2 he
       exact ⟨a1, by omega, by simp; omega, a4⟩
    | _ => exact h.elim
  | _ => cases o <;> exact h.elim
theorem EO {G : FE} {M Mf : MS} {T : TypeId} {io : List (Option TypeId)} {e q : Ty} {j : Nat} : outM G M Mf (some T :: io) (.cons (.box e) q) j = (match look M j with
  | some (_, .bx _ c T') => match Nat.beq T T', c.asT G Mf e, outM G M Mf io q (j + 1) with
   | true, some x, some y => some (x, y)
   | _, _, _ => none
  | _ => none) := rfl
theorem BG {G : FE} {M Mf : MS} {T : TypeId} {io : List (Option TypeId)} {e q : Ty} {j : Nat} {r : Option (ioT (some T :: io) (.cons (.box e) q)).D} (h0 : outM G M Mf (some T :: io) (.cons (.box e) q) j = r) {y : e.D × (ioT io q).D} (hr : r = some y) :
  ∃ st nw c, look M j = some (st, .bx nw c T) ∧ c.asT G Mf e = some y.1 ∧ outM G M Mf io q (j + 1) = some y.2 := by
 rw [EO] at h0
 rw [hr] at h0
 split at h0
 ·rename_i st nw c T' hk
  split at h0
  ·rename_i x1 y1 hT hc hq
   cases h0
   have hTT : T = T' := MX hT
   subst hTT
   exact ⟨st, nw, c, hk, hc, hq⟩
  ·cases h0
 ·cases h0
section
variable {F : Frm} {s : S} {a : Act} {w : World} {X : Cx} {E : VE}
theorem EM (hG : FOk X.P E.G) (h : RelX F s a w X) {all : List Nat} (hU : ∀ (j : Nat) b, all[j]? = some b → X.U j = .pointer (some ⟨b, 0, none⟩)) : ∀ {io : List (Option TypeId)} {ps : Ty} {bl : List Nat} {w0 : World} {vs : List Value} {x : ps.D} {j : Nat} {y : (ioT io ps).D}, MIn X.P F.O0 w0 io ps bl vs x → (∀ k, all[j + k]? = bl[k]?) → outM E.G s.M (frz s.M) io ps j = some y → MOut X.P F.O0 w io ps bl y := by
 intro io
 induction io with
 | nil =>
  intro ps bl w0 vs x j y h0 hb hy
  cases ps <;> first | exact h0.elim | skip
  exact h0.1
 | cons o io ih =>
  intro ps bl w0 vs x j y h0 hb hy
  cases ps with
  | cons p q =>
   cases o with
   | none =>
    obtain ⟨v, vs', rfl, h1, h2⟩ := h0
    exact ih h2 hb hy
   | some T =>
    cases p with
    | box e =>
     obtain ⟨b, bl', vs', cs, rfl, rfl, h1, h2, h3, h4, h5⟩ := h0
     obtain ⟨st, nw, c, hk, hc, hr⟩ := BG rfl hy
     obtain ⟨b', cs', k1, k2, k3, k4⟩ := h.m j _ hk
     have hj : all[j]? = some b := by have := hb 0; simpa using this
     rw [hU j b hj] at k1
     simp only [Value.pointer.injEq, Option.some.injEq, Addr.mk.injEq, and_true] at k1
     subst k1
     refine ⟨b, bl', cs', rfl, k2.own, ?_, ih h5 (fun k => by rw [show j + 1 + k = j + (k + 1) by omega, hb (k + 1)]; rfl) hr⟩
     have hc2 := (c.mono h.K0 fun hf => absurd hf (by rw [k4]; decide)).2.2 _ k3
     exact (AV.kH (X := X.out F) hG c h.out_m).vc hc hc2
    | _ => exact h0.elim
  | _ => cases o <;> exact h0.elim
end
theorem I9 {P : Program} {E : VE} (hE : E.ok P) (hm : P.follows .mixedOrders = true) {f : FuncId} {fn : Func} {c : Code} {h : H} {fs : FM} (hF : FnOk P f) (hf : P.funcs[f]? = some fn) (hb : fn.body = some c) (hc : okC fn.ntmps c = true) (hl : Nat.ble fs.ps.len fn.ntmps = true)
  (hs : ∀ x, DD E c h fn.results.toList fs.ps fs.io fs.rs x = fs.sem x) : fs.ok P f := by
 refine ⟨hF, fun O w hO bl vs x ha n y hy => ?_⟩
 rw [← hs x] at hy
 refine callsIn_wide.1 (callsIn_of_wp_marks (n := 0) hf hb trivial ?_)
 obtain ⟨st, hst0, hst1⟩ : ∃ st, st ≠ 0 ∧ ∀ b ∈ bl, O b ≠ st := ⟨1 + (bl.map O).sum, by omega, fun b hb => by have := tf (l := bl.map O) (x := O b) (List.mem_map.2 ⟨b, hb, rfl⟩); omega⟩
 let F : Frm := ⟨P, fn.ntmps, [], fun b => w.heap.size ≤ b ∨ b ∈ bl, O, w, fun _ _ => False, 0, bl, FrX.no st O w⟩
 let X : Cx := ⟨P, O, fun j => match bl[j]? with | some b => .pointer (some ⟨b, 0, none⟩) | none => .nilIface, nbx fs.io + 1, fun j => match bl[j]? with | some b => O b | none => 0, fun b => w.heap.size ≤ b ∨ b ∈ bl, Go.Lift.Fr w, 0, 0⟩
 have hst : Start P O w bl X (nbx fs.io + 1) := ⟨fun j b hj => by simp [X, hj], fun b hb => .inr hb, rfl, rfl, rfl⟩
 obtain ⟨hbl, hblO, hvs, hpw⟩ := ha.len
 have hfit := ZY vs.toArray fn.ntmps (by simp only [List.size_toArray]; rw [hvs]; exact Nat.le_of_ble_eq_true hl)
 have hget : ∀ (j : Nat) v, vs[j]? = some v → Act.get { tmps := vs.toArray ++ Array.replicate (fn.ntmps - vs.toArray.size) undef, defers := [] } j = v := fun j v hj => ZX (by simpa using hj)
 generalize ({ tmps := vs.toArray ++ Array.replicate (fn.ntmps - vs.toArray.size) undef, defers := [] } : Act) = a at hfit hget ⊢
 have hin := Bq (a := a) (i := 0) (j := 0) hst (by omega) ha (fun k => by rw [Nat.zero_add]) (fun j v hj => by rw [Nat.zero_add]; exact hget j v hj)
 have hι : ∀ k e, look (initM fs.io fs.ps x 0 0).2 k = some e → ∃ b, bl[k]? = some b ∧ X.ι k = O b := fun k e he => by
  obtain ⟨_, _, h2, _⟩ := hin.2 he
  have : k < bl.length := by omega
  exact ⟨bl[k], by simp [this], (hst.U k bl[k] (by simp [this])).2⟩
 have hR : Rel F ⟨(initM fs.io fs.ps x 0 0).1, (initM fs.io fs.ps x 0 0).2, nbx fs.io + 1, 0⟩ a w := by
  refine ⟨X, rfl, rfl, rfl, rfl, rfl, hO, hfit, ⟨rfl, rfl, rfl, Mb _, fun _ _ _ => rfl, hO, fun _ _ _ => rfl, fun _ _ h => h, fun b hb => .inl hb⟩, fun t e he _ => (hin.1 he).2, fun k e he => (hin.2 he).2.2.2, fun t e he => (by rw [(hin.1 he).1]; exact Nat.succ_pos _), fun k e he => (by obtain ⟨h1, _, h2, _⟩ := hin.2 he; exact ⟨by rw [h1]; exact Nat.succ_pos _, show k < nbx fs.io + 1 by omega⟩), fun k k' e e' he he' _ _ heq => ?_, fun k e he _ => ?_, Nat.zero_le _, Nat.succ_pos _, fun _ _ h => h.elim, ⟨show bl.length ≤ nbx fs.io + 1 by omega, fun j b hj => (hst.U j b hj).1⟩, Exx.no hst0 rfl⟩
  ·obtain ⟨b, h1, h2⟩ := hι k e he
   obtain ⟨b', h3, h4⟩ := hι k' e' he'
   rw [h2, h4] at heq
   have hp := List.pairwise_iff_getElem.1 hpw
   obtain ⟨l1, h5⟩ := List.getElem?_eq_some_iff.1 h1
   obtain ⟨l2, h6⟩ := List.getElem?_eq_some_iff.1 h3
   rcases Nat.lt_trichotomy k k' with hlt | heq' | hlt
   ·exact absurd heq.symm (by have := hp k k' l1 l2 hlt; rwa [h5, h6] at this)
   ·exact heq'
   ·exact absurd heq (by have := hp k' k l2 l1 hlt; rwa [h5, h6] at this)
  ·obtain ⟨b, h1, h2⟩ := hι k e he
   rw [h2]; exact ⟨(hblO b (List.mem_of_getElem? h1)).1, hst1 b (List.mem_of_getElem? h1)⟩
 have hrt : ∀ F' s' a' w', F.To F' → Rel F' s' a' w' → (rtM E fs.io fs.ps fs.rs fn.results.toList s').run n = some y → LeavesInM Fence.wide 0 P fn a'.tmps (fun e w' => ∃ v rs, e = .returned v ∧ isTup rs v ∧ fs.rs.args P O w' rs y.2 ∧ ButL bl w w' ∧ MOut P O w' fs.io fs.ps bl y.1) a'.defers .returning w' := by
  intro F' s' a' w' hT h' hr
  refine leaves hT rfl (fun _ _ h => h) (Mb _) h' fun q n' ep' w' hX' => ?_
  obtain ⟨X', hX'⟩ := hX'
  have hs := hT.same
  have hP : X'.P = P := hX'.P.trans hs.P
  have hE' : E.ok X'.P := by rw [hP]; exact hE
  unfold rtM at hr
  split at hr
  ·rename_i m hm'
   split at hr
   ·rename_i y' x' hnf hy' hx'
    have e := Comp.run_pure hr
    subst e
    obtain ⟨vs', g1, g2, g3⟩ := Y7 hE' hX' (Y8 hm' hnf)
    obtain ⟨v, g4, g5⟩ := ku g1
    rw [hP] at g4
    have hB := hX'.base
    change Base F'.A F'.O0 F'.w0 _ _ at hB
    rw [hs.A, hs.O0, hs.w0] at hB
    have hres := Y6 hE'.G hX' hy' g2 fun i φ u hi hu => ⟨g3 i φ u hi hu, kS hnf φ (List.mem_of_getElem? hi)⟩
    change resV _ F'.O0 F'.w0.heap.size _ _ _ _ _ at hres
    rw [hP, hs.O0, hs.w0] at hres
    refine ⟨v, g4, v, vs', rfl, g5, ZS (O := O) (B := w.heap.size) (fun b hb => hO b hb) hres, ⟨hB.os, hB.tape, hB.output, hB.size, fun b hb hn => hB.block b hb fun hA => hA.elim (fun h => absurd h (Nat.not_le.2 hb)) hn⟩, ?_⟩
    have hU : ∀ (j : Nat) b, bl[j]? = some b → X'.U j = .pointer (some ⟨b, 0, none⟩) := by
     have := hX'.bl.2
     change ∀ (j : Nat) b, F'.bl[j]? = some b → _ at this
     rw [hs.bl] at this
     exact this
    have := EM (E := E) hE'.G hX' hU (io := fs.io) (ps := fs.ps) (bl := bl) (w0 := w) (vs := vs) (x := x) (j := 0) (by rw [hP]; show MIn P F'.O0 w fs.io fs.ps bl vs x; rw [hs.O0]; exact ha) (fun k => by rw [Nat.zero_add]) hx'
    change MOut _ F'.O0 _ _ _ _ _ at this
    rwa [hP, hs.O0] at this
   ·cases hr
  ·cases hr
 exact wA c (F := F) hm (fun _ _ h => h) hE hc (.inl ⟨rfl, rfl⟩) rfl hR (Inv.refl _) hy ⟨fun F' s' a' w' h0 h1 _ h2 => hrt F' s' a' w' h0 h1 h2, fun i F' s' a' w' _ _ _ h2 => (nomatch h2), fun F' s' a' w' h0 h1 _ h2 => hrt F' s' a' w' h0 h1 h2⟩
end Go.Den
end
noncomputable section
namespace Go.Den
open Go Go.RowKit Go.Eng Go.Lift
variable {α β γ δ : Type}
def rtO (E : VE) (e : Ty) (T : TypeId) (l : List ResultVar) (s : S) : Comp (List e.D) := match resA E s l with
 | some [φ] => match slMV s.M φ with
  | some p => match Nat.beq p.2.2.1 T, slTo p.2.2.2.2 (.sl e) with
   | true, some ys => Comp.pure ys
   | _, _ => Comp.fail
  | none => Comp.fail
 | _ => Comp.fail
def DA (E : VE) (c : Code) (h : H) (l : List ResultVar) (e : Ty) (T : TypeId) (ps : Ty) (xs : List e.D) (z : ps.D) : Comp (List e.D) :=
 den E c (List e.D) h ⟨(0, 0, .ob 0) :: initL ps z 1, [(0, 0, .sl false e T xs)], 1, 0⟩ (rtO E e T l) (fun _ _ => Comp.fail) (rtO E e T l)
theorem I7 {P : Program} {E : VE} (hE : E.ok P) (hm : P.follows .mixedOrders = true) {f : FuncId} {fn : Func} {c : Code} {h : H} {fs : FO} (hF : FnOk P f) (hf : P.funcs[f]? = some fn) (hb : fn.body = some c) (hc : okC fn.ntmps c = true) (hl : Nat.ble (fs.ps.len + 1) fn.ntmps = true) (hret : fs.ret = true)
  (hs : ∀ xs z, DA E c h fn.results.toList fs.e fs.T fs.ps xs z = fs.sem xs z) : fs.ok P f := by
 refine ⟨hF, fun O w hO u xs ha vs z hz n ys hy => ?_⟩
 rw [← hs xs z] at hy
 obtain ⟨O', hB, hOw, hk0⟩ := Ar hO ha
 have hz' := fs.ps.Xr P hk0 hz
 have hvs := YK hz
 refine callsIn_wide.1 (callsIn_of_wp_marks (n := 0) hf hb trivial ?_)
 have hfit := ZY (u :: vs).toArray fn.ntmps (by simp only [List.size_toArray, List.length_cons]; rw [hvs]; exact Nat.le_of_ble_eq_true hl)
 have hget : ∀ (j : Nat) v, (u :: vs)[j]? = some v → Act.get { tmps := (u :: vs).toArray ++ Array.replicate (fn.ntmps - (u :: vs).toArray.size) undef, defers := [] } j = v := fun j v hj => ZX (by simpa using hj)
 generalize ({ tmps := (u :: vs).toArray ++ Array.replicate (fn.ntmps - (u :: vs).toArray.size) undef, defers := [] } : Act) = a at hfit hget ⊢
 let F : Frm := ⟨P, fn.ntmps, [], FrS w u, O, w, fun _ _ => False, 0, [], FrX.no 2 O' w⟩
 let X : Cx := ⟨P, O', fun _ => u, 1, fun _ => 1, FrS w u, Go.Lift.Fr w, 0, 0⟩
 have hin := fun {t e} => YG (X := X) (a := a) (i := 1) rfl rfl hz' (fun j v hj => by rw [Nat.add_comm]; exact hget (j + 1) v (by simpa using hj)) (u := t) (e := e)
 have hR : Rel F ⟨(0, 0, .ob 0) :: initL fs.ps z 1, [(0, 0, .sl false fs.e fs.T xs)], 1, 0⟩ a w := by
  refine ⟨X, rfl, rfl, rfl, rfl, rfl, hO, hfit, hB, fun t e he _ => ?_, fun k e he => ?_, fun t e he => ?_, fun k e he => ?_, fun k k' e e' he he' _ _ _ => ?_, fun k e he _ => ⟨Nat.one_ne_zero, show 1 ≠ 2 by decide⟩, Nat.zero_le _, Nat.zero_lt_one, fun _ _ h => h.elim, ⟨Nat.zero_le _, fun j b hj => (nomatch hj)⟩, Exx.no (show 2 ≠ 0 by decide) rfl⟩
  ·rcases zF he with ⟨rfl, rfl⟩ | ⟨_, he⟩
   ·have hg : a.get 0 = u := hget 0 u rfl
    rw [hg]
    exact ⟨rfl, Nat.zero_lt_one, kz hOw⟩
   ·exact (hin he).2
  ·rcases zF he with ⟨rfl, rfl⟩ | ⟨_, he⟩
   ·exact hOw
   ·cases he
  ·rcases zF he with ⟨rfl, rfl⟩ | ⟨_, he⟩
   ·exact Nat.zero_lt_one
   ·rw [(hin he).1]; exact Nat.zero_lt_one
  ·rcases zF he with ⟨rfl, rfl⟩ | ⟨_, he⟩
   ·exact ⟨Nat.zero_lt_one, Nat.zero_lt_one⟩
   ·cases he
  ·rcases zF he with ⟨rfl, rfl⟩ | ⟨_, he⟩
   ·rcases zF he' with ⟨rfl, rfl⟩ | ⟨_, he'⟩
    ·rfl
    ·cases he'
   ·cases he
 have hrt : ∀ F' s' a' w', F.To F' → Rel F' s' a' w' → (rtO E fs.e fs.T fn.results.toList s').run n = some ys → LeavesInM Fence.wide 0 P fn a'.tmps (qc (fs.e.gr P) fs.T O w u ys (retV fs.ret u)) a'.defers .returning w' := by
  intro F' s' a' w' hT h' hr
  refine leaves hT rfl (fun _ _ h => h) (Mb _) h' fun q n' ep' w' hX' => ?_
  obtain ⟨X', hX'⟩ := hX'
  have hs := hT.same
  have hP : X'.P = P := hX'.P.trans hs.P
  have hE' : E.ok X'.P := by rw [hP]; exact hE
  unfold rtO at hr
  split at hr
  ·rename_i φ hm'
   split at hr
   ·rename_i p hp
    split at hr
    ·rename_i ys' hT2 hys
     have e := Comp.run_pure hr
     subst e
     have hnf : k7 [φ] = true := by
      unfold slMV at hp
      split at hp
      ·rfl
      ·cases hp
     obtain ⟨vs', g1, g2, g3⟩ := Y7 hE' hX' (Y8 hm' hnf)
     obtain ⟨v, g4, g5⟩ := ku g1
     rw [hP] at g4
     refine ⟨v, g4, ?_⟩
     match vs', g2 with
     | [v1], _ =>
      have hv : v = v1 := by
       rcases g5 with g5 | g5
       ·cases g5
       ·exact g5
      subst hv
      have k1 := g3 0 φ v rfl rfl
      obtain ⟨e0, f1, f2, f3, f4⟩ := X9 hX'.m k1 hp
      obtain ⟨ee, ee2⟩ := Ty.kL hys
      rw [MX hT2] at f3
      have f5 := tG ee ee2 f3
      rw [hP] at f5
      have hne := hX'.pos p.1 e0 f1 (by rw [f2]; rfl)
      have hB := hX'.base
      have hAB := (hX'.okB p.2.1).sub
      change Base F'.A F'.O0 F'.w0 _ _ at hB
      change ∀ g, _ → F'.A g at hAB
      rw [hs.A, hs.O0, hs.w0] at hB
      rw [hs.A] at hAB
      refine D0 hB (OwnL.anyB f5 fun g hg => hAB g hg) hne.1 ?_
      rw [hret]; exact rfl
    ·cases hr
   ·cases hr
  ·cases hr
 exact wA c (F := F) hm (fun _ _ h => h) hE hc (.inl ⟨rfl, rfl⟩) rfl hR (Inv.refl _) hy ⟨fun F' s' a' w' h0 h1 _ h2 => hrt F' s' a' w' h0 h1 h2, fun i F' s' a' w' _ _ _ h2 => (nomatch h2), fun F' s' a' w' h0 h1 _ h2 => hrt F' s' a' w' h0 h1 h2⟩
def DC (E : VE) (c : Code) (h : H) (l : List ResultVar) (ps rs : Ty) (rk : List (Option TypeId)) (x : ps.D) : Comp rs.D :=
 den E c rs.D h ⟨(0, 0, .ex (.slice none 0 0)) :: initL ps x 1, [], 1, 0⟩ (rtF E rk rs l) (fun _ _ => Comp.fail) (rtF E rk rs l)
theorem I8 {P : Program} {E : VE} (hE : E.ok P) (hm : P.follows .mixedOrders = true) {f : FuncId} {fn : Func} {c : Code} {h : H} {fs : FS} (hF : FnOk P f) (hf : P.funcs[f]? = some fn) (hb : fn.body = some c) (hc : okC fn.ntmps c = true) (hl : Nat.ble (fs.ps.len + 1) fn.ntmps = true)
  (hs : ∀ x, DC E c h fn.results.toList fs.ps fs.rs fs.rk x = fs.sem x) : fs.okN P f := by
 refine ⟨hF, fun O w hO vs x ha n y hy => ?_⟩
 rw [← hs x] at hy
 have hfit := ZY (.slice none 0 0 :: vs).toArray fn.ntmps (by have := YK ha; simp only [List.size_toArray, List.length_cons]; rw [this]; exact Nat.le_of_ble_eq_true hl)
 have hget : ∀ (j : Nat) v, (Value.slice none 0 0 :: vs)[j]? = some v → Act.get { tmps := (Value.slice none 0 0 :: vs).toArray ++ Array.replicate (fn.ntmps - (Value.slice none 0 0 :: vs).toArray.size) undef, defers := [] } j = v := fun j v hj => ZX (by simpa using hj)
 refine callsIn_wide.1 (callsIn_of_wp_marks (n := 0) hf hb trivial ?_)
 generalize ({ tmps := (Value.slice none 0 0 :: vs).toArray ++ Array.replicate (fn.ntmps - (Value.slice none 0 0 :: vs).toArray.size) undef, defers := [] } : Act) = a at hfit hget ⊢
 let F : Frm := ⟨P, fn.ntmps, [], Go.Lift.Fr w, O, w, fun _ _ => False, 0, [], FrX.no 1 O w⟩
 let X : Cx := ⟨P, O, fun _ => .nilIface, 1, fun k => k, Go.Lift.Fr w, Go.Lift.Fr w, 0, 0⟩
 have hR : Rel F ⟨(0, 0, .ex (.slice none 0 0)) :: initL fs.ps x 1, [], 1, 0⟩ a w := by
  have hin := fun {u e} => YG (X := X) (a := a) (i := 1) rfl rfl ha (fun j v hj => by rw [Nat.add_comm]; exact hget (j + 1) v (by simpa using hj)) (u := u) (e := e)
  refine ⟨X, rfl, rfl, rfl, rfl, rfl, hO, hfit, Base.start hO, fun t e he _ => (by rcases zF he with ⟨rfl, rfl⟩ | ⟨_, he⟩; exact hget 0 _ (by simp); exact (hin he).2), fun k e he => (nomatch he), fun t e he => (by rcases zF he with ⟨rfl, rfl⟩ | ⟨_, he⟩; exact Nat.zero_lt_one; rw [(hin he).1]; exact Nat.zero_lt_one), fun k e he => (nomatch he), fun k k' e e' he => (nomatch he), fun k e he => (nomatch he), Nat.zero_le _, Nat.zero_lt_one, fun _ _ h => h.elim, ⟨Nat.zero_le _, fun j b hj => (nomatch hj)⟩, Exx.no Nat.one_ne_zero rfl⟩
 have hrt : ∀ F' s' a' w', F.To F' → Rel F' s' a' w' → (rtF E fs.rk fs.rs fn.results.toList s').run n = some y → LeavesInM Fence.wide 0 P fn a'.tmps (fun e w' => ∃ v, e = .returned v ∧ Ext w w' ∧ ∃ rs, isTup rs v ∧ resV P O w.heap.size w' fs.rk fs.rs rs y) a'.defers .returning w' := by
  intro F' s' a' w' hT h' hr
  refine leaves hT rfl (fun _ _ h => h) (Mb _) h' fun q n' ep' w' hX' => ?_
  obtain ⟨X', hX'⟩ := hX'
  have hs := hT.same
  have hP : X'.P = P := hX'.P.trans hs.P
  have hE' : E.ok X'.P := by rw [hP]; exact hE
  unfold rtF at hr
  split at hr
  ·rename_i m hm'
   split at hr
   ·rename_i y' hnf hy'
    have e := Comp.run_pure hr
    subst e
    obtain ⟨vs', g1, g2, g3⟩ := Y7 hE' hX' (Y8 hm' hnf)
    obtain ⟨v, g4, g5⟩ := ku g1
    rw [hP] at g4
    refine ⟨v, g4, v, rfl, ?_, vs', g5, ?_⟩
    ·have := hX'.base
     change Base F'.A F'.O0 F'.w0 _ _ at this
     rw [hs.A, hs.O0, hs.w0] at this
     exact this.ext
    ·have := Y6 hE'.G hX' hy' g2 fun i φ u hi hu => ⟨g3 i φ u hi hu, kS hnf φ (List.mem_of_getElem? hi)⟩
     change resV _ F'.O0 F'.w0.heap.size _ _ _ _ _ at this
     rwa [hP, hs.O0, hs.w0] at this
   ·cases hr
  ·cases hr
 exact wA c (F := F) hm (fun _ _ h => h) hE hc (.inl ⟨rfl, rfl⟩) rfl hR (Inv.refl _) hy ⟨fun F' s' a' w' h0 h1 _ h2 => hrt F' s' a' w' h0 h1 h2, fun i F' s' a' w' _ _ _ h2 => (nomatch h2), fun F' s' a' w' h0 h1 _ h2 => hrt F' s' a' w' h0 h1 h2⟩
end Go.Den
end
