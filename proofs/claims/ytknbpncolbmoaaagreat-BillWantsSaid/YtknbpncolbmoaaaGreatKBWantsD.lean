/- Lemmas behind a claim of this seat. No statement of the program stands here. -/
import Derived.Test.YtknbpncolbmoaaaGreatKBWantsC
set_option linter.unusedSimpArgs false
set_option linter.unusedVariables false
noncomputable section
namespace Go.Den
open Go Go.RowKit Go.Eng Go.Lift
variable {α β γ δ σ ε τ : Type}
def tell (ys : List τ) (c : Comp (List τ × β)) : Comp (List τ × β) := c.bind fun p => Comp.pure (ys ++ p.1, p.2)
theorem uy {ys zs : List τ} {c : Comp (List τ × β)} {n : Nat} {y : β} (h : (tell ys c).run n = some (zs, y)) : ∃ zs', c.run n = some (zs', y) ∧ zs = ys ++ zs' := by
 obtain ⟨p, h1, h2⟩ := Comp.run_bind h
 have := Comp.run_pure h2
 cases this
 exact ⟨p.1, h1, rfl⟩
def jQ (body : σ → Comp (List τ × Comp.Step σ ε)) (n : Nat) : Nat → σ → Option (List τ × ε)
 | 0, _ => none
 | k + 1, s => match (body s).run n with
  | none => none
  | some (ys, .next s') => match jQ body n k s' with
   | some p => some (ys ++ p.1, p.2)
   | none => none
  | some (ys, .done e) => some (ys, e)
theorem XP {body : σ → Comp (List τ × Comp.Step σ ε)} {n m : Nat} (hnm : n ≤ m) : ∀ {k l : Nat} {s : σ} {e : List τ × ε}, k ≤ l → jQ body n k s = some e → jQ body m l s = some e := by
 intro k
 induction k with
 | zero => intro l s e _ h; cases h
 | succ k ih =>
  intro l s e hkl h
  obtain ⟨l, rfl⟩ : ∃ l', l = l' + 1 := ⟨l - 1, by omega⟩
  simp only [jQ] at h ⊢
  cases hb : (body s).run n with
  | none => rw [hb] at h; cases h
  | some x =>
   rw [(body s).mono hnm hb]; rw [hb] at h
   obtain ⟨ys, st⟩ := x
   cases st with
   | next s' =>
    simp only at h ⊢
    cases hl : jQ body n k s' with
    | none => rw [hl] at h; cases h
    | some p => rw [hl] at h; rw [ih (by omega) hl]; exact h
   | done e' => exact h
def loopW (body : σ → Comp (List τ × Comp.Step σ ε)) (s : σ) : Comp (List τ × ε) := ⟨fun n => jQ body n n s, fun hnm h => XP hnm hnm h⟩
theorem uC {body : σ → Comp (List τ × Comp.Step σ ε)} {s : σ} {n m : Nat} {ys : List τ} {e : ε} (h : jQ body n m s = some (ys, e)) :
  ∃ m', m' < m ∧ ∃ zs st, (body s).run n = some (zs, st) ∧ (∀ s', st = .next s' → ∃ zs', jQ body n m' s' = some (zs', e) ∧ ys = zs ++ zs') ∧ (∀ e', st = .done e' → e' = e ∧ ys = zs) := by
 cases m with
 | zero => cases h
 | succ k =>
  simp only [jQ] at h
  cases hb : (body s).run n with
  | none => rw [hb] at h; cases h
  | some x =>
   rw [hb] at h
   obtain ⟨zs, st⟩ := x
   refine ⟨k, by omega, zs, st, rfl, fun s' hs => ?_, fun e' he => ?_⟩
   ·subst hs
    simp only at h
    cases hl : jQ body n k s' with
    | none => rw [hl] at h; cases h
    | some p => rw [hl] at h; cases h; exact ⟨p.1, rfl, rfl⟩
   ·subst he; cases h; exact ⟨rfl, rfl⟩
def frzN (n : Nat) : MS → MS
 | [] => []
 | e :: M => (match e.2.2 with
  | .sl true t T xs => (e.1, n, .fs t xs)
  | .mp true a b xs => (e.1, n, .fm a b xs)
  | .fs .. | .fb .. | .fm .. => e
  | _ => (e.1, n, .dead)) :: frzN n M
theorem kV : ∀ {n : Nat} {M : MS} {k : Nat} {e : Nat × MV}, look (frzN n M) k = some e → (look M k = some e ∧ e.2.own = false ∧ look (frz M) k = some e) ∨ (e.1 = n ∧ e.2.own = false ∧ ∃ m, look (frz M) k = some (m, e.2))
 | n, [], k, e, h => by cases h
 | n, f :: M, k, e, h => by
  obtain ⟨k0, st, m⟩ := f
  have rest : ∀ {x : Nat × MV}, look ((k0, x) :: frzN n M) k = some e → k0 ≠ k → look (frzN n M) k = some e := fun {x} h hn => by
   rcases zF h with ⟨h1, _⟩ | ⟨_, h2⟩
   ·exact absurd h1 hn
   ·exact h2
  by_cases hk : k0 = k
  ·subst hk
   cases m with
   | sl nw t T xs =>
    cases nw with
    | true =>
     rcases zF h with ⟨_, h2⟩ | ⟨h1, _⟩
     ·subst h2; exact .inr ⟨rfl, rfl, st, by simp [frz, look, zV, frzV]⟩
     ·exact absurd rfl h1
    | false =>
     rcases zF h with ⟨_, h2⟩ | ⟨h1, _⟩
     ·subst h2; exact .inr ⟨rfl, rfl, st, by simp [frz, look, zV, frzV]⟩
     ·exact absurd rfl h1
   | fs t xs =>
    rcases zF h with ⟨_, h2⟩ | ⟨h1, _⟩
    ·subst h2; exact .inl ⟨by simp [look, zV], rfl, by simp [frz, look, zV, frzV]⟩
    ·exact absurd rfl h1
   | fb t x =>
    rcases zF h with ⟨_, h2⟩ | ⟨h1, _⟩
    ·subst h2; exact .inl ⟨by simp [look, zV], rfl, by simp [frz, look, zV, frzV]⟩
    ·exact absurd rfl h1
   | mp nw a b xs =>
    cases nw with
    | true =>
     rcases zF h with ⟨_, h2⟩ | ⟨h1, _⟩
     ·subst h2; exact .inr ⟨rfl, rfl, st, by simp [frz, look, zV, frzV]⟩
     ·exact absurd rfl h1
    | false =>
     rcases zF h with ⟨_, h2⟩ | ⟨h1, _⟩
     ·subst h2; exact .inr ⟨rfl, rfl, st, by simp [frz, look, zV, frzV]⟩
     ·exact absurd rfl h1
   | fm a b xs =>
    rcases zF h with ⟨_, h2⟩ | ⟨h1, _⟩
    ·subst h2; exact .inl ⟨by simp [look, zV], rfl, by simp [frz, look, zV, frzV]⟩
    ·exact absurd rfl h1
   | bx nw c T =>
    rcases zF h with ⟨_, h2⟩ | ⟨h1, _⟩
    ·subst h2; exact .inr ⟨rfl, rfl, st, by simp [frz, look, zV, frzV]⟩
    ·exact absurd rfl h1
   | fg f =>
    rcases zF h with ⟨_, h2⟩ | ⟨h1, _⟩
    ·subst h2; exact .inr ⟨rfl, rfl, st, by simp [frz, look, zV, frzV]⟩
    ·exact absurd rfl h1
   | dead =>
    rcases zF h with ⟨_, h2⟩ | ⟨h1, _⟩
    ·subst h2; exact .inr ⟨rfl, rfl, st, by simp [frz, look, zV, frzV]⟩
    ·exact absurd rfl h1
  ·have hb : Nat.beq k0 k = false := by rw [zV]; simpa using hk
   have h' : look (frzN n M) k = some e := by
    simp only [frzN] at h
    cases m with
    | sl nw t T xs => cases nw <;> exact rest h hk
    | mp nw a b xs => cases nw <;> exact rest h hk
    | _ => exact rest h hk
   rcases kV h' with ⟨g1, g2, g3⟩ | ⟨g1, g2, m', g3⟩
   ·exact .inl ⟨by simp only [look, hb]; exact g1, g2, by simp only [frz, look, hb]; exact g3⟩
   ·exact .inr ⟨g1, g2, m', by simp only [frz, look, hb]; exact g3⟩
theorem MV.nown {X X' : Cx} {w w' : World} {k : Nat} (hX : X.le w X' w') (hk : k < X.n) (m : MV) (h1 : m.own = false) (h : m.holds X w k) : m.holds X' w' k := by
 cases m with
 | sl nw t T xs => cases h1
 | bx nw c T => cases h1
 | fs t xs =>
  show (rSl _).v _ _ _ _
  rw [hX.U k hk, hX.P]; exact GR.vU _ h hX.k
 | fb t x =>
  show (rBox _).v _ _ _ _
  rw [hX.U k hk, hX.P]; exact GR.vU _ h hX.k
 | fg f =>
  intro t x hx
  rw [hX.U k hk, hX.P]; exact GR.vU _ (h t x hx) hX.k
 | mp nw a b xs => cases h1
 | fm a b xs =>
  show ((Ty.mp a b).gr X'.P).v _ _ _ _
  rw [hX.U k hk, hX.P]; exact GR.vU _ h hX.k
 | dead => trivial
def S.yl (s : S) (d : Option Tmp) (b : Bool) : S := { L := (match d with | some d => (d, s.n, .rd .bool b) :: s.L | none => s.L), M := frzN s.n s.M, n := s.n + 1, ep := s.n }
theorem Inv.yl (s : S) (d : Option Tmp) (b : Bool) : Inv s (s.yl d b) := by
 refine ⟨Nat.le_succ _, ?_, fun k e he hl => ?_⟩
 ·cases d with
  | none => exact yF
  | some d => exact yy yF
 ·rcases kV he with ⟨g1, _⟩ | ⟨g1, _⟩
  ·exact g1
  ·omega
abbrev Frm.reb (F : Frm) (O : Tags) (w : World) : Frm := { F with O0 := O, w0 := w, A := Go.Lift.Fr w, x := { F.x with sO := O, sw := w, sb := w.heap.size } }
structure GenI (P : Program) (L : Nat) (a : Args α) (xs : List α) (J : List α → Tags → World → Prop) (Jx : Tags → World → Prop) : Prop where
 ext : ∀ pre O1 w1 w2, J pre O1 w1 → Ext w1 w2 → J pre O1 w2
 extx : ∀ O1 w1 w2, Jx O1 w1 → Ext w1 w2 → Jx O1 w2
 ok : ∀ pre O1 w1, J pre O1 w1 → OkO O1 w1
 okx : ∀ O1 w1, Jx O1 w1 → OkO O1 w1
 y : ∀ pre d post O1 w1 vs, xs = pre ++ d :: post → J pre O1 w1 → a O1 w1 vs d → YldB P L vs.toArray w1 fun b w2 => ∃ O2, Keep 0 O1 w1 O2 w2 ∧ match b with
  | true => J (pre ++ [d]) O2 w2
  | false => Jx O2 w2
structure GenF (F : Frm) : Prop where
 D : F.D = []
 Lh : ∀ t φ, ¬ F.Lh t φ
 bl : F.bl = []
 fe : F.fe = 0
 st : F.x.st ≠ 0
 sys : ∀ b o, ¬ F.x.sys b o
 kv : ∀ v φ, ¬ F.x.kv v φ
 rd : F.x.rd = none
 nr : F.x.nr = true
section
variable {F : Frm} {E : VE} {t : Ty} {xs : List t.D} {J : List t.D → Tags → World → Prop} {Jx : Tags → World → Prop}
theorem CQ (hF : GenF F) {O1 O2 : Tags} {w1 w w2 : World} {s : S} {a : Act} (h : Rel (F.reb O1 w1) s a w) (hk : Keep 0 O1 w O2 w2) (hO2 : OkO O2 w2) {d : Option Tmp} (hd : F.dst d) (b : Bool) : Rel (F.reb O2 w2) (s.yl d b) (a.put d (.bool b)) w2 := by
 obtain ⟨X, hX⟩ := h
 have hout := hX.K0
 let X2 : Cx := { X with O := O2, A := Go.Lift.Fr w2, F := Go.Lift.Fr w2, n := s.n + 1, ep := s.n }
 have hle2 : (X.out (F.reb O1 w1)).le w X2 w2 := ⟨rfl, hk, fun _ _ => rfl, by show X.n ≤ s.n + 1; rw [hX.n]; exact Nat.le_succ _, rfl⟩
 have old : ∀ t e, look s.L t = some e → e.2.frail = false → e.2.holds X2 w2 (a.get t) := fun t e he hf => e.2.le hf hle2 (e.2.le hf hout (hX.l t e he (by simp [fresh, hf])))
 have hfr : ∀ {e : Nat × AV}, fresh s.n e = true → e.1 < s.n → e.2.frail = false := fun {e} hf hl => by
  cases hfr : e.2.frail with
  | false => rfl
  | true =>
   simp only [fresh, hfr, Bool.not_true, Bool.false_or] at hf
   rw [jP] at hf
   have hf' : s.n ≤ e.1 := of_decide_eq_true hf
   omega
 have hMo := hX.out_m
 have hcase : ∀ t e, look (s.yl d b).L t = some e → (d = some t ∧ e = (s.n, .rd .bool b)) ∨ (d ≠ some t ∧ look s.L t = some e) := fun t e he => by
  cases d with
  | none => exact .inr ⟨by simp, he⟩
  | some d =>
   rcases zF he with ⟨h1, h2⟩ | ⟨h1, h2⟩
   ·exact .inl ⟨by rw [h1], h2.symm⟩
   ·exact .inr ⟨by simpa using h1, h2⟩
 refine ⟨X2, hX.P, rfl, rfl, rfl, rfl, hO2, ju hX.fit _ _, Base.start hO2, fun t e he hf => ?_, fun k e he => ?_, fun t e he => ?_, fun k e he => ?_, fun k k' e e' he he' ho => ?_, fun k e he ho => ?_, Nat.le_succ _, by show F.fe < s.n + 1; rw [hF.fe]; exact Nat.succ_pos _, fun t φ hp => absurd hp (hF.Lh t φ), ⟨by show F.bl.length ≤ _; rw [hF.bl]; exact Nat.zero_le _, fun j b hj => by rw [show (F.reb O2 w2).bl = [] from hF.bl] at hj; cases hj⟩,
  ⟨hF.st, fun b o hs => absurd hs (hF.sys b o), fun v φ hv => absurd hv (hF.kv v φ), Keep.refl _ _ _, hX.ex.L⟩⟩
 ·rcases hcase t e he with ⟨h1, h2⟩ | ⟨h1, h2⟩
  ·subst h2
   subst h1
   rw [y4 hX.fit (hd t rfl).1]; exact jj.2 rfl
  ·rw [vz h1]
   exact old t e h2 (hfr hf (hX.ln t e h2))
 ·rcases kV he with ⟨_, g2, g3⟩ | ⟨_, g2, m', g3⟩
  ·obtain ⟨m, g4, _⟩ := YH g3
   exact MV.nown hle2 (by show k < X.n; rw [hX.n]; exact (hX.mn k _ g4).2) _ g2 (hMo k e g3)
  ·obtain ⟨m, g4, _⟩ := YH g3
   exact MV.nown hle2 (by show k < X.n; rw [hX.n]; exact (hX.mn k _ g4).2) e.2 g2 (hMo k (m', e.2) g3)
 ·rcases hcase t e he with ⟨_, h2⟩ | ⟨_, h2⟩
  ·rw [h2]; exact Nat.lt_succ_self _
  ·exact Nat.lt_succ_of_lt (hX.ln t e h2)
 ·rcases kV he with ⟨g1, _⟩ | ⟨g1, _, m', g3⟩
  ·have := hX.mn k e g1; exact ⟨Nat.lt_succ_of_lt this.1, Nat.lt_succ_of_lt this.2⟩
  ·obtain ⟨m, g4, _⟩ := YH g3
   exact ⟨by rw [g1]; exact Nat.lt_succ_self _, Nat.lt_succ_of_lt (hX.mn k _ g4).2⟩
 ·rcases kV he with ⟨_, g2, _⟩ | ⟨_, g2, _⟩ <;> (rw [ho] at g2; cases g2)
 ·rcases kV he with ⟨_, g2, _⟩ | ⟨_, g2, _⟩ <;> (rw [ho] at g2; cases g2)
def CR (s : S) (o : Oper) : Option (List AV) := match o.op with
 | .call c => match c.callee with
  | .value x => match rdO s.ep s.L [] [] x with
   | some .yl => rdAll (rdO s.ep s.L [] []) c.args.toList
   | _ => none
  | _ => none
 | _ => none
def stepY (E : VE) (t : Ty) (wr : List Nat) (s : S) (o : Oper) (z : S → Comp Unit) (k : S → Comp (List t.D × β)) : Comp (List t.D × β) := match CR s o with
 | some l => match k7 l, argsT (l.map (fun φ => φ.asT E.G (frz s.M))) t with
  | true, some x => (z (s.yl o.dst false)).bind fun _ => tell [x] (k (s.yl o.dst true))
  | _, _ => Comp.fail
 | none => step E wr s o k
def ZJ (E : VE) (t : Ty) (wr : List Nat) (all : List Oper) (z : S → Comp Unit) (k : S → Comp (List t.D × β)) : List Oper → S → Comp (List t.D × β)
 | [], s => k s
 | o :: os, s => match o.guard with
  | none => stepY E t wr s o (stepC E wr all z os) (ZJ E t wr all z k os)
  | some g => match dstAt all g.1 with
   | none => Comp.fail
   | some u => match rdO s.ep s.L [] [] (.tmp u) with
    | none => Comp.fail
    | some φ => match exG φ with
     | some b => match wantB b g.2 with
      | true => stepY E t wr s o (stepC E wr all z os) (ZJ E t wr all z k os)
      | false => ZJ E t wr all z k os (s.put o.dst (.ex undef))
     | none => match φ.bool? with
      | none => Comp.fail
      | some b => if gB b g.2 = true then stepY E t wr (s.put (some u) (.ex (.bool g.2))) o (stepC E wr all z os) (ZJ E t wr all z k os) else ZJ E t wr all z k os ((s.put (some u) (.ex (.bool (ntB g.2)))).put o.dst (.ex undef))
structure Stp where
 k : S → Comp Unit
 ex : Nat → S → Comp Unit
 rt : S → Comp Unit
def AV.cb : AV → Option Bool
 | .rd .bool b => some b
 | .ex (.bool b) => some b
 | _ => none
theorem GQ {X : Cx} {w : World} {v : Value} {o : Option AV} {b : Bool} (h : o.bind AV.cb = some b) (hv : ∀ φ, o = some φ → φ.holds X w v) : v = .bool b := by
 cases o with
 | none => cases h
 | some φ =>
  have k := hv φ rfl
  simp only [MW] at h
  unfold AV.cb at h
  split at h
  ·cases h; exact jj.1 k
  ·cases h; exact k
  ·cases h
def denY (E : VE) (t : Ty) : Code → (β : Type) → H → S → (S → Comp (List t.D × β)) → (Nat → S → Comp (List t.D × β)) → (S → Comp (List t.D × β)) → Stp → Comp (List t.D × β)
 | .skip, _, _, s, k, _, _, _ => k s
 | .label _, _, _, s, k, _, _, _ => k s
 | .region _ ops draw, _, h, s, k, _, _, z => match h with
  | .f l h' => match h' with
   | .y => match draw with
    | false => ZJ E t (wrS ops.toList) ops.toList z.k k ops.toList (s.frzV E (slotV s l))
    | true => Comp.fail
   | h' => regD E ops draw h' (s.frzV E (slotV s l)) k
  | .y => match draw with
   | false => ZJ E t (wrS ops.toList) ops.toList z.k k ops.toList s
   | true => Comp.fail
  | h => regD E ops draw h s k
 | .seq a b, β, h, s, k, ex, rt, z => denY E t a β h.l1 s (fun s' => denY E t b β h.l2 s' k ex rt z) ex rt ⟨fun s' => den E b Unit h.l2 s' z.k z.ex z.rt, z.ex, z.rt⟩
 | .cond c x y, β, h, s, k, ex, rt, z => match (rdO s.ep s.L [] [] c).bind AV.cb with
  | none => Comp.fail
  | some b => match h with
   | .j sh h1 h2 => jn (fun x => k (sh.put s x)) fun j => if b = true then denY E t x β h1 s (fun s' => goJ E.G sh s s' j) ex rt z else denY E t y β h2 s (fun s' => goJ E.G sh s s' j) ex rt z
   | h => if b = true then denY E t x β h.l1 s k ex rt z else denY E t y β h.l2 s k ex rt z
 | .block id c, β, h, s, k, ex, rt, z => match h with
  | .jb sh h1 => jn (fun x => k (sh.put s x)) fun j => denY E t c β h1 s (fun s' => goJ E.G sh s s' j) (fun i s' => match Nat.beq i id with | true => goJ E.G sh s s' j | false => ex i s') rt ⟨z.k, fun i s' => match Nat.beq i id with | true => z.k s' | false => z.ex i s', z.rt⟩
  | h => denY E t c β h.l1 s k (fun i s' => match Nat.beq i id with | true => k s' | false => ex i s') rt ⟨z.k, fun i s' => match Nat.beq i id with | true => z.k s' | false => z.ex i s', z.rt⟩
 | .loop c, β, h, s, k, ex, rt, z => match h with
  | .l sh l h1 => match sh.get E.G s s with
   | none => Comp.fail
   | some x0 => (loopW (fun x => denY E t c (Comp.Step sh.D (ED l)) h1 (sh.put s x) (fun s' => (nextE E.G sh s s').bind fun st => Comp.pure ([], st)) (fun i s' => (doneE E.G s l (some i) s').bind fun st => Comp.pure ([], st)) (fun s' => (doneE E.G s l none s').bind fun st => Comp.pure ([], st)) ⟨fun _ => Comp.fail, z.ex, z.rt⟩) x0).bind fun p => tell p.1 (outE s ex rt l p.2)
  | _ => Comp.fail
 | .scope c, β, h, s, k, ex, rt, z => denY E t c β h.l1 s k ex rt z
 | .exit i, _, _, s, _, ex, _, _ => ex i s
 | .ret, _, _, s, _, _, rt, _ => rt s
 | _, _, _, _, _, _, _, _ => Comp.fail
structure WaysY (F : Frm) (J : List t.D → Tags → World → Prop) (T : List t.D) (s0 : S) (nf : Nat) {β : Type} (y : β) (k : S → Comp (List t.D × β)) (ex : Nat → S → Comp (List t.D × β)) (rt : S → Comp (List t.D × β)) (Q : Exit → Act → World → Prop) : Prop where
 k : ∀ O1 w1 acc s' a' w' ys, J acc O1 w1 → Rel (F.reb O1 w1) s' a' w' → Inv s0 s' → (k s').run nf = some (ys, y) → acc ++ ys = T → Q .normal a' w'
 ex : ∀ i O1 w1 acc s' a' w' ys, J acc O1 w1 → Rel (F.reb O1 w1) s' a' w' → Inv s0 s' → (ex i s').run nf = some (ys, y) → acc ++ ys = T → Q (.exit i) a' w'
 rt : ∀ O1 w1 acc s' a' w' ys, J acc O1 w1 → Rel (F.reb O1 w1) s' a' w' → Inv s0 s' → (rt s').run nf = some (ys, y) → acc ++ ys = T → Q .ret a' w'
structure WaysX (F : Frm) (Jx : Tags → World → Prop) (s0 : S) (nf : Nat) (z : Stp) (Q : Exit → Act → World → Prop) : Prop where
 k : ∀ O1 w1 s' a' w', Jx O1 w1 → Rel (F.reb O1 w1) s' a' w' → Inv s0 s' → (z.k s').run nf = some () → Q .normal a' w'
 ex : ∀ i O1 w1 s' a' w', Jx O1 w1 → Rel (F.reb O1 w1) s' a' w' → Inv s0 s' → (z.ex i s').run nf = some () → Q (.exit i) a' w'
 rt : ∀ O1 w1 s' a' w', Jx O1 w1 → Rel (F.reb O1 w1) s' a' w' → Inv s0 s' → (z.rt s').run nf = some () → Q .ret a' w'
theorem WaysX.inv {F : Frm} {Jx : Tags → World → Prop} {s0 s1 : S} {nf : Nat} {z : Stp} {Q : Exit → Act → World → Prop} (h : WaysX F Jx s0 nf z Q) (hi : Inv s0 s1) : WaysX F Jx s1 nf z Q :=
 ⟨fun O1 w1 s' a' w' h1 h2 h3 => h.k O1 w1 s' a' w' h1 h2 (hi.trans h3), fun i O1 w1 s' a' w' h1 h2 h3 => h.ex i O1 w1 s' a' w' h1 h2 (hi.trans h3), fun O1 w1 s' a' w' h1 h2 h3 => h.rt O1 w1 s' a' w' h1 h2 (hi.trans h3)⟩
theorem Ac (hF : GenF F) (hE : E.ok F.P) (hG : GenI F.P F.x.Lp (t.args F.P) xs J Jx) (wr : List Nat) {o : Oper} (ho : (∀ c, o.op ≠ .defer c) ∧ F.dst o.dst) {nf : Nat} {y : β} {Q : Exit → Act → World → Prop} {s : S} {a : Act} {w : World} {O1 : Tags} {w1 : World} {acc ys T rest : List t.D} (hT : T ++ rest = xs) {z : S → Comp Unit} {k : S → Comp (List t.D × β)} {K : Act → World → Prop}
  (hJ : J acc O1 w1) (h : Rel (F.reb O1 w1) s a w) (hr : (stepY E t wr s o z k).run nf = some (ys, y)) (hxs : acc ++ ys = T)
  (hK : ∀ O2 w2 acc' s' v w' ys', J acc' O2 w2 → Rel (F.reb O2 w2) s' (a.put o.dst v) w' → Inv s s' → (k s').run nf = some (ys', y) → acc' ++ ys' = T → K (a.put o.dst v) w')
  (hZ : ∀ O2 w2 s' v w', Jx O2 w2 → Rel (F.reb O2 w2) s' (a.put o.dst v) w' → Inv s s' → (z s').run nf = some () → K (a.put o.dst v) w') : F.W Q o a w K := by
 unfold stepY at hr
 split at hr
 ·rename_i l hl
  split at hr
  ·rename_i x hnf hx
   obtain ⟨u, hu, hr⟩ := Comp.run_bind hr
   obtain ⟨ys', hr', hys⟩ := uy hr
   obtain ⟨X, hX⟩ := h
   obtain ⟨d, op, T, pos, aft, g⟩ := o
   unfold CR at hl
   split at hl
   case h_2 => cases hl
   rename_i c hop
   simp only at hop
   subst hop
   obtain ⟨cal, cx, ts⟩ := c
   split at hl
   case h_2 => cases hl
   rename_i f hcal
   simp only at hcal
   subst hcal
   split at hl
   case h_2 => cases hl
   rename_i hf
   rw [← hX.ep] at hf hl
   have hfv : a.eval f = .func (.yield F.x.Lp) #[] #[] := by
    have := hX.rd #[f] f _ (by simp) hf
    rw [show a.eval f = _ from this, hX.ex.L]
   have hlen := jF hl
   have hargs : t.args X.P O1 w (cx.toList.map a.eval) x := by
    refine kI (O := (X.out (F.reb O1 w1)).O) hx (by simp [hlen]) fun i f v hf hv t y hy => ?_
    rw [List.getElem?_map, Option.map_eq_some_iff] at hf hv
    obtain ⟨ψ, g1, rfl⟩ := hf
    obtain ⟨q, g2, rfl⟩ := hv
    obtain ⟨q', g3, g4⟩ := ji hl i ψ g1
    rw [g2] at g3; cases g3
    have hψ := hX.rd #[q] q ψ (by simp) g4
    have hnfψ := kS hnf ψ (List.mem_of_getElem? g1)
    exact AV.asT_v (X := X.out (F.reb O1 w1)) (by show FOk X.P E.G; rw [hX.P]; exact hE.G) hX.out_m hy (ψ.le hnfψ hX.K0 hψ)
   have hP : X.P = F.P := hX.P
   rw [hP] at hargs
   have hJw := hG.ext acc O1 w1 w hJ hX.base.ext
   have hxs' : xs = acc ++ x :: (ys' ++ rest) := by rw [← hT, ← hxs, hys]; simp
   obtain ⟨fn, tm, asg, bd, q1, q2⟩ := hG.y acc x _ O1 w _ hxs' hJw hargs
   refine ⟨fun _ _ => trivial, ?_⟩
   rw [show (fw F.x.rd).round = none from hF.rd, Oper.semAt_none]
   have hrun : (execOp a.eval ⟨d, .call ⟨.value f, cx, ts⟩, T, pos, aft, g⟩).run F.P w = .ok (.round F.x.Lp fn tm asg bd) w := by
    have e : (cx.map a.eval) = (cx.toList.map a.eval).toArray := by rw [← Array.toList_map]
    simp [execOp, resolve, hfv, Deferred.ofValue, invoke, e, q1]
   rw [hrun]
   have hfw : fw F.x.rd = Fence.wide := by rw [hF.rd]; rfl
   rw [hfw]
   refine ⟨fun h => by simp [Fence.wide] at h, RoundIn.mono q2 fun e w2 he => ?_⟩
   obtain ⟨b, rfl, O2, hk, hb⟩ := he
   cases b with
   | true =>
    exact hK O2 w2 _ _ _ w2 ys' hb (CQ hF ⟨X, hX⟩ hk (hG.ok _ _ _ hb) ho.2 true) (Inv.yl _ _ _) hr' (by rw [← hxs, hys]; simp)
   | false =>
    exact hZ O2 w2 _ _ w2 hb (CQ hF ⟨X, hX⟩ hk (hG.okx _ _ hb) ho.2 false) (Inv.yl _ _ _) hu
  ·cases hr
 ·exact Zd ho.1 (Jh (F := F.reb O1 w1) hE h wr o ho.2 nf _ hr K Q fun s' v w' g1 g2 g3 => hK O1 w1 acc s' v w' ys hJ g1 g2 g3 hxs)
theorem Yx (hF : GenF F) (hE : E.ok F.P) (hG : GenI F.P F.x.Lp (t.args F.P) xs J Jx) (wr : List Nat) {all : List Oper} {nf : Nat} {y : β} {T rest : List t.D} (hT : T ++ rest = xs) {Q : Exit → Act → World → Prop} {s0 : S} {z : S → Comp Unit} {k : S → Comp (List t.D × β)}
  (hK : ∀ O2 w2 acc s' a' w' ys, J acc O2 w2 → Rel (F.reb O2 w2) s' a' w' → Inv s0 s' → (k s').run nf = some (ys, y) → acc ++ ys = T → Q .normal a' w')
  (hZ : ∀ O2 w2 s' a' w', Jx O2 w2 → Rel (F.reb O2 w2) s' a' w' → Inv s0 s' → (z s').run nf = some () → Q .normal a' w') : ∀ {os : List Oper} {s : S} {a : Act} {w : World} {O1 : Tags} {w1 : World} {acc ys : List t.D},
  J acc O1 w1 → Rel (F.reb O1 w1) s a w → Inv s0 s → (ZJ E t wr all z k os s).run nf = some (ys, y) → acc ++ ys = T → (∀ o ∈ os, (∀ c, o.op ≠ .defer c) ∧ F.dst o.dst) → gList (F.W Q) all.toArray (Q .normal) os a w
 | [], s, a, w, O1, w1, acc, ys, hJ, h, hi, hr, hxs, _ => hK O1 w1 acc s a w ys hJ h hi hr hxs
 | o :: os, s, a, w, O1, w1, acc, ys, hJ, h, hi, hr, hxs, ho => by
  have h1 := ho o (by simp)
  have ho' : ∀ o ∈ os, (∀ c, o.op ≠ .defer c) ∧ F.dst o.dst := fun o' ho' => ho o' (by simp [ho'])
  have act : ∀ {s : S}, Rel (F.reb O1 w1) s a w → Inv s0 s → (stepY E t wr s o (stepC E wr all z os) (ZJ E t wr all z k os)).run nf = some (ys, y) → Region.wanted o (yielded all.toArray a.tmps) = true → gList (F.W Q) all.toArray (Q .normal) (o :: os) a w := fun {s} h hi hr hw => by
   simp only [gList, hw, if_true]
   refine Ac hF hE hG wr h1 hT hJ h hr hxs (fun O2 w2 acc' s' v w' ys' g1 g2 g3 g4 g5 => ?_) fun O2 w2 s' v w' g1 g2 g3 g4 => ?_
   ·exact Yx hF hE hG wr hT hK hZ g1 g2 (hi.trans g3) g4 g5 ho'
   ·exact Yg (F := F.reb O2 w2) hE wr g2 (hi.trans g3) g4 ho' fun s2 a2 w3 e1 e2 e3 => hZ O2 w2 s2 a2 w3 g1 e1 e2 e3
  have off : ∀ {s : S}, Rel (F.reb O1 w1) s a w → Inv s0 s → (ZJ E t wr all z k os (s.put o.dst (.ex undef))).run nf = some (ys, y) → Region.wanted o (yielded all.toArray a.tmps) = false → gList (F.W Q) all.toArray (Q .normal) (o :: os) a w := fun {s} h hi hr hw => by
   simp only [gList, hw, Bool.false_eq_true, if_false]
   exact Yx hF hE hG wr hT hK hZ hJ (h.skip h1.2) (hi.trans (Inv.put _ _ _)) hr hxs ho'
  simp only [ZJ] at hr
  split at hr
  ·rename_i hg
   exact act h hi hr (by simp [Region.wanted, hg])
  ·rename_i g hg
   have hwant : Region.wanted o (yielded all.toArray a.tmps) = (yielded all.toArray a.tmps g.1 == some g.2) := by simp [Region.wanted, hg]
   split at hr
   ·cases hr
   ·rename_i u ht
    split at hr
    ·cases hr
    ·rename_i φ hφ
     obtain ⟨X, hX⟩ := h
     rw [← hX.ep] at hφ
     have hv : φ.holds X w (a.get u) := hX.rd #[.tmp u] (.tmp u) φ (by simp) hφ
     split at hr
     ·rename_i b hb
      have hy : yielded all.toArray a.tmps g.1 = b := by
       cases b with
       | none => rw [qK hb] at hv; exact Zy ht hv
       | some b => rw [qJ hb] at hv; exact j5 ht hv
      rw [hy] at hwant
      split at hr
      ·rename_i hw
       refine act ⟨X, hX⟩ hi hr ?_
       rw [hwant]
       unfold wantB at hw
       split at hw <;> first | simp_all | cases hw
      ·rename_i hw
       refine off ⟨X, hX⟩ hi hr ?_
       rw [hwant]
       cases b with
       | none => rfl
       | some b =>
        generalize g.2 = v at hw
        cases b <;> cases v <;> first | rfl | (simp [wantB] at hw)
     ·split at hr
      ·cases hr
      ·rename_i b hb
       have hab : a.get u = .bool b := by rw [AV.kZ hb] at hv; exact jj.1 hv
       have hy := j5 ht hab
       rw [hy] at hwant
       split at hr
       ·rename_i hgb
        have e := C8.1 hgb
        refine act (Rel.know hX (φ := .ex (.bool g.2)) fun X' _ => (by rw [hab, e]; exact rfl)) (hi.trans (Inv.put _ _ _)) hr ?_
        rw [hwant, e]; simp
       ·rename_i hgb
        have e := Cw hgb
        refine off (Rel.know hX (φ := .ex (.bool (ntB g.2))) fun X' _ => (by rw [hab, e]; exact rfl)) (hi.trans (Inv.put _ _ _)) hr ?_
        rw [hwant, e]; cases g.2 <;> rfl
theorem uz {c : Comp σ} {n : Nat} {ys : List τ} {y : σ} (h : (c.bind fun st => Comp.pure (([] : List τ), st)).run n = some (ys, y)) : ys = [] ∧ c.run n = some y := by
 obtain ⟨x, h1, h2⟩ := Comp.run_bind h
 have := Comp.run_pure h2
 cases this
 exact ⟨rfl, h1⟩
theorem GF (hF : GenF F) (hm : F.P.follows .mixedOrders = true) (hE : E.ok F.P) (hG : GenI F.P F.x.Lp (t.args F.P) xs J Jx) : ∀ (c : Code), okC F.N c = true → noRF c = true → ∀ {β : Type} {h : H} {s0 s : S} {a : Act} {w : World} {k : S → Comp (List t.D × β)} {ex : Nat → S → Comp (List t.D × β)} {rt : S → Comp (List t.D × β)} {z : Stp} {nf : Nat} {y : β} {Q : Exit → Act → World → Prop} {O1 : Tags} {w1 : World} {acc ys T rest : List t.D}, T ++ rest = xs →
  J acc O1 w1 → Rel (F.reb O1 w1) s a w → Inv s0 s → (denY E t c β h s k ex rt z).run nf = some (ys, y) → acc ++ ys = T → WaysY F J T s0 nf y k ex rt Q → WaysX F Jx s0 nf z Q → F.wp c Q a w := by
 have hLh : ∀ (O1 : Tags) (w1 : World) t φ, ¬ (F.reb O1 w1).Lh t φ := fun _ _ => hF.Lh
 have hstop : ∀ {c : Code}, okC F.N c = true → noRF c = true → ∀ {h : H} {s0 s : S} {a : Act} {w : World} {z : Stp} {nf : Nat} {Q : Exit → Act → World → Prop} {O1 : Tags} {w1 : World}, Jx O1 w1 → Rel (F.reb O1 w1) s a w → Inv s0 s → (den E c Unit h s z.k z.ex z.rt).run nf = some () → WaysX F Jx s0 nf z Q → F.wp c Q a w := by
  intro c hok hn h s0 s a w z nf Q O1 w1 hJ hR hi hr hW
  have hnr : (F.reb O1 w1).x.nr = true := hF.nr
  exact wA c (F := F.reb O1 w1) hm (hLh _ _) hE hok (.inr hn) rfl hR hi hr ⟨fun F' s' a' w' g0 g1 g2 g3 => (by rw [g0.nr hnr] at g1; exact hW.k O1 w1 s' a' w' hJ g1 g2 g3), fun i F' s' a' w' g0 g1 g2 g3 => (by rw [g0.nr hnr] at g1; exact hW.ex i O1 w1 s' a' w' hJ g1 g2 g3), fun F' s' a' w' g0 g1 g2 g3 => (by rw [g0.nr hnr] at g1; exact hW.rt O1 w1 s' a' w' hJ g1 g2 g3)⟩
 have hregY : ∀ {id : Nat} {ops : Array Oper}, okReg F.N ops.toList = true → ∀ {β : Type} {s0 s : S} {a : Act} {w : World} {k : S → Comp (List t.D × β)} {zk : S → Comp Unit} {nf : Nat} {y : β} {Q : Exit → Act → World → Prop} {O1 : Tags} {w1 : World} {acc ys T rest : List t.D}, T ++ rest = xs → J acc O1 w1 → Rel (F.reb O1 w1) s a w → Inv s0 s → (ZJ E t (wrS ops.toList) ops.toList zk k ops.toList s).run nf = some (ys, y) → acc ++ ys = T →
   (∀ O2 w2 acc s' a' w' ys, J acc O2 w2 → Rel (F.reb O2 w2) s' a' w' → Inv s0 s' → (k s').run nf = some (ys, y) → acc ++ ys = T → Q .normal a' w') → (∀ O2 w2 s' a' w', Jx O2 w2 → Rel (F.reb O2 w2) s' a' w' → Inv s0 s' → (zk s').run nf = some () → Q .normal a' w') → F.wp (.region id ops false) Q a w := by
  intro id ops hok β s0 s a w k zk nf y Q O1 w1 acc ys T rest hT hJ hR hi hr hxs hK hZ
  have key : gList (F.W Q) ops.toList.toArray (Q .normal) ops.toList a w := Yx hF hE hG (wrS ops.toList) hT hK hZ hJ hR hi hr hxs fun o ho => ⟨J2 hok o ho, fun t ht => ?_⟩
  ·refine J9 (fun h => nomatch h) ?_
   show gOps (F.W Q) ops (Q .normal) (List.range ops.size) a w
   rw [List.range_eq_range', ← Array.length_toList, k9 ops.toList 0 (by simp)]
   simpa using key
  ·obtain ⟨j, hj⟩ := List.mem_iff_getElem?.1 ho
   exact ⟨((zR (YO hok) hj).2.1 t ht).1, fun φ => hF.Lh t φ⟩
 intro c
 induction c with
 | skip => intro _ _ β h s0 s a w k ex rt z nf y Q O1 w1 acc ys T rest hT hJ hR hi hr hxs hW hX; exact wpIn_skip (hW.k O1 w1 acc s a w ys hJ hR hi hr hxs)
 | label l => intro _ _ β h s0 s a w k ex rt z nf y Q O1 w1 acc ys T rest hT hJ hR hi hr hxs hW hX; exact wpIn_label (hW.k O1 w1 acc s a w ys hJ hR hi hr hxs)
 | exit i => intro _ _ β h s0 s a w k ex rt z nf y Q O1 w1 acc ys T rest hT hJ hR hi hr hxs hW hX; exact wpIn_exit (hW.ex i O1 w1 acc s a w ys hJ hR hi hr hxs)
 | ret => intro _ _ β h s0 s a w k ex rt z nf y Q O1 w1 acc ys T rest hT hJ hR hi hr hxs hW hX; exact wpIn_ret (hW.rt O1 w1 acc s a w ys hJ hR hi hr hxs)
 | region id ops draw =>
  intro hok _ β h s0 s a w k ex rt z nf y Q O1 w1 acc ys T rest hT hJ hR hi hr hxs hW hX
  simp only [denY] at hr
  split at hr
  ·rename_i l h'
   have hR' := Rel.frzV (F := F.reb O1 w1) (E := E) hE hR (slotV s l)
   have hi' := hi.trans (Inv.frzV (E := E) s (slotV s l))
   split at hr
   ·split at hr
    ·exact hregY hok hT hJ hR' hi' hr hxs hW.k hX.k
    ·cases hr
   ·exact Jr (F := F.reb O1 w1) (hLh _ _) hE hm (Mb _) hok hR' hi' hr fun s' a' w' g1 g2 g3 => hW.k O1 w1 acc s' a' w' ys hJ g1 g2 g3 hxs
  ·split at hr
   ·exact hregY hok hT hJ hR hi hr hxs hW.k hX.k
   ·cases hr
  ·exact Jr (F := F.reb O1 w1) (hLh _ _) hE hm (Mb _) hok hR hi hr fun s' a' w' g1 g2 g3 => hW.k O1 w1 acc s' a' w' ys hJ g1 g2 g3 hxs
 | seq x v ihx ihv =>
  intro hok hn β h s0 s a w k ex rt z nf y Q O1 w1 acc ys T rest hT hJ hR hi hr hxs hW hX
  simp only [okC, MY] at hok
  simp only [noRF, MY] at hn
  simp only [denY] at hr
  refine wpIn_seq (ihx hok.1 hn.1 hT hJ hR hi hr hxs ⟨fun O2 w2 acc' s' a' w' ys' g0 g1 g2 g3 g4 => ?_, hW.ex, hW.rt⟩ ⟨fun O2 w2 s' a' w' g0 g1 g2 g3 => ?_, hX.ex, hX.rt⟩)
  ·exact ihv hok.2 hn.2 hT g0 g1 g2 g3 g4 hW hX
  ·exact hstop hok.2 hn.2 g0 g1 g2 g3 hX
 | scope x ih =>
  intro hok hn β h s0 s a w k ex rt z nf y Q O1 w1 acc ys T rest hT hJ hR hi hr hxs hW hX
  simp only [denY] at hr
  exact X4 (ih hok hn hT hJ hR hi hr hxs ⟨hW.k, hW.ex, hW.rt⟩ ⟨hX.k, hX.ex, hX.rt⟩)
 | cond c x e ihx ihe =>
  intro hok hn β h s0 s a w k ex rt z nf y Q O1 w1 acc ys T rest hT hJ hR hi hr hxs hW hX
  simp only [okC, MY] at hok
  simp only [noRF, MY] at hn
  simp only [denY] at hr
  split at hr
  ·cases hr
  ·rename_i b hb
   have hc : a.eval c = .bool b := by
    obtain ⟨X, hX⟩ := hR
    rw [← hX.ep] at hb
    exact GQ hb fun φ h1 => hX.rd #[c] c φ (by simp) h1
   split at hr
   ·rename_i sh h1 h2
    dsimp only [jn] at hr
    have hW' : WaysY F J T s nf y (fun s' => goJ E.G sh s s' (fun x => k (sh.put s x))) ex rt Q := by
     refine ⟨fun O2 w2 acc' s' a' w' ys' g0 g1 g2 g3 g4 => ?_, fun i O2 w2 acc' s' a' w' ys' g0 g1 g2 g3 g4 => hW.ex i O2 w2 acc' s' a' w' ys' g0 g1 (hi.trans g2) g3 g4, fun O2 w2 acc' s' a' w' ys' g0 g1 g2 g3 g4 => hW.rt O2 w2 acc' s' a' w' ys' g0 g1 (hi.trans g2) g3 g4⟩
     obtain ⟨x, q1, q2, q3⟩ := K6 (F := F.reb O2 w2) (F0 := F.reb O1 w1) (hLh _ _) hE ⟨rfl, rfl, rfl⟩ hR g1 g2 g3
     exact hW.k O2 w2 acc' _ _ _ ys' g0 q1 (hi.trans q2) q3 g4
    refine wpIn_cond_split hc (fun hbt => ?_) (fun hbf => ?_)
    ·rw [if_pos hbt] at hr; exact ihx hok.1 hn.1 hT hJ hR (Inv.refl s) hr hxs hW' (hX.inv hi)
    ·rw [if_neg (by rw [hbf]; simp)] at hr; exact ihe hok.2 hn.2 hT hJ hR (Inv.refl s) hr hxs hW' (hX.inv hi)
   ·refine wpIn_cond_split hc (fun hbt => ?_) (fun hbf => ?_)
    ·rw [if_pos hbt] at hr; exact ihx hok.1 hn.1 hT hJ hR hi hr hxs hW hX
    ·rw [if_neg (by rw [hbf]; simp)] at hr; exact ihe hok.2 hn.2 hT hJ hR hi hr hxs hW hX
 | block id x ih =>
  intro hok hn β h s0 s a w k ex rt z nf y Q O1 w1 acc ys T rest hT hJ hR hi hr hxs hW hX
  simp only [denY] at hr
  refine wpIn_block ?_
  have hX' : WaysX F Jx s0 nf ⟨z.k, fun i s' => match Nat.beq i id with | true => z.k s' | false => z.ex i s', z.rt⟩ (Exit.inBlock id Q) := by
   refine ⟨hX.k, fun i O2 w2 s' a' w' g0 g1 g2 g3 => ?_, hX.rt⟩
   show (if i = id then Q .normal a' w' else Q (.exit i) a' w')
   cases hb : Nat.beq i id with
   | true => simp only [hb] at g3; rw [if_pos (MX hb)]; exact hX.k O2 w2 s' a' w' g0 g1 g2 g3
   | false =>
    simp only [hb] at g3
    rw [zV] at hb
    rw [if_neg (by simpa using hb)]; exact hX.ex i O2 w2 s' a' w' g0 g1 g2 g3
  split at hr
  ·rename_i sh h1
   dsimp only [jn] at hr
   have hk : ∀ O2 w2 acc' s' a' w' ys', J acc' O2 w2 → Rel (F.reb O2 w2) s' a' w' → Inv s s' → (goJ E.G sh s s' (fun x => k (sh.put s x))).run nf = some (ys', y) → acc' ++ ys' = T → Q .normal a' w' := by
    intro O2 w2 acc' s' a' w' ys' g0 g1 g2 g3 g4
    obtain ⟨x, q1, q2, q3⟩ := K6 (F := F.reb O2 w2) (F0 := F.reb O1 w1) (hLh _ _) hE ⟨rfl, rfl, rfl⟩ hR g1 g2 g3
    exact hW.k O2 w2 acc' _ _ _ ys' g0 q1 (hi.trans q2) q3 g4
   refine ih hok hn hT hJ hR (Inv.refl s) hr hxs ⟨hk, fun i O2 w2 acc' s' a' w' ys' g0 g1 g2 g3 g4 => ?_, fun O2 w2 acc' s' a' w' ys' g0 g1 g2 g3 g4 => hW.rt O2 w2 acc' s' a' w' ys' g0 g1 (hi.trans g2) g3 g4⟩ (hX'.inv hi)
   show (if i = id then Q .normal a' w' else Q (.exit i) a' w')
   cases hb : Nat.beq i id with
   | true => rw [hb] at g3; rw [if_pos (MX hb)]; exact hk O2 w2 acc' s' a' w' ys' g0 g1 g2 g3 g4
   | false =>
    rw [hb] at g3
    rw [zV] at hb
    rw [if_neg (by simpa using hb)]; exact hW.ex i O2 w2 acc' s' a' w' ys' g0 g1 (hi.trans g2) g3 g4
  ·refine ih hok hn hT hJ hR hi hr hxs ⟨hW.k, fun i O2 w2 acc' s' a' w' ys' g0 g1 g2 g3 g4 => ?_, hW.rt⟩ hX'
   show (if i = id then Q .normal a' w' else Q (.exit i) a' w')
   cases hb : Nat.beq i id with
   | true => rw [hb] at g3; rw [if_pos (MX hb)]; exact hW.k O2 w2 acc' s' a' w' ys' g0 g1 g2 g3 g4
   | false =>
    rw [hb] at g3
    rw [zV] at hb
    rw [if_neg (by simpa using hb)]; exact hW.ex i O2 w2 acc' s' a' w' ys' g0 g1 g2 g3 g4
 | loop c ih =>
  intro hok hn β h s0 s a w k ex rt z nf y Q O1 w1 acc ys T rest hT hJ hR hi hr hxs hW hX
  simp only [denY] at hr
  split at hr
  ·rename_i sh l h1
   split at hr
   ·cases hr
   ·rename_i x0 hx0
    obtain ⟨p, hp, hr⟩ := Comp.run_bind hr
    obtain ⟨ys0, e⟩ := p
    obtain ⟨zs, hr, hys⟩ := uy hr
    simp only at hr hys
    obtain ⟨g1, g2⟩ := k8 (F := F.reb O1 w1) (hLh _ _) hE (Frm.Yk _) hR hR (Inv.refl s) hx0
    generalize hB : (fun x => denY E t c (Comp.Step sh.D (ED l)) h1 (sh.put s x) (fun s' => (nextE E.G sh s s').bind fun st => Comp.pure ([], st)) (fun i s' => (doneE E.G s l (some i) s').bind fun st => Comp.pure ([], st)) (fun s' => (doneE E.G s l none s').bind fun st => Comp.pure ([], st)) ⟨fun _ => Comp.fail, z.ex, z.rt⟩) = B at *
    refine KU (fun m a' w' => ∃ O2 w2 acc' x ys', J acc' O2 w2 ∧ Rel (F.reb O2 w2) (sh.put s x) a' w' ∧ Inv s (sh.put s x) ∧ jQ B nf m x = some (ys', e) ∧ acc' ++ (ys' ++ zs) = T) (fun m a' w' hI => ?_) ⟨O1, w1, acc, x0, ys0, hJ, g1, g2, hp, by rw [← hxs, hys]⟩
    obtain ⟨O2, w2, acc', x, ys', q0, q1, q2, q3, q4⟩ := hI
    obtain ⟨m', hlt, us, st, hst, hnx, hdn⟩ := uC q3
    rw [← hB] at hst
    have hend : ∀ (o : Option Nat) O3 w3 acc3 s' a3 w' vs, J acc3 O3 w3 → Rel (F.reb O3 w3) s' a3 w' → Inv s s' → ((doneE (σ := sh.D) E.G s l o s').bind fun st => Comp.pure (([] : List t.D), st)).run nf = some (vs, st) → acc3 ++ vs = acc' ++ us → ∃ s2, Rel (F.reb O3 w3) s2 a3 w' ∧ Inv s s2 ∧ (match o with | some i => ex i s2 | none => rt s2).run nf = some (zs, y) ∧ acc3 ++ zs = T := by
     intro o O3 w3 acc3 s' a3 w' vs f0 f1 f2 f3 f4
     obtain ⟨rfl, f5⟩ := uz (c := doneE (σ := sh.D) E.G s l o s') f3
     unfold doneE at f5
     split at f5
     ·rename_i v hv
      have hst := Comp.run_pure f5
      obtain ⟨he, hus⟩ := hdn v hst.symm
      subst he
      obtain ⟨s2, r1, r2, r3⟩ := J7 (F := F.reb O3 w3) (F0 := F.reb O1 w1) (hLh _ _) hE ⟨rfl, rfl, rfl⟩ hR f1 f2 hv hr
      refine ⟨s2, r1, r2, r3, ?_⟩
      rw [List.append_nil] at f4
      rw [f4, ← q4, hus, List.append_assoc]
     ·cases f5
    have hT' : ∃ rest', (acc' ++ us) ++ rest' = xs := by
     cases st with
     | next s' =>
      obtain ⟨zs', _, h2⟩ := hnx s' rfl
      exact ⟨zs' ++ zs ++ rest, by rw [← hT, ← q4, h2]; simp⟩
     | done e' =>
      obtain ⟨_, h2⟩ := hdn e' rfl
      exact ⟨zs ++ rest, by rw [← hT, ← q4, h2]; simp⟩
    obtain ⟨rest', hT'⟩ := hT'
    refine ih hok hn hT' q0 q1 q2 hst rfl ⟨fun O3 w3 acc3 s' a3 w' vs f0 f1 f2 f3 f4 => ?_, fun i O3 w3 acc3 s' a3 w' vs f0 f1 f2 f3 f4 => ?_, fun O3 w3 acc3 s' a3 w' vs f0 f1 f2 f3 f4 => ?_⟩ ⟨fun _ _ _ _ _ _ _ _ f => (nomatch f), (hX.inv hi).ex, (hX.inv hi).rt⟩
    ·obtain ⟨rfl, f5⟩ := uz (c := nextE E.G sh s s') f3
     unfold nextE at f5
     split at f5
     ·rename_i v hv
      have hst := Comp.run_pure f5
      obtain ⟨zs', k1, k2⟩ := hnx v hst.symm
      obtain ⟨r1, r2⟩ := k8 (F := F.reb O3 w3) (F0 := F.reb O1 w1) (hLh _ _) hE ⟨rfl, rfl, rfl⟩ hR f1 f2 hv
      refine ⟨m', hlt, O3, w3, acc3, v, zs', f0, r1, r2, k1, ?_⟩
      rw [List.append_nil] at f4
      rw [f4, ← q4, k2]; simp
     ·cases f5
    ·obtain ⟨s2, r1, r2, r3, r4⟩ := hend (some i) O3 w3 acc3 s' a3 w' vs f0 f1 f2 f3 f4
     exact hW.ex i O3 w3 acc3 s2 a3 w' zs f0 r1 (hi.trans r2) r3 r4
    ·obtain ⟨s2, r1, r2, r3, r4⟩ := hend none O3 w3 acc3 s' a3 w' vs f0 f1 f2 f3 f4
     exact hW.rt O3 w3 acc3 s2 a3 w' zs f0 r1 (hi.trans r2) r3 r4
  ·cases hr
 | goto l => intro _ _ β h s0 s a w k ex rt z nf y Q O1 w1 acc ys T rest hT hJ hR hi hr; cases hr
 | refuse l => intro _ _ β h s0 s a w k ex rt z nf y Q O1 w1 acc ys T rest hT hJ hR hi hr; cases hr
 | rangeFunc f ps pa bd _ _ => intro _ hn; cases hn
end
def C9 (E : VE) (c : Code) (h : H) (ps t : Ty) (x : ps.D) : Comp (List t.D) :=
 (denY E t c Unit h ⟨(0, 0, .yl) :: initL ps x 1, [], 1, 0⟩ (fun _ => Comp.pure ([], ())) (fun _ _ => Comp.fail) (fun _ => Comp.pure ([], ())) ⟨fun _ => Comp.pure (), fun _ _ => Comp.fail, fun _ => Comp.pure ()⟩).bind fun p => Comp.pure p.1
theorem I6 {P : Program} {E : VE} (hE : E.ok P) (hm : P.follows .mixedOrders = true) {f : FuncId} {fn : Func} {c : Code} {h : H} {fs : GS} (hF : FnOk P f) (hf : P.funcs[f]? = some fn) (hb : fn.body = some c) (hc : (okC fn.ntmps c && noRF c) = true) (hres : fn.results.size = 0) (hl : Nat.ble (fs.ps.len + 1) fn.ntmps = true)
  (hs : ∀ x, C9 E c h fs.ps fs.t x = fs.sem x) : fs.ok P f := by
 rw [MY] at hc
 refine ⟨hF, fun O w hO us x ha n xs hy L J Jx hR => ?_⟩
 rw [← hs x] at hy
 obtain ⟨⟨ys, u⟩, hy2, hp⟩ := Comp.run_bind hy
 have := Comp.run_pure hp
 simp only at this
 subst this
 have hvs := YK ha
 refine calls_of_wp hf hb ?_
 have hfit := ZY (Value.func (.yield L) #[] #[] :: us).toArray fn.ntmps (by simp only [List.size_toArray, List.length_cons]; rw [hvs]; exact Nat.le_of_ble_eq_true hl)
 have hget : ∀ (j : Nat) v, (Value.func (.yield L) #[] #[] :: us)[j]? = some v → Act.get { tmps := (Value.func (.yield L) #[] #[] :: us).toArray ++ Array.replicate (fn.ntmps - (Value.func (.yield L) #[] #[] :: us).toArray.size) undef, defers := [] } j = v := fun j v hj => ZX (by simpa using hj)
 generalize ({ tmps := (Value.func (.yield L) #[] #[] :: us).toArray ++ Array.replicate (fn.ntmps - (Value.func (.yield L) #[] #[] :: us).toArray.size) undef, defers := [] } : Act) = a at hfit hget ⊢
 let F : Frm := ⟨P, fn.ntmps, [], Go.Lift.Fr w, O, w, fun _ _ => False, 0, [], { FrX.no 1 O w with Lp := L, nr := true }⟩
 let X : Cx := ⟨P, O, fun _ => .nilIface, 1, fun k => k, Go.Lift.Fr w, Go.Lift.Fr w, 0, L⟩
 have hGF : GenF F := ⟨rfl, fun _ _ h => h, rfl, rfl, Nat.one_ne_zero, fun _ _ h => h, fun _ _ h => h, rfl, rfl⟩
 have hG : GenI P L (fs.t.args P) ys J Jx := ⟨hR.ext, hR.extx, hR.ok, hR.okx, hR.y⟩
 have hRel : Rel (F.reb O w) ⟨(0, 0, .yl) :: initL fs.ps x 1, [], 1, 0⟩ a w := by
  have hin := fun {t e} => YG (X := X) (a := a) (i := 1) rfl rfl ha (fun j v hj => by rw [Nat.add_comm]; exact hget (j + 1) v (by simpa using hj)) (u := t) (e := e)
  refine ⟨X, rfl, rfl, rfl, rfl, rfl, hO, hfit, Base.start hO, fun t e he _ => (by
   rcases zF he with ⟨rfl, rfl⟩ | ⟨_, he⟩
   ·exact hget 0 _ rfl
   ·exact (hin he).2), fun k e he => (nomatch he), fun t e he => (by
   rcases zF he with ⟨rfl, rfl⟩ | ⟨_, he⟩
   ·exact Nat.zero_lt_one
   ·rw [(hin he).1]; exact Nat.zero_lt_one), fun k e he => (nomatch he), fun k k' e e' he => (nomatch he), fun k e he => (nomatch he), Nat.zero_le _, Nat.zero_lt_one, fun _ _ h => h.elim, ⟨Nat.zero_le _, fun j b hj => (nomatch hj)⟩, ⟨Nat.one_ne_zero, fun _ _ h => h.elim, fun _ _ h => h.elim, Keep.refl _ _ _, rfl⟩⟩
 have hret : ∀ (a' : Act) (w' : World), a'.defers = [] → ((∃ O'', J ys O'' w') ∨ ∃ O'', Jx O'' w') → bodyPost P fn (fun e w'' => e = .returned (.tuple #[]) ∧ ((∃ O'', J ys O'' w'') ∨ ∃ O'', Jx O'' w'')) .normal a' w' := fun a' w' hd h => by
  have hr : fn.results = #[] := Array.eq_empty_of_size_eq_zero hres
  exact ⟨hd, .tuple #[], by simp [results, hr], rfl, h⟩
 refine (wpIn_wide (n := 0)).1 ?_
 refine GF (F := F) (xs := ys) (T := ys) (rest := []) (acc := []) hGF hm hE hG c hc.1 hc.2 (by simp) hR.z hRel (Inv.refl _) hy2 rfl ⟨fun O1 w1 acc s' a' w' zs h1 h2 h3 h4 h5 => ?_, fun i O1 w1 acc s' a' w' zs h1 h2 h3 h4 => (nomatch h4), fun O1 w1 acc s' a' w' zs h1 h2 h3 h4 h5 => ?_⟩ ⟨fun O1 w1 s' a' w' h1 h2 h3 h4 => ?_, fun i O1 w1 s' a' w' h1 h2 h3 h4 => (nomatch h4), fun O1 w1 s' a' w' h1 h2 h3 h4 => ?_⟩
 ·have := Comp.run_pure h4
  cases this
  obtain ⟨X', hX'⟩ := h2
  rw [List.append_nil] at h5
  subst h5
  exact hret a' w' hX'.fit.defers (.inl ⟨O1, hR.ext _ _ _ _ h1 hX'.base.ext⟩)
 ·have := Comp.run_pure h4
  cases this
  obtain ⟨X', hX'⟩ := h2
  rw [List.append_nil] at h5
  subst h5
  exact hret a' w' hX'.fit.defers (.inl ⟨O1, hR.ext _ _ _ _ h1 hX'.base.ext⟩)
 ·obtain ⟨X', hX'⟩ := h2
  exact hret a' w' hX'.fit.defers (.inr ⟨O1, hR.extx _ _ _ h1 hX'.base.ext⟩)
 ·obtain ⟨X', hX'⟩ := h2
  exact hret a' w' hX'.fit.defers (.inr ⟨O1, hR.extx _ _ _ h1 hX'.base.ext⟩)
end Go.Den
end
section
namespace Go.Den
open Go Go.RowKit Go.Eng Go.Lift
def FlAll (P : Program) (X : TypeId) : Nat → List (Nat × Nat × Nat) → Prop
 | _, [] => True
 | k, e :: l => Fld P X k e.1 e.2.1 e.2.2 ∧ FlAll P X (k + 1) l
theorem flAll {P : Program} {X : TypeId} : ∀ {l : List (Nat × Nat × Nat)} {k : Nat}, FlAll P X k l → ∀ (f : Nat) e, l[f]? = some e → Fld P X (k + f) e.1 e.2.1 e.2.2
 | [], _, _, f, e, h => by simp at h
 | e0 :: l, k, h, f, e, he => by
  cases f with
  | zero => simp at he; subst he; exact h.1
  | succ f => have := flAll h.2 f e (by simpa using he); rwa [Nat.add_right_comm, Nat.add_assoc] at this
theorem zz {P : Program} {X : TypeId} {i : TI} (h : i.kq = false) : i.kq = true → KeyB P X i.τ := fun h' => by rw [h] at h'; cases h'
def TI.eqok (P : Program) (X : TypeId) (i : TI) : Prop := i.eq ≠ 0 → EqT P X i.τ i.eq ∧ i.eq ≤ 10000 ∧ (i.τ.agg = true → P.eqGuardType P.depth X = false)
theorem no_eq {P : Program} {X : TypeId} {i : TI} (h : i.eq = 0) : i.eqok P X := fun h' => absurd h h'
theorem zf {P : Program} {X : TypeId} {i : TI} (h : Eng.Ty P X i.dd i.z i.sz i.by_) (hf : i.fl = []) (he : i.eqok P X) (hk : i.kq = true → KeyB P X i.τ) : i.ok P X := ⟨h, fun f e he => (by rw [hf] at he; simp at he), .inl hf, he, hk⟩
theorem yY {P : Program} {X : TypeId} {i : TI} (h : Eng.Ty P X i.dd i.z i.sz i.by_) (hf : FlAll P X 0 i.fl) (hp : Plc P X (i.fl.map (fun e => (e.2.1, e.2.2 + 1))).toArray) (he : i.eqok P X) (hk : i.kq = true → KeyB P X i.τ) : i.ok P X :=
 ⟨h, fun f e he => (by have := flAll hf f e he; rwa [Nat.zero_add] at this), .inr hp, he, hk⟩
def iS (e : TypeId) (t : Ty) : TI := ⟨.slice e, .slice none 0 0, 1, 24, [], t, 0, false⟩
theorem iS_ok {P : Program} {X e : TypeId} {t : Ty} (h : Eng.Ty P X (.slice e) (.slice none 0 0) 1 24) : (iS e t).ok P X := zf (i := iS e t) h rfl (no_eq rfl) (zz rfl)
theorem Du (P : Program) : TOk P [] := fun X i h => nomatch h
theorem zM {P : Program} {X : TypeId} {i : TI} {l : TE} (h : i.ok P X) (hl : TOk P l) : TOk P ((X, i) :: l) := fun Y j hj => by
 rcases zF hj with ⟨h1, h2⟩ | ⟨_, h2⟩
 ·subst h1 h2; exact h
 ·exact hl Y j h2
def eqTsB (l : List (Nat × Ty × Nat)) (D : Nat) : List Field → Ty → Nat → Bool
 | [], .nil, _ => true
 | f :: fs, .cons a b, off => !(f.name == "_") && (Nat.beq f.offset off && ((match look l f.type with
  | some e => a.beq e.1 && Nat.ble e.2 D
  | none => false) && eqTsB l D fs b (off + a.sz)))
 | _, _, _ => false
def EqAll (P : Program) (l : List (Nat × Ty × Nat)) : Prop := ∀ X e, look l X = some e → EqT P X e.1 e.2
theorem kW (P : Program) : EqAll P [] := fun X i h => nomatch h
theorem ja {P : Program} {X : TypeId} {t : Ty} {D : Nat} {l : List (Nat × Ty × Nat)} (h : EqT P X t D) (hl : EqAll P l) : EqAll P ((X, t, D) :: l) := fun Y j hj => by
 rcases zF hj with ⟨h1, h2⟩ | ⟨_, h2⟩
 ·subst h1 h2; exact h
 ·exact hl Y j h2
theorem Zx {P : Program} {l : List (Nat × Ty × Nat)} (hl : EqAll P l) {D : Nat} : ∀ {fs : List Field} {t : Ty} {off : Nat}, eqTsB l D fs t off = true → EqTs P D fs t off
 | [], .nil, _, _ => .nil
 | f :: fs, .cons a b, off, h => by
  simp only [eqTsB, MY] at h
  obtain ⟨h1, h2, h3, h4⟩ := h
  split at h3
  ·rename_i e he
   rw [MY] at h3
   have := hl _ _ he
   rw [← Ty.eq_of h3.1] at this
   exact .cons (by simpa using h1) (MX h2) this (Nat.le_of_ble_eq_true h3.2) (Zx hl h4)
  ·cases h3
 | [], .int _, _, h | [], .bool, _, h | [], .str, _, h | [], .sl _, _, h | [], .cons .., _, h | [], .arr .., _, h | [], .box _, _, h | [], .fn .., _, h | [], .seq .., _, h | [], .slo .., _, h | [], .mp .., _, h => by simp [eqTsB] at h
 | _ :: _, .int _, _, h | _ :: _, .bool, _, h | _ :: _, .str, _, h | _ :: _, .sl _, _, h | _ :: _, .nil, _, h | _ :: _, .arr .., _, h | _ :: _, .box _, _, h | _ :: _, .fn .., _, h | _ :: _, .seq .., _, h | _ :: _, .slo .., _, h | _ :: _, .mp .., _, h => by simp [eqTsB] at h
theorem YC {κ : Type} {P : Nat → κ → Prop} {f : Nat} {s : κ} {l : List (Nat × κ)} (h : P f s) (hl : ∀ g t, look l g = some t → P g t) : ∀ g t, look ((f, s) :: l) g = some t → P g t := fun Y j hj => by
 rcases zF hj with ⟨h1, h2⟩ | ⟨_, h2⟩
 ·subst h1 h2; exact h
 ·exact hl Y j h2
section short
variable {P : Program} {T : TE} {lG : List (Nat × FS)} {lM : List (Nat × FM)} {lO : List (Nat × FO)} {lN : List (Nat × FS)} {lQ : List (Nat × GS)}
abbrev ve (T : TE) (lG : List (Nat × FS)) (lM : List (Nat × FM)) (lO : List (Nat × FO)) (lN : List (Nat × FS)) (lQ : List (Nat × GS)) : VE := ⟨T, look lG, look lM, look lO, look lN, look lQ⟩
structure EK (P : Program) (T : TE) (lG : List (Nat × FS)) (lM : List (Nat × FM)) (lO : List (Nat × FO)) (lN : List (Nat × FS)) (lQ : List (Nat × GS)) : Prop where
 e : (ve T lG lM lO lN lQ).ok P
 m : P.follows .mixedOrders = true
theorem e0 (h : TOk P T) (hm : P.follows .mixedOrders = true) : EK P T [] [] [] [] [] := ⟨⟨h, (fun X i h => nomatch h), (fun X i h => nomatch h), (fun X i h => nomatch h), (fun X i h => nomatch h), (fun X i h => nomatch h)⟩, hm⟩
theorem EK.S {f s} (h : EK P T lG lM lO lN lQ) (hs : FS.ok P f s) : EK P T ((f, s) :: lG) lM lO lN lQ := ⟨{ h.e with G := YC hs h.e.G }, h.m⟩
theorem EK.M {f s} (h : EK P T lG lM lO lN lQ) (hs : FM.ok P f s) : EK P T lG ((f, s) :: lM) lO lN lQ := ⟨{ h.e with H := YC hs h.e.H }, h.m⟩
theorem EK.O {f s} (h : EK P T lG lM lO lN lQ) (hs : FO.ok P f s) : EK P T lG lM ((f, s) :: lO) lN lQ := ⟨{ h.e with O := YC hs h.e.O }, h.m⟩
theorem EK.N {f s} (h : EK P T lG lM lO lN lQ) (hs : FS.okN P f s) : EK P T lG lM lO ((f, s) :: lN) lQ := ⟨{ h.e with N := YC hs h.e.N }, h.m⟩
theorem EK.Q {f s} (h : EK P T lG lM lO lN lQ) (hs : GS.ok P f s) : EK P T lG lM lO lN ((f, s) :: lQ) := ⟨{ h.e with Q := YC hs h.e.Q }, h.m⟩
def okA (fn : Func) (c : Code) (n : Nat) : Bool := !fn.body.isNone && (!(fn.name == "runtime.NumGoroutine") && (okC fn.ntmps c && Nat.ble n fn.ntmps))
theorem jH {fn : Func} {c : Code} {n : Nat} (h : okA fn c n = true) : fn.body.isNone = false ∧ (fn.name == "runtime.NumGoroutine") = false ∧ okC fn.ntmps c = true ∧ Nat.ble n fn.ntmps = true := by
 unfold okA at h; simp only [MY, Bool.not_eq_true'] at h; exact h
variable {f : FuncId} {fn : Func} {c : Code}
theorem fS (hE : EK P T lG lM lO lN lQ) (h : H) {fs : FS} (hf : P.funcs[f]? = some fn) (hb : fn.body = some c) (hk : okA fn c fs.ps.len = true) (hs : ∀ x, fnDen (ve T lG lM lO lN lQ) c h fn.results.toList fs.ps fs.rs fs.rk x = fs.sem x) : fs.ok P f :=
 fn_ok hE.e hE.m ⟨_, hf, (jH hk).1, (jH hk).2.1⟩ hf hb (jH hk).2.2.1 (jH hk).2.2.2 hs
theorem fM (hE : EK P T lG lM lO lN lQ) (h : H) {fs : FM} (hf : P.funcs[f]? = some fn) (hb : fn.body = some c) (hk : okA fn c fs.ps.len = true) (hs : ∀ x, DD (ve T lG lM lO lN lQ) c h fn.results.toList fs.ps fs.io fs.rs x = fs.sem x) : fs.ok P f :=
 I9 hE.e hE.m ⟨_, hf, (jH hk).1, (jH hk).2.1⟩ hf hb (jH hk).2.2.1 (jH hk).2.2.2 hs
theorem fO (hE : EK P T lG lM lO lN lQ) (h : H) {fs : FO} (hf : P.funcs[f]? = some fn) (hb : fn.body = some c) (hk : (fs.ret && okA fn c (fs.ps.len + 1)) = true) (hs : ∀ xs z, DA (ve T lG lM lO lN lQ) c h fn.results.toList fs.e fs.T fs.ps xs z = fs.sem xs z) : fs.ok P f := by
 rw [MY] at hk
 exact I7 hE.e hE.m ⟨_, hf, (jH hk.2).1, (jH hk.2).2.1⟩ hf hb (jH hk.2).2.2.1 (jH hk.2).2.2.2 hk.1 hs
theorem fN (hE : EK P T lG lM lO lN lQ) (h : H) {fs : FS} (hf : P.funcs[f]? = some fn) (hb : fn.body = some c) (hk : okA fn c (fs.ps.len + 1) = true) (hs : ∀ x, DC (ve T lG lM lO lN lQ) c h fn.results.toList fs.ps fs.rs fs.rk x = fs.sem x) : fs.okN P f :=
 I8 hE.e hE.m ⟨_, hf, (jH hk).1, (jH hk).2.1⟩ hf hb (jH hk).2.2.1 (jH hk).2.2.2 hs
theorem fQ (hE : EK P T lG lM lO lN lQ) (h : H) {fs : GS} (hf : P.funcs[f]? = some fn) (hb : fn.body = some c) (hk : (Nat.beq fn.results.size 0 && (noRF c && okA fn c (fs.ps.len + 1))) = true) (hs : ∀ x, C9 (ve T lG lM lO lN lQ) c h fs.ps fs.t x = fs.sem x) : fs.ok P f := by
 simp only [MY] at hk
 have ho := jH hk.2.2
 exact I6 hE.e hE.m ⟨_, hf, ho.1, ho.2.1⟩ hf hb (by rw [ho.2.2.1, hk.2.1]; rfl) (MX hk.1) ho.2.2.2 hs
end short
end Go.Den
end
section
namespace Go.Lift
open Go Go.Eng
variable {α β γ δ ε σ τ : Type}
namespace Comp
def foldE (f : σ → α → Step σ ε) (fin : σ → ε) : σ → List α → ε
 | s, [] => fin s
 | s, x :: xs => match f s x with
  | .next s' => foldE f fin s' xs
  | .done e => e
def Step.map (g : σ → τ) : Step σ ε → Step τ ε
 | .next s => .next (g s)
 | .done e => .done e
theorem jX {body : τ → Comp (Step τ ε)} (st : σ → Nat → τ) (xs : List α) (f : σ → α → Step σ ε) (fin : σ → ε) (I : σ → Nat → Prop)
  (hb : ∀ s i x, xs[i]? = some x → I s i → (body (st s i)).val = some ((f s x).map fun s' => st s' (i + 1)))
  (hI : ∀ s i x s', xs[i]? = some x → I s i → f s x = .next s' → I s' (i + 1))
  (he : ∀ s, I s xs.length → (body (st s xs.length)).val = some (.done (fin s))) (s : σ) (h0 : I s 0) : (loop body (st s 0)).val = some (foldE f fin s xs) := by
 have key : ∀ (ys zs : List α) (s : σ), xs = zs ++ ys → I s zs.length → (loop body (st s zs.length)).val = some (foldE f fin s ys) := by
  intro ys
  induction ys with
  | nil =>
   intro zs s hx hs
   rw [List.append_nil] at hx; subst hx
   rw [zI, he s hs]; rfl
  | cons y ys ih =>
   intro zs s hx hs
   have hy : xs[zs.length]? = some y := by rw [hx]; simp
   rw [zI, hb s _ y hy hs]
   simp only [foldE, MW]
   cases hf : f s y with
   | next s' =>
    simp only [Step.map]
    have := ih (zs ++ [y]) s' (by rw [hx]; simp) (by have := hI s _ y s' hy hs hf; simpa using this)
    simpa using this
   | done e => rfl
 exact key xs [] s rfl h0
theorem Zi {f : σ → α → σ} {fin : σ → ε} : ∀ (xs : List α) (s : σ), foldE (fun s x => .next (f s x)) fin s xs = fin (xs.foldl f s)
 | [], _ => rfl
 | x :: xs, s => by simp only [foldE, List.foldl_cons]; exact Zi xs (f s x)
end Comp
theorem zH {xs : List α} {i : Nat} {x : α} (h : xs[i]? = some x) : (idx xs (i : Int)).val = some x := by
 unfold idx; rw [if_pos (by omega)]; simp [h]
theorem Ym {xs : List α} {i : Int} {x : α} (h0 : 0 ≤ i) (h : xs[i.toNat]? = some x) : (idx xs i).val = some x := by
 unfold idx; rw [if_pos h0]; simp [h]
theorem zr {xs ys : List α} (h : xs.length + ys.length ≤ LIM) : (app xs ys).val = some (xs ++ ys) := by
 unfold app; rw [if_pos h]; simp
theorem kh {xs : List α} {l h : Int} (hr : 0 ≤ l ∧ l ≤ h ∧ h ≤ xs.length) : (sub xs l h).val = some ((xs.take h.toNat).drop l.toNat) := by
 unfold sub; rw [if_pos hr]; simp
theorem mk_val {n : Int} {z : α} (h : 0 ≤ n ∧ n ≤ LIM) : (mk n z).val = some (List.replicate n.toNat z) := by
 unfold mk; rw [if_pos h]; simp
theorem Ds {xs : List α} {i : Int} {x : α} (h : 0 ≤ i ∧ i < xs.length) : (upd xs i x).val = some (xs.set i.toNat x) := by
 unfold upd; rw [if_pos h]; simp
theorem kM {a b : Int} (h : b ≠ 0) : (rem a b).val = some (a.tmod b) := by
 unfold rem; rw [if_neg h]; simp
theorem zG {xs : List α} {i : Nat} {x : α} (h : xs[i]? = some x) : i < xs.length := (List.getElem?_eq_some_iff.1 h).1
end Go.Lift
end
section
namespace Go.Lift
open Go Go.Eng
variable {α β γ δ ε σ τ : Type}
def Ok (c : Comp α) (P : α → Prop) : Prop := ∃ a, c.val = some a ∧ P a
namespace Ok
theorem kB {c : Comp α} {a : α} {P : α → Prop} (h : c.val = some a) : Ok c P ↔ P a := by
 constructor
 ·rintro ⟨b, h1, h2⟩; rw [h] at h1; cases h1; exact h2
 ·exact fun hp => ⟨a, h, hp⟩
theorem val {c : Comp α} {a : α} (h : Ok c (fun x => x = a)) : c.val = some a := by
 obtain ⟨b, h1, h2⟩ := h; rw [h1, h2]
theorem mono {c : Comp α} {P Q : α → Prop} (h : Ok c P) (i : ∀ a, P a → Q a) : Ok c Q := by
 obtain ⟨a, h1, h2⟩ := h; exact ⟨a, h1, i a h2⟩
theorem pure {a : α} {P : α → Prop} : Ok (Comp.pure a) P ↔ P a := kB (Comp.zB a)
theorem bind {c : Comp α} {f : α → Comp β} {P : β → Prop} : Ok (c.bind f) P ↔ Ok c fun a => Ok (f a) P := by
 unfold Ok
 rw [Comp.zA]
 cases hc : c.val with
 | none => simp
 | some a => simp
theorem ZE {c : Comp α} {a : α} (h : c.val = some a) {f : α → Comp β} {P : β → Prop} : Ok (c.bind f) P ↔ Ok (f a) P := by rw [bind, kB h]
theorem gd {g : Bool} {c : Comp α} {d : α} {P : α → Prop} : Ok (Comp.gd g c d) P ↔ if g = true then Ok c P else P d := by
 cases g with
 | true => exact Iff.rfl
 | false => exact pure
theorem gd_i {g : Bool} {c : Comp α} {d : α} {P : α → Prop} (h1 : g = true → Ok c P) (h2 : g = false → P d) : Ok (Comp.gd g c d) P := by
 cases g with
 | true => exact h1 rfl
 | false => exact pure.2 (h2 rfl)
theorem idx {xs : List α} {i : Int} {P : α → Prop} {x : α} (h0 : 0 ≤ i) (h : xs[i.toNat]? = some x) : Ok (Lift.idx xs i) P ↔ P x := kB (Ym h0 h)
theorem app {xs ys : List α} {P : List α → Prop} (h : xs.length + ys.length ≤ LIM) : Ok (Lift.app xs ys) P ↔ P (xs ++ ys) := kB (zr h)
theorem sub {xs : List α} {l h : Int} {P : List α → Prop} (hr : 0 ≤ l ∧ l ≤ h ∧ h ≤ xs.length) : Ok (Lift.sub xs l h) P ↔ P ((xs.take h.toNat).drop l.toNat) := kB (kh hr)
theorem rem {a b : Int} {P : Int → Prop} (h : b ≠ 0) : Ok (Lift.rem a b) P ↔ P (a.tmod b) := kB (kM h)
theorem upd {xs : List α} {i : Int} {x : α} {P : List α → Prop} (h : 0 ≤ i ∧ i < xs.length) : Ok (Lift.upd xs i x) P ↔ P (xs.set i.toNat x) := kB (Ds h)
theorem mk {n : Int} {z : α} {P : List α → Prop} (h : 0 ≤ n ∧ n ≤ LIM) : Ok (Lift.mk n z) P ↔ P (List.replicate n.toNat z) := kB (mk_val h)
theorem loop {body : σ → Comp (Comp.Step σ ε)} (I : σ → Prop) (m : σ → Nat) {P : ε → Prop} {s : σ} (h0 : I s)
  (hb : ∀ s, I s → Ok (body s) fun t => match t with | .next s' => I s' ∧ m s' < m s | .done e => P e) : Ok (Comp.loop body s) P := by
 have key : ∀ k s, m s = k → I s → Ok (Comp.loop body s) P := by
  intro k
  induction k using Nat.strongRecOn with
  | _ k ih =>
   intro s hk hI
   obtain ⟨t, h1, h2⟩ := hb s hI
   cases t with
   | next s' =>
    obtain ⟨e, h3, h4⟩ := ih (m s') (by have := h2.2; omega) s' rfl h2.1
    exact ⟨e, by rw [Comp.zI, h1]; exact h3, h4⟩
   | done e => exact ⟨e, by rw [Comp.zI, h1]; rfl, h2⟩
 exact key _ s rfl h0
end Ok
end Go.Lift
end
section
namespace Go.Geo
open Go Go.Eng Go.Lift Go.Den
variable {α β γ δ ε σ τ : Type}
theorem ltI_t {m n : Int} : (ltI m n = true) = (m < n) := by simp [ltI]
theorem gtI_t {m n : Int} : (gtI m n = true) = (n < m) := by simp [gtI]
theorem leI_t {m n : Int} : (leI m n = true) = (m ≤ n) := by simp [leI]
theorem geI_t {m n : Int} : (geI m n = true) = (n ≤ m) := by simp [geI]
theorem eqI_t {m n : Int} : (eqI m n = true) = (m = n) := by simp [eqI]
theorem neI_t {m n : Int} : (neI m n = true) = (m ≠ n) := by simp [neI]
theorem jn_eq (f : α → Comp β) (g : (α → Comp β) → Comp β) : jn f g = g f := rfl
theorem yk (b : Bool) : ntB b = !b := rfl
theorem vo (a b : Bool) : sel a true b = (a || b) := by cases a <;> rfl
theorem ko (a b : Bool) : sel a b false = (a && b) := by cases a <;> rfl
theorem zC (xs : List α) : lenL xs = (xs.length : Int) := rfl
def W (n : Int) : Int := IntKind.wrap .i64 n
theorem W_def (n : Int) : W n = (n + 9223372036854775808) % 18446744073709551616 - 9223372036854775808 := by
 unfold W
 simp [IntKind.wrap, IntKind.bits, IntKind.signed]
 split <;> omega
theorem W_in {n : Int} (h : -9223372036854775808 ≤ n ∧ n < 9223372036854775808) : W n = n := by rw [W_def]; omega
theorem W_eq {m n : Int} (k : Int) (h : m = n + 18446744073709551616 * k) : W m = W n := by rw [W_def, W_def]; omega
theorem W_mod (n : Int) : ∃ k, W n = n + 18446744073709551616 * k := ⟨- ((n + 9223372036854775808) / 18446744073709551616), by rw [W_def]; omega⟩
theorem Gg (m n : Int) : W (W m + n) = W (m + n) := by
 obtain ⟨k, h⟩ := W_mod m
 exact W_eq k (by rw [h]; omega)
theorem Gf (m n : Int) : W (m + W n) = W (m + n) := by
 obtain ⟨k, h⟩ := W_mod n
 exact W_eq k (by rw [h]; omega)
theorem l8 (m n : Int) : W (W m - n) = W (m - n) := by
 obtain ⟨k, h⟩ := W_mod m
 exact W_eq k (by rw [h]; omega)
theorem l7 (m n : Int) : W (m - W n) = W (m - n) := by
 obtain ⟨k, h⟩ := W_mod n
 exact W_eq (-k) (by rw [h]; omega)
theorem MQ (m n : Int) : addW .i64 m n = W (m + n) := rfl
theorem CX (m n : Int) : subW .i64 m n = W (m - n) := rfl
theorem Cz (m n : Int) : mulW .i64 m n = W (m * n) := rfl
theorem Iu (m : Int) : negW .i64 m = W (-m) := by unfold negW; rw [Int.zero_sub]; rfl
theorem yr {m n : Int} (h : -9223372036854775808 ≤ m + n ∧ m + n < 9223372036854775808) : addW .i64 m n = m + n := W_in h
theorem ZH {m n : Int} (h : -9223372036854775808 ≤ m - n ∧ m - n < 9223372036854775808) : subW .i64 m n = m - n := W_in h
theorem ZL {m n : Int} (h : -9223372036854775808 ≤ m * n ∧ m * n < 9223372036854775808) : mulW .i64 m n = m * n := W_in h
theorem JF {m : Int} (h : -9223372036854775808 < m ∧ m < 9223372036854775808) : negW .i64 m = -m := by rw [Iu]; exact W_in (by omega)
theorem zL {i : Nat} (h : i < 9223372036854775807) : addW .i64 (i : Int) 1 = ((i + 1 : Nat) : Int) := by rw [yr (by omega)]; omega
theorem ZG : LIM < 9223372036854775807 := by decide
theorem ZW {n : Nat} {m : Int} (h : 0 ≤ m ∧ m < n) : (inb n m).val = some () := by unfold inb; rw [if_pos h]; exact Comp.zB _
theorem Ga {e : Bool} {c : Comp β} {y : β} (h1 : e = true → c.val = some y) {d : Comp β} (h2 : d.val = some y) : (amb e c d).val = some y := by
 cases e with
 | false => exact h2
 | true =>
  obtain ⟨n, hn⟩ := Comp.yu.1 (h1 rfl)
  obtain ⟨m, hm⟩ := Comp.yu.1 h2
  have a1 := c.mono (Nat.le_max_left n m) hn
  have a2 := d.mono (Nat.le_max_right n m) hm
  refine Comp.yu.2 ⟨max n m, ?_⟩
  show (match c.run (max n m), d.run (max n m) with
  | some x, some y => match Classical.propDecidable (x = y) with
   | .isTrue _ => some x
   | .isFalse _ => none
  | _, _ => none) = some y
  rw [a1, a2]
  simp only
  split
  ·rfl
  ·rename_i h _; exact absurd rfl h
theorem XR {xs : List α} {i : Int} {x : α} (h : (if 0 ≤ i then xs[i.toNat]? else none) = some x) : (idx xs i).val = some x := by
 split at h
 ·rename_i h0; exact Ym h0 h
 ·cases h
theorem Z5 {body : τ → Comp (Comp.Step τ ε)} (st : σ → Nat → τ) (xs : List α) (f : σ → α → Comp.Step σ ε) (fin : σ → ε) (s : σ)
  (hb : ∀ s i x, xs[i]? = some x → (body (st s i)).val = some ((f s x).map fun s' => st s' (i + 1)))
  (he : ∀ s, (body (st s xs.length)).val = some (.done (fin s))) : (Comp.loop body (st s 0)).val = some (Comp.foldE f fin s xs) :=
 Comp.jX st xs f fin (fun _ _ => True) (fun s i x hx _ => hb s i x hx) (fun _ _ _ _ _ _ _ => trivial) (fun s _ => he s) s trivial
theorem XU {p : α → Bool} {c d : ε} : ∀ (xs : List α), Comp.foldE (fun (_ : Unit) x => if p x = true then Comp.Step.next () else Comp.Step.done c) (fun _ => d) () xs = bif xs.all p then d else c
 | [] => rfl
 | x :: xs => by
  have ih := XU (p := p) (c := c) (d := d) xs
  rw [Comp.foldE, List.all_cons]
  generalize p x = b
  cases b with
  | true => exact ih
  | false => rfl
theorem j4 {body : Int → Comp (Comp.Step Int ε)} (xs : List α) (p : α → Bool) {c d : ε} (hb : ∀ (i : Nat) x, xs[i]? = some x → (body (i : Int)).val = some (if p x = true then .next ((i + 1 : Nat) : Int) else .done c)) (he : (body (xs.length : Int)).val = some (.done d)) :
  (Comp.loop body 0).val = some (bif xs.all p then d else c) := by
 have h1 := Z5 (fun (_ : Unit) i => ((i : Nat) : Int)) xs (fun (_ : Unit) x => if p x = true then Comp.Step.next () else Comp.Step.done c) (fun _ => d) () (body := body)
  (fun s i x hx => by rw [hb i x hx]; cases p x <;> rfl) (fun s => he)
 rw [XU] at h1
 exact h1
def fnd (p : α → Bool) : List α → Nat → Option Nat
 | [], _ => none
 | x :: xs, i => if p x = true then some i else fnd p xs (i + 1)
theorem KF {p : α → Bool} : ∀ {xs : List α} {i : Nat}, (fnd p xs i).isSome = xs.any p
 | [], _ => rfl
 | x :: xs, i => by
  simp only [fnd, List.any_cons]
  cases hp : p x with
  | true => rfl
  | false => simp [KF (xs := xs)]
theorem KD {p : α → Bool} : ∀ {xs : List α} {i j : Nat}, fnd p xs i = some j → i ≤ j ∧ ∃ x, xs[j - i]? = some x ∧ p x = true ∧ ∀ k y, k < j - i → xs[k]? = some y → p y = false
 | [], _, _, h => by cases h
 | x :: xs, i, j, h => by
  unfold fnd at h
  split at h
  ·rename_i hp
   cases h
   exact ⟨Mb _, x, by simp, hp, fun k y hk _ => by omega⟩
  ·rename_i hp
   obtain ⟨h1, y, h2, h3, h4⟩ := KD h
   refine ⟨by omega, y, by rw [show j - i = (j - (i + 1)) + 1 by omega, List.getElem?_cons_succ]; exact h2, h3, fun k z hk hz => ?_⟩
   cases k with
   | zero => simp at hz; subst hz; simpa using hp
   | succ k => exact h4 k z (by omega) (by simpa using hz)
def idxFT (x0 : List α) (x1 : α × Unit → Comp (Bool × Unit)) : Comp (Int × Unit) :=
 (Comp.loop
   (fun (x : Int) =>
    if ltI x (lenL x0) = true then
     (idx x0 x).bind fun (x_1 : α) =>
      (x1 (x_1, ())).bind fun (x_2 : Bool × Unit) =>
       if x_2.1 = true then Comp.pure (Comp.Step.done (Sum.inr x)) else Comp.pure (Comp.Step.next (addW .i64 x 1))
    else Comp.pure (Comp.Step.done (Sum.inl ())))
   0).bind
  fun (x : Unit ⊕ Int) =>
  match x with
  | Sum.inl x => Comp.pure (-1, ())
  | Sum.inr x => Comp.pure (x, ())
def fndI : Option Nat → Int
 | some i => i
 | none => -1
theorem tz {xs : List α} {f : α × Unit → Comp (Bool × Unit)} {p : α → Bool} (hl : xs.length < 9223372036854775807) (hf : ∀ x ∈ xs, (f (x, ())).val = some (p x, ())) : (idxFT xs f).val = some (fndI (fnd p xs 0), ()) := by
 unfold idxFT
 have key : ∀ (ys : List α) (i : Nat), Comp.foldE (fun (s : Nat) x => if p x = true then Comp.Step.done (Sum.inr ((s : Nat) : Int)) else Comp.Step.next (s + 1)) (fun _ => (Sum.inl () : Unit ⊕ Int)) i ys = match fnd p ys i with | some j => Sum.inr ((j : Nat) : Int) | none => Sum.inl () := by
  intro ys
  induction ys with
  | nil => intro i; rfl
  | cons y ys ih =>
   intro i
   simp only [Comp.foldE, fnd]
   cases hp : p y with
   | true => rfl
   | false => exact ih (i + 1)
 have h := Comp.jX (fun (s : Nat) i => ((i : Nat) : Int)) xs (fun (s : Nat) x => if p x = true then Comp.Step.done (Sum.inr ((s : Nat) : Int)) else Comp.Step.next (s + 1)) (fun _ => (Sum.inl () : Unit ⊕ Int)) (fun s i => s = i)
  (body := fun (x : Int) =>
    if ltI x (lenL xs) = true then
     (idx xs x).bind fun (x_1 : α) =>
      (f (x_1, ())).bind fun (x_2 : Bool × Unit) =>
       if x_2.1 = true then Comp.pure (Comp.Step.done (Sum.inr x)) else Comp.pure (Comp.Step.next (addW .i64 x 1))
    else Comp.pure (Comp.Step.done (Sum.inl ())))
  (fun s i x hx hs => by
   subst hs
   have hlt := zG hx
   have h1 : (s : Int) < lenL xs := by rw [zC]; omega
   simp only [ltI_t, h1, if_true, Comp.zA, zH hx, MW, hf x (List.mem_of_getElem? hx), zL (show s < 9223372036854775807 by omega)]
   cases hp : p x <;> simp [Comp.Step.map])
  (fun s i x s' hx hs he => by
   subst hs
   cases hp : p x with
   | true => rw [hp] at he; cases he
   | false => rw [hp] at he; cases he; rfl)
  (fun s hs => by
   have h1 : ¬ ((xs.length : Int) < lenL xs) := by rw [zC]; omega
   simp only [ltI_t, h1, if_false, Comp.zB]) 0 rfl
 rw [key xs 0] at h
 rw [Comp.zA]
 refine (congrArg (fun o => Option.bind o _) h).trans ?_
 rw [MW]
 cases fnd p xs 0 <;> exact Comp.zB _
def ctFT (x0 : List α) (x1 : α × Unit → Comp (Bool × Unit)) : Comp (Bool × Unit) := (idxFT x0 x1).bind fun (x : Int × Unit) => Comp.pure (geI x.1 0, ())
theorem jw {xs : List α} {f : α × Unit → Comp (Bool × Unit)} {p : α → Bool} (hl : xs.length < 9223372036854775807) (hf : ∀ x ∈ xs, (f (x, ())).val = some (p x, ())) : (ctFT xs f).val = some (xs.any p, ()) := by
 unfold ctFT
 rw [Comp.zA, tz hl hf, MW, Comp.zB, ← KF (i := 0)]
 cases fnd p xs 0 <;> simp [fndI, geI]
end Go.Geo
end
noncomputable section
namespace Go.Geo
open Go Go.Eng Go.Lift Go.Den
variable {α β γ δ ε σ τ : Type}
def growT (z : α) (x0 : Int) : Comp (List α × Unit) :=
 jn
  (fun (x : Unit) =>
   jn (fun (x : List α) => Comp.pure (x, ()))
    fun (j : List α → Comp (List α × Unit)) =>
    if gtI (subW .i64 x0 0) 0 = true then
     jn (fun (x : List α) => j x)
      fun (j : List α → Comp (List α × Unit)) =>
      ((sub [] 0 0).bind fun (x : List Unit) => Comp.pure ()).bind fun (x : Unit) =>
       (mk (subW .i64 x0 0) z).bind fun (zs : List α) =>
        (sub zs 0 0).bind fun (ys : List α) => j ys
    else j [])
  fun (j : Unit → Comp (List α × Unit)) => if ltI x0 0 = true then Comp.fail else j ()
theorem Br {z : α} {n : Nat} (h : n ≤ LIM) : (growT z n).val = some ([], ()) := by
 have hL := ZG
 unfold growT
 simp only [jn_eq, ltI_t, gtI_t, ZH (show -9223372036854775808 ≤ (n : Int) - 0 ∧ (n : Int) - 0 < 9223372036854775808 by omega)]
 rw [if_neg (by omega)]
 rw [Comp.Zr]
 split
 ·have h1 : (sub ([] : List Unit) 0 0).val = some [] := by rw [kh (by simp)]; rfl
  have h2 : (mk ((n : Int) - 0) z).val = some (List.replicate n z) := by rw [mk_val (by omega)]; simp
  have h3 : (sub (List.replicate n z) 0 0).val = some [] := by rw [kh (by simp)]; simp
  simp only [Comp.zA, h1, h2, h3, MW, Comp.zB]
 ·exact Comp.zB _
def catT (z : α) (x0 : List (List α)) : Comp (List α × Unit) :=
 (Comp.loop
   (fun (x : Int × Int) =>
    if ltI x.2 (lenL x0) = true then
     (idx x0 x.2).bind fun (x_1 : List α) =>
      jn (fun (x_2 : Unit) => Comp.pure (Comp.Step.next (addW .i64 x.1 (lenL x_1), addW .i64 x.2 1)))
       fun (j : Unit → Comp (Comp.Step (Int × Int) Int)) => if ltI (addW .i64 x.1 (lenL x_1)) 0 = true then Comp.fail else j ()
    else Comp.pure (Comp.Step.done x.1))
   (0, 0)).bind
  fun (x : Int) =>
  (growT z x).bind fun (y : List α × Unit) =>
   (Comp.loop
     (fun (x : List α × Int) =>
      if ltI x.2 (lenL x0) = true then
       (idx x0 x.2).bind fun (x_1 : List α) =>
        (app x.1 x_1).bind fun (zs : List α) => Comp.pure (Comp.Step.next (zs, addW .i64 x.2 1))
      else Comp.pure (Comp.Step.done x.1))
     (y.1, 0)).bind
    fun (x : List α) => Comp.pure (x, ())
theorem kD {xs : List (List α)} {i : Nat} {x : List α} (h : xs[i]? = some x) : (xs.take (i + 1)).flatten = (xs.take i).flatten ++ x := by
 rw [List.take_add_one, h]; simp
theorem JP {xs : List (List α)} (i : Nat) : (xs.take i).flatten.length ≤ xs.flatten.length := by
 conv => rhs; rw [← List.take_append_drop i xs, List.flatten_append, MZ]
 omega
theorem Xo {z : α} {xs : List (List α)} (h : xs.flatten.length ≤ LIM) (hn : xs.length < 9223372036854775807) : (catT z xs).val = some (xs.flatten, ()) := by
 have hL := ZG
 unfold catT
 have h1 := Comp.jX (fun (s : Nat) i => (((s : Nat) : Int), ((i : Nat) : Int))) xs (fun (s : Nat) x => .next (s + x.length)) (fun s => ((s : Nat) : Int)) (fun s i => s = (xs.take i).flatten.length)
  (body := fun (x : Int × Int) =>
    if ltI x.2 (lenL xs) = true then
     (idx xs x.2).bind fun (x_1 : List α) =>
      jn (fun (x_2 : Unit) => Comp.pure (Comp.Step.next (addW .i64 x.1 (lenL x_1), addW .i64 x.2 1)))
       fun (j : Unit → Comp (Comp.Step (Int × Int) Int)) => if ltI (addW .i64 x.1 (lenL x_1)) 0 = true then Comp.fail else j ()
    else Comp.pure (Comp.Step.done x.1))
  (fun s i x hx hs => by
   have hlt := zG hx
   have h1 : (i : Int) < lenL xs := by rw [zC]; omega
   have h2 : s + x.length ≤ LIM := by
    have := JP (xs := xs) (i + 1)
    rw [kD hx, MZ] at this; omega
   have h3 : addW .i64 (s : Int) (lenL x) = ((s + x.length : Nat) : Int) := by rw [zC, yr (by omega)]; omega
   simp only [jn_eq, ltI_t, h1, if_true, Comp.zA, zH hx, MW, h3]
   rw [if_neg (by omega), Comp.zB, zL (show i < 9223372036854775807 by omega)]
   rfl)
  (fun s i x s' hx hs he => by cases he; rw [kD hx, MZ, ← hs])
  (fun s hs => by
   have h1 : ¬ ((xs.length : Int) < lenL xs) := by rw [zC]; omega
   simp only [ltI_t, h1, if_false, Comp.zB]) 0 (by simp)
 have hsum : Comp.foldE (fun (s : Nat) (x : List α) => (.next (s + x.length) : Comp.Step Nat Int)) (fun s => ((s : Nat) : Int)) 0 xs = ((xs.flatten.length : Nat) : Int) := by
  have key : ∀ (ys : List (List α)) (s : Nat), Comp.foldE (fun (s : Nat) (x : List α) => (.next (s + x.length) : Comp.Step Nat Int)) (fun s => ((s : Nat) : Int)) s ys = ((s + ys.flatten.length : Nat) : Int) := by
   intro ys
   induction ys with
   | nil => intro s; simp [Comp.foldE]
   | cons y ys ih => intro s; simp only [Comp.foldE]; rw [ih]; simp; omega
  rw [key]; simp
 rw [hsum] at h1
 have h2 := Comp.jX (fun (s : List α) i => (s, ((i : Nat) : Int))) xs (fun (s : List α) x => .next (s ++ x)) (fun s => s) (fun s i => s = (xs.take i).flatten)
  (body := fun (x : List α × Int) =>
      if ltI x.2 (lenL xs) = true then
       (idx xs x.2).bind fun (x_1 : List α) =>
        (app x.1 x_1).bind fun (zs : List α) => Comp.pure (Comp.Step.next (zs, addW .i64 x.2 1))
      else Comp.pure (Comp.Step.done x.1))
  (fun s i x hx hs => by
   have hlt := zG hx
   have h1 : (i : Int) < lenL xs := by rw [zC]; omega
   have h2 : s.length + x.length ≤ LIM := by
    have := JP (xs := xs) (i + 1)
    rw [kD hx, MZ] at this; rw [hs]; omega
   simp only [ltI_t, h1, if_true, Comp.zA, zH hx, MW, zr h2, Comp.zB, zL (show i < 9223372036854775807 by omega)]
   rfl)
  (fun s i x s' hx hs he => by cases he; rw [kD hx, ← hs])
  (fun s hs => by
   have h1 : ¬ ((xs.length : Int) < lenL xs) := by rw [zC]; omega
   simp only [ltI_t, h1, if_false, Comp.zB]) [] (by simp)
 have hcat : Comp.foldE (fun (s : List α) (x : List α) => (.next (s ++ x) : Comp.Step (List α) (List α))) (fun s => s) [] xs = xs.flatten := by
  have key : ∀ (ys : List (List α)) (s : List α), Comp.foldE (fun (s : List α) (x : List α) => (.next (s ++ x) : Comp.Step (List α) (List α))) (fun s => s) s ys = s ++ ys.flatten := by
   intro ys
   induction ys with
   | nil => intro s; simp [Comp.foldE]
   | cons y ys ih => intro s; simp only [Comp.foldE]; rw [ih]; simp
  rw [key]; simp
 rw [hcat] at h2
 rw [Comp.zA]
 refine (congrArg (fun o => Option.bind o _) h1).trans ?_
 rw [MW, Comp.zA, Br h, MW, Comp.zA]
 refine (congrArg (fun o => Option.bind o _) h2).trans ?_
 rw [MW, Comp.zB]
def cloT (x0 : List α) : Comp (List α × Unit) := amb (nilL x0) (Comp.pure ([], ())) ((app [] x0).bind fun (zs : List α) => Comp.pure (zs, ()))
theorem Xk {xs : List α} (h : xs.length ≤ LIM) : (cloT xs).val = some (xs, ()) := by
 unfold cloT
 refine Ga (fun he => ?_) ?_
 ·cases xs with
  | nil => exact Comp.zB _
  | cons => cases he
 ·rw [Comp.zA, zr (by simpa using h), MW]; simp
def delT (z : α) (xs : List α) (x0 : α × Unit → Comp (Bool × Unit)) : Comp (List α) :=
 (idxFT xs x0).bind fun (x : Int × Unit) =>
  if eqI x.1 (-1) = true then Comp.pure xs
  else
   (Comp.loop
      (fun (x : List α × Int × Int) =>
       if ltI x.2.2 (lenL x.1) = true then
        (idx x.1 x.2.2).bind fun (x_1 : α) =>
         (x0 (x_1, ())).bind fun (x_2 : Bool × Unit) =>
          jn (fun (x_3 : List α × Int) => Comp.pure (Comp.Step.next (x_3.1, x_3.2, addW .i64 x.2.2 1)))
           fun (j : List α × Int → Comp (Comp.Step (List α × Int × Int) (List α × Int))) =>
           if ntB x_2.1 = true then (inb x.1.length x.2.1).bind fun (x_3 : Unit) => j (setL x.1 x.2.1 x_1, addW .i64 x.2.1 1)
           else j (x.1, x.2.1)
       else Comp.pure (Comp.Step.done (x.1, x.2.1)))
      (xs, x.1, addW .i64 x.1 1)).bind
    fun (x : List α × Int) =>
    ((sub x.1 x.2 (lenL x.1)).bind fun (x : List α) => Comp.pure ()).bind fun (x_1 : Unit) =>
     (sub x.1 (Int.ofNat x.2.toNat) (lenL x.1)).bind fun (x_2 : List α) =>
      jn (fun (x : List α) => Comp.pure x)
       fun (j : List α → Comp (List α)) =>
       (sub (List.take x.2.toNat x.1 ++ List.replicate (x.1.length.sub x.2.toNat) z) 0 x.2).bind
        fun (ys : List α) => j ys
theorem lL {z : α} {l : List α} {k : Nat} (h : k ≤ l.length) : (((sub l (k : Int) (lenL l)).bind fun (x : List α) => Comp.pure ()).bind fun (x_1 : Unit) =>
     (sub l (Int.ofNat (k : Int).toNat) (lenL l)).bind fun (x_2 : List α) =>
      jn (fun (x : List α) => Comp.pure x)
       fun (j : List α → Comp (List α)) =>
       (sub (List.take (k : Int).toNat l ++ List.replicate (l.length.sub (k : Int).toNat) z) 0 (k : Int)).bind
        fun (ys : List α) => j ys).val = some (l.take k) := by
 have e : Int.ofNat (k : Int).toNat = (k : Int) := by simp
 have e2 : (k : Int).toNat = k := by simp
 rw [e, e2]
 have h1 : (sub l (k : Int) (lenL l)).val = some (l.drop k) := by rw [kh (by rw [zC]; omega)]; simp [zC]
 have h2 : (sub (List.take k l ++ List.replicate (l.length.sub k) z) 0 (k : Int)).val = some (l.take k) := by
  rw [kh (by simp only [MZ, List.length_take, List.length_replicate]; omega)]
  simp [List.take_append_of_le_length, h, Nat.min_eq_left h]
 simp only [Comp.zA, h1, MW, Comp.zB, jn_eq, h2]
theorem lK {z : α} {xs : List α} {f : α × Unit → Comp (Bool × Unit)} {p : α → Bool} (hl : xs.length < 9223372036854775807) (hf : ∀ x ∈ xs, (f (x, ())).val = some (p x, ())) : (delT z xs f).val = some (xs.filter fun x => !p x) := by
 unfold delT
 rw [Comp.zA, tz hl hf, MW]
 cases hfn : fnd p xs 0 with
 | none =>
  have hno : xs.any p = false := by rw [← KF (i := 0), hfn]; rfl
  simp only [fndI, eqI, decide_true, if_true, Comp.zB]
  rw [List.filter_eq_self.2]
  intro x hx
  rw [List.any_eq_false] at hno
  simpa using hno x hx
 | some i =>
  obtain ⟨_, x, hx, hp, hbef⟩ := KD hfn
  rw [Nat.sub_zero] at hx hbef
  have hlt := zG hx
  have hne : ¬ ((i : Int) = -1) := by omega
  simp only [fndI, eqI_t, hne, if_false]
  have hpre : (xs.take (i + 1)).filter (fun x => !p x) = xs.take i := by
   rw [List.take_add_one, hx, List.filter_append]
   simp only [Option.toList_some, List.filter_cons, hp, Bool.not_true, Bool.false_eq_true, if_false, List.filter_nil, List.append_nil]
   rw [List.filter_eq_self]
   intro y hy
   obtain ⟨k, hk⟩ := List.mem_iff_getElem?.1 hy
   have hkl := zG hk
   rw [List.length_take] at hkl
   rw [List.getElem?_take_of_lt (by omega)] at hk
   simp [hbef k y (by omega) hk]
  -- the state: what is kept, then what was not walked over yet
  let st : List α → Nat → List α × Int × Int := fun l k => (l, (((xs.take k).filter fun x => !p x).length : Int), (k : Int))
  have inv : ∀ (m k : Nat) (l : List α), k + m = xs.length → i + 1 ≤ k → l.length = xs.length → l.take ((xs.take k).filter fun x => !p x).length = (xs.take k).filter (fun x => !p x) → l.drop k = xs.drop k →
    ∃ l', l'.length = xs.length ∧ l'.take (xs.filter fun x => !p x).length = xs.filter (fun x => !p x) ∧ (Comp.loop
      (fun (x : List α × Int × Int) =>
       if ltI x.2.2 (lenL x.1) = true then
        (idx x.1 x.2.2).bind fun (x_1 : α) =>
         (f (x_1, ())).bind fun (x_2 : Bool × Unit) =>
          jn (fun (x_3 : List α × Int) => Comp.pure (Comp.Step.next (x_3.1, x_3.2, addW .i64 x.2.2 1)))
           fun (j : List α × Int → Comp (Comp.Step (List α × Int × Int) (List α × Int))) =>
           if ntB x_2.1 = true then (inb x.1.length x.2.1).bind fun (x_3 : Unit) => j (setL x.1 x.2.1 x_1, addW .i64 x.2.1 1)
           else j (x.1, x.2.1)
       else Comp.pure (Comp.Step.done (x.1, x.2.1)))
      (st l k)).val = some (l', ((xs.filter fun x => !p x).length : Int)) := by
   intro m
   induction m with
   | zero =>
    intro k l hk hik hll ht hd
    have hk' : k = xs.length := by omega
    subst hk'
    rw [List.take_length] at ht
    refine ⟨l, hll, ht, ?_⟩
    rw [Comp.zI]
    have h1 : ¬ ((xs.length : Int) < lenL l) := by rw [zC, hll]; omega
    simp only [st, ltI_t, h1, if_false, Comp.zB, MW, List.take_length]
   | succ m ih =>
    intro k l hk hik hll ht hd
    have hkl : k < xs.length := by omega
    obtain ⟨y, hy⟩ : ∃ y, xs[k]? = some y := ⟨xs[k], by simp [hkl]⟩
    have hly : l[k]? = some y := by
     have h1 : (l.drop k)[0]? = some y := by rw [hd]; simpa using hy
     simpa using h1
    have h1 : (k : Int) < lenL l := by rw [zC, hll]; omega
    have hcnt : ((xs.take k).filter fun x => !p x).length ≤ k := by
     have := List.length_filter_le (fun x => !p x) (xs.take k)
     rw [List.length_take] at this; omega
    -- at least one was dropped
    have hcnt' : ((xs.take k).filter fun x => !p x).length < k := by
     have : xs.take k = xs.take (i + 1) ++ (xs.take k).drop (i + 1) := by
      conv => lhs; rw [← List.take_append_drop (i + 1) (xs.take k)]
      rw [List.take_take, Nat.min_eq_left hik]
     rw [this, List.filter_append, hpre, MZ]
     have h2 := List.length_filter_le (fun x => !p x) ((xs.take k).drop (i + 1))
     rw [List.length_drop, List.length_take] at h2
     rw [List.length_take]; omega
    have hstep : xs.take (k + 1) = xs.take k ++ [y] := by rw [List.take_add_one, hy]; rfl
    have hd' : l.drop (k + 1) = xs.drop (k + 1) := by rw [← List.drop_drop, hd, List.drop_drop]
    rw [Comp.zI]
    have e1 : (idx l (k : Int)).val = some y := zH hly
    have e2 := hf y (List.mem_of_getElem? hy)
    cases hpy : p y with
    | true =>
     obtain ⟨l', g1, g2, g3⟩ := ih (k + 1) l (by omega) (by omega) hll (by rw [hstep, List.filter_append]; simpa [hpy] using ht) hd'
     refine ⟨l', g1, g2, ?_⟩
     rw [← g3]
     simp only [st, ltI_t, h1, if_true, Comp.zA, e1, MW, e2, hpy, jn_eq, yk, Bool.not_true, Bool.false_eq_true, if_false, Comp.zB, zL (show k < 9223372036854775807 by omega)]
     rw [hstep, List.filter_append]
     simp [hpy]
    | false =>
     have hc : ((xs.take k).filter fun x => !p x).length < l.length := by omega
     obtain ⟨l', g1, g2, g3⟩ := ih (k + 1) (l.set ((xs.take k).filter fun x => !p x).length y) (by omega) (by omega) (by simpa using hll)
      (by
       rw [hstep, List.filter_append]
       simp only [List.filter_cons, hpy, Bool.not_false, if_true, List.filter_nil, MZ, Mc]
       rw [List.take_add_one, List.take_set_of_le (Mb _), ht]
       simp [hc])
      (by rw [List.drop_set_of_lt (by omega)]; exact hd')
     refine ⟨l', g1, g2, ?_⟩
     rw [← g3]
     have e3 : (inb l.length (((xs.take k).filter fun x => !p x).length : Int)).val = some () := ZW (by omega)
     simp only [st, ltI_t, h1, if_true, Comp.zA, e1, MW, e2, hpy, jn_eq, yk, Bool.not_false, Comp.zB, zL (show k < 9223372036854775807 by omega), e3, setL, Int.toNat_natCast, zL (show ((xs.take k).filter fun x => !p x).length < 9223372036854775807 by omega)]
     rw [hstep, List.filter_append]
     simp [hpy]
  obtain ⟨l', g1, g2, g3⟩ := inv (xs.length - (i + 1)) (i + 1) xs (by omega) (Mb _) rfl (by rw [hpre]; rw [List.length_take, Nat.min_eq_left (by omega)]) rfl
  have hst : st xs (i + 1) = (xs, (i : Int), addW .i64 (i : Int) 1) := by
   show (xs, _, _) = _
   rw [hpre, List.length_take, Nat.min_eq_left (by omega), zL (by omega)]
  rw [hst] at g3
  rw [Comp.zA]
  refine (congrArg (fun o => Option.bind o _) g3).trans ?_
  rw [MW]
  refine (lL (z := z) ?_).trans ?_
  ·have := List.length_filter_le (fun x => !p x) xs; show _ ≤ l'.length; omega
  ·rw [g2]
def cpcG [DecidableEq α] : α → List α → List α
 | _, [] => []
 | x, y :: l => if y = x then cpcG y l else y :: cpcG y l
def cpc [DecidableEq α] : List α → List α
 | [] => []
 | x :: l => x :: cpcG x l
theorem Xf [DecidableEq α] {a b : α} : ∀ {l : List α} {x : α}, cpcG x (l ++ [a, b]) = cpcG x (l ++ [a]) ++ if b = a then [] else [b]
 | [], x => by
  simp only [List.nil_append, cpcG]
  by_cases h1 : a = x <;> by_cases h2 : b = a <;> simp [h1, h2]
 | y :: l, x => by
  simp only [List.cons_append, cpcG]
  split
  ·exact Xf
  ·rw [Xf]; rfl
theorem B8 [DecidableEq α] {a b : α} {l : List α} : cpc (l ++ [a, b]) = cpc (l ++ [a]) ++ if b = a then [] else [b] := by
 cases l with
 | nil => simp only [List.nil_append, cpc, cpcG]; split <;> simp
 | cons x l => simp only [List.cons_append, cpc]; rw [Xf]
theorem YJ [DecidableEq α] {xs : List α} {k : Nat} {a b : α} (ha : xs[k]? = some a) (hb : xs[k + 1]? = some b) : cpc (xs.take (k + 1 + 1)) = cpc (xs.take (k + 1)) ++ if b = a then [] else [b] := by
 rw [List.take_add_one (i := k + 1), hb, List.take_add_one, ha]
 simp only [Option.toList_some, List.append_assoc, List.cons_append, List.nil_append]
 exact B8
theorem qP [DecidableEq α] : ∀ {l : List α} {x : α}, (cpcG x l).length ≤ l.length
 | [], _ => Mb _
 | y :: l, x => by
  have := qP (l := l) (x := y)
  simp only [cpcG]
  split <;> simp only [List.length_cons] <;> omega
theorem lP [DecidableEq α] : ∀ {l : List α}, (cpc l).length ≤ l.length
 | [] => Mb _
 | x :: l => by have := qP (l := l) (x := x); simp only [cpc, List.length_cons]; omega
end Go.Geo
end
section
namespace Go.Geo
open Go Go.Eng Go.Lift Go.Den
variable {α β γ δ ε σ τ : Type}
def cpc2 (eq : α → α → Bool) (x2 : Int) (x1 : List α) : Comp (List α × Int) :=
 Comp.loop
  (fun (x_4 : List α × Int × Int) =>
   if ltI x_4.2.2 (lenL (List.drop x2.toNat x_4.1)) = true then
    (idx (List.drop x2.toNat x_4.1) x_4.2.2).bind fun (x_5 : α) =>
     (idx (List.drop x2.toNat x_4.1) (subW .i64 x_4.2.2 1)).bind fun (x_6 : α) =>
      jn
       (fun (x : List α × Int) => Comp.pure (Comp.Step.next (x.1, x.2, addW .i64 x_4.2.2 1)))
       fun (j : List α × Int → Comp (Comp.Step (List α × Int × Int) (List α × Int))) =>
       if ntB (eq x_5 x_6) = true then
        (idx (List.drop x2.toNat x_4.1) x_4.2.2).bind fun (x : α) =>
         (inb x_4.1.length x_4.2.1).bind fun (x_7 : Unit) => j (setL x_4.1 x_4.2.1 x, addW .i64 x_4.2.1 1)
       else j (x_4.1, x_4.2.1)
   else Comp.pure (Comp.Step.done (x_4.1, x_4.2.1)))
  (x1, x2, 1)
def cpcT (eq : α → α → Bool) (z : α) (xs : List α) : Comp (List α) :=
 if ltI (lenL xs) 2 = true then Comp.pure xs
 else
  (Comp.loop
     (fun (x : List α × Int) =>
      if ltI x.2 (lenL x.1) = true then
       (idx x.1 x.2).bind fun (x_1 : α) =>
        (idx x.1 (subW .i64 x.2 1)).bind fun (x_2 : α) =>
         if eq x_1 x_2 = true then
          ((sub x.1 x.2 (lenL x.1)).bind fun (x : List α) => Comp.pure ()).bind fun (x_3 : Unit) =>
           (cpc2 eq x.2 x.1).bind
            fun (x : List α × Int) =>
            ((sub x.1 x.2 (lenL x.1)).bind fun (x : List α) => Comp.pure ()).bind fun (x_4 : Unit) =>
             (sub x.1 (Int.ofNat x.2.toNat) (lenL x.1)).bind fun (x_5 : List α) =>
              jn (fun (x : List α) => Comp.pure (Comp.Step.done (Sum.inr x)))
               fun (j : List α → Comp (Comp.Step (List α × Int) (List α ⊕ List α))) =>
               (sub (List.take x.2.toNat x.1 ++ List.replicate (x.1.length.sub x.2.toNat) z) 0 x.2).bind
                fun (ys : List α) => j ys
         else Comp.pure (Comp.Step.next (x.1, addW .i64 x.2 1))
      else Comp.pure (Comp.Step.done (Sum.inl x.1)))
     (xs, 1)).bind
   fun (x : List α ⊕ List α) =>
   match x with
   | Sum.inl x => Comp.pure x
   | Sum.inr x => Comp.pure x
theorem zO {xs : List α} {k : Nat} (h : k < xs.length) : ∃ y, xs[k]? = some y := ⟨xs[k], by simp [h]⟩
theorem XS {l xs : List α} {i k : Nat} (h : l.drop i = xs.drop i) (hi : i ≤ k) : l[k]? = xs[k]? := by
 have : (l.drop i)[k - i]? = (xs.drop i)[k - i]? := by rw [h]
 rw [List.getElem?_drop, List.getElem?_drop, show i + (k - i) = k by omega] at this
 exact this
theorem B9 [DecidableEq α] {eq : α → α → Bool} (heq : ∀ x y, eq x y = decide (x = y)) {xs : List α} (hl : xs.length < 9223372036854775807) {i0 : Nat} (h0 : 1 ≤ i0) (hi : i0 < xs.length) (hpre : cpc (xs.take i0) = xs.take i0) (hdup : xs[i0]? = xs[i0 - 1]?) :
  ∃ l', l'.length = xs.length ∧ l'.take (cpc xs).length = cpc xs ∧ (cpc2 eq (i0 : Int) xs).val = some (l', ((cpc xs).length : Int)) := by
 have inv : ∀ (m k : Nat) (l : List α), i0 + k + m = xs.length → 1 ≤ k → l.length = xs.length → l.take (cpc (xs.take (i0 + k))).length = cpc (xs.take (i0 + k)) → l.drop (i0 + k - 1) = xs.drop (i0 + k - 1) →
   ∃ l', l'.length = xs.length ∧ l'.take (cpc xs).length = cpc xs ∧ (Comp.loop
  (fun (x_4 : List α × Int × Int) =>
   if ltI x_4.2.2 (lenL (List.drop (i0 : Int).toNat x_4.1)) = true then
    (idx (List.drop (i0 : Int).toNat x_4.1) x_4.2.2).bind fun (x_5 : α) =>
     (idx (List.drop (i0 : Int).toNat x_4.1) (subW .i64 x_4.2.2 1)).bind fun (x_6 : α) =>
      jn
       (fun (x : List α × Int) => Comp.pure (Comp.Step.next (x.1, x.2, addW .i64 x_4.2.2 1)))
       fun (j : List α × Int → Comp (Comp.Step (List α × Int × Int) (List α × Int))) =>
       if ntB (eq x_5 x_6) = true then
        (idx (List.drop (i0 : Int).toNat x_4.1) x_4.2.2).bind fun (x : α) =>
         (inb x_4.1.length x_4.2.1).bind fun (x_7 : Unit) => j (setL x_4.1 x_4.2.1 x, addW .i64 x_4.2.1 1)
       else j (x_4.1, x_4.2.1)
   else Comp.pure (Comp.Step.done (x_4.1, x_4.2.1)))
  (l, ((cpc (xs.take (i0 + k))).length : Int), (k : Int))).val = some (l', ((cpc xs).length : Int)) := by
  intro m
  induction m with
  | zero =>
   intro k l hk h1 hll ht hd
   rw [show i0 + k = xs.length by omega, List.take_length] at ht ⊢
   refine ⟨l, hll, ht, ?_⟩
   rw [Comp.zI]
   have h1 : ¬ ((k : Int) < lenL (List.drop (i0 : Int).toNat l)) := by rw [zC, List.length_drop, hll, Int.toNat_natCast]; omega
   simp only [ltI_t, h1, if_false, Comp.zB, MW]
  | succ m ih =>
   intro k l hk h1 hll ht hd
   obtain ⟨b, hb⟩ := zO (xs := xs) (k := i0 + k) (by omega)
   obtain ⟨a, ha⟩ := zO (xs := xs) (k := i0 + k - 1) (by omega)
   have hlb : l[i0 + k]? = some b := by rw [XS hd (by omega)]; exact hb
   have hla : l[i0 + k - 1]? = some a := by rw [XS hd (by omega)]; exact ha
   have hlt : (k : Int) < lenL (List.drop (i0 : Int).toNat l) := by rw [zC, List.length_drop, hll, Int.toNat_natCast]; omega
   have e1 : (idx (List.drop (i0 : Int).toNat l) (k : Int)).val = some b := zH (by rw [Int.toNat_natCast, List.getElem?_drop]; exact hlb)
   have e2 : (idx (List.drop (i0 : Int).toNat l) (subW .i64 (k : Int) 1)).val = some a := by
    rw [ZH (by omega), show (k : Int) - 1 = ((k - 1 : Nat) : Int) by omega]
    exact zH (by rw [Int.toNat_natCast, List.getElem?_drop, show i0 + (k - 1) = i0 + k - 1 by omega]; exact hla)
   have hstep := YJ (xs := xs) (k := i0 + k - 1) ha (by rw [show i0 + k - 1 + 1 = i0 + k by omega]; exact hb)
   rw [show i0 + k - 1 + 1 = i0 + k by omega] at hstep
   -- fewer are kept than were seen
   have hcnt : (cpc (xs.take (i0 + k))).length < i0 + k := by
    have base : (cpc (xs.take (i0 + 1))).length = i0 := by
     obtain ⟨c, hc⟩ := zO (xs := xs) (k := i0) hi
     have h2 := YJ (xs := xs) (k := i0 - 1) (a := c) (b := c) (by rw [← hdup]; exact hc) (by rw [show i0 - 1 + 1 = i0 by omega]; exact hc)
     rw [show i0 - 1 + 1 = i0 by omega, if_pos rfl, List.append_nil] at h2
     rw [h2, hpre, List.length_take]; omega
    have mono : ∀ j, (cpc (xs.take (i0 + 1 + j))).length ≤ i0 + j := by
     intro j
     induction j with
     | zero => rw [Nat.add_zero, base]; omega
     | succ j ihj =>
      by_cases hj : i0 + 1 + j < xs.length
      ·obtain ⟨b', hb'⟩ := zO (xs := xs) (k := i0 + j + 1) (by omega)
       obtain ⟨a', ha'⟩ := zO (xs := xs) (k := i0 + j) (by omega)
       have h3 := YJ ha' hb'
       rw [show i0 + 1 + (j + 1) = i0 + j + 1 + 1 by omega, h3, MZ]
       rw [show i0 + 1 + j = i0 + j + 1 by omega] at ihj
       split <;> simp <;> omega
      ·rw [List.take_of_length_le (by omega)] at ihj ⊢; omega
    have := mono (k - 1)
    rw [show i0 + 1 + (k - 1) = i0 + k by omega] at this; omega
   have hd1 : l.drop (i0 + (k + 1) - 1) = xs.drop (i0 + (k + 1) - 1) := by
    have : (l.drop (i0 + k - 1)).drop 1 = (xs.drop (i0 + k - 1)).drop 1 := by rw [hd]
    rw [List.drop_drop, List.drop_drop, show i0 + k - 1 + 1 = i0 + (k + 1) - 1 by omega] at this
    exact this
   by_cases hba : b = a
   ·rw [if_pos hba, List.append_nil] at hstep
    rw [show i0 + k + 1 = i0 + (k + 1) by omega] at hstep
    obtain ⟨l', g1, g2, g3⟩ := ih (k + 1) l (by omega) (by omega) hll (by rw [hstep]; exact ht) hd1
    refine ⟨l', g1, g2, ?_⟩
    rw [hstep] at g3
    rw [← g3]
    conv => lhs; rw [Comp.zI]
    simp only [ltI_t, hlt, if_true, Comp.zA, e1, e2, MW, jn_eq, heq, hba, decide_true, yk, Bool.not_true, Bool.false_eq_true, if_false, Comp.zB, zL (show k < 9223372036854775807 by omega)]
   ·rw [if_neg hba] at hstep
    rw [show i0 + k + 1 = i0 + (k + 1) by omega] at hstep
    have hc : (cpc (xs.take (i0 + k))).length < l.length := by omega
    obtain ⟨l', g1, g2, g3⟩ := ih (k + 1) (l.set (cpc (xs.take (i0 + k))).length b) (by omega) (by omega) (by simpa using hll)
     (by
      rw [hstep, MZ, Mc, List.take_add_one, List.take_set_of_le (Mb _), ht]
      simp [hc])
     (by rw [List.drop_set_of_lt (by omega)]; exact hd1)
    refine ⟨l', g1, g2, ?_⟩
    rw [hstep] at g3
    rw [← g3]
    have e3 : (inb l.length ((cpc (xs.take (i0 + k))).length : Int)).val = some () := ZW (by omega)
    simp only [Int.toNat_natCast] at hlt e1 e2
    conv => lhs; rw [Comp.zI]
    simp only [ltI_t, hlt, if_true, Comp.zA, e1, e2, e3, MW, jn_eq, heq, hba, decide_false, yk, Bool.not_false, Comp.zB, zL (show k < 9223372036854775807 by omega), setL, Int.toNat_natCast, zL (show (cpc (xs.take (i0 + k))).length < 9223372036854775807 by omega), MZ, Mc]
 have hbase : cpc (xs.take (i0 + 1)) = xs.take i0 := by
  obtain ⟨c, hc⟩ := zO (xs := xs) (k := i0) hi
  have h2 := YJ (xs := xs) (k := i0 - 1) (a := c) (b := c) (by rw [← hdup]; exact hc) (by rw [show i0 - 1 + 1 = i0 by omega]; exact hc)
  rw [show i0 - 1 + 1 = i0 by omega, if_pos rfl, List.append_nil] at h2
  rw [h2, hpre]
 obtain ⟨l', g1, g2, g3⟩ := inv (xs.length - (i0 + 1)) 1 xs (by omega) (Mb _) rfl (by rw [hbase, List.length_take, Nat.min_eq_left (by omega)]) rfl
 refine ⟨l', g1, g2, ?_⟩
 rw [← g3, hbase, List.length_take, Nat.min_eq_left (by omega)]
 rfl
theorem GN [DecidableEq α] {eq : α → α → Bool} (heq : ∀ x y, eq x y = decide (x = y)) {z : α} {xs : List α} (hl : xs.length < 9223372036854775807) : (cpcT eq z xs).val = some (cpc xs) := by
 unfold cpcT
 rw [Comp.Zr]
 split
 ·rename_i h
  rw [ltI_t, zC] at h
  rw [Comp.zB]
  match xs, h with
  | [], _ => rfl
  | [x], _ => rfl
  | x :: y :: l, h => simp only [List.length_cons] at h; omega
 ·rename_i h
  rw [ltI_t, zC] at h
  have inv : ∀ (m k : Nat), k + m = xs.length → 1 ≤ k → cpc (xs.take k) = xs.take k → ∃ r : List α ⊕ List α, (r = .inl (cpc xs) ∨ r = .inr (cpc xs)) ∧ (Comp.loop
     (fun (x : List α × Int) =>
      if ltI x.2 (lenL x.1) = true then
       (idx x.1 x.2).bind fun (x_1 : α) =>
        (idx x.1 (subW .i64 x.2 1)).bind fun (x_2 : α) =>
         if eq x_1 x_2 = true then
          ((sub x.1 x.2 (lenL x.1)).bind fun (x : List α) => Comp.pure ()).bind fun (x_3 : Unit) =>
           (cpc2 eq x.2 x.1).bind
            fun (x : List α × Int) =>
            ((sub x.1 x.2 (lenL x.1)).bind fun (x : List α) => Comp.pure ()).bind fun (x_4 : Unit) =>
             (sub x.1 (Int.ofNat x.2.toNat) (lenL x.1)).bind fun (x_5 : List α) =>
              jn (fun (x : List α) => Comp.pure (Comp.Step.done (Sum.inr x)))
               fun (j : List α → Comp (Comp.Step (List α × Int) (List α ⊕ List α))) =>
               (sub (List.take x.2.toNat x.1 ++ List.replicate (x.1.length.sub x.2.toNat) z) 0 x.2).bind
                fun (ys : List α) => j ys
         else Comp.pure (Comp.Step.next (x.1, addW .i64 x.2 1))
      else Comp.pure (Comp.Step.done (Sum.inl x.1)))
     (xs, (k : Int))).val = some r := by
   intro m
   induction m with
   | zero =>
    intro k hk h1 hp
    rw [show k = xs.length by omega, List.take_length] at hp
    refine ⟨.inl (cpc xs), .inl rfl, ?_⟩
    rw [Comp.zI]
    have h1 : ¬ ((k : Int) < lenL xs) := by rw [zC]; omega
    simp only [ltI_t, h1, if_false, Comp.zB, MW, hp]
   | succ m ih =>
    intro k hk h1 hp
    obtain ⟨b, hb⟩ := zO (xs := xs) (k := k) (by omega)
    obtain ⟨a, ha⟩ := zO (xs := xs) (k := k - 1) (by omega)
    have hlt : (k : Int) < lenL xs := by rw [zC]; omega
    have e1 : (idx xs (k : Int)).val = some b := zH hb
    have e2 : (idx xs (subW .i64 (k : Int) 1)).val = some a := by
     rw [ZH (by omega), show (k : Int) - 1 = ((k - 1 : Nat) : Int) by omega]
     exact zH ha
    by_cases hba : b = a
    ·subst hba
     obtain ⟨l', g1, g2, g3⟩ := B9 heq hl h1 (by omega) hp (by rw [ha, hb])
     refine ⟨.inr (cpc xs), .inr rfl, ?_⟩
     have e4 : (sub xs (k : Int) (lenL xs)).val = some (xs.drop k) := by rw [kh (by rw [zC]; omega)]; simp [zC]
     have e5 := lL (z := z) (l := l') (k := (cpc xs).length) (by rw [g1]; exact lP)
     rw [g2] at e5
     simp only [Comp.zA, jn_eq, Comp.zB] at e5
     rw [Comp.zI]
     simp only [ltI_t, hlt, if_true, Comp.zA, e1, e2, MW, heq, decide_true, e4, Comp.zB, g3, jn_eq]
     revert e5
     generalize (sub l' ((cpc xs).length : Int) (lenL l')).val = o1
     generalize (sub l' (Int.ofNat ((cpc xs).length : Int).toNat) (lenL l')).val = o2
     generalize (sub (List.take ((cpc xs).length : Int).toNat l' ++ List.replicate (l'.length.sub ((cpc xs).length : Int).toNat) z) 0 ((cpc xs).length : Int)).val = o3
     intro e5
     cases o1 <;> cases o2 <;> cases o3 <;> simp_all
    ·obtain ⟨r, g1, g2⟩ := ih (k + 1) (by omega) (by omega) (by
      have hstep := YJ (xs := xs) (k := k - 1) ha (by rw [show k - 1 + 1 = k by omega]; exact hb)
      rw [show k - 1 + 1 = k by omega, if_neg hba, hp] at hstep
      rw [hstep, List.take_add_one, hb]; rfl)
     refine ⟨r, g1, ?_⟩
     rw [← g2]
     conv => lhs; rw [Comp.zI]
     simp only [ltI_t, hlt, if_true, Comp.zA, e1, e2, MW, heq, hba, decide_false, Bool.false_eq_true, if_false, Comp.zB, zL (show k < 9223372036854775807 by omega)]
  obtain ⟨r, g1, g2⟩ := inv (xs.length - 1) 1 (by omega) (Mb _) (by
   match xs with
   | [] => rfl
   | x :: l => rfl)
  rw [Comp.zA]
  refine (congrArg (fun o => Option.bind o _) g2).trans ?_
  rw [MW]
  rcases g1 with rfl | rfl <;> exact Comp.zB _
end Go.Geo
end
noncomputable section
namespace Go.Den
open Go Go.Lift
abbrev Pln := (Int × Int × Int × Unit) × Int × Unit
def cmpP (p q : Pln) : Int :=
 if p.1.1 < q.1.1 then -1 else if q.1.1 < p.1.1 then 1 else
 if p.1.2.1 < q.1.2.1 then -1 else if q.1.2.1 < p.1.2.1 then 1 else
 if p.1.2.2.1 < q.1.2.2.1 then -1 else if q.1.2.2.1 < p.1.2.2.1 then 1 else
 if p.2.1 < q.2.1 then -1 else if q.2.1 < p.2.1 then 1 else 0
def insP (p : Pln) : List Pln → List Pln
 | [] => [p]
 | q :: l => if cmpP q p < 0 then q :: insP p l else p :: q :: l
def srtP : List Pln → List Pln
 | [] => []
 | p :: l => insP p (srtP l)
open Classical in
def sortF (xs : List Pln) (c : Pln × Pln × Unit → Comp (Int × Unit)) : Comp (List Pln) :=
 if xs.length ≤ LIM ∧ ∀ x y, ∃ n, (c (x, y, ())).run n = some (cmpP x y, ()) then Comp.pure (srtP xs) else Comp.fail
def LtP (p q : Pln) : Prop := p.1.1 < q.1.1 ∨ (p.1.1 = q.1.1 ∧ (p.1.2.1 < q.1.2.1 ∨ (p.1.2.1 = q.1.2.1 ∧ (p.1.2.2.1 < q.1.2.2.1 ∨ (p.1.2.2.1 = q.1.2.2.1 ∧ p.2.1 < q.2.1)))))
theorem wF (p q : Pln) : (cmpP p q = -1 ∧ LtP p q) ∨ (cmpP p q = 0 ∧ p = q) ∨ (cmpP p q = 1 ∧ LtP q p) := by
 obtain ⟨⟨a, b, c, u⟩, d, v⟩ := p
 obtain ⟨⟨a', b', c', u'⟩, d', v'⟩ := q
 unfold cmpP LtP
 simp only
 split
 ·exact .inl ⟨rfl, by omega⟩
 split
 ·exact .inr (.inr ⟨rfl, by omega⟩)
 split
 ·exact .inl ⟨rfl, by omega⟩
 split
 ·exact .inr (.inr ⟨rfl, by omega⟩)
 split
 ·exact .inl ⟨rfl, by omega⟩
 split
 ·exact .inr (.inr ⟨rfl, by omega⟩)
 split
 ·exact .inl ⟨rfl, by omega⟩
 split
 ·exact .inr (.inr ⟨rfl, by omega⟩)
 ·refine .inr (.inl ⟨rfl, ?_⟩)
  have h1 : a = a' := by omega
  have h2 : b = b' := by omega
  have h3 : c = c' := by omega
  have h4 : d = d' := by omega
  subst h1 h2 h3 h4
  rfl
theorem LtP.irr {p : Pln} (h : LtP p p) : False := by unfold LtP at h; omega
theorem LtP.trans {p q r : Pln} (h : LtP p q) (k : LtP q r) : LtP p r := by unfold LtP at *; omega
theorem LtP.asym {p q : Pln} (h : LtP p q) (k : LtP q p) : False := (h.trans k).irr
theorem Xi {p q : Pln} : cmpP p q < 0 ↔ LtP p q := by
 rcases wF p q with ⟨h1, h2⟩ | ⟨h1, h2⟩ | ⟨h1, h2⟩
 ·simp [h1, h2]
 ·subst h2; rw [h1]; simp; exact fun h => h.irr
 ·rw [h1]; simp; exact fun h => h.asym h2
theorem LtP.tri (p q : Pln) : LtP p q ∨ p = q ∨ LtP q p := by
 rcases wF p q with ⟨_, h⟩ | ⟨_, h⟩ | ⟨_, h⟩
 ·exact .inl h
 ·exact .inr (.inl h)
 ·exact .inr (.inr h)
theorem XQ (p : Pln) : ∀ l, (insP p l).Perm (p :: l)
 | [] => .refl _
 | q :: l => by
  unfold insP
  split
  ·exact ((XQ p l).cons q).trans (.swap p q l)
  ·exact .refl _
theorem Ka : ∀ l, (srtP l).Perm l
 | [] => .refl _
 | p :: l => (XQ p _).trans ((Ka l).cons p)
theorem tw (p : Pln) : ∀ {l : List Pln}, l.Pairwise (fun p q => ¬ LtP q p) → (insP p l).Pairwise (fun p q => ¬ LtP q p)
 | [], _ => by simp [insP]
 | q :: l, h => by
  rw [List.pairwise_cons] at h
  unfold insP
  split
  ·rename_i h1
   rw [List.pairwise_cons]
   refine ⟨fun a ha => ?_, tw p h.2⟩
   rcases List.mem_cons.1 ((XQ p l).mem_iff.1 ha) with rfl | ha
   ·exact fun k => (Xi.1 h1).asym k
   ·exact h.1 a ha
  ·rename_i h1
   rw [List.pairwise_cons]
   refine ⟨fun a ha => ?_, List.pairwise_cons.2 h⟩
   have h2 : ¬ LtP q p := fun k => h1 (Xi.2 k)
   rcases List.mem_cons.1 ha with rfl | ha
   ·exact h2
   ·intro k
    rcases LtP.tri p q with h3 | h3 | h3
    ·exact h.1 a ha (k.trans h3)
    ·rw [h3] at k; exact h.1 a ha k
    ·exact h2 h3
theorem uq : ∀ l : List Pln, (srtP l).Pairwise (fun p q => ¬ LtP q p)
 | [] => .nil
 | p :: l => tw p (uq l)
end Go.Den
end
noncomputable section
set_option maxRecDepth 20000
namespace Go.F
open Go Go.Lift Go.Den
abbrev A1 := Int × Int × Int × Unit
abbrev A2 := A1 × Int × Unit
abbrev A3 := List A2
abbrev A4 := List Bool × List Bool × List A3 × Unit
abbrev A5 := List A3 × List A3 × Int × List Int × Unit
abbrev A6 := List UInt8 × List A3 × List Int × Unit
abbrev A7 := Int × Int × Int × Int × Unit
abbrev A8 := Bytes × List A3 × List Int × Unit
abbrev A9 := Bool × Unit
abbrev A10 := Int × Unit
abbrev A11 := List Int × Int × Unit
abbrev A12 := List A2 × Unit
abbrev A13 := List Int
abbrev A14 := List A3
abbrev A15 := List A3 × Unit
abbrev A16 := A6 × A4 × List A5 × Unit
abbrev A17 := List A3 × Int
abbrev A18 := List A3 × Int × Unit
abbrev A19 := A11 × Unit
abbrev A20 := A19 × Int × Unit
abbrev A21 := Unit ⊕ Int
abbrev A22 := Int × Int
abbrev A23 := Unit ⊕ Bool
abbrev A24 := List Int × Unit
abbrev A25 := A2 × Unit → Comp A9
abbrev A26 := A1 × Unit
abbrev A27 := List Int × Int
abbrev A28 := List A2 × Int
abbrev A29 := List A1 × Int × Unit
abbrev A31 := List A2 × Unit → Comp A9
abbrev A32 := List Int × List Int × List Int × Unit
abbrev A33 := Int × Unit → Comp A9
abbrev A34 := List A3 ⊕ List A3 × Int
abbrev A35 := Bool × List Int × Int × Unit
abbrev A36 := List A7 × Unit
abbrev A37 := Bool × Int × Unit
abbrev A38 := List Bool
abbrev A39 := A4 × List Bool × List Bool × List A3 × Unit ⊕ Int × List Bool × List Bool × List A3 × Unit
abbrev A40 := A8 × A4 × List A5 × Unit
abbrev A41 := A4 × Int × Unit
abbrev A42 := A2 × Unit
abbrev A44 := Option A3 × Unit
def zo : Int × Int × Int × Unit → Int × Int × Int × Unit → Comp A12 := fun (x0 x1 : A1) => .pure ([((1, 0, 0, ()), x1.1, ()), ((-1, 0, 0, ()), negW .i64 x0.1, ()), ((0, 1, 0, ()), x1.2.1, ()), ((0, -1, 0, ()), negW .i64 x0.2.1, ()), ((0, 0, 1, ()), x1.2.2.1, ()), ((0, 0, -1, ()), negW .i64 x0.2.2.1, ())], ())
def vR : Comp (A40 × Unit) := (mk 3 false).bind fun x => (mk 3 false).bind fun x_1 => (Comp.loop (fun (x : Int × A6 × A4 × List A5 × Unit) => if ltI x.1 3 = true then (zo (mulW .i64 2 x.1, 0, 0, ()) (addW .i64 (mulW .i64 2 x.1) 2, 2, 2, ())).bind fun x_2 => (app x.2.1.2.1 [x_2.1]).bind fun zs => .pure (.next (addW .i64 x.1 1, (x.2.1.1, zs, x.2.1.2.2.1, ()), (x.2.2.1.1, x.2.2.1.2.1, x.2.2.1.2.2.1, ()), x.2.2.2.1, ())) else .pure (.done ((x.2.1.1, x.2.1.2.1, x.2.1.2.2.1, ()), (x.2.2.1.1, x.2.2.1.2.1, x.2.2.1.2.2.1, ()), x.2.2.2.1, ()))) (0, ([], [], [1, 2, 3], ()), (x, x_1, [], ()), [], ())).bind fun x => (sub x.1.2.1 1 2).bind fun x_2 => (sub x.1.2.1 2 (lenL x.1.2.1)).bind fun x_3 => (sub x.1.2.1 1 (lenL x.1.2.1)).bind fun x_4 => .pure (((x.1.1, x.1.2.1, x.1.2.2.1, ()), (x.2.1.1, x.2.1.2.1, x.2.1.2.2.1, ()), [(x_2, [], 3, [], ()), (x_3, [], 4, [], ()), (x_4, [], 5, [], ())], ()), ())
def y8 : Int → Comp A9 := fun (x0 : Int) => .pure (sel (ltI x0 1) true (gtI x0 3), ())
def vH : List Int → A33 → Comp A10 := fun (x0 : A13) (x1 : A33) => (Comp.loop (fun (x : Int) => if ltI x (lenL x0) = true then (idx x0 x).bind fun x_1 => (x1 (x_1, ())).bind fun x_2 => if x_2.1 = true then .pure (.done (Sum.inr x)) else .pure (.next (addW .i64 x 1)) else .pure (.done (Sum.inl ()))) 0).bind fun (x : A21) => match x with
   | Sum.inl x => .pure (-1, ())
   | Sum.inr x => .pure (x, ())
def zN : List Int → A33 → Comp A9 := fun (x0 : A13) (x1 : A33) => (vH x0 x1).bind fun x => .pure (geI x.1 0, ())
def yM : List A3 → A31 → Comp A10 := fun (x0 : A14) (x1 : A31) => (Comp.loop (fun (x : Int) => if ltI x (lenL x0) = true then (idx x0 x).bind fun x_1 => (x1 (x_1, ())).bind fun x_2 => if x_2.1 = true then .pure (.done (Sum.inr x)) else .pure (.next (addW .i64 x 1)) else .pure (.done (Sum.inl ()))) 0).bind fun (x : A21) => match x with
   | Sum.inl x => .pure (-1, ())
   | Sum.inr x => .pure (x, ())
def zK : List A3 → A31 → Comp A9 := fun (x0 : A14) (x1 : A31) => (yM x0 x1).bind fun x => .pure (geI x.1 0, ())
def zm : List A2 → A25 → Comp A10 := fun (x0 : A3) (x1 : A25) => (Comp.loop (fun (x : Int) => if ltI x (lenL x0) = true then (idx x0 x).bind fun x_1 => (x1 (x_1, ())).bind fun x_2 => if x_2.1 = true then .pure (.done (Sum.inr x)) else .pure (.next (addW .i64 x 1)) else .pure (.done (Sum.inl ()))) 0).bind fun (x : A21) => match x with
   | Sum.inl x => .pure (-1, ())
   | Sum.inr x => .pure (x, ())
def zS : List A2 → A25 → Comp A9 := fun (x0 : A3) (x1 : A25) => (zm x0 x1).bind fun x => .pure (geI x.1 0, ())
def vp : Int → List Int → Comp A9 := fun (x0 : Int) (x1 : A13) => (Comp.loop (fun (x : Int) => if ltI x (lenL x1) = true then (idx x1 x).bind fun x_1 => if sel (ltI x_1 (negW .i64 x0)) true (gtI x_1 x0) = true then .pure (.done (Sum.inr false)) else .pure (.next (addW .i64 x 1)) else .pure (.done (Sum.inl ()))) 0).bind fun (x : A23) => match x with
   | Sum.inl x => .pure (true, ())
   | Sum.inr x => .pure (x, ())
def gK : Int → Comp A10 := fun (x0 : Int) => .pure (maxI x0 (negW .i64 x0), ())
def jS : List Int → Comp A10 := fun (x0 : A13) => (Comp.loop (fun (x : A22) => if ltI x.2 (lenL x0) = true then (idx x0 x.2).bind fun x_1 => if eqI x_1 (-9223372036854775808) = true then .pure (.done (Sum.inr 0)) else (gK x_1).bind fun x_2 => (Comp.loop (fun (x : A22) => if gtI x.2 0 = true then (rem x.1 x.2).bind fun x_3 => .pure (.next (x.2, x_3)) else .pure (.done x.1)) (x.1, x_2.1)).bind fun x_3 => .pure (.next (x_3, addW .i64 x.2 1)) else .pure (.done (Sum.inl x.1))) (0, 0)).bind fun (x : Int ⊕ Int) => match x with
   | Sum.inl x => .pure (x, ())
   | Sum.inr x => .pure (x, ())
def kx : A1 × Int × Unit → Comp A9 := fun (x0 : A2) => jn (fun (x : Bool) => .pure (x, ())) fun (j : Bool → Comp A9) => (vp (Int.ofNat 4608) [x0.1.1, x0.1.2.1, x0.1.2.2.1]).bind fun x => if x.1 = true then (jS [x0.1.1, x0.1.2.1, x0.1.2.2.1]).bind fun x => if eqI x.1 1 = true then (vp (Int.ofNat 2097152) [x0.2.1]).bind fun x => j x.1 else j false else j false
def gH : A1 × Int × Unit → Comp A9 := fun (x0 : A2) => (kx x0).bind fun x => .pure (ntB x.1, ())
def yx : List A2 → Comp A10 := fun (x0 : A3) => if gtI (lenL x0) 48 = true then .pure (2, ()) else (zS x0 fun (z : A42) => gH z.1).bind fun x => if x.1 = true then .pure (12, ()) else .pure (0, ())
def gG : List A2 → Comp A9 := fun (x0 : A3) => (yx x0).bind fun x => .pure (neI x.1 0, ())
def jd : List A3 → Comp A9 := fun (x0 : A14) => (zK x0 fun (z : A12) => gG z.1).bind fun x => .pure (ntB x.1, ())
def yi : Int → Comp A12 := fun (x0 : Int) => jn (fun (x : Unit) => jn (fun (x : A3) => .pure (x, ())) fun (j : List A2 → Comp A12) => if gtI (subW .i64 x0 0) 0 = true then jn (fun (x : A3) => j x) fun (j : List A2 → Comp A12) => ((sub [] 0 0).bind fun (x : List Unit) => .pure ()).bind fun x => (mk (subW .i64 x0 0) ((0, 0, 0, ()), 0, ())).bind fun zs => (sub zs 0 0).bind fun ys => j ys else j []) fun (j : Unit → Comp A12) => if ltI x0 0 = true then Comp.fail else j ()
def zJ : List A3 → Comp A12 := fun (x0 : A14) => (Comp.loop (fun (x : A22) => if ltI x.2 (lenL x0) = true then (idx x0 x.2).bind fun x_1 => jn (fun (x_2 : Unit) => .pure (.next (addW .i64 x.1 (lenL x_1), addW .i64 x.2 1))) fun (j : Unit → Comp (Comp.Step A22 Int)) => if ltI (addW .i64 x.1 (lenL x_1)) 0 = true then Comp.fail else j () else .pure (.done x.1)) (0, 0)).bind fun x => (yi x).bind fun y => (Comp.loop (fun (x : A28) => if ltI x.2 (lenL x0) = true then (idx x0 x.2).bind fun x_1 => (app x.1 x_1).bind fun zs => .pure (.next (zs, addW .i64 x.2 1)) else .pure (.done x.1)) (y.1, 0)).bind fun x => .pure (x, ())
def cell_of : List A3 → Comp A12 := fun (x0 : A14) => (zJ x0).bind fun y => (Comp.loop (fun (x : A28) => if ltI x.2 (lenL [(1, 0, 0, ()), (-1, 0, 0, ()), (0, 1, 0, ()), (0, -1, 0, ()), (0, 0, 1, ()), (0, 0, -1, ())]) = true then (idx [(1, 0, 0, ()), (-1, 0, 0, ()), (0, 1, 0, ()), (0, -1, 0, ()), (0, 0, 1, ()), (0, 0, -1, ())] x.2).bind fun x_1 => (app x.1 [(x_1, 24, ())]).bind fun zs => .pure (.next (zs, addW .i64 x.2 1)) else .pure (.done x.1)) (y.1, 0)).bind fun x => .pure (x, ())
def yv : List A2 → Comp (List A12) := fun (x0 : A3) => ((loopW (fun (x : Int) => if ltI x (lenL x0) = true then (idx x0 x).bind fun x_1 => (sub x0 (addW .i64 x 1) (lenL x0)).bind fun x_2 => (loopW (fun (x_3 : Int) => if ltI x_3 (lenL x_2) = true then (idx x_2 x_3).bind fun x_4 => (sub x0 (addW .i64 (addW .i64 x x_3) 2) (lenL x0)).bind fun x => (loopW (fun (x_5 : Int) => if ltI x_5 (lenL x) = true then (idx x x_5).bind fun x => tell [([x_1, x_4, x], ())] (Comp.pure ([], .next (addW .i64 x_5 1))) else .pure ([], .done (Sum.inl ()))) 0).bind fun (p : List A12 × (Unit ⊕ Unit)) => tell p.1 (match p.2 with
              | Sum.inl x => .pure ([], .next (addW .i64 x_3 1))
              | Sum.inr x => .pure ([], .done (Sum.inr ()))) else .pure ([], .done (Sum.inl ()))) 0).bind fun (p : List A12 × (Unit ⊕ Unit)) => tell p.1 (match p.2 with
         | Sum.inl x_3 => .pure ([], .next (addW .i64 x 1))
         | Sum.inr x => .pure ([], .done (Sum.inr ()))) else .pure ([], .done (Sum.inl ()))) 0).bind fun (p : List A12 × (Unit ⊕ Unit)) => tell p.1 (match p.2 with
    | Sum.inl x => .pure ([], ())
    | Sum.inr x => .pure ([], ()))).bind fun (p : List A12 × Unit) => .pure p.1
def gU : List A2 → Comp (Comp (List A12) × Unit) := fun (x0 : A3) => .pure (yv x0, ())
def jm : Int × Int × Int × Unit → Int × Int × Int × Unit → Comp A26 := fun (x0 x1 : A1) => .pure ((subW .i64 (mulW .i64 x0.2.1 x1.2.2.1) (mulW .i64 x0.2.2.1 x1.2.1), subW .i64 (mulW .i64 x0.2.2.1 x1.1) (mulW .i64 x0.1 x1.2.2.1), subW .i64 (mulW .i64 x0.1 x1.2.1) (mulW .i64 x0.2.1 x1.1), ()), ())
def jl : Int × Int × Int × Unit → Int × Int × Int × Unit → Comp A10 := fun (x0 x1 : A1) => .pure (addW .i64 (addW .i64 (mulW .i64 x0.1 x1.1) (mulW .i64 x0.2.1 x1.2.1)) (mulW .i64 x0.2.2.1 x1.2.2.1), ())
def kX : Int × Int × Int × Unit → Int → Comp A26 := fun (x0 : A1) (x1 : Int) => .pure ((mulW .i64 x0.1 x1, mulW .i64 x0.2.1 x1, mulW .i64 x0.2.2.1 x1, ()), ())
def ZU : Int × Int × Int × Unit → Int × Int × Int × Unit → Comp A26 := fun (x0 x1 : A1) => .pure ((addW .i64 x0.1 x1.1, addW .i64 x0.2.1 x1.2.1, addW .i64 x0.2.2.1 x1.2.2.1, ()), ())
def Yo : List Int → Comp A10 := fun (x0 : A13) => (Comp.loop (fun (x : A22) => if ltI x.2 (lenL x0) = true then (idx x0 x.2).bind fun x_1 => (Comp.loop (fun (x : A22) => if neI x.2 0 = true then (rem x.1 x.2).bind fun x_2 => .pure (.next (x.2, x_2)) else .pure (.done x.1)) (x.1, x_1)).bind fun x_2 => .pure (.next (x_2, addW .i64 x.2 1)) else .pure (.done x.1)) (0, 0)).bind fun x => .pure (maxI x (negW .i64 x), ())
def Zb : List A2 → Comp (A7 × Bool × Unit) := fun (x0 : A3) => (Comp.loop (fun (x : Int × Int × Int × Int × Int × Unit) => if ltI x.2.1 3 = true then (idx x0 x.2.1).bind fun x_1 => (rem (addW .i64 x.2.1 1) 3).bind fun x_2 => (idx x0 x_2).bind fun x_3 => (rem (addW .i64 x.2.1 2) 3).bind fun x_4 => (idx x0 x_4).bind fun x_5 => (jm x_3.1 x_5.1).bind fun x_6 => (jl x_1.1 x_6.1).bind fun x_7 => (kX x_6.1 x_1.2.1).bind fun x_8 => (ZU x.2.2 x_8.1).bind fun x_9 => .pure (.next (x_7.1, addW .i64 x.2.1 1, x_9.1)) else .pure (.done (x.1, x.2.2))) (0, 0, 0, 0, 0, ())).bind fun x => if eqI x.1 0 = true then .pure ((0, 0, 0, 0, ()), false, ()) else (Yo [x.2.1, x.2.2.1, x.2.2.2.1, x.1]).bind fun x_1 => jn (fun (x_2 : Int) => (quo .i64 x.2.1 x_2).bind fun x_3 => (quo .i64 x.2.2.1 x_2).bind fun x_4 => (quo .i64 x.2.2.2.1 x_2).bind fun x_5 => (quo .i64 x.1 x_2).bind fun x => .pure ((x_3, x_4, x_5, x, ()), true, ())) fun (j : Int → Comp (A7 × Bool × Unit)) => if ltI x.1 0 = true then j (negW .i64 x_1.1) else j x_1.1
def j3 : A1 × Int × Unit → Int × Int × Int × Int × Unit → Comp A10 := fun (x0 : A2) (x1 : A7) => (jl x0.1 (x1.1, x1.2.1, x1.2.2.1, ())).bind fun x => .pure (subW .i64 (mulW .i64 x0.2.1 x1.2.2.2.1) x.1, ())
def vh : A1 × Int × Unit → Int × Int × Int × Int × Unit → Comp A9 := fun (x0 : A2) (x1 : A7) => (j3 x0 x1).bind fun x => .pure (ltI x.1 0, ())
def j0 : List A2 → Int × Int × Int × Int × Unit → Comp A9 := fun (x0 : A3) (x1 : A7) => (zS x0 fun (z : A42) => vh z.1 x1).bind fun x => .pure (ntB x.1, ())
def yq : List A2 → Comp A36 := fun (x0 : A3) => (gU x0).bind fun (x : Comp (List A12) × Unit) => x.1.bind fun xs => (foldL (fun (x : List A7 × List (A7 × Bool)) (d : A12) => (Zb d.1).bind fun x_1 => (Comp.gd (sel x_1.2.1 (ntB (match mgB (fun (x x_2 : A7) => adB (eqI x.1 x_2.1) (adB (eqI x.2.1 x_2.2.1) (adB (eqI x.2.2.1 x_2.2.2.1) (eqI x.2.2.2.1 x_2.2.2.2.1)))) x.2 x_1.1 with
          | some x => x
          | none => false)) false) (j0 x0 x_1.1) (false, ())).bind fun x_2 => jn (fun (x : List A7 × List (A7 × Bool)) => .pure (.next (x.1, x.2))) fun (j : List A7 × List (A7 × Bool) → Comp (Comp.Step (List A7 × List (A7 × Bool)) Empty)) => if sel (sel x_1.2.1 (ntB (match mgB (fun (x x_3 : A7) => adB (eqI x.1 x_3.1) (adB (eqI x.2.1 x_3.2.1) (adB (eqI x.2.2.1 x_3.2.2.1) (eqI x.2.2.2.1 x_3.2.2.2.1)))) x.2 x_1.1 with
             | some x => x
             | none => false)) false) x_2.1 false = true then (app x.1 [x_1.1]).bind fun zs => j (zs, mpB (fun (x x_3 : A7) => adB (eqI x.1 x_3.1) (adB (eqI x.2.1 x_3.2.1) (adB (eqI x.2.2.1 x_3.2.2.1) (eqI x.2.2.2.1 x_3.2.2.2.1)))) x.2 x_1.1 true) else j (x.1, x.2)) xs ([], [])).bind fun (r : Comp.Step (List A7 × List (A7 × Bool)) Empty) => match r with
     | .next x => .pure (x.1, ())
     | .done e => nomatch e
def z6 : Int × Int × Int × Int × Unit → A1 × Int × Unit → Comp A9 := fun (x0 : A7) (x1 : A2) => (j3 x1 x0).bind fun x => .pure (gtI x.1 0, ())
def ye : List A7 → (A7 × Unit → Comp A9) → Comp A10 := fun (x0 : List A7) (x1 : A7 × Unit → Comp A9) => (Comp.loop (fun (x : Int) => if ltI x (lenL x0) = true then (idx x0 x).bind fun x_1 => (x1 (x_1, ())).bind fun x_2 => if x_2.1 = true then .pure (.done (Sum.inr x)) else .pure (.next (addW .i64 x 1)) else .pure (.done (Sum.inl ()))) 0).bind fun (x : A21) => match x with
   | Sum.inl x => .pure (-1, ())
   | Sum.inr x => .pure (x, ())
def zn : List A7 → (A7 × Unit → Comp A9) → Comp A9 := fun (x0 : List A7) (x1 : A7 × Unit → Comp A9) => (ye x0 x1).bind fun x => .pure (geI x.1 0, ())
def yL : A1 × Int × Unit → List A7 → Comp A9 := fun (x0 : A2) (x1 : List A7) => (zn x1 fun (z : A7 × Unit) => z6 z.1 x0).bind fun x => .pure (ntB x.1, ())
def yR : List A2 → A25 → Comp A10 := fun (x0 : A3) (x1 : A25) => (Comp.loop (fun (x : Int) => if ltI x (lenL x0) = true then (idx x0 x).bind fun x_1 => (x1 (x_1, ())).bind fun x_2 => if x_2.1 = true then .pure (.done (Sum.inr x)) else .pure (.next (addW .i64 x 1)) else .pure (.done (Sum.inl ()))) 0).bind fun (x : A21) => match x with
   | Sum.inl x => .pure (-1, ())
   | Sum.inr x => .pure (x, ())
def zj : List A2 → A25 → Comp A9 := fun (x0 : A3) (x1 : A25) => (yR x0 x1).bind fun x => .pure (geI x.1 0, ())
def vZ : List A2 → Comp A9 := fun (x0 : A3) => (yq x0).bind fun y => (zj x0 fun (z : A42) => yL z.1 y.1).bind fun x => .pure (ntB x.1, ())
def gn : List A2 → Comp A9 := fun (x0 : A3) => jn (fun (x : Bool) => .pure (x, ())) fun (j : Bool → Comp A9) => (jd [x0]).bind fun x => if x.1 = true then (cell_of [x0]).bind fun y => (vZ y.1).bind fun x => j x.1 else j false
def jA : List A2 → List A2 → Comp A9 := fun (x0 x1 : A3) => jn (fun (x : Bool) => .pure (x, ())) fun (j : Bool → Comp A9) => (jd [x0, x1]).bind fun x => if ntB (ntB x.1) = true then (cell_of [x0, x1]).bind fun y => (vZ y.1).bind fun x => j (ntB x.1) else j true
def vg : List A2 → List A2 → Comp A9 := fun (x0 x1 : A3) => (jA x1 x0).bind fun x => .pure (ntB x.1, ())
def zu : List A2 → List A3 → Comp A9 := fun (x0 : A3) (x1 : A14) => (zK x1 fun (z : A12) => vg z.1 x0).bind fun x => .pure (ntB x.1, ())
def gy : Bytes × List A3 × List Int × Unit → Comp A10 := fun (x0 : A8) => if sel (eqI (lenL x0.2.1) 0) true (gtI (lenL x0.2.1) 16) = true then .pure (2, ()) else (Comp.gd (ntB (neI (lenL x0.2.2.1) (lenL x0.2.1))) (zN x0.2.2.1 fun (z : A10) => y8 z.1) (false, ())).bind fun x => if sel (neI (lenL x0.2.2.1) (lenL x0.2.1)) true x.1 = true then .pure (1, ()) else (Comp.loop (fun (x : Int) => if ltI x (lenL x0.2.1) = true then (idx x0.2.1 x).bind fun x_1 => (gn x_1).bind fun x_2 => (Comp.gd (ntB (ntB x_2.1)) (sub x0.2.1 0 x) []).bind fun x_3 => (Comp.gd (ntB (ntB x_2.1)) (zu x_1 x_3) (false, ())).bind fun x_4 => if sel (ntB x_2.1) true (ntB x_4.1) = true then .pure (.done (Sum.inr 13)) else .pure (.next (addW .i64 x 1)) else .pure (.done (Sum.inl ()))) 0).bind fun (x : A21) => match x with
      | Sum.inl x => .pure (0, ())
      | Sum.inr x => .pure (x, ())
def vq : List A2 → Comp A9 := fun (x0 : A3) => (yx x0).bind fun x => .pure (neI x.1 0, ())
def Z6 : Bytes × List A3 × List Int × Unit → List Bool × List Bool × List A3 × Unit → Comp A9 := fun (x0 : A8) (x1 : A4) => (Comp.gd (sel (sel (eqI (lenL x1.1) (lenL x0.2.1)) (eqI (lenL x1.2.1) (lenL x0.2.1)) false) (leI (lenL x1.2.2.1) 24) false) (zK x1.2.2.1 fun (z : A12) => vq z.1) (false, ())).bind fun x => .pure (sel (sel (sel (eqI (lenL x1.1) (lenL x0.2.1)) (eqI (lenL x1.2.1) (lenL x0.2.1)) false) (leI (lenL x1.2.2.1) 24) false) (ntB x.1) false, ())
def yj : Int → Comp A15 := fun (x0 : Int) => jn (fun (x : Unit) => jn (fun (x : A14) => .pure (x, ())) fun (j : List A3 → Comp A15) => if gtI (subW .i64 x0 0) 0 = true then jn (fun (x : A14) => j x) fun (j : List A3 → Comp A15) => ((sub [] 0 0).bind fun (x : List Unit) => .pure ()).bind fun x => (mk (subW .i64 x0 0) []).bind fun zs => (sub zs 0 0).bind fun ys => j ys else j []) fun (j : Unit → Comp A15) => if ltI x0 0 = true then Comp.fail else j ()
def zQ : List A14 → Comp A15 := fun (x0 : List A14) => (Comp.loop (fun (x : A22) => if ltI x.2 (lenL x0) = true then (idx x0 x.2).bind fun x_1 => jn (fun (x_2 : Unit) => .pure (.next (addW .i64 x.1 (lenL x_1), addW .i64 x.2 1))) fun (j : Unit → Comp (Comp.Step A22 Int)) => if ltI (addW .i64 x.1 (lenL x_1)) 0 = true then Comp.fail else j () else .pure (.done x.1)) (0, 0)).bind fun x => (yj x).bind fun y => (Comp.loop (fun (x : A17) => if ltI x.2 (lenL x0) = true then (idx x0 x.2).bind fun x_1 => (app x.1 x_1).bind fun zs => .pure (.next (zs, addW .i64 x.2 1)) else .pure (.done x.1)) (y.1, 0)).bind fun x => .pure (x, ())
def jC : List Int → Comp A9 := fun (x0 : A13) => (Comp.loop (fun (x : Int) => if ltI x (lenL x0) = true then (idx x0 x).bind fun x_1 => (idx x0 (subW .i64 x 1)).bind fun x_2 => if leI x_1 x_2 = true then .pure (.done (Sum.inr false)) else .pure (.next (addW .i64 x 1)) else .pure (.done (Sum.inl ()))) 1).bind fun (x : A23) => match x with
   | Sum.inl x => .pure (true, ())
   | Sum.inr x => .pure (x, ())
def jo : List A5 → Int → Comp A10 := fun (x0 : List A5) (x1 : Int) => (idx x0 x1).bind fun x => (zQ [x.1, x.2.1]).bind fun y => (Comp.loop (fun (x_1 : Int) => if ltI x_1 (lenL y.1) = true then (idx y.1 x_1).bind fun x => (yx x).bind fun x => if neI x.1 0 = true then .pure (.done (Sum.inr x.1)) else .pure (.next (addW .i64 x_1 1)) else .pure (.done (Sum.inl ()))) 0).bind fun (x_1 : A21) => match x_1 with
     | Sum.inl x_2 => if sel (ltI x.2.2.1 1) true (gtI x.2.2.1 1048576) = true then .pure (3, ()) else (Comp.loop (fun (x_3 : Int) => if ltI x_3 (lenL x.2.2.2.1) = true then (idx x.2.2.2.1 x_3).bind fun x_4 => if sel (sel (ltI x_4 0) true (geI x_4 (lenL x0))) true (eqI x_4 x1) = true then .pure (.done (Sum.inr 3)) else .pure (.next (addW .i64 x_3 1)) else .pure (.done (Sum.inl ()))) 0).bind fun (x_3 : A21) => match x_3 with
        | Sum.inl x_4 => (jC x.2.2.2.1).bind fun x => if ntB x.1 = true then .pure (7, ()) else .pure (0, ())
        | Sum.inr x => .pure (x, ())
     | Sum.inr x => .pure (x, ())
def Zf : A8 × A4 × List A5 × Unit → Comp A10 := fun (x0 : A6 × A4 × List A5 × Unit) => (gy x0.1).bind fun x => if neI x.1 0 = true then .pure (x.1, ()) else (Z6 x0.1 x0.2.1).bind fun x => if ntB x.1 = true then .pure (4, ()) else if gtI (lenL x0.2.2.1) 8 = true then .pure (2, ()) else (Comp.loop (fun (x : A22) => if ltI x.2 (lenL x0.2.2.1) = true then (idx x0.2.2.1 x.2).bind fun x_1 => (jo x0.2.2.1 x.2).bind fun x_2 => if neI x_2.1 0 = true then .pure (.done (Sum.inr x_2.1)) else .pure (.next (addW .i64 x.1 (lenL x_1.1), addW .i64 x.2 1)) else .pure (.done (Sum.inl x.1))) (lenL x0.2.1.2.2.1, 0)).bind fun (x : Int ⊕ Int) => match x with
        | Sum.inl x => if gtI x 24 = true then .pure (2, ()) else .pure (0, ())
        | Sum.inr x => .pure (x, ())
def jK : A8 × A4 × List A5 × Unit → Comp A10 := fun (x0 : A6 × A4 × List A5 × Unit) => (Zf x0).bind fun x => .pure (x.1, ())
def jJ : Bytes × List A3 × List Int × Unit → Comp A10 := fun (x0 : A8) => (gy x0).bind fun x => .pure (x.1, ())
def vj : Int → Int → Comp A9 := fun (x0 x1 : Int) => .pure (sel (ltI x0 0) true (geI x0 x1), ())
def ZF : Int → List Int → Comp A10 := fun (x0 : Int) (x1 : A13) => (zN x1 fun (z : A10) => vj z.1 x0).bind fun x => if x.1 = true then .pure (5, ()) else (Comp.loop (fun (x : A22) => if ltI x.2 (lenL x1) = true then (idx x1 x.2).bind fun x_1 => (sub x1 0 x.2).bind fun x_2 => (Comp.loop (fun (x : A22) => if ltI x.2 (lenL x_2) = true then (idx x_2 x.2).bind fun x_3 => if eqI x_1 x_3 = true then .pure (.done (Sum.inl 6)) else .pure (.next (x.1, addW .i64 x.2 1)) else .pure (.done (Sum.inr x.1))) (x.1, 0)).bind fun (x_3 : Int ⊕ Int) => match x_3 with
          | Sum.inl x => .pure (.done x)
          | Sum.inr x_4 => .pure (.next (x_4, addW .i64 x.2 1)) else .pure (.done x.1)) (0, 0)).bind fun x => .pure (x, ())
def jI : A8 × A4 × List A5 × Unit → List Int → Comp A10 := fun (x0 : A6 × A4 × List A5 × Unit) (x1 : A13) => (ZF (lenL x0.2.2.1) x1).bind fun x => .pure (x.1, ())
def vy : List A3 → Comp A10 := fun (x0 : A14) => (Comp.loop (fun (x : Int) => if ltI x (lenL x0) = true then (idx x0 x).bind fun x_1 => (yx x_1).bind fun x_2 => if neI x_2.1 0 = true then .pure (.done (Sum.inr x_2.1)) else .pure (.next (addW .i64 x 1)) else .pure (.done (Sum.inl ()))) 0).bind fun (x : A21) => match x with
   | Sum.inl x => .pure (0, ())
   | Sum.inr x => .pure (x, ())
def jE : Bytes × List A3 × List Int × Unit → List Bool × List Bool × List A3 × Unit → Comp A10 := fun (x0 : A8) (x1 : A4) => (gy x0).bind fun x => if neI x.1 0 = true then .pure (x.1, ()) else (Comp.gd (ntB (sel (sel (neI (lenL x1.1) (lenL x0.2.1)) true (neI (lenL x1.2.1) (lenL x0.2.1))) true (gtI (lenL x1.2.2.1) 24))) (vy x1.2.2.1) (0, ())).bind fun x => if sel (sel (sel (neI (lenL x1.1) (lenL x0.2.1)) true (neI (lenL x1.2.1) (lenL x0.2.1))) true (gtI (lenL x1.2.2.1) 24)) true (neI x.1 0) = true then .pure (4, ()) else .pure (0, ())
def yE : List Bool → Comp (List Bool × Unit) := fun (x0 : A38) => amb (nilL x0) (Comp.pure ([], ())) ((app [] x0).bind fun zs => .pure (zs, ()))
def zT : List A2 → Comp A12 := fun (x0 : A3) => amb (nilL x0) (Comp.pure ([], ())) ((app [] x0).bind fun zs => .pure (zs, ()))
def j7 : List A3 → Comp A15 := fun (x0 : A14) => (Comp.loop (fun (x : A17) => if ltI x.2 (lenL x0) = true then (idx x0 x.2).bind fun x_1 => (zT x_1).bind fun y => (app x.1 [y.1]).bind fun zs => .pure (.next (zs, addW .i64 x.2 1)) else .pure (.done x.1)) ([], 0)).bind fun x => .pure (x, ())
def yd : Int → List A2 → List A2 → Comp A9 := fun (x0 : Int) (x1 x2 : A3) => (jA x1 x2).bind fun x => .pure (ntB x.1, ())
def yB : List A3 → (Int × List A2 × Unit → Comp A9) → Comp A15 := fun (x0 : A14) (x1 : Int × List A2 × Unit → Comp A9) => (Comp.loop (fun (x : A17) => if ltI x.2 (lenL x0) = true then (idx x0 x.2).bind fun x_1 => (x1 (x.2, x_1, ())).bind fun x_2 => jn (fun (x_3 : A14) => .pure (.next (x_3, addW .i64 x.2 1))) fun (j : List A3 → Comp (Comp.Step A17 A14)) => if x_2.1 = true then (app x.1 [x_1]).bind fun zs => j zs else j x.1 else .pure (.done x.1)) ([], 0)).bind fun x => .pure (x, ())
def km : List A3 → Comp A10 := fun (x0 : A14) => if gtI (lenL x0) 16 = true then .pure (2, ()) else (Comp.loop (fun (x : Int) => if ltI x (lenL x0) = true then (idx x0 x).bind fun x_1 => (yx x_1).bind fun x_2 => if neI x_2.1 0 = true then .pure (.done (Sum.inr x_2.1)) else .pure (.next (addW .i64 x 1)) else .pure (.done (Sum.inl ()))) 0).bind fun (x : A21) => match x with
    | Sum.inl x => .pure (0, ())
    | Sum.inr x => .pure (x, ())
def ZD : List A2 → Comp A36 := fun (x0 : A3) => (jd [x0]).bind fun x => if ntB x.1 = true then .pure ([], ()) else (cell_of [x0]).bind fun y => (yq y.1).bind fun y => .pure (y.1, ())
def gY : A1 × Int × Unit → List A7 → Comp A9 := fun (x0 : A2) (x1 : List A7) => (Comp.loop (fun (x : A22) => if ltI x.2 (lenL x1) = true then (idx x1 x.2).bind fun x_1 => (j3 x0 x_1).bind fun x_2 => jn (fun (x_3 : Int) => .pure (.next (x_3, addW .i64 x.2 1))) fun (j : Int → Comp (Comp.Step A22 Int)) => if eqI x_2.1 0 = true then j (addW .i64 x.1 1) else j x.1 else .pure (.done x.1)) (0, 0)).bind fun x => .pure (ltI x 3, ())
def zh : List A2 → A25 → Comp A3 := fun (xs : A3) (x0 : A25) => (zm xs x0).bind fun x => if eqI x.1 (-1) = true then .pure xs else (Comp.loop (fun (x : List A2 × Int × Int) => if ltI x.2.2 (lenL x.1) = true then (idx x.1 x.2.2).bind fun x_1 => (x0 (x_1, ())).bind fun x_2 => jn (fun (x_3 : A28) => .pure (.next (x_3.1, x_3.2, addW .i64 x.2.2 1))) fun (j : List A2 × Int → Comp (Comp.Step (List A2 × Int × Int) A28)) => if ntB x_2.1 = true then (inb x.1.length x.2.1).bind fun x_3 => j (setL x.1 x.2.1 x_1, addW .i64 x.2.1 1) else j (x.1, x.2.1) else .pure (.done (x.1, x.2.1))) (xs, x.1, addW .i64 x.1 1)).bind fun x => ((sub x.1 x.2 (lenL x.1)).bind fun x => .pure ()).bind fun x_1 => (sub x.1 (Int.ofNat x.2.toNat) (lenL x.1)).bind fun x_2 => jn (fun (x : A3) => .pure x) fun (j : List A2 → Comp A3) => (sub (List.take x.2.toNat x.1 ++ List.replicate (x.1.length.sub x.2.toNat) ((0, 0, 0, ()), 0, ())) 0 x.2).bind fun ys => j ys
def zd : List A2 → (A2 × A2 × Unit → Comp A10) → Comp A3 := sortF
def jk : Int → Int → Comp A10 := fun (x0 x1 : Int) => if ltI x0 x1 = true then .pure (-1, ()) else if gtI x0 x1 = true then .pure (1, ()) else .pure (0, ())
def gi : A1 × Int × Unit → A1 × Int × Unit → Comp A10 := fun (x0 x1 : A2) => (Comp.loop (fun (x : A22) => if ltI x.2 (lenL [[x0.1.1, x1.1.1], [x0.1.2.1, x1.1.2.1], [x0.1.2.2.1, x1.1.2.2.1], [x0.2.1, x1.2.1]]) = true then (idx [[x0.1.1, x1.1.1], [x0.1.2.1, x1.1.2.1], [x0.1.2.2.1, x1.1.2.2.1], [x0.2.1, x1.2.1]] x.2).bind fun x_1 => (idx x_1 0).bind fun x_2 => (idx x_1 1).bind fun x_3 => (jk x_2 x_3).bind fun x_4 => if eqI x_4.1 0 = true then .pure (.next (x_4.1, addW .i64 x.2 1)) else .pure (.done x_4.1) else .pure (.done x.1)) (0, 0)).bind fun x => .pure (x, ())
def zg : List A2 → Comp A3 := fun (xs : A3) => if ltI (lenL xs) 2 = true then .pure xs else (Comp.loop (fun (x : A28) => if ltI x.2 (lenL x.1) = true then (idx x.1 x.2).bind fun x_1 => (idx x.1 (subW .i64 x.2 1)).bind fun x_2 => if adB (adB (eqI x_1.1.1 x_2.1.1) (adB (eqI x_1.1.2.1 x_2.1.2.1) (eqI x_1.1.2.2.1 x_2.1.2.2.1))) (eqI x_1.2.1 x_2.2.1) = true then ((sub x.1 x.2 (lenL x.1)).bind fun x => .pure ()).bind fun x_3 => (Comp.loop (fun (x_4 : List A2 × Int × Int) => if ltI x_4.2.2 (lenL (List.drop x.2.toNat x_4.1)) = true then (idx (List.drop x.2.toNat x_4.1) x_4.2.2).bind fun x_5 => (idx (List.drop x.2.toNat x_4.1) (subW .i64 x_4.2.2 1)).bind fun x_6 => jn (fun (x : A28) => .pure (.next (x.1, x.2, addW .i64 x_4.2.2 1))) fun (j : List A2 × Int → Comp (Comp.Step (List A2 × Int × Int) A28)) => if ntB (adB (adB (eqI x_5.1.1 x_6.1.1) (adB (eqI x_5.1.2.1 x_6.1.2.1) (eqI x_5.1.2.2.1 x_6.1.2.2.1))) (eqI x_5.2.1 x_6.2.1)) = true then (idx (List.drop x.2.toNat x_4.1) x_4.2.2).bind fun x => (inb x_4.1.length x_4.2.1).bind fun x_7 => j (setL x_4.1 x_4.2.1 x, addW .i64 x_4.2.1 1) else j (x_4.1, x_4.2.1) else .pure (.done (x_4.1, x_4.2.1))) (x.1, x.2, 1)).bind fun x => ((sub x.1 x.2 (lenL x.1)).bind fun x => .pure ()).bind fun x_4 => (sub x.1 (Int.ofNat x.2.toNat) (lenL x.1)).bind fun x_5 => jn (fun (x : A3) => .pure (.done (Sum.inr x))) fun (j : List A2 → Comp (Comp.Step A28 (List A2 ⊕ List A2))) => (sub (List.take x.2.toNat x.1 ++ List.replicate (x.1.length.sub x.2.toNat) ((0, 0, 0, ()), 0, ())) 0 x.2).bind fun ys => j ys else .pure (.next (x.1, addW .i64 x.2 1)) else .pure (.done (Sum.inl x.1))) (xs, 1)).bind fun (x : List A2 ⊕ List A2) => match x with
    | Sum.inl x => .pure x
    | Sum.inr x => .pure x
def vb : List A2 → Comp A12 := fun (x0 : A3) => (gn x0).bind fun x => if ntB x.1 = true then .pure ([], ()) else (ZD x0).bind fun y => (zT x0).bind fun y_1 => (zh y_1.1 fun (z : A42) => gY z.1 y.1).bind fun ys => (zd ys fun (z : A2 × A2 × Unit) => gi z.1 z.2.1).bind fun ys => (zg ys).bind fun ys => .pure (ys, ())
def XC : Int × Int × Int × Unit → Int × Int × Int × Unit → Comp A26 := fun (x0 x1 : A1) => .pure ((subW .i64 x0.1 x1.1, subW .i64 x0.2.1 x1.2.1, subW .i64 x0.2.2.1 x1.2.2.1, ()), ())
def kR : A1 × Int × Unit → Comp A42 := fun (x0 : A2) => (XC (0, 0, 0, ()) x0.1).bind fun x => .pure ((x.1, negW .i64 x0.2.1, ()), ())
def gJ : List A2 → List A2 → Comp (List A44) := fun (x0 x1 : A3) => ((loopW (fun (x : A28) => if ltI x.2 (lenL x1) = true then (idx x1 x.2).bind fun x_1 => if geI (lenL x.1) 48 = true then tell [(none, ())] (Comp.pure ([], .done (Sum.inr ()))) else (kR x_1).bind fun x_2 => (zJ [x.1, [x_2.1]]).bind fun y => (vb y.1).bind fun y_1 => if gtI (lenL y_1.1) 0 = true then tell [(some y_1.1, ())] ((zJ [x.1, [x_1]]).bind fun y => (vb y.1).bind fun y => .pure ([], .next (y.1, addW .i64 x.2 1))) else (zJ [x.1, [x_1]]).bind fun y => (vb y.1).bind fun y => .pure ([], .next (y.1, addW .i64 x.2 1)) else .pure ([], .done (Sum.inl ()))) (x0, 0)).bind fun (p : List A44 × (Unit ⊕ Unit)) => tell p.1 (match p.2 with
    | Sum.inl x => .pure ([], ())
    | Sum.inr x => .pure ([], ()))).bind fun (p : List A44 × Unit) => .pure p.1
def jf : List A2 → List A2 → Comp (Comp (List A44) × Unit) := fun (x0 x1 : A3) => .pure (gJ x0 x1, ())
def gh : List A3 → List A2 → Comp A18 := fun (x0 : A14) (x1 : A3) => (gn x1).bind fun x => if ntB x.1 = true then .pure (x0, 0, ()) else (vb x1).bind fun y => (Comp.loop (fun (x : Int × List A3 × Int × List A3) => if ltI x.1 (lenL x0) = true then jn (fun (x_1 : List A3 × Int × List A3) => .pure (.next (addW .i64 x.1 1, x_1.1, x_1.2.1, x_1.2.2))) fun (j : List A3 × Int × List A3 → Comp (Comp.Step (Int × List A3 × Int × List A3) (List A3 × Int × List A3 ⊕ List A3 × Int))) => (idx x0 x.1).bind fun x_1 => (jA x_1 x1).bind fun x_2 => if x_2.1 = true then (app x.2.2.2 [x_1]).bind fun zs => j (x.2.1, x.2.2.1, zs) else (jf x_1 y.1).bind fun (x_3 : Comp (List A44) × Unit) => x_3.1.bind fun xs => (foldL (fun (x : List A3 × Int × List A3) (d : A44) => match d.1 with
                | none => .pure (.done ([], Int.ofNat 9))
                | some xs => amb (nilL xs) (Comp.pure (.done ([], Int.ofNat 9))) ((app x.2.2 [xs]).bind fun zs => .pure (.next (x.1, x.2.1, zs)))) xs (x.2.1, x.2.2.1, x.2.2.2)).bind fun (r : Comp.Step (List A3 × Int × List A3) A17) => match r with
               | .next x => j (x.1, x.2.1, x.2.2)
               | .done e => .pure (.done (Sum.inr (e.1, e.2))) else .pure (.done (Sum.inl (x.2.1, x.2.2.1, x.2.2.2)))) (0, [], 0, [])).bind fun (x_1 : List A3 × Int × List A3 ⊕ List A3 × Int) => match x_1 with
      | Sum.inl x_2 => if gtI (lenL x_2.2.2) 200 = true then .pure ([], 9, ()) else .pure (x_2.2.2, 0, ())
      | Sum.inr x => .pure (x.1, x.2, ())
def kj : List A2 → List A3 → Comp A18 := fun (x0 : A3) (x1 : A14) => (yx x0).bind fun x => if neI x.1 0 = true then .pure ([], x.1, ()) else (km x1).bind fun x => if neI x.1 0 = true then .pure ([], x.1, ()) else (gn x0).bind fun x => if ntB x.1 = true then .pure ([], 0, ()) else (vb x0).bind fun y => (Comp.loop (fun (x : A17) => if ltI x.2 (lenL x1) = true then (idx x1 x.2).bind fun x_1 => (gh x.1 x_1).bind fun x_2 => if neI x_2.2.1 0 = true then .pure (.done (Sum.inr ([], x_2.2.1))) else .pure (.next (x_2.1, addW .i64 x.2 1)) else .pure (.done (Sum.inl x.1))) ([y.1], 0)).bind fun (x : A34) => match x with
          | Sum.inl x => .pure (x, 0, ())
          | Sum.inr x => .pure (x.1, x.2, ())
def gV : List A3 → List A2 → Comp A37 := fun (x0 : A14) (x1 : A3) => (kj x1 x0).bind fun x => .pure (sel (eqI x.2.1 0) (eqI (lenL x.1) 0) false, x.2.1, ())
def ki : Bytes × List A3 × List Int × Unit → List Bool × List Bool × List A3 × Unit → List A3 → List A3 → Comp A41 := fun (x0 : A8) (x1 : A4) (x2 x3 : A14) => (jE x0 x1).bind fun x => if neI x.1 0 = true then .pure (([], [], [], ()), x.1, ()) else (zQ [x2, x3]).bind fun y => (vy y.1).bind fun x_1 => if neI x_1.1 0 = true then .pure (([], [], [], ()), x_1.1, ()) else if gtI (addW .i64 (lenL x1.2.2.1) (lenL x2)) 24 = true then .pure (([], [], [], ()), 2, ()) else (yE x1.1).bind fun y_1 => (yE x1.2.1).bind fun y_2 => (zQ [x1.2.2.1, x2]).bind fun x_2 => (j7 x_2.1).bind fun y_3 => (Comp.loop (fun (x_3 : Int × A4 × List Bool × List Bool × List A3 × Unit) => if ltI x_3.1 (lenL x0.2.1) = true then jn (fun (x : A4 × List Bool × List Bool × List A3 × Unit) => .pure (.next (addW .i64 x_3.1 1, x.1, x.2.1, x.2.2.1, x.2.2.2.1, ()))) fun (j : A4 × List Bool × List Bool × List A3 × Unit → Comp (Comp.Step (Int × A4 × List Bool × List Bool × List A3 × Unit) A39)) => (idx x0.2.1 x_3.1).bind fun x_4 => (idx x_3.2.2.2.1 x_3.1).bind fun x_5 => (Comp.gd (ntB x_5) (zu x_4 x2) (false, ())).bind fun x_6 => (Comp.gd (ntB (sel x_5 true (ntB x_6.1))) (zu x_4 x3) (false, ())).bind fun x_7 => (inb x_3.2.2.2.1.length x_3.1).bind fun x_8 => (idx x_3.2.2.1 x_3.1).bind fun x_9 => if x_9 = true then j (x_3.2.1, x_3.2.2.1, setL x_3.2.2.2.1 x_3.1 (sel (sel x_5 true (ntB x_6.1)) true (ntB x_7.1)), x_3.2.2.2.2.1, ()) else (yB x_3.2.2.2.2.1 fun (z : Int × List A2 × Unit) => yd z.1 z.2.1 x_4).bind fun y => (gV y.1 x_4).bind fun x => if neI x.2.1 0 = true then .pure (.done (Sum.inr (x.2.1, [], [], [], ()))) else (inb x_3.2.2.1.length x_3.1).bind fun x_10 => j (x_3.2.1, setL x_3.2.2.1 x_3.1 x.1, setL x_3.2.2.2.1 x_3.1 (sel (sel x_5 true (ntB x_6.1)) true (ntB x_7.1)), x_3.2.2.2.2.1, ()) else .pure (.done (Sum.inl (x_3.2.1, x_3.2.2.1, x_3.2.2.2.1, x_3.2.2.2.2.1, ())))) (0, ([], [], [], ()), y_1.1, y_2.1, y_3.1, ())).bind fun (x : A4 × List Bool × List Bool × List A3 × Unit ⊕ Int × List Bool × List Bool × List A3 × Unit) => match x with
             | Sum.inl x => .pure ((x.2.1, x.2.2.1, x.2.2.2.1, ()), 0, ())
             | Sum.inr x => .pure (x.2, x.1, ())
def zw : A8 × A4 × Unit → Int → Comp A9 := fun (x0 : A6 × A4 × Unit) (x1 : Int) => (idx x0.1.2.2.1 x1).bind fun x => (Comp.gd (eqI x 1) (idx x0.1.2.1 x1) []).bind fun x_1 => (Comp.gd (eqI x 1) (zu x_1 x0.2.1.2.2.1) (false, ())).bind fun x_2 => .pure (sel (eqI x 1) (ntB x_2.1) false, ())
def zy : A8 × A4 × Unit → Int → Comp A9 := fun (x0 : A6 × A4 × Unit) (x1 : Int) => (idx x0.1.2.2.1 x1).bind fun x => (Comp.gd (eqI x 1) (idx x0.2.1.2.1 x1) false).bind fun x_1 => .pure (sel (eqI x 1) x_1 false, ())
def yD : A8 × A4 × Unit → Int → Comp A9 := fun (x0 : A6 × A4 × Unit) (x1 : Int) => (idx x0.1.2.2.1 x1).bind fun x => (Comp.gd (eqI x 2) (idx x0.2.1.1 x1) false).bind fun x_1 => .pure (sel (eqI x 2) (ntB x_1) false, ())
def jR : Bytes × List A3 × List Int × Unit → List Bool × List Bool × List A3 × Unit → Comp A10 := fun (x0 : A8) (x1 : A4) => (jE x0 x1).bind fun x => if neI x.1 0 = true then .pure (x.1, ()) else (Comp.loop (fun (x_1 : Int) => if ltI x_1 (lenL [(fun (z : A10) => zw (x0, x1, ()) z.1, 35, ()), (fun (z : A10) => zy (x0, x1, ()) z.1, 30, ()), (fun (z : A10) => yD (x0, x1, ()) z.1, 34, ())]) = true then (idx [(fun (z : A10) => zw (x0, x1, ()) z.1, 35, ()), (fun (z : A10) => zy (x0, x1, ()) z.1, 30, ()), (fun (z : A10) => yD (x0, x1, ()) z.1, 34, ())] x_1).bind fun x => (Comp.loop (fun (x_2 : Int) => if ltI x_2 (lenL x0.2.1) = true then (x.1 (x_2, ())).bind fun x_3 => if x_3.1 = true then .pure (.done (Sum.inr x.2.1)) else .pure (.next (addW .i64 x_2 1)) else .pure (.done (Sum.inl ()))) 0).bind fun (x : A21) => match x with
         | Sum.inl x => .pure (.next (addW .i64 x_1 1))
         | Sum.inr x => .pure (.done (Sum.inr x)) else .pure (.done (Sum.inl ()))) 0).bind fun (x : A21) => match x with
     | Sum.inl x => .pure (0, ())
     | Sum.inr x => .pure (x, ())
def vF : List Int → Comp A24 := fun (x0 : A13) => amb (nilL x0) (Comp.pure ([], ())) ((app [] x0).bind fun zs => .pure (zs, ()))
def kF : Bytes × List A3 × List Int × Unit → List A3 × List A3 × Int × List Int × Unit → Comp A9 := fun (x0 : A8) (x1 : A5) => (Comp.loop (fun (x : Int) => if ltI x (lenL x0.2.1) = true then (idx x0.2.1 x).bind fun x_1 => (idx x0.2.2.1 x).bind fun x_2 => (Comp.gd (eqI x_2 2) (zu x_1 x1.1) (false, ())).bind fun x_3 => if sel (eqI x_2 2) (ntB x_3.1) false = true then .pure (.done (Sum.inr false)) else .pure (.next (addW .i64 x 1)) else .pure (.done (Sum.inl ()))) 0).bind fun (x : A23) => match x with
   | Sum.inl x => .pure (true, ())
   | Sum.inr x => .pure (x, ())
def gZ : Int → Bytes × List A3 × List Int × Unit → A8 × A4 × List A5 × Unit → Comp A9 := fun (x0 : Int) (x1 : A8) (x2 : A6 × A4 × List A5 × Unit) => (idx x2.2.2.1 x0).bind fun x => (kF x1 x).bind fun x => .pure (ntB x.1, ())
def y9 : List Int → A33 → Comp A13 := fun (xs : A13) (x0 : A33) => (vH xs x0).bind fun x => if eqI x.1 (-1) = true then .pure xs else (Comp.loop (fun (x : List Int × Int × Int) => if ltI x.2.2 (lenL x.1) = true then (idx x.1 x.2.2).bind fun x_1 => (x0 (x_1, ())).bind fun x_2 => jn (fun (x_3 : A27) => .pure (.next (x_3.1, x_3.2, addW .i64 x.2.2 1))) fun (j : List Int × Int → Comp (Comp.Step (List Int × Int × Int) A27)) => if ntB x_2.1 = true then (inb x.1.length x.2.1).bind fun x_3 => j (setL x.1 x.2.1 x_1, addW .i64 x.2.1 1) else j (x.1, x.2.1) else .pure (.done (x.1, x.2.1))) (xs, x.1, addW .i64 x.1 1)).bind fun x => ((sub x.1 x.2 (lenL x.1)).bind fun x => .pure ()).bind fun x_1 => (sub x.1 (Int.ofNat x.2.toNat) (lenL x.1)).bind fun x_2 => jn (fun (x : A13) => .pure x) fun (j : List Int → Comp A13) => (sub (List.take x.2.toNat x.1 ++ List.replicate (x.1.length.sub x.2.toNat) 0) 0 x.2).bind fun ys => j ys
def gq : A8 × A4 × List A5 × Unit → List Int → List Int → Comp A11 := fun (x0 : A6 × A4 × List A5 × Unit) (x1 x2 : A13) => (Comp.loop (fun (x : Int) => if ltI x (lenL [fun (z : Unit) => jK x0, fun (z : Unit) => jJ (x0.1.1, x0.1.2.1, x1, ()), fun (z : Unit) => jI x0 x2]) = true then (idx [fun (z : Unit) => jK x0, fun (z : Unit) => jJ (x0.1.1, x0.1.2.1, x1, ()), fun (z : Unit) => jI x0 x2] x).bind fun x_1 => (x_1 ()).bind fun x_2 => if neI x_2.1 0 = true then .pure (.done (Sum.inr ([], x_2.1))) else .pure (.next (addW .i64 x 1)) else .pure (.done (Sum.inl ()))) 0).bind fun (x : Unit ⊕ List Int × Int) => match x with
   | Sum.inl x => (Comp.loop (fun (x : List A3 × List A3 × Int) => if ltI x.2.2 (lenL x2) = true then (idx x2 x.2.2).bind fun x_1 => (idx x0.2.2.1 x_1).bind fun x_2 => (idx x0.2.2.1 x_1).bind fun x_3 => (app x.1 x_2.1).bind fun zs => (app x.2.1 x_3.2.1).bind fun zs_1 => .pure (.next (zs, zs_1, addW .i64 x.2.2 1)) else .pure (.done (x.1, x.2.1))) ([], [], 0)).bind fun x => (ki (x0.1.1, x0.1.2.1, x1, ()) x0.2.1 x.1 x.2).bind fun x => if neI x.2.1 0 = true then .pure ([], x.2.1, ()) else (jR (x0.1.1, x0.1.2.1, x1, ()) x.1).bind fun x => if eqI x.1 35 = true then (vF x2).bind fun y => .pure (y.1, 0, ()) else (vF x2).bind fun y => (y9 y.1 fun (z : A10) => gZ z.1 (x0.1.1, x0.1.2.1, x1, ()) x0).bind fun ys => .pure (ys, 0, ())
   | Sum.inr x => .pure (x.1, x.2, ())
def ya : List Int → List Int → Comp A9 := fun (x0 x1 : A13) => if neI (lenL x0) (lenL x1) = true then .pure (false, ()) else (Comp.loop (fun (x : Int) => if ltI x (lenL x0) = true then (idx x0 x).bind fun x_1 => (idx x1 x).bind fun x_2 => if neI x_1 x_2 = true then .pure (.done (Sum.inr false)) else .pure (.next (addW .i64 x 1)) else .pure (.done (Sum.inl ()))) 0).bind fun (x : A23) => match x with
    | Sum.inl x => .pure (true, ())
    | Sum.inr x => .pure (x, ())
def vC : A8 × A4 × List A5 × Unit → List Int → List Int → List Int → Comp A9 := fun (x0 : A6 × A4 × List A5 × Unit) (x1 x2 x3 : A13) => (gq x0 x1 x2).bind fun y => (Comp.gd (eqI y.2.1 0) (ya y.1 x3) (false, ())).bind fun x => .pure (sel (eqI y.2.1 0) x.1 false, ())
def yh : A8 × A4 × List A5 × Unit → List Int → List Int → Int → Comp A9 := fun (x0 : A6 × A4 × List A5 × Unit) (x1 x2 : A13) (x3 : Int) => (gq x0 x1 x2).bind fun y => .pure (sel (eqI y.2.1 x3) (eqI (lenL y.1) 0) false, ())
def yP : Int → Comp A9 := fun (x0 : Int) => .pure (sel (ltI x0 0) true (gtI x0 100000), ())
def vQ : Int → List Int → Comp A9 := fun (x0 : Int) (x1 : A13) => .pure (sel (ltI x0 0) true (geI x0 (lenL x1)), ())
def yC : List Int → Int → Comp A10 := fun (x0 : A13) (x1 : Int) => (Comp.loop (fun (x : Int) => if ltI x (lenL x0) = true then (idx x0 x).bind fun x_1 => if eqI x1 x_1 = true then .pure (.done (Sum.inr x)) else .pure (.next (addW .i64 x 1)) else .pure (.done (Sum.inl ()))) 0).bind fun (x : A21) => match x with
   | Sum.inl x => .pure (-1, ())
   | Sum.inr x => .pure (x, ())
def vw : A8 × A4 × List A5 × Unit → List Int → List Int → List Int → List Int → List Int → Comp A29 := fun (x0 : A6 × A4 × List A5 × Unit) (x1 x2 x3 x4 x5 : A13) => (gq x0 x1 x2).bind fun y => if neI y.2.1 0 = true then .pure ([], y.2.1, ()) else if sel (neI (lenL x3) (lenL x2)) true (neI (lenL x4) (lenL x2)) = true then .pure ([], 4, ()) else if gtI (lenL x5) 6 = true then .pure ([], 2, ()) else (zN x3 fun (z : A10) => vQ z.1 x5).bind fun x => if x.1 = true then .pure ([], 55, ()) else (zN x4 fun (z : A10) => yP z.1).bind fun x => (Comp.gd (ntB x.1) (zN x5 fun (z : A10) => yP z.1) (false, ())).bind fun x_1 => if sel x.1 true x_1.1 = true then .pure ([], 3, ()) else (Comp.loop (fun (x : List A1 × Int) => if ltI x.2 (lenL y.1) = true then (idx y.1 x.2).bind fun x_2 => (yC x2 x_2).bind fun x_3 => (idx x3 x_3.1).bind fun x_4 => (idx x4 x_3.1).bind fun x_5 => (idx x5 x_4).bind fun x_6 => jn (fun (x_7 : Int) => (idx x0.2.2.1 x_2).bind fun x_8 => (app x.1 [(x_2, x_7, x_8.2.2.1, ())]).bind fun zs => .pure (.next (zs, addW .i64 x.2 1))) fun (j : Int → Comp (Comp.Step (List A1 × Int) (List A1))) => if gtI x_5 x_6 = true then j x_4 else j (-1) else .pure (.done x.1)) ([], 0)).bind fun x => .pure (x, 0, ())
def jO : List A1 → List A1 → Comp A9 := fun (x0 x1 : List A1) => if neI (lenL x0) (lenL x1) = true then .pure (false, ()) else (Comp.loop (fun (x : Int) => if ltI x (lenL x0) = true then (idx x0 x).bind fun x_1 => (idx x1 x).bind fun x_2 => if ntB (adB (eqI x_1.1 x_2.1) (adB (eqI x_1.2.1 x_2.2.1) (eqI x_1.2.2.1 x_2.2.2.1))) = true then .pure (.done (Sum.inr false)) else .pure (.next (addW .i64 x 1)) else .pure (.done (Sum.inl ()))) 0).bind fun (x : A23) => match x with
    | Sum.inl x => .pure (true, ())
    | Sum.inr x => .pure (x, ())
def kG : List A1 → Int → Comp A10 := fun (x0 : List A1) (x1 : Int) => (Comp.loop (fun (x : List A22 × Int) => if ltI x.2 (lenL x0) = true then (idx x0 x.2).bind fun x_1 => .pure (.next (mpB (fun (x x_2 : Int) => eqI x x_2) x.1 x_1.2.1 (addW .i64 (match mgB (fun (x x_2 : Int) => eqI x x_2) x.1 x_1.2.1 with
          | some x => x
          | none => 0) x_1.2.2.1), addW .i64 x.2 1)) else .pure (.done x.1)) ([], 0)).bind fun x => .pure (match mgB (fun (x x_1 : Int) => eqI x x_1) x x1 with
     | some x => x
     | none => 0, ())
def y6 : Comp A9 := vR.bind fun x => jn (fun (x_1 : Bool) => jn (fun (x_2 : Bool) => (vw x.1 [1, 3, 2] [0, 1] [1, 0] [5, 6] [9, 4]).bind fun y => (vw x.1 [1, 3, 2] [0, 1] [1, 0] [4, 6] [9, 4]).bind fun y_1 => jn (fun (x : Bool) => .pure (x, ())) fun (j : Bool → Comp A9) => if x_1 = true then if x_2 = true then if eqI y.2.1 0 = true then if eqI y_1.2.1 0 = true then (jO y.1 [(0, 1, 3, ())]).bind fun x => if x.1 = true then (jO y_1.1 [(0, -1, 3, ())]).bind fun x => if x.1 = true then (kG y.1 (Int.ofNat 1)).bind fun x => if eqI x.1 3 = true then (kG y.1 (Int.negSucc 0)).bind fun x => j (eqI x.1 0) else j false else j false else j false else j false else j false else j false else j false) fun (j : Bool → Comp A9) => (yh x.1 [1, 2, 3] [0, 3] (Int.ofNat 5)).bind fun x_2 => if x_2.1 = true then (yh x.1 [1, 2, 3] [0, 0] (Int.ofNat 6)).bind fun x_3 => if x_3.1 = true then (yh x.1 [1, 2] [0, 1] (Int.ofNat 1)).bind fun x => j x.1 else j false else j false) fun (j : Bool → Comp A9) => (vC x.1 [1, 2, 3] [0, 1] [1]).bind fun x_1 => if x_1.1 = true then (vC x.1 [1, 3, 2] [0, 1] [0]).bind fun x_2 => if x_2.1 = true then (vC x.1 [3, 3, 3] [0, 1] [0, 1]).bind fun x_3 => if x_3.1 = true then (vC x.1 [1, 2, 1] [0, 1] [0, 1]).bind fun x => j x.1 else j false else j false else j false
def yN : Int → Int → Comp A10 := fun (x0 x1 : Int) => if ltI x1 1 = true then .pure (0, ()) else (rem x0 x1).bind fun x => (rem (addW .i64 x x1) x1).bind fun x => .pure (x, ())
def zD : List Int × Int × Unit → Int → Comp A20 := fun (x0 : A11) (x1 : Int) => if geI x0.2.1 (lenL x0.1) = true then .pure ((x0, ()), 0, ()) else (idx x0.1 (subW .i64 (addW .i64 x0.2.1 1) 1)).bind fun x => (yN x x1).bind fun x => .pure (((x0.1, addW .i64 x0.2.1 1, ()), ()), x.1, ())
def jx : Int × Int × Int × Unit → Int × Int × Int × Unit → Comp A26 := fun (x0 x1 : A1) => .pure ((subW .i64 x0.1 x1.1, subW .i64 x0.2.1 x1.2.1, subW .i64 x0.2.2.1 x1.2.2.1, ()), ())
def yX : A1 × Int × Unit → Comp A42 := fun (x0 : A2) => (jx (0, 0, 0, ()) x0.1).bind fun x => .pure ((x.1, negW .i64 x0.2.1, ()), ())
def zl : Int × Int × Int × Unit → Comp A24 := fun (x0 : A1) => .pure ([x0.1, x0.2.1, x0.2.2.1], ())
def yZ : Int → Comp A10 := fun (x0 : Int) => if ltI x0 0 = true then .pure (negW .i64 x0, ()) else .pure (x0, ())
def vY : Int × Int × Int × Unit → Comp A2 := fun (x0 : A1) => (zl x0).bind fun x => (Comp.loop (fun (x_1 : Int × Int × Int × Int × Int × Unit) => if ltI x_1.2.1 3 = true then (idx x.1 x_1.2.1).bind fun x_2 => if eqI x_2 (-9223372036854775808) = true then .pure (.done (Sum.inr (0, 0, 0, 0, ()))) else (idx x.1 x_1.2.1).bind fun x => (yZ x).bind fun x => (Comp.loop (fun (x : A22) => if gtI x.2 0 = true then (rem x.1 x.2).bind fun x_3 => .pure (.next (x.2, x_3)) else .pure (.done x.1)) (x_1.1, x.1)).bind fun x => .pure (.next (x, addW .i64 x_1.2.1 1, x_1.2.2)) else .pure (.done (Sum.inl (x_1.1, x_1.2.2)))) (0, 0, 0, 0, 0, ())).bind fun (x : Int × Int × Int × Int × Unit ⊕ Int × Int × Int × Int × Unit) => match x with
    | Sum.inl x => if eqI x.1 0 = true then .pure ((0, 0, 0, ()), 0, ()) else (quo .i64 x0.1 x.1).bind fun x_1 => (quo .i64 x0.2.1 x.1).bind fun x_2 => (quo .i64 x0.2.2.1 x.1).bind fun x_3 => .pure ((x_1, x_2, x_3, ()), x.1, ())
    | Sum.inr x => .pure (x.2, x.1, ())
def vP : A1 × Int × Unit → Comp A9 := fun (x0 : A2) => (zl x0.1).bind fun x => (Comp.loop (fun (x_1 : Int) => if ltI x_1 3 = true then (idx x.1 x_1).bind fun x_2 => (Comp.gd (ntB (ltI x_2 (-4608))) (idx x.1 x_1) (Int.ofNat 0)).bind fun x_3 => if sel (ltI x_2 (-4608)) true (gtI x_3 4608) = true then .pure (.done (Sum.inr false)) else .pure (.next (addW .i64 x_1 1)) else .pure (.done (Sum.inl ()))) 0).bind fun (x : A23) => match x with
    | Sum.inl x => (vY x0.1).bind fun x => .pure (sel (sel (eqI x.2.1 1) (geI x0.2.1 (-2097152)) false) (leI x0.2.1 2097152) false, ())
    | Sum.inr x => .pure (x, ())
def zU : List A2 → Comp A10 := fun (x0 : A3) => if gtI (lenL x0) 48 = true then .pure (2, ()) else (Comp.loop (fun (x : Int) => if ltI x (lenL x0) = true then (idx x0 x).bind fun x_1 => (vP x_1).bind fun x_2 => if ntB x_2.1 = true then .pure (.done (Sum.inr 12)) else .pure (.next (addW .i64 x 1)) else .pure (.done (Sum.inl ()))) 0).bind fun (x : A21) => match x with
    | Sum.inl x => .pure (0, ())
    | Sum.inr x => .pure (x, ())
def vO : List A2 → Comp A12 := fun (x0 : A3) => (app [] x0).bind fun zs => (zo (-24, -24, -24, ()) (24, 24, 24, ())).bind fun x => (app zs x.1).bind fun zs => .pure (zs, ())
def yg : Int × Int × Int × Unit → Int × Int × Int × Unit → Comp A26 := fun (x0 x1 : A1) => .pure ((subW .i64 (mulW .i64 x0.2.1 x1.2.2.1) (mulW .i64 x0.2.2.1 x1.2.1), subW .i64 (mulW .i64 x0.2.2.1 x1.1) (mulW .i64 x0.1 x1.2.2.1), subW .i64 (mulW .i64 x0.1 x1.2.1) (mulW .i64 x0.2.1 x1.1), ()), ())
def jy : Int × Int × Int × Unit → Int × Int × Int × Unit → Comp A10 := fun (x0 x1 : A1) => .pure (addW .i64 (addW .i64 (mulW .i64 x0.1 x1.1) (mulW .i64 x0.2.1 x1.2.1)) (mulW .i64 x0.2.2.1 x1.2.2.1), ())
def yA : Int × Int × Int × Unit → Int → Comp A26 := fun (x0 : A1) (x1 : Int) => .pure ((mulW .i64 x0.1 x1, mulW .i64 x0.2.1 x1, mulW .i64 x0.2.2.1 x1, ()), ())
def gm : Int × Int × Int × Unit → Int × Int × Int × Unit → Comp A26 := fun (x0 x1 : A1) => .pure ((addW .i64 x0.1 x1.1, addW .i64 x0.2.1 x1.2.1, addW .i64 x0.2.2.1 x1.2.2.1, ()), ())
def zb : Int → Int → Comp A10 := fun (x0 x1 : Int) => (Comp.loop (fun (x : A22) => if neI x.2 0 = true then (rem x.1 x.2).bind fun x_1 => .pure (.next (x.2, x_1)) else .pure (.done x.1)) (x0, x1)).bind fun x => .pure (x, ())
def yW : A1 × Int × Unit → A1 × Int × Unit → A1 × Int × Unit → Comp (A7 × Bool × Unit) := fun (x0 x1 x2 : A2) => (yg x1.1 x2.1).bind fun x => (jy x0.1 x.1).bind fun x => if eqI x.1 0 = true then .pure ((0, 0, 0, 0, ()), false, ()) else (yg x1.1 x2.1).bind fun x_1 => (yA x_1.1 x0.2.1).bind fun x_2 => (yg x2.1 x0.1).bind fun x_3 => (yA x_3.1 x1.2.1).bind fun x_4 => (gm x_2.1 x_4.1).bind fun x_5 => (yg x0.1 x1.1).bind fun x_6 => (yA x_6.1 x2.2.1).bind fun x_7 => (gm x_5.1 x_7.1).bind fun x_8 => jn (fun (x : A7) => (zb (maxI x.2.1 (negW .i64 x.2.1)) (maxI x.2.2.1 (negW .i64 x.2.2.1))).bind fun x_9 => (zb (maxI x.2.2.2.1 (negW .i64 x.2.2.2.1)) x.1).bind fun x_10 => (zb x_9.1 x_10.1).bind fun x_11 => (quo .i64 x.2.1 x_11.1).bind fun x_12 => (quo .i64 x.2.2.1 x_11.1).bind fun x_13 => (quo .i64 x.2.2.2.1 x_11.1).bind fun x_14 => (quo .i64 x.1 x_11.1).bind fun x => .pure ((x_12, x_13, x_14, x, ()), true, ())) fun (j : Int × Int × Int × Int × Unit → Comp (A7 × Bool × Unit)) => if ltI x.1 0 = true then (yA x_8.1 (Int.negSucc 0)).bind fun x_9 => j (negW .i64 x.1, x_9.1) else j (x.1, x_8.1)
def zY : A1 × Int × Unit → Int × Int × Int × Int × Unit → Comp A10 := fun (x0 : A2) (x1 : A7) => .pure (subW .i64 (subW .i64 (subW .i64 (mulW .i64 x0.2.1 x1.2.2.2.1) (mulW .i64 x0.1.1 x1.1)) (mulW .i64 x0.1.2.1 x1.2.1)) (mulW .i64 x0.1.2.2.1 x1.2.2.1), ())
def vA : List A2 → Int × Int × Int × Int × Unit → Comp A9 := fun (x0 : A3) (x1 : A7) => (Comp.loop (fun (x : Int) => if ltI x (lenL x0) = true then (idx x0 x).bind fun x_1 => (zY x_1 x1).bind fun x_2 => if ltI x_2.1 0 = true then .pure (.done (Sum.inr false)) else .pure (.next (addW .i64 x 1)) else .pure (.done (Sum.inl ()))) 0).bind fun (x : A23) => match x with
   | Sum.inl x => .pure (true, ())
   | Sum.inr x => .pure (x, ())
def yJ : List A7 → Int × Int × Int × Int × Unit → Comp A9 := fun (x0 : List A7) (x1 : A7) => (Comp.loop (fun (x : Int) => if ltI x (lenL x0) = true then (idx x0 x).bind fun x_1 => if adB (eqI x_1.1 x1.1) (adB (eqI x_1.2.1 x1.2.1) (adB (eqI x_1.2.2.1 x1.2.2.1) (eqI x_1.2.2.2.1 x1.2.2.2.1))) = true then .pure (.done (Sum.inr true)) else .pure (.next (addW .i64 x 1)) else .pure (.done (Sum.inl ()))) 0).bind fun (x : A23) => match x with
   | Sum.inl x => .pure (false, ())
   | Sum.inr x => .pure (x, ())
def ym : List A2 → Comp A36 := fun (x0 : A3) => (Comp.loop (fun (x : List A7 × Int) => if ltI x.2 (lenL x0) = true then (Comp.loop (fun (x_1 : List A7 × Int) => if ltI x_1.2 (lenL x0) = true then (Comp.loop (fun (x_2 : List A7 × Int) => if ltI x_2.2 (lenL x0) = true then (idx x0 x.2).bind fun x => (idx x0 x_1.2).bind fun x_3 => (idx x0 x_2.2).bind fun x_4 => (yW x x_3 x_4).bind fun x => (Comp.gd x.2.1 (vA x0 x.1) (false, ())).bind fun x_5 => (Comp.gd (sel x.2.1 x_5.1 false) (yJ x_2.1 x.1) (false, ())).bind fun x_6 => jn (fun (x : List A7) => .pure (.next (x, addW .i64 x_2.2 1))) fun (j : List A7 → Comp (Comp.Step (List A7 × Int) (List A7))) => if sel (sel x.2.1 x_5.1 false) (ntB x_6.1) false = true then (app x_2.1 [x.1]).bind fun zs => j zs else j x_2.1 else .pure (.done x_2.1)) (x_1.1, addW .i64 x_1.2 1)).bind fun x => .pure (.next (x, addW .i64 x_1.2 1)) else .pure (.done x_1.1)) (x.1, addW .i64 x.2 1)).bind fun x_1 => .pure (.next (x_1, addW .i64 x.2 1)) else .pure (.done x.1)) ([], 0)).bind fun x => .pure (x, ())
def vX : List A2 → Comp A9 := fun (x0 : A3) => (ym x0).bind fun y => (Comp.loop (fun (x : Int) => if ltI x (lenL x0) = true then (Comp.loop (fun (x_1 : Bool × Int) => if ltI x_1.2 (lenL y.1) = true then (Comp.gd (ntB x_1.1) (idx x0 x) ((0, 0, 0, ()), 0, ())).bind fun x => (Comp.gd (ntB x_1.1) (idx y.1 x_1.2) (0, 0, 0, 0, ())).bind fun x_2 => (Comp.gd (ntB x_1.1) (zY x x_2) (0, ())).bind fun x => .pure (.next (sel x_1.1 true (gtI x.1 0), addW .i64 x_1.2 1)) else .pure (.done x_1.1)) (false, 0)).bind fun x_1 => if ntB x_1 = true then .pure (.done (Sum.inr false)) else .pure (.next (addW .i64 x 1)) else .pure (.done (Sum.inl ()))) 0).bind fun (x : A23) => match x with
    | Sum.inl x => .pure (true, ())
    | Sum.inr x => .pure (x, ())
def ze : List A2 → Comp A9 := fun (x0 : A3) => jn (fun (x : Bool) => .pure (x, ())) fun (j : Bool → Comp A9) => (zU x0).bind fun x => if eqI x.1 0 = true then (vO x0).bind fun y => (vX y.1).bind fun x => j x.1 else j false
def gQ : List A13 → Comp (A8 × Unit) := fun (x0 : List A13) => (Comp.loop (fun (x : Int × List A13) => if sel (ltI x.1 (lenL x0)) (ltI x.1 2) false = true then (idx x0 x.1).bind fun x_1 => (inb 2 x.1).bind fun x_2 => .pure (.next (addW .i64 x.1 1, setL x.2 x.1 x_1)) else .pure (.done x.2)) (0, [[], []])).bind fun x => (idx x 0).bind fun x_1 => (zD (x_1, 0, ()) (Int.ofNat 3)).bind fun y => jn (fun (x_2 : A35) => (zD x_2.2 (Int.ofNat 3)).bind fun y_1 => (zD y_1.1.1 (Int.ofNat 3)).bind fun y_2 => (Comp.loop (fun (x : Int × Int × A6 × List Int × Int × Unit) => if ltI x.2.1 (addW .i64 2 y.2.1) = true then (zD x.2.2.2 (Int.ofNat 4)).bind fun y => (zo (x.1, 0, 0, ()) (addW .i64 x.1 (addW .i64 1 y.2.1), 3, addW .i64 2 y_2.2.1, ())).bind fun x_3 => (app x.2.2.1.2.1 [x_3.1]).bind fun zs => jn (fun (x_4 : A6) => .pure (.next (addW .i64 x.1 (addW .i64 1 y.2.1), addW .i64 x.2.1 1, (x_4.1, x_4.2.1, x_4.2.2.1, ()), y.1.1))) fun (j : List UInt8 × List A3 × List Int × Unit → Comp (Comp.Step (Int × Int × A6 × List Int × Int × Unit) (A6 × List Int × Int × Unit))) => if x_2.1 = true then (zo (x.1, 3, 0, ()) (addW .i64 x.1 (addW .i64 1 y.2.1), 6, addW .i64 2 y_2.2.1, ())).bind fun x_4 => (app zs [x_4.1]).bind fun zs => j (x.2.2.1.1, zs, x.2.2.1.2.2.1, ()) else j (x.2.2.1.1, zs, x.2.2.1.2.2.1, ()) else .pure (.done ((x.2.2.1.1, x.2.2.1.2.1, x.2.2.1.2.2.1, ()), x.2.2.2))) (addW .i64 (-6) y_1.2.1, 0, ([112], [], [], ()), y_2.1.1)).bind fun x_3 => jn (fun (x_4 : A35) => jn (fun (x_5 : A6) => (idx x 1).bind fun x_6 => (Comp.loop (fun (x_7 : Int × A6 × List Int × Int × Unit) => if ltI x_7.1 (lenL x_7.2.1.2.1) = true then (zD x_7.2.2 (Int.ofNat 4)).bind fun y => (idx [2, 1, 3, 2] y.2.1).bind fun x => (app x_7.2.1.2.2.1 [x]).bind fun zs => .pure (.next (addW .i64 x_7.1 1, (x_7.2.1.1, x_7.2.1.2.1, zs, ()), y.1.1)) else .pure (.done (x_7.2.1.1, x_7.2.1.2.1, x_7.2.1.2.2.1, ()))) (0, (x_5.1, x_5.2.1, x_5.2.2.1, ()), x_6, 0, ())).bind fun x => .pure ((x.1, x.2.1, x.2.2.1, ()), ())) fun (j : List UInt8 × List A3 × List Int × Unit → Comp (A6 × Unit)) => if x_4.1 = true then (zD x_4.2 (lenL x_3.1.2.1)).bind fun y => (zD y.1.1 (Int.ofNat 4)).bind fun y_3 => (idx x_3.1.2.1 y.2.1).bind fun x => (app [] x).bind fun zs => (app zs [((0, 1, 1, ()), addW .i64 2 y_3.2.1, ())]).bind fun zs => (idx x_3.1.2.1 y.2.1).bind fun x => (app [] x).bind fun zs_1 => (yX ((0, 1, 1, ()), addW .i64 2 y_3.2.1, ())).bind fun x => (app zs_1 [x.1]).bind fun zs_2 => (ze zs).bind fun x => (Comp.gd x.1 (ze zs_2) (false, ())).bind fun x_5 => jn (fun (x : A8) => j (x.1, x.2.1, x.2.2.1, ())) fun (j : List UInt8 × List A3 × List Int × Unit → Comp (A6 × Unit)) => if sel x.1 x_5.1 false = true then (inb x_3.1.2.1.length y.2.1).bind fun x => (app (setL x_3.1.2.1 y.2.1 zs) [zs_2]).bind fun zs => j (x_3.1.1, zs, x_3.1.2.2.1, ()) else j (x_3.1.1, x_3.1.2.1, x_3.1.2.2.1, ()) else j (x_3.1.1, x_3.1.2.1, x_3.1.2.2.1, ())) fun (j : Bool × List Int × Int × Unit → Comp (A6 × Unit)) => (zD x_3.2 (Int.ofNat 4)).bind fun y => if eqI y.2.1 3 = true then j (ltI (lenL x_3.1.2.1) 6, y.1.1) else j (false, y.1.1)) fun (j : Bool × List Int × Int × Unit → Comp (A6 × Unit)) => (zD y.1.1 (Int.ofNat 3)).bind fun y_1 => if eqI y_1.2.1 2 = true then j (ltI (addW .i64 2 y.2.1) 4, y_1.1.1) else j (false, y_1.1.1)
def gl : Bytes × List A3 × List Int × Unit → Comp (A4 × Unit) := fun (x0 : A8) => (mk (lenL x0.2.1) false).bind fun x => (mk (lenL x0.2.1) false).bind fun ys => .pure ((ys, x, [], ()), ())
def yV : List A13 → Bytes × List A3 × List Int × Unit → Comp A15 := fun (x0 : List A13) (x1 : A8) => (Comp.loop (fun (x : A17) => if sel (ltI x.2 (lenL x0)) (ltI x.2 4) false = true then (idx x0 x.2).bind fun x_1 => (zD (x_1, 0, ()) (Int.ofNat 4)).bind fun y => (zD y.1.1 (lenL x1.2.1)).bind fun y_1 => (idx x1.2.1 y_1.2.1).bind fun x_2 => (appE x_2).bind fun zs => jn (fun (x_3 : List A2 × List Int × Int × Unit) => jn (fun (x_4 : A3) => (app x.1 [x_4]).bind fun zs => .pure (.next (zs, addW .i64 x.2 1))) fun (j : List A2 → Comp (Comp.Step A17 A14)) => if eqI y.2.1 2 = true then (zD x_3.2 (Int.ofNat 14)).bind fun y => (zD y.1.1 (Int.ofNat 3)).bind fun y_2 => (zD y_2.1.1 (Int.ofNat 2)).bind fun y_3 => (zD y_3.1.1 (Int.ofNat 6)).bind fun y_4 => (zD y_4.1.1 (Int.ofNat 6)).bind fun y_5 => (zD y_5.1.1 (Int.ofNat 6)).bind fun y_6 => (zo (subW .i64 y.2.1 7, subW .i64 y_2.2.1 1, subW .i64 y_3.2.1 1, ()) (addW .i64 (addW .i64 (subW .i64 y.2.1 7) 1) y_4.2.1, addW .i64 (addW .i64 (subW .i64 y_2.2.1 1) 2) y_5.2.1, addW .i64 (addW .i64 (subW .i64 y_3.2.1 1) 2) y_6.2.1, ())).bind fun y => j y.1 else j x_3.1) fun (j : List A2 × List Int × Int × Unit → Comp (Comp.Step A17 A14)) => if eqI y.2.1 1 = true then (zD y_1.1.1 (Int.ofNat 2)).bind fun y => (zD y.1.1 (Int.ofNat 2)).bind fun y_2 => (app zs [((0, 0, subW .i64 1 (mulW .i64 2 y.2.1), ()), mulW .i64 (subW .i64 1 (mulW .i64 2 y.2.1)) (addW .i64 1 y_2.2.1), ())]).bind fun zs => j (zs, y_2.1.1) else j (zs, y_1.1.1) else .pure (.done x.1)) ([], 0)).bind fun x => .pure (x, ())
def zW : List A2 → List A2 → Comp A9 := fun (x0 x1 : A3) => (zU x0).bind fun x => (Comp.gd (ntB (neI x.1 0)) (zU x1) (0, ())).bind fun x_1 => if sel (neI x.1 0) true (neI x_1.1 0) = true then .pure (true, ()) else (app [] x0).bind fun zs => (app zs x1).bind fun zs => (vO zs).bind fun y => (vX y.1).bind fun x => .pure (ntB x.1, ())
def vM : Bytes × List A3 × List Int × Unit → Comp A10 := fun (x0 : A8) => if sel (ltI (lenL x0.2.1) 1) true (gtI (lenL x0.2.1) 16) = true then .pure (2, ()) else if neI (lenL x0.2.2.1) (lenL x0.2.1) = true then .pure (1, ()) else (Comp.loop (fun (x : Int) => if ltI x (lenL x0.2.2.1) = true then (idx x0.2.2.1 x).bind fun x_1 => (Comp.gd (ntB (ltI x_1 1)) (idx x0.2.2.1 x) (Int.ofNat 0)).bind fun x_2 => if sel (ltI x_1 1) true (gtI x_2 3) = true then .pure (.done (Sum.inr 1)) else .pure (.next (addW .i64 x 1)) else .pure (.done (Sum.inl ()))) 0).bind fun (x : A21) => match x with
     | Sum.inl x => (Comp.loop (fun (x : Int) => if ltI x (lenL x0.2.1) = true then (idx x0.2.1 x).bind fun x_1 => (ze x_1).bind fun x_2 => if ntB x_2.1 = true then .pure (.done (Sum.inr 13)) else (Comp.loop (fun (x_3 : Int) => if ltI x_3 x = true then (idx x0.2.1 x_3).bind fun x_4 => (idx x0.2.1 x).bind fun x => (zW x_4 x).bind fun x => if ntB x.1 = true then .pure (.done (Sum.inr 13)) else .pure (.next (addW .i64 x_3 1)) else .pure (.done (Sum.inl ()))) 0).bind fun (x_3 : A21) => match x_3 with
             | Sum.inl x_4 => .pure (.next (addW .i64 x 1))
             | Sum.inr x => .pure (.done (Sum.inr x)) else .pure (.done (Sum.inl ()))) 0).bind fun (x : A21) => match x with
       | Sum.inl x => .pure (0, ())
       | Sum.inr x => .pure (x, ())
     | Sum.inr x => .pure (x, ())
def z7 : List A3 → Comp A10 := fun (x0 : A14) => (Comp.loop (fun (x : Int) => if ltI x (lenL x0) = true then (idx x0 x).bind fun x_1 => (zU x_1).bind fun x_2 => if neI x_2.1 0 = true then .pure (.done (Sum.inr x_2.1)) else .pure (.next (addW .i64 x 1)) else .pure (.done (Sum.inl ()))) 0).bind fun (x : A21) => match x with
   | Sum.inl x => .pure (0, ())
   | Sum.inr x => .pure (x, ())
def vV : Bytes × List A3 × List Int × Unit → List Bool × List Bool × List A3 × Unit → Comp A9 := fun (x0 : A8) (x1 : A4) => (Comp.gd (sel (sel (eqI (lenL x1.1) (lenL x0.2.1)) (eqI (lenL x1.2.1) (lenL x0.2.1)) false) (leI (lenL x1.2.2.1) 24) false) (z7 x1.2.2.1) (0, ())).bind fun x => .pure (sel (sel (sel (eqI (lenL x1.1) (lenL x0.2.1)) (eqI (lenL x1.2.1) (lenL x0.2.1)) false) (leI (lenL x1.2.2.1) 24) false) (eqI x.1 0) false, ())
def vW : List A3 → Comp A15 := fun (x0 : A14) => (Comp.loop (fun (x : A17) => if ltI x.2 (lenL x0) = true then (idx x0 x.2).bind fun x_1 => (app [] x_1).bind fun zs => (app x.1 [zs]).bind fun zs => .pure (.next (zs, addW .i64 x.2 1)) else .pure (.done x.1)) ([], 0)).bind fun x => .pure (x, ())
def yI : List A2 → List A3 → Comp A9 := fun (x0 : A3) (x1 : A14) => (Comp.loop (fun (x : Int) => if ltI x (lenL x1) = true then (idx x1 x).bind fun x_1 => (zW x0 x_1).bind fun x_2 => if ntB x_2.1 = true then .pure (.done (Sum.inr false)) else .pure (.next (addW .i64 x 1)) else .pure (.done (Sum.inl ()))) 0).bind fun (x : A23) => match x with
   | Sum.inl x => .pure (true, ())
   | Sum.inr x => .pure (x, ())
def yf : List A3 → List A2 → Comp A15 := fun (x0 : A14) (x1 : A3) => (Comp.loop (fun (x : A17) => if ltI x.2 (lenL x0) = true then (idx x0 x.2).bind fun x_1 => (zW x_1 x1).bind fun x_2 => jn (fun (x_3 : A14) => .pure (.next (x_3, addW .i64 x.2 1))) fun (j : List A3 → Comp (Comp.Step A17 A14)) => if ntB x_2.1 = true then (idx x0 x.2).bind fun x_3 => (app x.1 [x_3]).bind fun zs => j zs else j x.1 else .pure (.done x.1)) ([], 0)).bind fun x => .pure (x, ())
def gE : List A3 → Comp A10 := fun (x0 : A14) => if gtI (lenL x0) 16 = true then .pure (2, ()) else (Comp.loop (fun (x : Int) => if ltI x (lenL x0) = true then (idx x0 x).bind fun x_1 => (zU x_1).bind fun x_2 => if neI x_2.1 0 = true then .pure (.done (Sum.inr x_2.1)) else .pure (.next (addW .i64 x 1)) else .pure (.done (Sum.inl ()))) 0).bind fun (x : A21) => match x with
    | Sum.inl x => .pure (0, ())
    | Sum.inr x => .pure (x, ())
def vk : List A2 → Comp A36 := fun (x0 : A3) => (zU x0).bind fun x => if neI x.1 0 = true then .pure ([], ()) else (vO x0).bind fun y => (ym y.1).bind fun y => .pure (y.1, ())
def yK : A1 × Int × Unit → A1 × Int × Unit → Comp A10 := fun (x0 x1 : A2) => (Comp.loop (fun (x : Int) => if ltI x 4 = true then (idx [x0.1.1, x0.1.2.1, x0.1.2.2.1, x0.2.1] x).bind fun x_1 => (idx [x1.1.1, x1.1.2.1, x1.1.2.2.1, x1.2.1] x).bind fun x_2 => if ltI x_1 x_2 = true then .pure (.done (Sum.inr (-1))) else (idx [x0.1.1, x0.1.2.1, x0.1.2.2.1, x0.2.1] x).bind fun x_3 => (idx [x1.1.1, x1.1.2.1, x1.1.2.2.1, x1.2.1] x).bind fun x_4 => if gtI x_3 x_4 = true then .pure (.done (Sum.inr 1)) else .pure (.next (addW .i64 x 1)) else .pure (.done (Sum.inl ()))) 0).bind fun (x : A21) => match x with
   | Sum.inl x => .pure (0, ())
   | Sum.inr x => .pure (x, ())
def vu : List A2 → A1 × Int × Unit → Comp A12 := fun (x0 : A3) (x1 : A2) => (Comp.loop (fun (x : Int) => (Comp.gd (ltI x (lenL x0)) (idx x0 x) ((0, 0, 0, ()), 0, ())).bind fun x_1 => (Comp.gd (ltI x (lenL x0)) (yK x_1 x1) (0, ())).bind fun x_2 => if sel (ltI x (lenL x0)) (ltI x_2.1 0) false = true then .pure (.next (addW .i64 x 1)) else .pure (.done x)) 0).bind fun x => (Comp.gd (ltI x (lenL x0)) (idx x0 x) ((0, 0, 0, ()), 0, ())).bind fun x_1 => if sel (ltI x (lenL x0)) (adB (adB (eqI x_1.1.1 x1.1.1) (adB (eqI x_1.1.2.1 x1.1.2.1) (eqI x_1.1.2.2.1 x1.1.2.2.1))) (eqI x_1.2.1 x1.2.1)) false = true then .pure (x0, ()) else (sub x0 0 x).bind fun x_2 => (app [] x_2).bind fun zs => (app zs [x1]).bind fun zs => (sub x0 x (lenL x0)).bind fun x => (app zs x).bind fun zs => .pure (zs, ())
def zZ : List A2 → Comp A12 := fun (x0 : A3) => (ze x0).bind fun x => if ntB x.1 = true then .pure ([], ()) else (vk x0).bind fun y => (Comp.loop (fun (x_1 : A28) => if ltI x_1.2 (lenL x0) = true then (Comp.loop (fun (x_2 : A22) => if ltI x_2.2 (lenL y.1) = true then (idx x0 x_1.2).bind fun x => (idx y.1 x_2.2).bind fun x_3 => (zY x x_3).bind fun x => jn (fun (x : Int) => .pure (.next (x, addW .i64 x_2.2 1))) fun (j : Int → Comp (Comp.Step A22 Int)) => if eqI x.1 0 = true then j (addW .i64 x_2.1 1) else j x_2.1 else .pure (.done x_2.1)) (0, 0)).bind fun x => jn (fun (x : A3) => .pure (.next (x, addW .i64 x_1.2 1))) fun (j : List A2 → Comp (Comp.Step A28 A3)) => if geI x 3 = true then (idx x0 x_1.2).bind fun x => (vu x_1.1 x).bind fun x => j x.1 else j x_1.1 else .pure (.done x_1.1)) ([], 0)).bind fun x => .pure (x, ())
def zp : List A2 → A1 × Int × Unit → Comp A12 := fun (x0 : A3) (x1 : A2) => (app [] x0).bind fun zs => (app zs [x1]).bind fun zs => .pure (zs, ())
def vN : List A2 → List A2 → Comp A18 := fun (x0 x1 : A3) => (Comp.loop (fun (x : List A3 × List A2 × Int) => if ltI x.2.2 (lenL x1) = true then if geI (lenL x.2.1) 48 = true then .pure (.done (Sum.inr ([], 9))) else (idx x1 x.2.2).bind fun x_1 => (yX x_1).bind fun x_2 => (zp x.2.1 x_2.1).bind fun y => (zZ y.1).bind fun x_3 => jn (fun (x_4 : A14) => (idx x1 x.2.2).bind fun x_5 => (zp x.2.1 x_5).bind fun y => (zZ y.1).bind fun x_6 => .pure (.next (x_4, x_6.1, addW .i64 x.2.2 1))) fun (j : List A3 → Comp (Comp.Step (List A3 × List A2 × Int) A34)) => if gtI (lenL x_3.1) 0 = true then (app x.1 [x_3.1]).bind fun zs => j zs else j x.1 else .pure (.done (Sum.inl x.1))) ([], x0, 0)).bind fun (x : A34) => match x with
   | Sum.inl x => .pure (x, 0, ())
   | Sum.inr x => .pure (x.1, x.2, ())
def yH : List A3 → List A2 → Comp A18 := fun (x0 : A14) (x1 : A3) => (ze x1).bind fun x => if ntB x.1 = true then .pure (x0, 0, ()) else (Comp.loop (fun (x : A17) => if ltI x.2 (lenL x0) = true then jn (fun (x_1 : A14) => .pure (.next (x_1, addW .i64 x.2 1))) fun (j : List A3 → Comp (Comp.Step A17 A34)) => (idx x0 x.2).bind fun x_1 => (zW x_1 x1).bind fun x_2 => if x_2.1 = true then (idx x0 x.2).bind fun x_3 => (app x.1 [x_3]).bind fun zs => j zs else (idx x0 x.2).bind fun x_3 => (zZ x1).bind fun x_4 => (vN x_3 x_4.1).bind fun x_5 => if neI x_5.2.1 0 = true then .pure (.done (Sum.inr ([], x_5.2.1))) else (app x.1 x_5.1).bind fun zs => j zs else .pure (.done (Sum.inl x.1))) ([], 0)).bind fun (x_1 : A34) => match x_1 with
     | Sum.inl x_2 => if gtI (lenL x_2) 200 = true then .pure ([], 9, ()) else .pure (x_2, 0, ())
     | Sum.inr x => .pure (x.1, x.2, ())
def gD : List A2 → List A3 → Comp A18 := fun (x0 : A3) (x1 : A14) => (zU x0).bind fun x => jn (fun (x : Int) => if neI x 0 = true then .pure ([], x, ()) else (ze x0).bind fun x => jn (fun (x : A14) => (Comp.loop (fun (x : A17) => if ltI x.2 (lenL x1) = true then (idx x1 x.2).bind fun x_1 => (yH x.1 x_1).bind fun x_2 => if neI x_2.2.1 0 = true then .pure (.done (Sum.inr ([], x_2.2.1))) else .pure (.next (x_2.1, addW .i64 x.2 1)) else .pure (.done (Sum.inl x.1))) (x, 0)).bind fun (x : A34) => match x with
          | Sum.inl x => .pure (x, 0, ())
          | Sum.inr x => .pure (x.1, x.2, ())) fun (j : List A3 → Comp A18) => if x.1 = true then (zZ x0).bind fun x => (app [] [x.1]).bind fun zs => j zs else j []) fun (j : Int → Comp A18) => if eqI x.1 0 = true then (gE x1).bind fun x => j x.1 else j x.1
def yT : List A3 → List A2 → Comp A37 := fun (x0 : A14) (x1 : A3) => (gD x1 x0).bind fun x => .pure (sel (eqI x.2.1 0) (eqI (lenL x.1) 0) false, x.2.1, ())
def gC : Bytes × List A3 × List Int × Unit → List Bool × List Bool × List A3 × Unit → List A3 → List A3 → Comp A41 := fun (x0 : A8) (x1 : A4) (x2 x3 : A14) => (vM x0).bind fun x => if neI x.1 0 = true then .pure (([], [], [], ()), x.1, ()) else (vV x0 x1).bind fun x => if ntB x.1 = true then .pure (([], [], [], ()), 4, ()) else (z7 x2).bind fun x => jn (fun (x : Int) => if neI x 0 = true then .pure (([], [], [], ()), x, ()) else if gtI (addW .i64 (lenL x1.2.2.1) (lenL x2)) 24 = true then .pure (([], [], [], ()), 2, ()) else (vW x1.2.2.1).bind fun y => (vW x2).bind fun y_1 => (app y.1 y_1.1).bind fun zs => (Comp.loop (fun (x : Int × A4 × List Bool × List Bool × List A3 × Unit) => if ltI x.1 (lenL x0.2.1) = true then (idx x0.2.1 x.1).bind fun x_1 => (idx x1.2.1 x.1).bind fun x_2 => (Comp.gd (ntB x_2) (yI x_1 x2) (false, ())).bind fun x_3 => (Comp.gd (ntB (sel x_2 true (ntB x_3.1))) (yI x_1 x3) (false, ())).bind fun x_4 => (app x.2.2.2.1 [sel (sel x_2 true (ntB x_3.1)) true (ntB x_4.1)]).bind fun zs => (idx x1.1 x.1).bind fun x_5 => jn (fun (x_6 : Bool × List Bool × List Bool × List A3 × Unit) => (app x.2.2.1 [x_6.1]).bind fun zs_1 => .pure (.next (addW .i64 x.1 1, x_6.2, zs_1, zs, x.2.2.2.2.1, ()))) fun (j : Bool × List Bool × List Bool × List A3 × Unit → Comp (Comp.Step (Int × A4 × List Bool × List Bool × List A3 × Unit) A39)) => if ntB x_5 = true then (yf x.2.2.2.2.1 x_1).bind fun y => (yT y.1 x_1).bind fun x_6 => if neI x_6.2.1 0 = true then .pure (.done (Sum.inr (x_6.2.1, [], [], [], ()))) else j (x_6.1, x.2.1) else j (x_5, x.2.1) else .pure (.done (Sum.inl (x.2.1, x.2.2.1, x.2.2.2.1, x.2.2.2.2.1, ())))) (0, ([], [], [], ()), [], [], zs, ())).bind fun (x : A4 × List Bool × List Bool × List A3 × Unit ⊕ Int × List Bool × List Bool × List A3 × Unit) => match x with
               | Sum.inl x => .pure ((x.2.1, x.2.2.1, x.2.2.2.1, ()), 0, ())
               | Sum.inr x => .pure (x.2, x.1, ())) fun (j : Int → Comp A41) => if eqI x.1 0 = true then (z7 x3).bind fun x => j x.1 else j x.1
def yS : Bytes × List A3 × List Int × Unit → List Int → Int → Comp (A5 × Unit) := fun (x0 : A8) (x1 : A13) (x2 : Int) => (zD (x1, 0, ()) (Int.ofNat 6)).bind fun y => jn (fun (x : A35) => jn (fun (x_1 : A5) => (zD x.2 (Int.ofNat 5)).bind fun y => (Comp.loop (fun (x : Int × A5 × List Int × Int × Unit) => if ltI x.1 (lenL x0.2.1) = true then (zD x.2.2 (Int.ofNat 2)).bind fun y_1 => (idx x0.2.2.1 x.1).bind fun x_2 => jn (fun (x_3 : A35) => jn (fun (x_4 : List A3 × List A3 × Int × List Int × Unit) => .pure (.next (addW .i64 x.1 1, (x_4.1, x_4.2.1, x_4.2.2.1, x_4.2.2.2.1, ()), x_3.2))) fun (j : List A3 × List A3 × Int × List Int × Unit → Comp (Comp.Step (Int × A5 × List Int × Int × Unit) A5)) => if x_3.1 = true then (idx x0.2.1 x.1).bind fun x_4 => (app [] x_4).bind fun zs => (app x.2.1.1 [zs]).bind fun zs => j (zs, x.2.1.2.1, x.2.1.2.2.1, x.2.1.2.2.2.1, ()) else j (x.2.1.1, x.2.1.2.1, x.2.1.2.2.1, x.2.1.2.2.2.1, ())) fun (j : Bool × List Int × Int × Unit → Comp (Comp.Step (Int × A5 × List Int × Int × Unit) A5)) => if eqI x_2 1 = true then jn (fun (x : A35) => j (x.1, x.2)) fun (j : Bool × List Int × Int × Unit → Comp (Comp.Step (Int × A5 × List Int × Int × Unit) A5)) => if eqI y.2.1 4 = true then (zD y_1.1.1 (Int.ofNat 3)).bind fun y => j (eqI y.2.1 2, y.1.1) else j (false, y_1.1.1) else j (eqI y_1.2.1 1, y_1.1.1) else .pure (.done (x.2.1.1, x.2.1.2.1, x.2.1.2.2.1, x.2.1.2.2.2.1, ()))) (0, (x_1.1, x_1.2.1, x_1.2.2.1, x_1.2.2.2.1, ()), y.1.1)).bind fun x => jn (fun (x : List A3 × List A3 × Int × List Int × Unit) => jn (fun (x : List A3 × List A3 × Int × List Int × Unit) => .pure ((x.1, x.2.1, x.2.2.1, x.2.2.2.1, ()), ())) fun (j : List A3 × List A3 × Int × List Int × Unit → Comp (A5 × Unit)) => if eqI y.2.1 2 = true then (sub x1 (minI (lenL x1) 5) (lenL x1)).bind fun x_2 => (yV [x_2] x0).bind fun y => j (x.1, y.1, x.2.2.1, x.2.2.2.1, ()) else j (x.1, x.2.1, x.2.2.1, x.2.2.2.1, ())) fun (j : List A3 × List A3 × Int × List Int × Unit → Comp (A5 × Unit)) => if eqI y.2.1 3 = true then (sub x1 (minI (lenL x1) 4) (lenL x1)).bind fun x_2 => (yV [x_2] x0).bind fun x_3 => (app x.1 x_3.1).bind fun zs => j (zs, x.2.1, x.2.2.1, x.2.2.2.1, ()) else j (x.1, x.2.1, x.2.2.1, x.2.2.2.1, ())) fun (j : List A3 × List A3 × Int × List Int × Unit → Comp (A5 × Unit)) => if x.1 = true then j ([], [], addW .i64 1 y.2.1, [subW .i64 x2 1], ()) else j ([], [], addW .i64 1 y.2.1, [], ())) fun (j : Bool × List Int × Int × Unit → Comp (A5 × Unit)) => if gtI x2 0 = true then (zD y.1.1 (Int.ofNat 5)).bind fun y => j (eqI y.2.1 4, y.1.1) else j (false, y.1.1)
def vt : List Int → Comp A9 := fun (x0 : A13) => (Comp.loop (fun (x : Int) => if ltI x (lenL x0) = true then (idx x0 x).bind fun x_1 => (idx x0 (subW .i64 x 1)).bind fun x_2 => if leI x_1 x_2 = true then .pure (.done (Sum.inr false)) else .pure (.next (addW .i64 x 1)) else .pure (.done (Sum.inl ()))) 1).bind fun (x : A23) => match x with
   | Sum.inl x => .pure (true, ())
   | Sum.inr x => .pure (x, ())
def y5 : List A5 → Int → Comp A10 := fun (x0 : List A5) (x1 : Int) => (idx x0 x1).bind fun x => (app [] x.1).bind fun zs => (app zs x.2.1).bind fun zs_1 => (Comp.loop (fun (x_1 : Int) => if ltI x_1 (lenL zs_1) = true then (idx zs_1 x_1).bind fun x => (zU x).bind fun x => if neI x.1 0 = true then .pure (.done (Sum.inr x.1)) else .pure (.next (addW .i64 x_1 1)) else .pure (.done (Sum.inl ()))) 0).bind fun (x_1 : A21) => match x_1 with
      | Sum.inl x_2 => if sel (ltI x.2.2.1 1) true (gtI x.2.2.1 1048576) = true then .pure (3, ()) else (Comp.loop (fun (x_3 : Int) => if ltI x_3 (lenL x.2.2.2.1) = true then (idx x.2.2.2.1 x_3).bind fun x_4 => (Comp.gd (ntB (ltI x_4 0)) (idx x.2.2.2.1 x_3) (Int.ofNat 0)).bind fun x_5 => (Comp.gd (ntB (sel (ltI x_4 0) true (geI x_5 (lenL x0)))) (idx x.2.2.2.1 x_3) (Int.ofNat 0)).bind fun x_6 => if sel (sel (ltI x_4 0) true (geI x_5 (lenL x0))) true (eqI x_6 x1) = true then .pure (.done (Sum.inr 3)) else .pure (.next (addW .i64 x_3 1)) else .pure (.done (Sum.inl ()))) 0).bind fun (x_3 : A21) => match x_3 with
         | Sum.inl x_4 => (vt x.2.2.2.1).bind fun x => if ntB x.1 = true then .pure (7, ()) else .pure (0, ())
         | Sum.inr x => .pure (x, ())
      | Sum.inr x => .pure (x, ())
def vK : A8 × A4 × List A5 × Unit → Comp A10 := fun (x0 : A6 × A4 × List A5 × Unit) => (vM x0.1).bind fun x => if neI x.1 0 = true then .pure (x.1, ()) else (vV x0.1 x0.2.1).bind fun x => if ntB x.1 = true then .pure (4, ()) else if gtI (lenL x0.2.2.1) 8 = true then .pure (2, ()) else (Comp.loop (fun (x : A22) => if ltI x.2 (lenL x0.2.2.1) = true then (y5 x0.2.2.1 x.2).bind fun x_1 => if neI x_1.1 0 = true then .pure (.done (Sum.inr x_1.1)) else (idx x0.2.2.1 x.2).bind fun x_2 => .pure (.next (addW .i64 x.1 (lenL x_2.1), addW .i64 x.2 1)) else .pure (.done (Sum.inl x.1))) (lenL x0.2.1.2.2.1, 0)).bind fun (x : Int ⊕ Int) => match x with
        | Sum.inl x => if gtI x 24 = true then .pure (2, ()) else .pure (0, ())
        | Sum.inr x => .pure (x, ())
def gP : List A13 → Comp (A40 × Unit) := fun (x0 : List A13) => (sub x0 0 (minI (lenL x0) 2)).bind fun x => (gQ x).bind fun x_1 => (gl x_1.1).bind fun x_2 => jn (fun (x_3 : A6 × A4 × List A5 × Unit) => (Comp.loop (fun (x : Int × A6 × A4 × List A5 × Unit) => if sel (ltI x.1 (lenL x0)) (ltI x.1 7) false = true then (idx x0 x.1).bind fun x_4 => (yS x_1.1 x_4 (subW .i64 x.1 3)).bind fun x_5 => (app x.2.2.2.1 [x_5.1]).bind fun zs => .pure (.next (addW .i64 x.1 1, x.2.1, x.2.2.1, zs, ())) else .pure (.done (x.2.1, x.2.2.1, x.2.2.2.1, ()))) (3, x_3.1, x_3.2.1, x_3.2.2.1, ())).bind fun x_4 => jn (fun (x_5 : A6 × A4 × List A5 × Unit) => (Comp.loop (fun (x_6 : A6 × A4 × List A5 × Unit) => (Comp.gd (gtI (lenL x_6.2.2.1) 1) (vK (x_6.1, x_6.2.1, x_6.2.2.1, ())) (0, ())).bind fun x_7 => if sel (gtI (lenL x_6.2.2.1) 1) (eqI x_7.1 2) false = true then jn (fun (x : A6 × A4 × List A5 × Unit) => .pure (.next (x.1, x.2.1, x.2.2.1, ()))) fun (j : A6 × A4 × List A5 × Unit → Comp (Comp.Step A16 A16)) => (sub x_6.2.2.1 0 (subW .i64 (lenL x_6.2.2.1) 1)).bind fun ys => j (x_6.1, x_6.2.1, ys, ()) else .pure (.done (x_6.1, x_6.2.1, x_6.2.2.1, ()))) (x_5.1, x_5.2.1, x_5.2.2.1, ())).bind fun x => .pure ((x.1, x.2.1, x.2.2.1, ()), ())) fun (j : A6 × A4 × List A5 × Unit → Comp (A16 × Unit)) => if eqI (lenL x_4.2.2.1) 0 = true then (yS x_1.1 [] (Int.ofNat 0)).bind fun x => (app x_4.2.2.1 [x.1]).bind fun zs => j (x_4.1, x_4.2.1, zs, ()) else j (x_4.1, x_4.2.1, x_4.2.2.1, ())) fun (j : A6 × A4 × List A5 × Unit → Comp (A16 × Unit)) => if gtI (lenL x0) 2 = true then (idx x0 2).bind fun x => (zD (x, 0, ()) (Int.ofNat 3)).bind fun y => jn (fun (x : A6 × A4 × List A5 × Unit) => j (x.1, x.2.1, x.2.2.1, ())) fun (j : A6 × A4 × List A5 × Unit → Comp (A16 × Unit)) => if eqI y.2.1 2 = true then (idx x0 2).bind fun x => (idx x0 2).bind fun x_3 => (sub x (minI (lenL x_3) 1) (lenL x)).bind fun x => (yV [x] x_1.1).bind fun x => (gC x_1.1 x_2.1 x.1 []).bind fun x => jn (fun (x : A6 × A4 × List A5 × Unit) => j (x.1, x.2.1, x.2.2.1, ())) fun (j : A6 × A4 × List A5 × Unit → Comp (A16 × Unit)) => if eqI x.2.1 0 = true then j (x_1.1, x.1, [], ()) else j (x_1.1, x_2.1, [], ()) else j (x_1.1, x_2.1, [], ()) else j (x_1.1, x_2.1, [], ())
def gA : A8 × A4 × List A5 × Unit → List Int → Comp A24 := fun (x0 : A6 × A4 × List A5 × Unit) (x1 : A13) => (Comp.loop (fun (x : List Int × Int × List Int × Int × Unit) => if ltI x.2.1 (lenL x0.1.2.2.1) = true then (zD x.2.2 (Int.ofNat 6)).bind fun y => (idx x0.1.2.2.1 x.2.1).bind fun x_1 => jn (fun (x_2 : Int) => (app x.1 [x_2]).bind fun zs => .pure (.next (zs, addW .i64 x.2.1 1, y.1.1))) fun (j : Int → Comp (Comp.Step (List Int × Int × List Int × Int × Unit) A13)) => if sel (gtI y.2.1 0) (ltI y.2.1 4) false = true then j y.2.1 else j x_1 else .pure (.done x.1)) ([], 0, x1, 0, ())).bind fun x => .pure (x, ())
def gO : A8 × A4 × List A5 × Unit → List Int → Comp A24 := fun (x0 : A6 × A4 × List A5 × Unit) (x1 : A13) => (Comp.loop (fun (x : A27) => if sel (ltI x.2 (lenL x1)) (ltI x.2 4) false = true then (idx x1 x.2).bind fun x_1 => (yN x_1 (lenL x0.2.2.1)).bind fun x_2 => (Comp.loop (fun (x_3 : Bool × Int) => if ltI x_3.2 (lenL x.1) = true then (Comp.gd (ntB x_3.1) (idx x.1 x_3.2) (Int.ofNat 0)).bind fun x => .pure (.next (sel x_3.1 true (eqI x x_2.1), addW .i64 x_3.2 1)) else .pure (.done x_3.1)) (false, 0)).bind fun x_3 => jn (fun (x_4 : A13) => .pure (.next (x_4, addW .i64 x.2 1))) fun (j : List Int → Comp (Comp.Step A27 A13)) => if ntB x_3 = true then (app x.1 [x_2.1]).bind fun zs => j zs else j x.1 else .pure (.done x.1)) ([], 0)).bind fun x => .pure (x, ())
def yO : List A13 × List Int × List Int × Unit → Comp (A40 × List Int × List Int × Unit) := fun (x0 : List A13 × List Int × List Int × Unit) => (sub x0.1 0 (minI (lenL x0.1) 7)).bind fun x => (gP x).bind fun x => (gA x.1 x0.2.1).bind fun y => (gO x.1 x0.2.2.1).bind fun y_1 => .pure (x.1, y.1, y_1.1, ())
def ZN : List Int × List Int × List Int × Unit → Int → Comp A32 := fun (x0 : A32) (x1 : Int) => (Comp.loop (fun (x : List Int × List Int × Int) => if ltI x.2.2 x1 = true then jn (fun (x_1 : Int) => jn (fun (x_2 : Int) => (yN x_1 (Int.ofNat 4)).bind fun x_3 => (app x.1 [x_3.1]).bind fun zs => (yN x_2 (Int.ofNat 20)).bind fun x_4 => (app x.2.1 [x_4.1]).bind fun zs_1 => .pure (.next (zs, zs_1, addW .i64 x.2.2 1))) fun (j : Int → Comp (Comp.Step (List Int × List Int × Int) (List Int × List Int))) => if ltI x.2.2 (lenL x0.2.1) = true then (idx x0.2.1 x.2.2).bind fun x => j x else j (mulW .i64 3 x.2.2)) fun (j : Int → Comp (Comp.Step (List Int × List Int × Int) (List Int × List Int))) => if ltI x.2.2 (lenL x0.1) = true then (idx x0.1 x.2.2).bind fun x => j x else j x.2.2 else .pure (.done (x.1, x.2.1))) ([], [], 0)).bind fun x => (Comp.loop (fun (x : A27) => if ltI x.2 4 = true then (idx x0.2.2.1 x.2).bind fun x_1 => (yN x_1 (Int.ofNat 20)).bind fun x_2 => (app x.1 [x_2.1]).bind fun zs => .pure (.next (zs, addW .i64 x.2 1)) else .pure (.done x.1)) ([], 0)).bind fun x_1 => .pure (x.1, x.2, x_1, ())
def Zm : List A13 × List Int × List Int × Unit → List Int × List Int × List Int × Unit → Int → Int → Comp A9 := fun (x0 : List A13 × List Int × List Int × Unit) (x1 : A32) (x2 x3 : Int) => y6.bind fun x => (yO x0).bind fun x_1 => (ZN x1 (lenL x_1.2.2.1)).bind fun x_2 => (gq x_1.1 x_1.2.1 x_1.2.2.1).bind fun y => (vw x_1.1 x_1.2.1 x_1.2.2.1 x_2.1 x_2.2.1 x_2.2.2.1).bind fun y_1 => if sel (neI y.2.1 y_1.2.1) true (neI (lenL y_1.1) (lenL y.1)) = true then .pure (false, ()) else if neI y.2.1 0 = true then .pure (x.1, ()) else (Comp.loop (fun (x : A22) => if ltI x.2 4 = true then (kG y_1.1 x.2).bind fun x_3 => .pure (.next (addW .i64 x.1 x_3.1, addW .i64 x.2 1)) else .pure (.done x.1)) (0, -1)).bind fun x_3 => (Comp.loop (fun (x_4 : A22) => if ltI x_4.2 (lenL y_1.1) = true then (idx y_1.1 x_4.2).bind fun x_5 => (idx y.1 x_4.2).bind fun x_6 => if sel (sel (neI x_5.1 x_6) true (ltI x_5.1 0)) true (geI x_5.1 (lenL x_1.1.2.2.1)) = true then .pure (.done (Sum.inr false)) else (idx x_1.1.2.2.1 x_5.1).bind fun x_7 => (Comp.loop (fun (x_8 : Int) => if ltI x_8 (lenL x_1.2.2.1) = true then (idx x_1.2.2.1 x_8).bind fun x_9 => (idx x_2.2.1 x_8).bind fun x_10 => (idx x_2.1 x_8).bind fun x_11 => (idx x_2.2.2.1 x_11).bind fun x_12 => (Comp.gd (adB (gtI x_10 x_12) (eqI x_9 x_5.1)) (idx x_2.1 x_8) (Int.ofNat 0)).bind fun x_13 => (Comp.gd (adB (ntB (sel (sel (gtI x_10 x_12) (neI x_5.2.1 x_13) false) true (sel (ntB (gtI x_10 x_12)) (neI x_5.2.1 (-1)) false))) (eqI x_9 x_5.1)) (idx x_1.1.2.2.1 x_9) ([], [], 0, [], ())).bind fun x_14 => if sel (eqI x_9 x_5.1) (sel (sel (sel (gtI x_10 x_12) (neI x_5.2.1 x_13) false) true (sel (ntB (gtI x_10 x_12)) (neI x_5.2.1 (-1)) false)) true (neI x_5.2.2.1 x_14.2.2.1)) false = true then .pure (.done (Sum.inr false)) else .pure (.next (addW .i64 x_8 1)) else .pure (.done (Sum.inl ()))) 0).bind fun (x : A23) => match x with
                  | Sum.inl x => .pure (.next (addW .i64 x_4.1 x_7.2.2.1, addW .i64 x_4.2 1))
                  | Sum.inr x => .pure (.done (Sum.inr x)) else .pure (.done (Sum.inl x_4.1))) (0, 0)).bind fun (x_4 : Int ⊕ Bool) => match x_4 with
           | Sum.inl x_5 => (rem (convW .i64 x2) 4).bind fun x_6 => (app [] x_2.2.2.1).bind fun zs => (idx zs x_6).bind fun x_7 => (rem (convW .i64 x3) 20).bind fun x_8 => (inb zs.length x_6).bind fun x_9 => (vw x_1.1 x_1.2.1 x_1.2.2.1 x_2.1 x_2.2.1 (setL zs x_6 (addW .i64 x_7 x_8))).bind fun y => (Comp.gd (sel (sel x.1 (eqI x_3 x_5) false) (eqI y.2.1 0) false) (kG y.1 x_6) (0, ())).bind fun x_10 => (Comp.gd (sel (sel x.1 (eqI x_3 x_5) false) (eqI y.2.1 0) false) (kG y_1.1 x_6) (0, ())).bind fun x_11 => (Comp.gd (sel (sel (sel x.1 (eqI x_3 x_5) false) (eqI y.2.1 0) false) (leI x_10.1 x_11.1) false) (kG y.1 (Int.negSucc 0)) (0, ())).bind fun x_12 => (Comp.gd (sel (sel (sel x.1 (eqI x_3 x_5) false) (eqI y.2.1 0) false) (leI x_10.1 x_11.1) false) (kG y_1.1 (Int.negSucc 0)) (0, ())).bind fun x_13 => .pure (sel (sel (sel (sel x.1 (eqI x_3 x_5) false) (eqI y.2.1 0) false) (leI x_10.1 x_11.1) false) (geI x_12.1 x_13.1) false, ())
           | Sum.inr x => .pure (x, ())
def vv : List A13 × List Int × List Int × Unit → Int → Comp A9 := fun (x0 : List A13 × List Int × List Int × Unit) (x1 : Int) => y6.bind fun x => (yO x0).bind fun x_1 => (app [] x_1.2.1).bind fun zs => (app [] x_1.2.1).bind fun zs_1 => (rem (convW .i64 x1) (lenL x_1.2.1)).bind fun x_2 => (idx x_1.2.1 x_2).bind fun x_3 => if eqI x_3 1 = true then .pure (x.1, ()) else (inb zs.length x_2).bind fun x_4 => (inb zs_1.length x_2).bind fun x_5 => (gq x_1.1 (setL zs x_2 (Int.ofNat 3)) x_1.2.2.1).bind fun y => (gq x_1.1 (setL zs_1 x_2 (Int.ofNat 2)) x_1.2.2.1).bind fun y_1 => if neI y.2.1 y_1.2.1 = true then .pure (false, ()) else (Comp.loop (fun (x_6 : A22) => if ltI x_6.2 (lenL y.1) = true then (idx y.1 x_6.2).bind fun x_7 => (Comp.gd (ltI x_6.1 (lenL y_1.1)) (idx y_1.1 x_6.1) (Int.ofNat 0)).bind fun x_8 => jn (fun (x : Int) => .pure (.next (x, addW .i64 x_6.2 1))) fun (j : Int → Comp (Comp.Step A22 Int)) => if sel (ltI x_6.1 (lenL y_1.1)) (eqI x_8 x_7) false = true then j (addW .i64 x_6.1 1) else j x_6.1 else .pure (.done x_6.1)) (0, 0)).bind fun x_6 => .pure (sel x.1 (eqI x_6 (lenL y_1.1)) false, ())
end Go.F
end
section
namespace Go.Geo
open Go Go.Eng Go.Lift Go.Den Go.F
variable {α β γ δ ε σ τ : Type}
abbrev V3 := Int × Int × Int × Unit
abbrev Pnt := Int × Int × Int × Int × Unit
def okv (k n : Int) : Bool := decide (-k ≤ n ∧ n ≤ k)
def gcd3 (v : V3) : Nat := Nat.gcd (Nat.gcd v.1.natAbs v.2.1.natAbs) v.2.2.1.natAbs
def okN (v : V3) : Bool := okv 4608 v.1 && (okv 4608 v.2.1 && okv 4608 v.2.2.1)
def okP (p : Pln) : Bool := okN p.1 && (decide (gcd3 p.1 = 1) && okv 2097152 p.2.1)
theorem DG : ∀ (b a : Nat), (Comp.loop
   (fun (x : Int × Int) =>
    if gtI x.2 0 = true then (rem x.1 x.2).bind fun (x_3 : Int) => Comp.pure (Comp.Step.next (x.2, x_3))
    else Comp.pure (Comp.Step.done x.1)) ((a : Int), (b : Int))).val = some ((Nat.gcd a b : Nat) : Int) := by
 intro b
 induction b using Nat.strongRecOn with
 | _ b ih =>
  intro a
  conv => lhs; rw [Comp.zI]
  by_cases hb : 0 < b
  ·have h1 : (0 : Int) < (b : Int) := by omega
   have h2 : (rem (a : Int) (b : Int)).val = some ((a % b : Nat) : Int) := by rw [kM (by omega)]; rfl
   have := ih (a % b) (Nat.mod_lt _ hb) b
   simp only [gtI_t, h1, if_true, Comp.zA, h2, MW, Comp.zB]
   rw [show Nat.gcd a b = Nat.gcd b (a % b) by rw [Nat.gcd_comm a b, Nat.gcd_rec, Nat.gcd_comm]]
   simp only [gtI_t] at this
   exact this
  ·have h0 : b = 0 := by omega
   subst h0
   simp [gtI]
theorem mr : ∀ (b a : Int), ∃ r, r.natAbs = Nat.gcd a.natAbs b.natAbs ∧ (Comp.loop
   (fun (x : Int × Int) =>
    if neI x.2 0 = true then (rem x.1 x.2).bind fun (x_2 : Int) => Comp.pure (Comp.Step.next (x.2, x_2)) else Comp.pure (Comp.Step.done x.1)) (a, b)).val = some r := by
 intro b
 generalize hn : b.natAbs = n
 induction n using Nat.strongRecOn generalizing b with
 | _ n ih =>
  intro a
  by_cases hb : b = 0
  ·refine ⟨a, ?_, ?_⟩
   ·subst hb; simp at hn; simp [← hn]
   ·conv => lhs; rw [Comp.zI]
    simp [neI, hb]
  ·have hlt : (a.tmod b).natAbs < n := by rw [Int.natAbs_tmod, ← hn]; exact Nat.mod_lt _ (by omega)
   obtain ⟨r, h1, h2⟩ := ih _ hlt (a.tmod b) rfl b
   refine ⟨r, ?_, ?_⟩
   ·rw [h1, Int.natAbs_tmod, hn]
    exact (Nat.gcd_comm _ _).trans ((Nat.gcd_rec n a.natAbs).symm.trans (Nat.gcd_comm _ _))
   ·conv => lhs; rw [Comp.zI]
    simp only [neI_t, ne_eq, hb, not_false_eq_true, if_true, Comp.zA, kM hb, MW, Comp.zB]
    simp only [neI_t, ne_eq] at h2
    exact h2
theorem wJ {n : Int} (h : -9223372036854775808 < n ∧ n < 9223372036854775808) : maxI n (negW .i64 n) = (n.natAbs : Int) := by
 rw [JF h]; unfold maxI; omega
theorem wI {n : Int} (h : -9223372036854775808 < n ∧ n < 9223372036854775808) : (gK n).val = some ((n.natAbs : Int), ()) := by
 unfold gK; rw [Comp.zB, wJ h]
theorem uM {l : List Int} (hl : l.length < 9223372036854775807) (h : ∀ n ∈ l, -9223372036854775808 < n ∧ n < 9223372036854775808) : (jS l).val = some (((l.foldl (fun g n => Nat.gcd g n.natAbs) 0 : Nat) : Int), ()) := by
 unfold jS
 have h1 := Z5 (fun (s : Nat) i => (((s : Nat) : Int), ((i : Nat) : Int))) l (fun (s : Nat) n => Comp.Step.next (Nat.gcd s n.natAbs)) (fun s => (Sum.inl ((s : Nat) : Int) : Int ⊕ Int)) 0
  (body := fun (x : Int × Int) =>
      if ltI x.2 (lenL l) = true then
       (idx l x.2).bind fun (x_1 : Int) =>
        if eqI x_1 (-9223372036854775808) = true then Comp.pure (Comp.Step.done (Sum.inr 0))
        else
         (Go.F.gK x_1).bind fun (x_2 : Int × Unit) =>
          (Comp.loop
             (fun (x : Int × Int) =>
              if gtI x.2 0 = true then (rem x.1 x.2).bind fun (x_3 : Int) => Comp.pure (Comp.Step.next (x.2, x_3))
              else Comp.pure (Comp.Step.done x.1))
             (x.1, x_2.1)).bind
           fun (x_3 : Int) => Comp.pure (Comp.Step.next (x_3, addW .i64 x.2 1))
      else Comp.pure (Comp.Step.done (Sum.inl x.1)))
  (fun s i n hx => by
   have hlt := zG hx
   have hn := h n (List.mem_of_getElem? hx)
   have h1 : (i : Int) < lenL l := by rw [zC]; omega
   rw [if_pos (by rw [ltI_t]; exact h1), Comp.zA, zH hx, MW, if_neg (by rw [eqI_t]; omega), Comp.zA, wI hn, MW, Comp.zA, DG, MW, Comp.zB, zL (show i < 9223372036854775807 by omega)]
   rfl)
  (fun s => by
   have h1 : ¬ ((l.length : Int) < lenL l) := by rw [zC]; omega
   simp only [ltI_t, h1, if_false, Comp.zB])
 rw [Comp.Zi] at h1
 rw [Comp.zA]
 refine (congrArg (fun o => Option.bind o _) h1).trans ?_
 rw [MW]
 exact Comp.zB _
theorem X6 {k : Int} {l : List Int} (hk : 0 ≤ k ∧ k < 9223372036854775808) (hl : l.length < 9223372036854775807) : (vp k l).val = some (l.all fun n => okv k n, ()) := by
 unfold vp
 have h1 := j4 l (okv k) (c := (Sum.inr false : Unit ⊕ Bool)) (d := Sum.inl ())
  (body := fun (x : Int) =>
      if ltI x (lenL l) = true then
       (idx l x).bind fun (x_1 : Int) =>
        if sel (ltI x_1 (negW .i64 k)) true (gtI x_1 k) = true then Comp.pure (Comp.Step.done (Sum.inr false))
        else Comp.pure (Comp.Step.next (addW .i64 x 1))
      else Comp.pure (Comp.Step.done (Sum.inl ())))
  (fun i n hx => by
   have hlt := zG hx
   have h1 : (i : Int) < lenL l := by rw [zC]; omega
   rw [if_pos (by rw [ltI_t]; exact h1), Comp.zA, zH hx, MW, JF (by omega), zL (show i < 9223372036854775807 by omega), Comp.Zr]
   have e : sel (ltI n (-k)) true (gtI n k) = !okv k n := by
    rw [vo]; unfold ltI gtI okv
    by_cases h1 : n < -k <;> by_cases h2 : n > k <;> simp [h1, h2] <;> omega
   rw [e]
   cases okv k n <;> simp)
  (by
   have h1 : ¬ ((l.length : Int) < lenL l) := by rw [zC]; omega
   simp only [ltI_t, h1, if_false, Comp.zB])
 rw [Comp.zA]
 refine (congrArg (fun o => Option.bind o _) h1).trans ?_
 rw [MW]
 show _ = some (l.all (okv k), ())
 cases l.all (okv k) <;> exact Comp.zB _
theorem n5 {v : V3} (h : okN v = true) : ∀ n ∈ [v.1, v.2.1, v.2.2.1], -4608 ≤ n ∧ n ≤ 4608 := by
 unfold okN okv at h
 simp only [MY, decide_eq_true_eq] at h
 intro n hn
 simp only [List.mem_cons, List.not_mem_nil, or_false] at hn
 rcases hn with rfl | rfl | rfl <;> omega
theorem XB (p : Pln) : (kx p).val = some (okP p, ()) := by
 unfold kx
 have h1 : (vp (Int.ofNat 4608) [p.1.1, p.1.2.1, p.1.2.2.1]).val = some (okN p.1, ()) := by
  rw [X6 (by decide) (by simp)]
  simp [okN]
 have h2 : (vp (Int.ofNat 2097152) [p.2.1]).val = some (okv 2097152 p.2.1, ()) := by
  rw [X6 (by decide) (by simp)]
  simp
 rw [jn_eq, Comp.zA, h1, MW, Comp.Zr]
 cases hN : okN p.1 with
 | false => simp [okP, hN]
 | true =>
  rw [if_pos rfl]
  have h3 := uM (l := [p.1.1, p.1.2.1, p.1.2.2.1]) (by simp) (fun n hn => by have := n5 hN n hn; omega)
  have h4 : [p.1.1, p.1.2.1, p.1.2.2.1].foldl (fun g n => Nat.gcd g n.natAbs) 0 = gcd3 p.1 := by simp [gcd3]
  rw [h4] at h3
  rw [Comp.zA, h3, MW, Comp.Zr]
  by_cases hg : gcd3 p.1 = 1
  ·have : eqI ((gcd3 p.1 : Nat) : Int) 1 = true := by rw [eqI_t]; omega
   rw [if_pos this, Comp.zA, h2, MW, Comp.zB]
   unfold okP; rw [hN, decide_eq_true hg]; rfl
  ·have : eqI ((gcd3 p.1 : Nat) : Int) 1 = false := by unfold eqI; rw [decide_eq_false]; omega
   rw [if_neg (by rw [this]; simp), Comp.zB]
   unfold okP; rw [hN, decide_eq_false hg]; rfl
end Go.Geo
end
section
namespace Go.Geo
open Go Go.Eng Go.Lift Go.Den Go.F
variable {α β γ δ ε σ τ : Type}
def chk (c : List Pln) : Int := if 48 < c.length then 2 else bif c.all okP then 0 else 12
theorem MJ {c : List Pln} : chk c = 0 ↔ c.length ≤ 48 ∧ c.all okP = true := by
 unfold chk
 split
 ·simp; omega
 ·cases c.all okP <;> simp; omega
theorem GZ (c : List Pln) : (c.any fun p => !okP p) = !c.all okP := by rw [List.all_eq_not_any_not, Bool.not_not]
theorem vi (c : List Pln) : (yx c).val = some (chk c, ()) := by
 unfold yx chk
 by_cases h : 48 < c.length
 ·rw [if_pos (by rw [gtI_t, zC]; omega), if_pos h, Comp.zB]
 ·rw [if_neg (by rw [gtI_t, zC]; omega), if_neg h]
  have h1 : (zS c fun z => gH z.1).val = some (c.any fun p => !okP p, ()) :=
   jw (xs := c) (f := fun z => gH z.1) (p := fun p => !okP p) (by omega) fun p _ => by
    show (gH p).val = _
    unfold gH
    rw [Comp.zA, XB, MW, Comp.zB]; rfl
  rw [Comp.zA, h1, MW, GZ, Comp.Zr]
  cases c.all okP <;> simp
theorem kP (l : List (List Pln)) (hl : l.length < 9223372036854775807) : (jd l).val = some (l.all fun c => decide (chk c = 0), ()) := by
 unfold jd
 have h1 : (zK l fun z => gG z.1).val = some (l.any fun c => !decide (chk c = 0), ()) :=
  jw (xs := l) (f := fun z => gG z.1) (p := fun c => !decide (chk c = 0)) hl fun c _ => by
   show (gG c).val = _
   unfold gG
   rw [Comp.zA, vi, MW, Comp.zB]
   unfold neI
   by_cases h : chk c = 0 <;> simp [h]
 rw [Comp.zA, h1, MW, Comp.zB, yk, List.all_eq_not_any_not]
theorem BC {n : Int} (h : -9223372036854775808 < n ∧ n < 9223372036854775808) : (yZ n).val = some ((n.natAbs : Int), ()) := by
 unfold yZ
 by_cases h0 : n < 0
 ·rw [if_pos (by rw [ltI_t]; exact h0), Comp.zB, JF h]; congr 2; omega
 ·rw [if_neg (by rw [ltI_t]; exact h0), Comp.zB]; congr 2; omega
theorem py {v : V3} (h : okN v = true) : ∃ u, (vY v).val = some (u, ((gcd3 v : Nat) : Int), ()) := by
 have hin := n5 h
 unfold vY
 have hc : (zl v).val = some ([v.1, v.2.1, v.2.2.1], ()) := by unfold zl; exact Comp.zB _
 rw [Comp.zA, hc, MW]
 simp only
 generalize hl : [v.1, v.2.1, v.2.2.1] = l at hin
 have hlen : l.length = 3 := by rw [← hl]; rfl
 have h1 := Z5 (fun (s : Nat) i => ((((s : Nat) : Int), ((i : Nat) : Int), (0, 0, 0, ())) : Int × Int × Int × Int × Int × Unit)) l (fun (s : Nat) n => Comp.Step.next (Nat.gcd s n.natAbs)) (fun s => (Sum.inl ((((s : Nat) : Int), (0, 0, 0, ())) : Int × Int × Int × Int × Unit) : (Int × Int × Int × Int × Unit) ⊕ (Int × Int × Int × Int × Unit))) 0
  (body := (fun (x_1 : Int × Int × Int × Int × Int × Unit) =>
       if ltI x_1.2.1 3 = true then
        (idx l x_1.2.1).bind fun (x_2 : Int) =>
         if eqI x_2 (-9223372036854775808) = true then Comp.pure (Comp.Step.done (Sum.inr (0, 0, 0, 0, ())))
         else
          (idx l x_1.2.1).bind fun (x : Int) =>
           (Go.F.yZ x).bind fun (x : Int × Unit) =>
            (Comp.loop
               (fun (x : Int × Int) =>
                if gtI x.2 0 = true then (rem x.1 x.2).bind fun (x_3 : Int) => Comp.pure (Comp.Step.next (x.2, x_3))
                else Comp.pure (Comp.Step.done x.1))
               (x_1.1, x.1)).bind
             fun (x : Int) => Comp.pure (Comp.Step.next (x, addW .i64 x_1.2.1 1, x_1.2.2))
       else Comp.pure (Comp.Step.done (Sum.inl (x_1.1, x_1.2.2)))))
  (fun s i n hx => by
   have hlt := zG hx
   have hn := hin n (List.mem_of_getElem? hx)
   rw [if_pos (by rw [ltI_t]; show (i : Int) < 3; omega), Comp.zA, zH hx, MW, if_neg (by rw [eqI_t]; omega), Comp.zA, zH hx, MW, Comp.zA, BC (by omega), MW, Comp.zA, DG, MW, Comp.zB, zL (show i < 9223372036854775807 by omega)]
   rfl)
  (fun s => by
   rw [if_neg (by rw [ltI_t, hlen]; simp), Comp.zB])
 rw [Comp.Zi] at h1
 have hg : l.foldl (fun g n => Nat.gcd g n.natAbs) 0 = gcd3 v := by rw [← hl]; simp [gcd3]
 rw [hg] at h1
 rw [Comp.zA]
 have h2 := congrArg (fun o => Option.bind o fun (x : (Int × Int × Int × Int × Unit) ⊕ (Int × Int × Int × Int × Unit)) =>
    (match x with
    | Sum.inl x =>
     if eqI x.1 0 = true then Comp.pure ((0, 0, 0, ()), 0, ())
     else
      (quo .i64 v.1 x.1).bind fun (x_1 : Int) =>
       (quo .i64 v.2.1 x.1).bind fun (x_2 : Int) =>
        (quo .i64 v.2.2.1 x.1).bind fun (x_3 : Int) => Comp.pure ((x_1, x_2, x_3, ()), x.1, ())
    | Sum.inr x => Comp.pure (x.2, x.1, ()) : Comp Pln).val) h1
 by_cases h0 : gcd3 v = 0
 ·refine ⟨(0, 0, 0, ()), h2.trans ?_⟩
  show (if eqI ((gcd3 v : Nat) : Int) 0 = true then _ else _ : Comp Pln).val = _
  rw [if_pos (by rw [eqI_t]; omega), Comp.zB, h0]; rfl
 ·have hq : ∀ n, ∃ m, (quo .i64 n ((gcd3 v : Nat) : Int)).val = some m := fun n => by
   unfold quo
   rw [if_neg (by omega)]
   exact ⟨_, Comp.zB _⟩
  obtain ⟨a, ha⟩ := hq v.1
  obtain ⟨b, hb⟩ := hq v.2.1
  obtain ⟨c, hc⟩ := hq v.2.2.1
  refine ⟨(a, b, c, ()), h2.trans ?_⟩
  show (if eqI ((gcd3 v : Nat) : Int) 0 = true then _ else _ : Comp Pln).val = _
  rw [if_neg (by rw [eqI_t]; omega), Comp.zA, ha, MW, Comp.zA, hb, MW, Comp.zA, hc, MW, Comp.zB]
theorem q8 (p : Pln) : (vP p).val = some (okP p, ()) := by
 unfold vP
 have hc : (zl p.1).val = some ([p.1.1, p.1.2.1, p.1.2.2.1], ()) := by unfold zl; exact Comp.zB _
 rw [Comp.zA, hc, MW]
 have h1 := j4 [p.1.1, p.1.2.1, p.1.2.2.1] (okv 4608) (c := (Sum.inr false : Unit ⊕ Bool)) (d := Sum.inl ())
  (body := (fun (x_1 : Int) =>
       if ltI x_1 3 = true then
        (idx [p.1.1, p.1.2.1, p.1.2.2.1] x_1).bind fun (x_2 : Int) =>
         (Comp.gd (ntB (ltI x_2 (-4608))) (idx [p.1.1, p.1.2.1, p.1.2.2.1] x_1) (Int.ofNat 0)).bind fun (x_3 : Int) =>
          if sel (ltI x_2 (-4608)) true (gtI x_3 4608) = true then Comp.pure (Comp.Step.done (Sum.inr false))
          else Comp.pure (Comp.Step.next (addW .i64 x_1 1))
       else Comp.pure (Comp.Step.done (Sum.inl ()))))
  (fun i n hx => by
   have hlt := zG hx
   have hlt3 : i < 3 := hlt
   rw [if_pos (by rw [ltI_t]; omega), Comp.zA, zH hx, MW, Comp.zA, Comp.CU, zH hx, zL (show i < 9223372036854775807 by omega)]
   unfold okv
   by_cases h1 : n < -4608
   ·have : ltI n (-4608) = true := by rw [ltI_t]; exact h1
    have h2 : ¬ (-4608 ≤ n ∧ n ≤ 4608) := by omega
    simp [this, yk, sel, h2]
   ·have : ltI n (-4608) = false := by unfold ltI; exact decide_eq_false h1
    by_cases h3 : n > 4608
    ·have h2 : ¬ (-4608 ≤ n ∧ n ≤ 4608) := by omega
     have h4 : gtI n 4608 = true := by rw [gtI_t]; exact h3
     simp [this, yk, sel, h2, h4]
    ·have h2 : (-4608 ≤ n ∧ n ≤ 4608) := by omega
     have h4 : gtI n 4608 = false := by unfold gtI; exact decide_eq_false h3
     simp [this, yk, sel, h2, h4])
  (by rw [if_neg (by rw [ltI_t]; simp), Comp.zB])
 rw [Comp.zA]
 have hall : [p.1.1, p.1.2.1, p.1.2.2.1].all (okv 4608) = okN p.1 := by simp [okN]
 rw [hall] at h1
 refine (congrArg (fun o => Option.bind o _) h1).trans ?_
 rw [MW]
 cases hN : okN p.1 with
 | false => exact (Comp.zB _).trans (by unfold okP; rw [hN]; rfl)
 | true =>
  obtain ⟨u, hu⟩ := py hN
  show ((vY p.1).bind fun (x : Pln) => Comp.pure (sel (sel (eqI x.2.1 1) (geI p.2.1 (-2097152)) false) (leI p.2.1 2097152) false, ())).val = _
  rw [Comp.zA, hu, MW, Comp.zB]
  unfold okP okv
  rw [hN, ko, ko]
  unfold eqI geI leI
  congr 2
  have : decide (((gcd3 p.1 : Nat) : Int) = 1) = decide (gcd3 p.1 = 1) := by by_cases hg : gcd3 p.1 = 1 <;> simp [hg] <;> omega
  rw [this]
  by_cases h1 : p.2.1 ≥ -2097152 <;> by_cases h2 : p.2.1 ≤ 2097152 <;> simp [h1, h2]
theorem gW (c : List Pln) : (zU c).val = some (chk c, ()) := by
 unfold zU chk
 by_cases h : 48 < c.length
 ·rw [if_pos (by rw [gtI_t, zC]; omega), if_pos h, Comp.zB]
 ·rw [if_neg (by rw [gtI_t, zC]; omega), if_neg h]
  have h1 := j4 c okP (c := (Sum.inr 12 : Unit ⊕ Int)) (d := Sum.inl ())
   (body := (fun (x : Int) =>
       if ltI x (lenL c) = true then
        (idx c x).bind fun (x_1 : Pln) =>
         (Go.F.vP x_1).bind fun (x_2 : Bool × Unit) =>
          if ntB x_2.1 = true then Comp.pure (Comp.Step.done (Sum.inr 12)) else Comp.pure (Comp.Step.next (addW .i64 x 1))
       else Comp.pure (Comp.Step.done (Sum.inl ()))))
   (fun i p hx => by
    have hlt := zG hx
    rw [if_pos (by rw [ltI_t, zC]; omega), Comp.zA, zH hx, MW, Comp.zA, q8, MW, Comp.Zr, yk, zL (show i < 9223372036854775807 by omega)]
    cases okP p <;> simp)
   (by rw [if_neg (by rw [ltI_t, zC]; omega), Comp.zB])
  rw [Comp.zA]
  refine (congrArg (fun o => Option.bind o _) h1).trans ?_
  rw [MW]
  cases c.all okP <;> exact Comp.zB _
end Go.Geo
end
section
namespace Go.Geo
open Go Go.Eng Go.Lift Go.Den Go.F
variable {α β γ δ ε σ τ : Type}
def cr (a b : V3) : V3 := (a.2.1 * b.2.2.1 - a.2.2.1 * b.2.1, a.2.2.1 * b.1 - a.1 * b.2.2.1, a.1 * b.2.1 - a.2.1 * b.1, ())
def dt (a b : V3) : Int := a.1 * b.1 + a.2.1 * b.2.1 + a.2.2.1 * b.2.2.1
def ad (a b : V3) : V3 := (a.1 + b.1, a.2.1 + b.2.1, a.2.2.1 + b.2.2.1, ())
def sc (a : V3) (n : Int) : V3 := (a.1 * n, a.2.1 * n, a.2.2.1 * n, ())
def Bd (k : Int) (v : V3) : Prop := (-k ≤ v.1 ∧ v.1 ≤ k) ∧ (-k ≤ v.2.1 ∧ v.2.1 ≤ k) ∧ (-k ≤ v.2.2.1 ∧ v.2.2.1 ≤ k)
theorem gL {a b A B : Int} (ha : -A ≤ a ∧ a ≤ A) (hb : -B ≤ b ∧ b ≤ B) : -(A * B) ≤ a * b ∧ a * b ≤ A * B := by
 have hA : 0 ≤ A := by omega
 have hB : 0 ≤ B := by omega
 have h1 : (a * b).natAbs ≤ (A * B).natAbs := by
  rw [Int.natAbs_mul, Int.natAbs_mul]
  exact Nat.mul_le_mul (by omega) (by omega)
 have h2 : 0 ≤ A * B := Int.mul_nonneg hA hB
 omega
theorem Im {v : V3} (h : okN v = true) : Bd 4608 v := by
 have := n5 h
 exact ⟨this v.1 (by simp), this v.2.1 (by simp), this v.2.2.1 (by simp)⟩
theorem cr_bd {a b : V3} (ha : Bd 4608 a) (hb : Bd 4608 b) : Bd 42467328 (cr a b) := by
 obtain ⟨a1, a2, a3⟩ := ha
 obtain ⟨b1, b2, b3⟩ := hb
 have e1 := gL a2 b3; have e2 := gL a3 b2; have e3 := gL a3 b1; have e4 := gL a1 b3; have e5 := gL a1 b2; have e6 := gL a2 b1
 unfold cr Bd
 simp only
 refine ⟨?_, ?_, ?_⟩ <;> omega
theorem sc_bd {a : V3} {n A B : Int} (ha : Bd A a) (hn : -B ≤ n ∧ n ≤ B) : Bd (A * B) (sc a n) := ⟨gL ha.1 hn, gL ha.2.1 hn, gL ha.2.2 hn⟩
theorem Bd.le {A B : Int} {v : V3} (h : Bd A v) (hAB : A ≤ B) : Bd B v := by
 obtain ⟨h1, h2, h3⟩ := h
 refine ⟨?_, ?_, ?_⟩ <;> omega
theorem YI {a b : V3} (ha : Bd 4608 a) (hb : Bd 4608 b) : (jm a b).val = some (cr a b, ()) := by
 obtain ⟨a1, a2, a3⟩ := ha
 obtain ⟨b1, b2, b3⟩ := hb
 have e1 := gL a2 b3; have e2 := gL a3 b2; have e3 := gL a3 b1; have e4 := gL a1 b3; have e5 := gL a1 b2; have e6 := gL a2 b1
 unfold jm
 rw [Comp.zB, ZL (m := a.2.1) (by omega), ZL (m := a.2.2.1) (by omega), ZL (m := a.2.2.1) (by omega), ZL (m := a.1) (by omega), ZL (m := a.1) (by omega), ZL (m := a.2.1) (by omega),
  ZH (by omega), ZH (by omega), ZH (by omega)]
 rfl
theorem Ze {a b : V3} (ha : Bd 4608 a) (hb : Bd 4608 b) : (yg a b).val = some (cr a b, ()) := YI ha hb
theorem KJ {a b : V3} (ha : Bd 4608 a) (hb : Bd 42467328 b) : (jl a b).val = some (dt a b, ()) := by
 obtain ⟨a1, a2, a3⟩ := ha
 obtain ⟨b1, b2, b3⟩ := hb
 have e1 := gL a1 b1; have e2 := gL a2 b2; have e3 := gL a3 b3
 unfold jl
 rw [Comp.zB, ZL (m := a.1) (by omega), ZL (m := a.2.1) (by omega), ZL (m := a.2.2.1) (by omega), yr (m := a.1 * b.1) (by omega), yr (by omega)]
 rfl
theorem BB {a b : V3} (ha : Bd 4608 a) (hb : Bd 42467328 b) : (jy a b).val = some (dt a b, ()) := KJ ha hb
theorem Z1 {a : V3} {n : Int} (h : Bd 9223372036854775807 (sc a n)) : (kX a n).val = some (sc a n, ()) := by
 obtain ⟨h1, h2, h3⟩ := h
 unfold sc at h1 h2 h3
 simp only at h1 h2 h3
 unfold kX
 rw [Comp.zB, ZL (m := a.1) (by omega), ZL (m := a.2.1) (by omega), ZL (m := a.2.2.1) (by omega)]
 rfl
theorem kt {a : V3} {n : Int} (h : Bd 9223372036854775807 (sc a n)) : (yA a n).val = some (sc a n, ()) := Z1 h
theorem KQ {a b : V3} (h : Bd 9223372036854775807 (ad a b)) : (ZU a b).val = some (ad a b, ()) := by
 obtain ⟨h1, h2, h3⟩ := h
 unfold ad at h1 h2 h3
 simp only at h1 h2 h3
 unfold ZU
 rw [Comp.zB, yr (m := a.1) (by omega), yr (m := a.2.1) (by omega), yr (m := a.2.2.1) (by omega)]
 rfl
theorem u7 {a b : V3} (h : Bd 9223372036854775807 (ad a b)) : (gm a b).val = some (ad a b, ()) := KQ h
theorem ad_bd {a b : V3} {A B : Int} (ha : Bd A a) (hb : Bd B b) : Bd (A + B) (ad a b) := by
 obtain ⟨a1, a2, a3⟩ := ha
 obtain ⟨b1, b2, b3⟩ := hb
 unfold ad Bd
 simp only
 refine ⟨?_, ?_, ?_⟩ <;> omega
def det (p q r : Pln) : Int := dt p.1 (cr q.1 r.1)
def num (p q r : Pln) : V3 := ad (ad (sc (cr q.1 r.1) p.2.1) (sc (cr r.1 p.1) q.2.1)) (sc (cr p.1 q.1) r.2.1)
theorem uN (p q r : Pln) : det p q r = dt r.1 (cr p.1 q.1) := by
 unfold det dt cr
 simp only [Int.mul_sub]
 generalize p.1.1 = a1; generalize p.1.2.1 = a2; generalize p.1.2.2.1 = a3
 generalize q.1.1 = b1; generalize q.1.2.1 = b2; generalize q.1.2.2.1 = b3
 generalize r.1.1 = c1; generalize r.1.2.1 = c2; generalize r.1.2.2.1 = c3
 have e : ∀ x y z : Int, x * (y * z) = z * (x * y) := fun x y z => by rw [← Int.mul_assoc, Int.mul_comm]
 have e1 := e a1 b2 c3; have e2 := e a1 b3 c2; have e3 := e a2 b3 c1; have e4 := e a2 b1 c3; have e5 := e a3 b1 c2; have e6 := e a3 b2 c1
 rw [e1, e2, e3, e4, e5, e6, Int.mul_comm a2 b1, Int.mul_comm a3 b1, Int.mul_comm a3 b2]
 rw [Int.mul_comm b1 a2, Int.mul_comm b1 a3, Int.mul_comm b2 a3]
 omega
def okB (p : Pln) : Prop := Bd 4608 p.1 ∧ (-2097152 ≤ p.2.1 ∧ p.2.1 ≤ 2097152)
theorem okP_B {p : Pln} (h : okP p = true) : okB p := by
 unfold okP okv at h
 simp only [MY, decide_eq_true_eq] at h
 exact ⟨Im h.1, h.2.2⟩
theorem DK {p q r : Pln} (hp : okB p) (hq : okB q) (hr : okB r) : -600000000000 ≤ det p q r ∧ det p q r ≤ 600000000000 := by
 have hc := cr_bd hq.1 hr.1
 have e1 := gL hp.1.1 hc.1; have e2 := gL hp.1.2.1 hc.2.1; have e3 := gL hp.1.2.2 hc.2.2
 unfold det dt
 omega
theorem Cv {p q r : Pln} (hp : okB p) (hq : okB q) (hr : okB r) : Bd 300000000000000 (num p q r) := by
 have h1 := sc_bd (cr_bd hq.1 hr.1) hp.2
 have h2 := sc_bd (cr_bd hr.1 hp.1) hq.2
 have h3 := sc_bd (cr_bd hp.1 hq.1) hr.2
 exact (ad_bd (ad_bd h1 h2) h3).le (by decide)
def gcd4 (v : V3) (w : Int) : Nat := Nat.gcd (Nat.gcd v.1.natAbs v.2.1.natAbs) (Nat.gcd v.2.2.1.natAbs w.natAbs)
def mkP (v : V3) (w : Int) : Pnt :=
 let g : Int := (gcd4 v w : Nat)
 if w < 0 then ((-v.1).tdiv g, (-v.2.1).tdiv g, (-v.2.2.1).tdiv g, (-w).tdiv g, ()) else (v.1.tdiv g, v.2.1.tdiv g, v.2.2.1.tdiv g, w.tdiv g, ())
def mt (p q r : Pln) : Option Pnt := if det p q r = 0 then none else some (mkP (num p q r) (det p q r))
def outM : Option Pnt → Pnt × Bool × Unit
 | some x => (x, true, ())
 | none => ((0, 0, 0, 0, ()), false, ())
theorem qB {v : V3} {w : Int} (h : w ≠ 0) : 0 < gcd4 v w := by
 unfold gcd4
 refine Nat.gcd_pos_of_pos_right _ (Nat.gcd_pos_of_pos_right _ (by omega))
theorem Dw {a b : Int} : (a.tdiv b).natAbs ≤ a.natAbs := by rw [Int.natAbs_tdiv]; exact Nat.div_le_self _ _
theorem jN {a b : Int} (hb : b ≠ 0) (ha : -9223372036854775808 < a ∧ a < 9223372036854775808) : (quo .i64 a b).val = some (a.tdiv b) := by
 unfold quo
 rw [if_neg hb, Comp.zB]
 have := Dw (a := a) (b := b)
 exact congrArg some (W_in (by omega))
theorem wH {v : V3} {w : Int} (hv : Bd 300000000000000 v) (hw : -600000000000 ≤ w ∧ w ≤ 600000000000) : (Yo [v.1, v.2.1, v.2.2.1, w]).val = some (((gcd4 v w : Nat) : Int), ()) := by
 unfold Yo
 generalize hl : [v.1, v.2.1, v.2.2.1, w] = l
 have hlen : l.length = 4 := by rw [← hl]; rfl
 have key : ∀ (ys zs : List Int) (g : Int), l = zs ++ ys → ∃ r, r.natAbs = ys.foldl (fun g n => Nat.gcd g n.natAbs) g.natAbs ∧ (Comp.loop
     (fun (x : Int × Int) =>
      if ltI x.2 (lenL l) = true then
       (idx l x.2).bind fun (x_1 : Int) =>
        (Comp.loop
           (fun (x : Int × Int) =>
            if neI x.2 0 = true then (rem x.1 x.2).bind fun (x_2 : Int) => Comp.pure (Comp.Step.next (x.2, x_2)) else Comp.pure (Comp.Step.done x.1))
           (x.1, x_1)).bind
         fun (x_2 : Int) => Comp.pure (Comp.Step.next (x_2, addW .i64 x.2 1))
      else Comp.pure (Comp.Step.done x.1)) (g, (zs.length : Int))).val = some r := by
  intro ys
  induction ys with
  | nil =>
   intro zs g hx
   refine ⟨g, rfl, ?_⟩
   rw [Comp.zI, if_neg (by rw [ltI_t, zC, hx]; simp), Comp.zB, MW]
  | cons y ys ih =>
   intro zs g hx
   have hy : l[zs.length]? = some y := by rw [hx]; simp
   have hlt := zG hy
   obtain ⟨r1, h1, h2⟩ := mr y g
   obtain ⟨r, h3, h4⟩ := ih (zs ++ [y]) r1 (by rw [hx]; simp)
   refine ⟨r, by rw [h3, List.foldl_cons, h1], ?_⟩
   rw [Comp.zI, if_pos (by rw [ltI_t, zC]; show (zs.length : Int) < _; omega), Comp.zA, zH hy, MW, Comp.zA, h2, MW, Comp.zB, zL (by omega), MW]
   simpa using h4
 obtain ⟨r, h1, h2⟩ := key l [] 0 rfl
 rw [Comp.zA]
 refine (congrArg (fun o => Option.bind o _) h2).trans ?_
 rw [MW, Comp.zB]
 have hg : r.natAbs = gcd4 v w := by
  rw [h1, ← hl]
  simp only [List.foldl_cons, List.foldl_nil, Int.natAbs_zero, Nat.gcd_zero_left]
  unfold gcd4
  rw [Nat.gcd_assoc]
 have hgw : (gcd4 v w) ≤ 900000000000000 := by
  unfold gcd4
  by_cases hw0 : w = 0
  ·by_cases h3 : v.2.2.1 = 0
   ·by_cases h2 : v.2.1 = 0
    ·rw [hw0, h3, h2]; simp; have := hv.1; omega
    ·refine Nat.le_trans (Nat.le_of_dvd (by omega) (Nat.dvd_trans (Nat.gcd_dvd_left _ _) (Nat.gcd_dvd_right _ _)) : _ ≤ v.2.1.natAbs) ?_
     have := hv.2.1; omega
   ·refine Nat.le_trans (Nat.le_of_dvd (by omega) (Nat.dvd_trans (Nat.gcd_dvd_right _ _) (Nat.gcd_dvd_left _ _)) : _ ≤ v.2.2.1.natAbs) ?_
    have := hv.2.2; omega
  ·refine Nat.le_trans (Nat.le_of_dvd (by omega) (Nat.dvd_trans (Nat.gcd_dvd_right _ _) (Nat.gcd_dvd_right _ _)) : _ ≤ w.natAbs) ?_
   omega
 rw [wJ (by omega), hg]
theorem YV (a b : Nat) : (zb (a : Int) (b : Int)).val = some (((Nat.gcd a b : Nat) : Int), ()) := by
 unfold zb
 obtain ⟨r, h1, h2⟩ := mr (b : Int) (a : Int)
 have key : ∀ (b a : Nat), (Comp.loop
   (fun (x : Int × Int) =>
    if neI x.2 0 = true then (rem x.1 x.2).bind fun (x_2 : Int) => Comp.pure (Comp.Step.next (x.2, x_2)) else Comp.pure (Comp.Step.done x.1)) ((a : Int), (b : Int))).val = some ((Nat.gcd a b : Nat) : Int) := by
  intro b
  induction b using Nat.strongRecOn with
  | _ b ih =>
   intro a
   rw [Comp.zI]
   by_cases hb : b = 0
   ·subst hb
    rw [if_neg (by rw [neI_t]; simp), Comp.zB, MW]; simp
   ·have h2 : (rem (a : Int) (b : Int)).val = some ((a % b : Nat) : Int) := by rw [kM (by omega)]; rfl
    rw [if_pos (by rw [neI_t]; show (b : Int) ≠ 0; omega), Comp.zA, h2, MW, Comp.zB, MW]
    refine (ih (a % b) (Nat.mod_lt _ (by omega)) b).trans ?_
    rw [show Nat.gcd a b = Nat.gcd b (a % b) by rw [Nat.gcd_comm a b, Nat.gcd_rec, Nat.gcd_comm]]
 rw [Comp.zA, key, MW, Comp.zB]
theorem Is {v : V3} {k : Int} (h : Bd k v) : Bd k (sc v (-1)) := by
 obtain ⟨h1, h2, h3⟩ := h
 unfold sc Bd
 simp only
 refine ⟨?_, ?_, ?_⟩ <;> omega
theorem KM {p q r : Pln} (hp : okB p) (hq : okB q) (hr : okB r) : (Zb [p, q, r]).val = some (outM (mt p q r)) := by
 unfold Zb
 have hd := DK hp hq hr
 have hn := Cv hp hq hr
 have c1 := cr_bd hq.1 hr.1; have c2 := cr_bd hr.1 hp.1; have c3 := cr_bd hp.1 hq.1
 have s1 := sc_bd c1 hp.2; have s2 := sc_bd c2 hq.2; have s3 := sc_bd c3 hr.2
 have z : Bd 0 (0, 0, 0, ()) := by unfold Bd; simp
 have a1 := ad_bd z s1; have a2 := ad_bd a1 s2; have a3 := ad_bd a2 s3
 have hz : ad (0, 0, 0, ()) (sc (cr q.1 r.1) p.2.1) = sc (cr q.1 r.1) p.2.1 := by unfold ad; simp
 have r1 : (rem (addW .i64 0 1) 3).val = some 1 := by rw [kM (by decide)]; rfl
 have r2 : (rem (addW .i64 0 2) 3).val = some 2 := by rw [kM (by decide)]; rfl
 have r3 : (rem (addW .i64 1 1) 3).val = some 2 := by rw [kM (by decide)]; rfl
 have r4 : (rem (addW .i64 1 2) 3).val = some 0 := by rw [kM (by decide)]; rfl
 have r5 : (rem (addW .i64 2 1) 3).val = some 0 := by rw [kM (by decide)]; rfl
 have r6 : (rem (addW .i64 2 2) 3).val = some 1 := by rw [kM (by decide)]; rfl
 have i0 : (idx [p, q, r] 0).val = some p := XR rfl
 have i1 : (idx [p, q, r] 1).val = some q := XR rfl
 have i2 : (idx [p, q, r] 2).val = some r := XR rfl
 have hloop : (Comp.loop
     (fun (x : Int × Int × Int × Int × Int × Unit) =>
      if ltI x.2.1 3 = true then
       (idx [p, q, r] x.2.1).bind fun (x_1 : Pln) =>
        (rem (addW .i64 x.2.1 1) 3).bind fun (x_2 : Int) =>
         (idx [p, q, r] x_2).bind fun (x_3 : Pln) =>
          (rem (addW .i64 x.2.1 2) 3).bind fun (x_4 : Int) =>
           (idx [p, q, r] x_4).bind fun (x_5 : Pln) =>
            (Go.F.jm x_3.1 x_5.1).bind fun (x_6 : (Int × Int × Int × Unit) × Unit) =>
             (Go.F.jl x_1.1 x_6.1).bind fun (x_7 : Int × Unit) =>
              (Go.F.kX x_6.1 x_1.2.1).bind fun (x_8 : (Int × Int × Int × Unit) × Unit) =>
               (Go.F.ZU x.2.2 x_8.1).bind fun (x_9 : (Int × Int × Int × Unit) × Unit) =>
                Comp.pure (Comp.Step.next (x_7.1, addW .i64 x.2.1 1, x_9.1))
      else Comp.pure (Comp.Step.done (x.1, x.2.2)))
     (0, 0, 0, 0, 0, ())).val = some ((det p q r, num p q r) : Int × V3) := by
  rw [Comp.zI, if_pos (by rw [ltI_t]; show (0 : Int) < 3; omega)]
  simp only [Comp.zA, i0, r1, i1, r2, i2, YI hq.1 hr.1, KJ hp.1 c1, Z1 (s1.le (by decide)), MW, Comp.zB]
  rw [KQ (a1.le (by decide)), MW, MW]
  simp only
  rw [Comp.zI, if_pos (by rw [ltI_t]; show addW .i64 0 1 < 3; decide)]
  simp only [show addW .i64 0 1 = 1 from rfl, Comp.zA, i1, r3, i2, r4, i0, YI hr.1 hp.1, KJ hq.1 c2, Z1 (s2.le (by decide)), MW, Comp.zB]
  rw [KQ (a2.le (by decide)), MW, MW]
  simp only
  rw [Comp.zI, if_pos (by rw [ltI_t]; show addW .i64 1 1 < 3; decide)]
  simp only [show addW .i64 1 1 = 2 from rfl, Comp.zA, i2, r5, i0, r6, i1, YI hp.1 hq.1, KJ hr.1 c3, Z1 (s3.le (by decide)), MW, Comp.zB]
  rw [KQ (a3.le (by decide)), MW, MW]
  simp only
  rw [Comp.zI, if_neg (by rw [ltI_t]; show ¬ (addW .i64 2 1 < 3); decide), Comp.zB, MW, hz, uN]
  rfl
 rw [Comp.zA]
 refine (congrArg (fun o => Option.bind o _) hloop).trans ?_
 rw [MW]
 simp only
 unfold mt
 by_cases h0 : det p q r = 0
 ·rw [if_pos (by rw [eqI_t]; exact h0), if_pos h0, Comp.zB]; rfl
 ·rw [if_neg (by rw [eqI_t]; exact h0), if_neg h0, Comp.zA, wH hn hd, MW, jn_eq]
  have hg := qB (v := num p q r) h0
  have hgb : gcd4 (num p q r) (det p q r) ≤ 600000000000 := by
   refine Nat.le_trans (Nat.le_of_dvd (by omega) (Nat.dvd_trans (Nat.gcd_dvd_right _ _) (Nat.gcd_dvd_right _ _)) : _ ≤ (det p q r).natAbs) ?_
   omega
  obtain ⟨n1, n2, n3⟩ := hn
  by_cases hneg : det p q r < 0
  ·rw [if_pos (by rw [ltI_t]; exact hneg), JF (by omega)]
   rw [Comp.zA, jN (by omega) (by omega), MW, Comp.zA, jN (by omega) (by omega), MW, Comp.zA, jN (by omega) (by omega), MW, Comp.zA, jN (by omega) (by omega), MW, Comp.zB]
   unfold mkP
   simp only [if_pos hneg, Int.tdiv_neg, Int.neg_tdiv]
   rfl
  ·rw [if_neg (by rw [ltI_t]; exact hneg)]
   rw [Comp.zA, jN (by omega) (by omega), MW, Comp.zA, jN (by omega) (by omega), MW, Comp.zA, jN (by omega) (by omega), MW, Comp.zA, jN (by omega) (by omega), MW, Comp.zB]
   unfold mkP
   simp only [if_neg hneg]
   rfl
theorem pf {p q r : Pln} (hp : okB p) (hq : okB q) (hr : okB r) : (yW p q r).val = some (outM (mt p q r)) := by
 unfold yW
 have hd := DK hp hq hr
 have hn := Cv hp hq hr
 have c1 := cr_bd hq.1 hr.1; have c2 := cr_bd hr.1 hp.1; have c3 := cr_bd hp.1 hq.1
 have s1 := sc_bd c1 hp.2; have s2 := sc_bd c2 hq.2; have s3 := sc_bd c3 hr.2
 have a2 := ad_bd s1 s2; have a3 := ad_bd a2 s3
 rw [Comp.zA, Ze hq.1 hr.1, MW, Comp.zA, BB hp.1 c1, MW]
 unfold mt
 by_cases h0 : det p q r = 0
 ·rw [if_pos (by rw [eqI_t]; exact h0), if_pos h0, Comp.zB]; rfl
 ·rw [if_neg (by rw [eqI_t]; exact h0), if_neg h0]
  rw [Comp.zA, Ze hq.1 hr.1, MW, Comp.zA, kt (s1.le (by decide)), MW, Comp.zA, Ze hr.1 hp.1, MW, Comp.zA, kt (s2.le (by decide)), MW,
   Comp.zA, u7 (a2.le (by decide)), MW, Comp.zA, Ze hp.1 hq.1, MW, Comp.zA, kt (s3.le (by decide)), MW, Comp.zA, u7 (a3.le (by decide)), MW, jn_eq]
  change (if ltI (det p q r) 0 = true then (yA (num p q r) (Int.negSucc 0)).bind _ else _ : Comp (Pnt × Bool × Unit)).val = _
  have key : ∀ (w : Int) (v : V3), w ≠ 0 → (0 < w ∧ w ≤ 600000000000) → Bd 300000000000000 v → ((zb (maxI v.1 (negW .i64 v.1)) (maxI v.2.1 (negW .i64 v.2.1))).bind
                fun (x_9 : Int × Unit) =>
                (Go.F.zb (maxI v.2.2.1 (negW .i64 v.2.2.1)) w).bind fun (x_10 : Int × Unit) =>
                 (Go.F.zb x_9.1 x_10.1).bind fun (x_11 : Int × Unit) =>
                  (quo .i64 v.1 x_11.1).bind fun (x_12 : Int) =>
                   (quo .i64 v.2.1 x_11.1).bind fun (x_13 : Int) =>
                    (quo .i64 v.2.2.1 x_11.1).bind fun (x_14 : Int) =>
                     (quo .i64 w x_11.1).bind fun (x : Int) => (Comp.pure ((x_12, x_13, x_14, x, ()), true, ()) : Comp (Pnt × Bool × Unit))).val =
     some ((v.1.tdiv (gcd4 v w : Nat), v.2.1.tdiv (gcd4 v w : Nat), v.2.2.1.tdiv (gcd4 v w : Nat), w.tdiv (gcd4 v w : Nat), ()), true, ()) := by
   intro w v hw0 hw hv
   obtain ⟨n1, n2, n3⟩ := hv
   have hg := qB (v := v) hw0
   have ew : w = ((w.natAbs : Nat) : Int) := by omega
   rw [wJ (by omega), wJ (by omega), wJ (by omega)]
   rw [Comp.zA, YV, MW, Comp.zA]
   have h2 : (zb ((v.2.2.1.natAbs : Nat) : Int) w).val = some (((Nat.gcd v.2.2.1.natAbs w.natAbs : Nat) : Int), ()) := by
    conv => lhs; rw [ew]
    rw [YV]
   rw [h2, MW, Comp.zA, YV, MW]
   change ((quo .i64 v.1 ((gcd4 v w : Nat) : Int)).bind _).val = _
   rw [Comp.zA, jN (by omega) (by omega), MW]
   change ((quo .i64 v.2.1 ((gcd4 v w : Nat) : Int)).bind _).val = _
   rw [Comp.zA, jN (by omega) (by omega), MW]
   change ((quo .i64 v.2.2.1 ((gcd4 v w : Nat) : Int)).bind _).val = _
   rw [Comp.zA, jN (by omega) (by omega), MW]
   change ((quo .i64 w ((gcd4 v w : Nat) : Int)).bind _).val = _
   rw [Comp.zA, jN (by omega) (by omega), MW, Comp.zB]
  by_cases hneg : det p q r < 0
  ·rw [if_pos (by rw [ltI_t]; exact hneg)]
   have hb : Bd 300000000000000 (sc (num p q r) (Int.negSucc 0)) := Is hn
   rw [Comp.zA, kt (hb.le (by decide)), MW, show negW .i64 (dt p.1 (cr q.1 r.1)) = -det p q r from JF (m := det p q r) (by omega)]
   refine (key (-det p q r) (sc (num p q r) (Int.negSucc 0)) (by omega) (by omega) hb).trans ?_
   have hg : gcd4 (sc (num p q r) (Int.negSucc 0)) (-det p q r) = gcd4 (num p q r) (det p q r) := by
    unfold gcd4 sc
    simp only [Int.natAbs_mul, Int.natAbs_neg]
    rw [show (Int.negSucc 0).natAbs = 1 from rfl]
    simp
   unfold outM mkP
   simp only [if_pos hneg, hg]
   unfold sc
   simp only [show Int.negSucc 0 = -1 from rfl, Int.mul_neg, Int.mul_one]
  ·rw [if_neg (by rw [ltI_t]; exact hneg)]
   refine (key (det p q r) (num p q r) h0 (by omega) hn).trans ?_
   unfold outM mkP
   simp only [if_neg hneg]
end Go.Geo
end
section
namespace Go.Geo
open Go Go.Eng Go.Lift Go.Den Go.F
variable {α β γ δ ε σ τ : Type}
theorem kg (ys : List τ) (c : Comp (List τ × β)) : (tell ys c).val = c.val.map fun p => (ys ++ p.1, p.2) := by
 unfold tell
 rw [Comp.zA]
 cases c.val <;> simp
theorem JJ {body : σ → Comp (List τ × Comp.Step σ ε)} {s s' : σ} {ys zs : List τ} {e : ε} (h1 : (body s).val = some (ys, .next s')) (h2 : (loopW body s').val = some (zs, e)) : (loopW body s).val = some (ys ++ zs, e) := by
 obtain ⟨n, hn⟩ := Comp.yu.1 h1
 obtain ⟨m, hm⟩ := Comp.yu.1 h2
 refine Comp.yu.2 ⟨max n m + 1, ?_⟩
 have a1 := (body s).mono (show n ≤ max n m + 1 by omega) hn
 have a2 : jQ body (max n m + 1) (max n m) s' = some (zs, e) := XP (by omega) (by omega) hm
 show jQ body (max n m + 1) (max n m + 1) s = _
 simp only [jQ, a1, a2]
theorem YS {body : σ → Comp (List τ × Comp.Step σ ε)} {s : σ} {ys : List τ} {e : ε} (h1 : (body s).val = some (ys, .done e)) : (loopW body s).val = some (ys, e) := by
 obtain ⟨n, hn⟩ := Comp.yu.1 h1
 refine Comp.yu.2 ⟨n + 1, ?_⟩
 have a1 := (body s).mono (show n ≤ n + 1 by omega) hn
 show jQ body (n + 1) (n + 1) s = _
 simp only [jQ, a1]
theorem YM {body : Int → Comp (List τ × Comp.Step Int ε)} (xs : List α) (g : Nat → List τ) {e : ε} (hb : ∀ (i : Nat) x, xs[i]? = some x → (body (i : Int)).val = some (g i, .next ((i + 1 : Nat) : Int))) (he : (body (xs.length : Int)).val = some ([], .done e)) :
  (loopW body 0).val = some ((List.range xs.length).flatMap g, e) := by
 have key : ∀ (m k : Nat), k + m = xs.length → (loopW body (k : Int)).val = some ((List.range' k m).flatMap g, e) := by
  intro m
  induction m with
  | zero =>
   intro k hk
   rw [show k = xs.length by omega]
   exact YS he
  | succ m ih =>
   intro k hk
   obtain ⟨x, hx⟩ := zO (xs := xs) (k := k) (by omega)
   rw [List.range'_succ, List.flatMap_cons]
   exact JJ (hb k x hx) (ih (k + 1) (by omega))
 rw [List.range_eq_range']
 exact key xs.length 0 (by omega)
def prs : List α → List (α × α)
 | [] => []
 | q :: l => l.map (fun s => (q, s)) ++ prs l
def tri : List α → List (α × α × α)
 | [] => []
 | p :: l => (prs l).map (fun t => (p, t)) ++ tri l
theorem mP (l : List α) (f : α → List β) (i : Nat) (g : Nat → List β) (h : ∀ (k : Nat) x, l[k]? = some x → g (i + k) = f x) : (List.range' i l.length).flatMap g = l.flatMap f := by
 induction l generalizing i with
 | nil => rfl
 | cons x l ih =>
  rw [List.length_cons, List.range'_succ, List.flatMap_cons, List.flatMap_cons]
  have h0 := h 0 x rfl
  rw [Nat.add_zero] at h0
  rw [h0, ih (i + 1) fun k y hk => by rw [← h (k + 1) y (by simpa using hk)]; congr 1; omega]
theorem uH (l : List α) (f : α → β) : l.flatMap (fun s => [f s]) = l.map f := by
 induction l with
 | nil => rfl
 | cons x l ih => rw [List.flatMap_cons, ih]; rfl
theorem nA (l : List α) (g : Nat → List β) (f : α × α → β) (i : Nat) (h : ∀ (k : Nat) q, l[k]? = some q → g (i + k) = (l.drop (k + 1)).map fun s => f (q, s)) : (List.range' i l.length).flatMap g = (prs l).map f := by
 induction l generalizing i with
 | nil => rfl
 | cons x l ih =>
  rw [List.length_cons, List.range'_succ, List.flatMap_cons]
  have h0 := h 0 x rfl
  rw [Nat.add_zero] at h0
  rw [h0, prs, List.map_append, List.map_map]
  congr 1
  exact ih (i + 1) fun k y hk => by
   have := h (k + 1) y (by simpa using hk)
   rw [show i + 1 + k = i + (k + 1) by omega, this]; rfl
theorem pB (l : List α) (g : Nat → List β) (f : α × α × α → β) (i : Nat) (h : ∀ (k : Nat) p, l[k]? = some p → g (i + k) = (prs (l.drop (k + 1))).map fun t => f (p, t)) : (List.range' i l.length).flatMap g = (tri l).map f := by
 induction l generalizing i with
 | nil => rfl
 | cons x l ih =>
  rw [List.length_cons, List.range'_succ, List.flatMap_cons]
  have h0 := h 0 x rfl
  rw [Nat.add_zero] at h0
  rw [h0, tri, List.map_append, List.map_map]
  congr 1
  exact ih (i + 1) fun k y hk => by
   have := h (k + 1) y (by simpa using hk)
   rw [show i + 1 + k = i + (k + 1) by omega, this]; rfl
theorem wS {xs : List α} {k : Nat} (h : k ≤ xs.length) : (sub xs (k : Int) (lenL xs)).val = some (xs.drop k) := by
 rw [kh (by rw [zC]; omega), zC]; simp
theorem wR {r : List Pln} (hl : r.length < 4611686018427387904) : (yv r).val = some ((tri r).map fun t => ([t.1, t.2.1, t.2.2], ())) := by
 unfold yv
 have inner : ∀ (p q : Pln) (l : List Pln), l.length < 4611686018427387904 → (loopW
                     (fun (x_5 : Int) =>
                      if ltI x_5 (lenL l) = true then
                       (idx l x_5).bind fun (x : Pln) =>
                        tell [([p, q, x], ())] (Comp.pure ([], Comp.Step.next (addW .i64 x_5 1)))
                      else Comp.pure ([], Comp.Step.done (Sum.inl () : Unit ⊕ Unit)))
                     0).val = some (l.map fun s => ([p, q, s], ()), Sum.inl ()) := by
  intro p q l hl
  have h1 := YM l (fun i => match l[i]? with | some s => [([p, q, s], ())] | none => []) (e := (Sum.inl () : Unit ⊕ Unit)) (body := (fun (x_5 : Int) =>
                      if ltI x_5 (lenL l) = true then
                       (idx l x_5).bind fun (x : Pln) =>
                        tell [([p, q, x], ())] (Comp.pure ([], Comp.Step.next (addW .i64 x_5 1)))
                      else Comp.pure ([], Comp.Step.done (Sum.inl () : Unit ⊕ Unit))))
   (fun i x hx => by
    have hlt := zG hx
    rw [if_pos (by rw [ltI_t, zC]; omega), Comp.zA, zH hx, MW, kg, Comp.zB, zL (by omega), hx]
    rfl)
   (by rw [if_neg (by rw [ltI_t, zC]; omega), Comp.zB])
  rw [h1, List.range_eq_range', mP l (fun s => [([p, q, s], ())]) 0 _ (fun k x hk => by rw [Nat.zero_add, hk])]
  rw [uH]
 have mid : ∀ (p : Pln) (i : Nat), i < r.length → (loopW
              (fun (x_3 : Int) =>
               if ltI x_3 (lenL (r.drop (i + 1))) = true then
                (idx (r.drop (i + 1)) x_3).bind fun (x_4 : Pln) =>
                 (sub r (addW .i64 (addW .i64 (i : Int) x_3) 2) (lenL r)).bind fun (x : List (Pln)) =>
                  (loopW
                     (fun (x_5 : Int) =>
                      if ltI x_5 (lenL x) = true then
                       (idx x x_5).bind fun (x : Pln) =>
                        tell [([p, x_4, x], ())] (Comp.pure ([], Comp.Step.next (addW .i64 x_5 1)))
                      else Comp.pure ([], Comp.Step.done (Sum.inl () : Unit ⊕ Unit)))
                     0).bind
                   fun (p : List (List (Pln) × Unit) × (Unit ⊕ Unit)) =>
                   tell p.1
                    (match p.2 with
                    | Sum.inl x => Comp.pure ([], Comp.Step.next (addW .i64 x_3 1))
                    | Sum.inr x => Comp.pure ([], Comp.Step.done (Sum.inr () : Unit ⊕ Unit)))
               else Comp.pure ([], Comp.Step.done (Sum.inl () : Unit ⊕ Unit)))
              0).val = some ((prs (r.drop (i + 1))).map fun t => ([p, t.1, t.2], ()), Sum.inl ()) := by
  intro p i hi
  have hdl : (r.drop (i + 1)).length = r.length - (i + 1) := List.length_drop ..
  have h1 := YM (r.drop (i + 1)) (fun j => match (r.drop (i + 1))[j]? with | some q => ((r.drop (i + 1)).drop (j + 1)).map fun s => ([p, q, s], ()) | none => []) (e := (Sum.inl () : Unit ⊕ Unit)) (body := (fun (x_3 : Int) =>
               if ltI x_3 (lenL (r.drop (i + 1))) = true then
                (idx (r.drop (i + 1)) x_3).bind fun (x_4 : Pln) =>
                 (sub r (addW .i64 (addW .i64 (i : Int) x_3) 2) (lenL r)).bind fun (x : List (Pln)) =>
                  (loopW
                     (fun (x_5 : Int) =>
                      if ltI x_5 (lenL x) = true then
                       (idx x x_5).bind fun (x : Pln) =>
                        tell [([p, x_4, x], ())] (Comp.pure ([], Comp.Step.next (addW .i64 x_5 1)))
                      else Comp.pure ([], Comp.Step.done (Sum.inl () : Unit ⊕ Unit)))
                     0).bind
                   fun (p : List (List (Pln) × Unit) × (Unit ⊕ Unit)) =>
                   tell p.1
                    (match p.2 with
                    | Sum.inl x => Comp.pure ([], Comp.Step.next (addW .i64 x_3 1))
                    | Sum.inr x => Comp.pure ([], Comp.Step.done (Sum.inr () : Unit ⊕ Unit)))
               else Comp.pure ([], Comp.Step.done (Sum.inl () : Unit ⊕ Unit))))
   (fun j q hq => by
    have hlt := zG hq
    have e1 : addW .i64 (addW .i64 (i : Int) (j : Int)) 2 = ((i + j + 2 : Nat) : Int) := by rw [yr (m := (i : Int)) (by omega), yr (by omega)]; omega
    rw [if_pos (by rw [ltI_t, zC]; omega), Comp.zA, zH hq, MW, e1, Comp.zA, wS (by omega), MW, Comp.zA, inner p q _ (by rw [List.length_drop]; omega), MW, kg]
    simp only
    rw [Comp.zB, zL (by omega), hq, List.drop_drop]
    simp only [Option.map_some, List.append_nil]
    rw [show i + 1 + (j + 1) = i + j + 2 by omega])
   (by rw [if_neg (by rw [ltI_t, zC]; omega), Comp.zB])
  rw [h1, List.range_eq_range', nA (r.drop (i + 1)) _ (fun t => ([p, t.1, t.2], ())) 0 (fun k q hk => by rw [Nat.zero_add, hk])]
 have h1 := YM r (fun i => match r[i]? with | some p => (prs (r.drop (i + 1))).map fun t => ([p, t.1, t.2], ()) | none => []) (e := (Sum.inl () : Unit ⊕ Unit)) (body := (fun (x : Int) =>
        if ltI x (lenL r) = true then
         (idx r x).bind fun (x_1 : Pln) =>
          (sub r (addW .i64 x 1) (lenL r)).bind fun (x_2 : List (Pln)) =>
           (loopW
              (fun (x_3 : Int) =>
               if ltI x_3 (lenL x_2) = true then
                (idx x_2 x_3).bind fun (x_4 : Pln) =>
                 (sub r (addW .i64 (addW .i64 x x_3) 2) (lenL r)).bind fun (x : List (Pln)) =>
                  (loopW
                     (fun (x_5 : Int) =>
                      if ltI x_5 (lenL x) = true then
                       (idx x x_5).bind fun (x : Pln) =>
                        tell [([x_1, x_4, x], ())] (Comp.pure ([], Comp.Step.next (addW .i64 x_5 1)))
                      else Comp.pure ([], Comp.Step.done (Sum.inl ())))
                     0).bind
                   fun (p : List (List (Pln) × Unit) × (Unit ⊕ Unit)) =>
                   tell p.1
                    (match p.2 with
                    | Sum.inl x => Comp.pure ([], Comp.Step.next (addW .i64 x_3 1))
                    | Sum.inr x => Comp.pure ([], Comp.Step.done (Sum.inr ())))
               else Comp.pure ([], Comp.Step.done (Sum.inl ())))
              0).bind
            fun (p : List (List (Pln) × Unit) × (Unit ⊕ Unit)) =>
            tell p.1
             (match p.2 with
             | Sum.inl x_3 => Comp.pure ([], Comp.Step.next (addW .i64 x 1))
             | Sum.inr x => Comp.pure ([], Comp.Step.done (Sum.inr ())))
        else Comp.pure ([], Comp.Step.done (Sum.inl ()))))
  (fun i p hp => by
   have hlt := zG hp
   rw [if_pos (by rw [ltI_t, zC]; omega), Comp.zA, zH hp, MW, zL (by omega), Comp.zA, wS (by omega), MW, Comp.zA, mid p i hlt, MW, kg]
   simp only
   rw [Comp.zB, hp]
   simp only [Option.map_some, List.append_nil])
  (by rw [if_neg (by rw [ltI_t, zC]; omega), Comp.zB])
 rw [List.range_eq_range', pB r _ (fun t => ([t.1, t.2.1, t.2.2], ())) 0 (fun k p hk => by rw [Nat.zero_add, hk])] at h1
 rw [Comp.zA, Comp.zA]
 refine (congrArg (fun o => Option.bind (Option.bind o _) _) h1).trans ?_
 rw [MW, kg]
 simp only
 rw [Comp.zB]
 simp only [Option.map_some, MW, List.append_nil]
 exact Comp.zB _
end Go.Geo
end
section
namespace Go.Geo
open Go Go.Eng Go.Lift Go.Den Go.F
variable {α β γ δ ε σ τ : Type}
def rm (p : Pln) (x : Pnt) : Int := W (p.2.1 * x.2.2.2.1 - dt p.1 (x.1, x.2.1, x.2.2.1, ()))
def ins (r : List Pln) (x : Pnt) : Bool := r.all fun p => decide (0 ≤ rm p x)
def crnS (r : List Pln) (l : List Pnt) (t : Pln × Pln × Pln) : List Pnt := match mt t.1 t.2.1 t.2.2 with
 | none => l
 | some x => if x ∈ l then l else bif ins r x then l ++ [x] else l
def crn (r : List Pln) : List Pnt := (tri r).foldl (crnS r) []
def full (r : List Pln) : Bool := r.all fun p => (crn r).any fun x => decide (0 < rm p x)
theorem Jn (p : Pln) (x : Pnt) : (j3 p x).val = some (rm p x, ()) := by
 unfold j3 jl
 rw [Comp.zA, Comp.zB, MW, Comp.zB]
 congr 2
 unfold rm dt
 simp only [CX, Cz, MQ, l8, l7, Gg, Gf]
theorem jz {r : List Pln} {x : Pnt} (hl : r.length < 9223372036854775807) : (j0 r x).val = some (ins r x, ()) := by
 unfold j0
 have h1 : (zS r fun z => vh z.1 x).val = some (r.any fun p => decide (rm p x < 0), ()) :=
  jw (xs := r) (f := fun z => vh z.1 x) (p := fun p => decide (rm p x < 0)) hl fun p _ => by
   show (vh p x).val = _
   unfold vh
   rw [Comp.zA, Jn, MW, Comp.zB]; rfl
 rw [Comp.zA, h1, MW, Comp.zB]
 unfold ins
 congr 2
 simp only [yk]
 rw [List.all_eq_not_any_not]
 congr 2
 funext p
 by_cases h : rm p x < 0
 ·have : ¬ (0 ≤ rm p x) := by omega
  simp [h, this]
 ·have : 0 ≤ rm p x := by omega
  simp [h, this]
def eqPt (x y : Pnt) : Bool := adB (eqI x.1 y.1) (adB (eqI x.2.1 y.2.1) (adB (eqI x.2.2.1 y.2.2.1) (eqI x.2.2.2.1 y.2.2.2.1)))
theorem uL (x y : Pnt) : eqPt x y = decide (x = y) := by
 obtain ⟨a, b, c, d, _⟩ := x
 obtain ⟨a', b', c', d', _⟩ := y
 unfold eqPt eqI adB
 simp only
 rw [Bool.eq_iff_iff]
 simp [Prod.ext_iff]
def kn (l : List Pnt) : List (Pnt × Bool) := l.map fun x => (x, true)
theorem I3 (l : List Pnt) (x : Pnt) : mgB eqPt (kn l) x = if x ∈ l then some true else none := by
 induction l with
 | nil => rfl
 | cons y l ih =>
  show (bif eqPt x y then some true else mgB eqPt (kn l) x) = _
  rw [uL, ih]
  by_cases h : x = y
  ·simp [h]
  ·simp [h]
theorem I2 {l : List Pnt} {x : Pnt} (h : x ∉ l) : mpB eqPt (kn l) x true = kn (l ++ [x]) := by
 induction l with
 | nil => rfl
 | cons y l ih =>
  simp only [List.mem_cons, not_or] at h
  show (bif eqPt x y then (x, true) :: kn l else (y, true) :: mpB eqPt (kn l) x true) = _
  rw [uL, decide_eq_false h.1, cond_false, ih h.2]; rfl
theorem pC : ∀ {r : List α} {t : α × α × α}, t ∈ tri r → t.1 ∈ r ∧ t.2.1 ∈ r ∧ t.2.2 ∈ r
 | [], _, h => by cases h
 | p :: l, t, h => by
  have prs_mem : ∀ {l : List α} {t : α × α}, t ∈ prs l → t.1 ∈ l ∧ t.2 ∈ l := by
   intro l
   induction l with
   | nil => intro t h; cases h
   | cons q l ih =>
    intro t h
    simp only [prs, List.mem_append, List.mem_map] at h
    rcases h with ⟨s, h1, rfl⟩ | h
    ·exact ⟨by simp, List.mem_cons_of_mem _ h1⟩
    ·have := ih h; exact ⟨List.mem_cons_of_mem _ this.1, List.mem_cons_of_mem _ this.2⟩
  simp only [tri, List.mem_append, List.mem_map] at h
  rcases h with ⟨s, h1, rfl⟩ | h
  ·have := prs_mem h1
   exact ⟨by simp, List.mem_cons_of_mem _ this.1, List.mem_cons_of_mem _ this.2⟩
  ·have := pC h
   exact ⟨List.mem_cons_of_mem _ this.1, List.mem_cons_of_mem _ this.2.1, List.mem_cons_of_mem _ this.2.2⟩
theorem EF (l : List α) : (prs l).length ≤ l.length * l.length := by
 induction l with
 | nil => simp [prs]
 | cons x l ih =>
  simp only [prs, MZ, List.length_map, List.length_cons]
  have : (l.length + 1) * (l.length + 1) = l.length * l.length + 2 * l.length + 1 := by
   rw [Nat.add_mul, Nat.mul_add]; omega
  omega
theorem Yu (l : List α) : (tri l).length ≤ l.length * (l.length * l.length) := by
 induction l with
 | nil => simp [tri]
 | cons x l ih =>
  simp only [tri, MZ, List.length_map, List.length_cons]
  have h1 := EF l
  have h2 : l.length * (l.length * l.length) + l.length * l.length ≤ (l.length + 1) * ((l.length + 1) * (l.length + 1)) := by
   rw [Nat.add_mul, Nat.one_mul]
   refine Nat.add_le_add (Nat.mul_le_mul_left _ (Nat.mul_le_mul (by omega) (by omega))) (Nat.mul_le_mul (by omega) (by omega))
  omega
theorem Yn {r : List Pln} {l : List Pnt} {t : Pln × Pln × Pln} : (crnS r l t).length ≤ l.length + 1 := by
 unfold crnS
 split
 ·omega
 ·split
  ·omega
  ·cases ins r _ <;> simp
theorem uO (r : List Pln) : (crn r).length ≤ (tri r).length := by
 unfold crn
 have key : ∀ (ts : List (Pln × Pln × Pln)) (l : List Pnt), (ts.foldl (crnS r) l).length ≤ l.length + ts.length := by
  intro ts
  induction ts with
  | nil => intro l; simp
  | cons t ts ih =>
   intro l
   have := ih (crnS r l t)
   have := Yn (r := r) (l := l) (t := t)
   simp only [List.foldl_cons, List.length_cons]; omega
 have := key (tri r) []
 simpa using this
theorem Z0 {b k i : Bool} {c : Comp (Bool × Unit)} (hc : b = true → k = false → c.val = some (i, ())) {A B : Comp β} :
  ((Comp.gd (sel b (ntB k) false) c (false, ())).bind fun (x2 : Bool × Unit) => if sel (sel b (ntB k) false) x2.1 false = true then A else B).val = (bif b && (!k && i) then A else B).val := by
 rw [Comp.zA]
 cases b with
 | false =>
  show (Option.bind (Comp.pure (false, ())).val _) = _
  rw [Comp.zB, MW]; rfl
 | true =>
  cases k with
  | true =>
   show (Option.bind (Comp.pure (false, ())).val _) = _
   rw [Comp.zB, MW]; rfl
  | false =>
   have := hc rfl rfl
   show (Option.bind c.val _) = _
   rw [this, MW]
   cases i <;> rfl
theorem Xh {r : List Pln} (hl : r.length ≤ 1000) (hb : ∀ p ∈ r, okB p) : (yq r).val = some (crn r, ()) := by
 have hL := ZG
 have h3 : (tri r).length ≤ 1000000000 := by
  refine Nat.le_trans (Yu r) ?_
  exact Nat.mul_le_mul hl (Nat.mul_le_mul hl hl)
 unfold yq gU
 rw [Comp.zA, Comp.zB, MW, Comp.zA, wR (by omega), MW]
 -- the walk over a list of triples, from a list of vertices
 have key : ∀ (ts : List (Pln × Pln × Pln)) (l : List Pnt), (∀ t ∈ ts, okB t.1 ∧ okB t.2.1 ∧ okB t.2.2) → l.length + ts.length ≤ 1000000000 →
   (foldL
       (fun (x : List (Pnt) × List ((Pnt) × Bool))
         (d : List (Pln) × Unit) =>
        (Go.F.Zb d.1).bind fun (x_1 : (Pnt) × Bool × Unit) =>
         (Comp.gd
            (sel x_1.2.1
             (ntB
              (match
               mgB
                (fun (x x_2 : Pnt) =>
                 adB (eqI x.1 x_2.1) (adB (eqI x.2.1 x_2.2.1) (adB (eqI x.2.2.1 x_2.2.2.1) (eqI x.2.2.2.1 x_2.2.2.2.1))))
                x.2 x_1.1 with
              | some x => x
              | none => false))
             false)
            (Go.F.j0 r x_1.1) (false, ())).bind
          fun (x_2 : Bool × Unit) =>
          jn (fun (x : List (Pnt) × List ((Pnt) × Bool)) => Comp.pure (Comp.Step.next (x.1, x.2)))
           fun
            (j :
             List (Pnt) × List ((Pnt) × Bool) →
              Comp (Comp.Step (List (Pnt) × List ((Pnt) × Bool)) Empty)) =>
           if
             sel
               (sel x_1.2.1
                (ntB
                 (match
                  mgB
                   (fun (x x_3 : Pnt) =>
                    adB (eqI x.1 x_3.1) (adB (eqI x.2.1 x_3.2.1) (adB (eqI x.2.2.1 x_3.2.2.1) (eqI x.2.2.2.1 x_3.2.2.2.1))))
                   x.2 x_1.1 with
                 | some x => x
                 | none => false))
                false)
               x_2.1 false =
              true then
            (app x.1 [x_1.1]).bind fun (zs : List (Pnt)) =>
             j
              (zs,
               mpB
                (fun (x x_3 : Pnt) =>
                 adB (eqI x.1 x_3.1) (adB (eqI x.2.1 x_3.2.1) (adB (eqI x.2.2.1 x_3.2.2.1) (eqI x.2.2.2.1 x_3.2.2.2.1))))
                x.2 x_1.1 true)
           else j (x.1, x.2))
       (ts.map fun t => ([t.1, t.2.1, t.2.2], ())) (l, kn l)).val = some (.next (ts.foldl (crnS r) l, kn (ts.foldl (crnS r) l))) := by
  intro ts
  induction ts with
  | nil => intro l _ _; exact Comp.zB _
  | cons t ts ih =>
   intro l hts hlen
   obtain ⟨h1, h2, h3⟩ := hts t (by simp)
   simp only [List.length_cons] at hlen
   rw [List.map_cons]
   unfold foldL
   have hmg : ∀ x, (match mgB (fun (x x_2 : Pnt) => adB (eqI x.1 x_2.1) (adB (eqI x.2.1 x_2.2.1) (adB (eqI x.2.2.1 x_2.2.2.1) (eqI x.2.2.2.1 x_2.2.2.2.1)))) (kn l) x with | some x => x | none => false) = decide (x ∈ l) := by
    intro x
    show (match mgB eqPt (kn l) x with | some x => x | none => false) = _
    rw [I3]
    by_cases h : x ∈ l <;> simp [h]
   have hlen' := Yn (r := r) (l := l) (t := t)
   have hgo := ih (crnS r l t) (fun t' ht' => hts t' (List.mem_cons_of_mem _ ht')) (by omega)
   rw [Comp.zA, Comp.zA, KM h1 h2 h3, MW, List.foldl_cons]
   let B0 : Comp (Comp.Step (List Pnt × List (Pnt × Bool)) Empty) := Comp.pure (.next (l, kn l))
   let A0 : Pnt → Comp (Comp.Step (List Pnt × List (Pnt × Bool)) Empty) := fun x => (app l [x]).bind fun zs => Comp.pure (.next (zs, mpB eqPt (kn l) x true))
   cases hm : mt t.1 t.2.1 t.2.2 with
   | none =>
    have hcr : crnS r l t = l := by unfold crnS; rw [hm]
    rw [hcr] at hgo ⊢
    refine (congrArg (fun o => Option.bind o _) ((Z0 (b := false) (i := false) (fun h => nomatch h) (A := A0 (0, 0, 0, 0, ())) (B := B0)).trans (Comp.zB _))).trans ?_
    exact hgo
   | some x =>
    have hcr : crnS r l t = if x ∈ l then l else bif ins r x then l ++ [x] else l := by unfold crnS; rw [hm]
    by_cases hx : x ∈ l
    ·rw [if_pos hx] at hcr
     rw [hcr] at hgo ⊢
     have hk := hmg x
     rw [decide_eq_true hx] at hk
     have hv : ∀ k, k = true → (bif true && (!k && ins r x) then A0 x else B0).val = some (.next (l, kn l)) := fun k hk => by subst hk; exact Comp.zB _
     refine (congrArg (fun o => Option.bind o _) ((Z0 (b := true) (i := ins r x) (fun _ _ => jz (by omega)) (A := A0 x) (B := B0)).trans (hv _ hk))).trans ?_
     exact hgo
    ·rw [if_neg hx] at hcr
     have hk := hmg x
     rw [decide_eq_false hx] at hk
     cases hin : ins r x with
     | false =>
      rw [hin, cond_false] at hcr
      rw [hcr] at hgo ⊢
      have hv : ∀ k, k = false → (bif true && (!k && ins r x) then A0 x else B0).val = some (.next (l, kn l)) := fun k hk => by subst hk; rw [hin]; exact Comp.zB _
      refine (congrArg (fun o => Option.bind o _) ((Z0 (b := true) (i := ins r x) (fun _ _ => jz (by omega)) (A := A0 x) (B := B0)).trans (hv _ hk))).trans ?_
      exact hgo
     | true =>
      rw [hin, cond_true] at hcr
      rw [hcr] at hgo ⊢
      have hv : ∀ k, k = false → (bif true && (!k && ins r x) then A0 x else B0).val = some (.next (l ++ [x], kn (l ++ [x]))) := fun k hk => by
       subst hk
       rw [hin]
       show ((app l [x]).bind fun zs => (Comp.pure (Comp.Step.next (zs, mpB eqPt (kn l) x true)) : Comp (Comp.Step (List Pnt × List (Pnt × Bool)) Empty))).val = _
       rw [Comp.zA, zr (by simp only [Mc]; unfold LIM; omega), MW, Comp.zB, I2 hx]
      refine (congrArg (fun o => Option.bind o _) ((Z0 (b := true) (i := ins r x) (fun _ _ => jz (by omega)) (A := A0 x) (B := B0)).trans (hv _ hk))).trans ?_
      exact hgo
 have h1 := key (tri r) [] (fun t ht => by
  obtain ⟨a, b, c⟩ := pC ht
  exact ⟨hb _ a, hb _ b, hb _ c⟩) (by simpa using h3)
 rw [Comp.zA]
 refine (congrArg (fun o => Option.bind o _) h1).trans ?_
 rw [MW]
 exact Comp.zB _
theorem qC {r : List Pln} (hl : r.length ≤ 1000) (hb : ∀ p ∈ r, okB p) : (vZ r).val = some (full r, ()) := by
 have hL := ZG
 have h3 : (crn r).length ≤ 1000000000 := by
  refine Nat.le_trans (uO r) (Nat.le_trans (Yu r) ?_)
  exact Nat.mul_le_mul hl (Nat.mul_le_mul hl hl)
 unfold vZ
 rw [Comp.zA, Xh hl hb, MW]
 have h1 : (zj r fun z => yL z.1 (crn r)).val = some (r.any fun p => !(crn r).any fun x => decide (0 < rm p x), ()) :=
  jw (xs := r) (f := fun z => yL z.1 (crn r)) (p := fun p => !(crn r).any fun x => decide (0 < rm p x)) (by omega) fun p _ => by
   show (yL p (crn r)).val = _
   unfold yL
   have h2 : (zn (crn r) fun z => z6 z.1 p).val = some ((crn r).any fun x => decide (0 < rm p x), ()) :=
    jw (xs := crn r) (f := fun z => z6 z.1 p) (p := fun x => decide (0 < rm p x)) (by omega) fun x _ => by
     show (z6 x p).val = _
     unfold z6
     rw [Comp.zA, Jn, MW, Comp.zB]; rfl
   rw [Comp.zA, h2, MW, Comp.zB]; rfl
 rw [Comp.zA, h1, MW, Comp.zB, yk]
 unfold full
 rw [List.all_eq_not_any_not]
def bx0 : List Pln := [((1, 0, 0, ()), 24, ()), ((-1, 0, 0, ()), 24, ()), ((0, 1, 0, ()), 24, ()), ((0, -1, 0, ()), 24, ()), ((0, 0, 1, ()), 24, ()), ((0, 0, -1, ()), 24, ())]
theorem bx0_B : ∀ p ∈ bx0, okB p := by
 intro p hp
 unfold bx0 at hp
 simp only [List.mem_cons, List.not_mem_nil, or_false] at hp
 unfold okB Bd
 rcases hp with rfl | rfl | rfl | rfl | rfl | rfl <;> simp
theorem kB {l : List (List Pln)} (hl : l.length < 9223372036854775807) (h : l.flatten.length ≤ 1000) : (cell_of l).val = some (l.flatten ++ bx0, ()) := by
 unfold cell_of
 have h1 : (zJ l).val = some (l.flatten, ()) := Xo (z := ((0, 0, 0, ()), 0, ())) (by unfold LIM; omega) hl
 rw [Comp.zA, h1, MW]
 generalize l.flatten = c at h
 have h2 := Comp.jX (fun (s : List Pln) i => (s, ((i : Nat) : Int))) [(1, 0, 0, ()), (-1, 0, 0, ()), (0, 1, 0, ()), (0, -1, 0, ()), (0, 0, 1, ()), (0, 0, -1, ())] (fun (s : List Pln) (x : V3) => .next (s ++ [(x, 24, ())])) (fun s => s) (fun s i => s.length = c.length + i)
  (body := (fun (x : List (Pln) × Int) =>
       if
         ltI x.2
           (lenL
            [(1, 0, 0, ()), (-1, 0, 0, ()), (0, 1, 0, ()), (0, -1, 0, ()), (0, 0, 1, ()),
             (0, 0, -1, ())]) =
          true then
        (idx [(1, 0, 0, ()), (-1, 0, 0, ()), (0, 1, 0, ()), (0, -1, 0, ()), (0, 0, 1, ()), (0, 0, -1, ())]
           x.2).bind
         fun (x_1 : Int × Int × Int × Unit) =>
         (app x.1 [(x_1, 24, ())]).bind fun (zs : List (Pln)) =>
          Comp.pure (Comp.Step.next (zs, addW .i64 x.2 1))
       else Comp.pure (Comp.Step.done x.1)))
  (fun s i x hx hs => by
   have hlt := zG hx
   simp only [List.length_cons, List.length_nil] at hlt
   rw [if_pos (by rw [ltI_t, zC]; simp only [List.length_cons, List.length_nil]; omega), Comp.zA, zH hx, MW, Comp.zA, zr (by simp only [Mc]; unfold LIM; omega), MW, Comp.zB, zL (by omega)]
   rfl)
  (fun s i x s' hx hs he => by cases he; simp [hs]; omega)
  (fun s hs => by rw [if_neg (by rw [ltI_t, zC]; simp), Comp.zB]) c (by simp)
 rw [Comp.Zi] at h2
 rw [Comp.zA]
 refine (congrArg (fun o => Option.bind o _) h2).trans ?_
 rw [MW, Comp.zB]
 simp [bx0]
theorem chk_B {c : List Pln} (h : chk c = 0) : c.length ≤ 48 ∧ ∀ p ∈ c, okB p := by
 rw [MJ] at h
 exact ⟨h.1, fun p hp => okP_B (List.all_eq_true.1 h.2 p hp)⟩
def ful (c : List Pln) : Bool := decide (chk c = 0) && full (c ++ bx0)
def apa (a b : List Pln) : Bool := !(decide (chk a = 0) && decide (chk b = 0)) || !full (a ++ b ++ bx0)
theorem jV (c : List Pln) : (gn c).val = some (ful c, ()) := by
 unfold gn
 rw [jn_eq, Comp.zA, kP _ (by simp), MW]
 simp only [List.all_cons, List.all_nil, Bool.and_true]
 unfold ful
 by_cases h : chk c = 0
 ·obtain ⟨h1, h2⟩ := chk_B h
  rw [if_pos (by simpa using h), Comp.zA, kB (by simp) (by simp; omega), MW, Comp.zA]
  simp only [List.flatten_cons, List.flatten_nil, List.append_nil]
  rw [qC (by simp [bx0]; omega) (fun p hp => (List.mem_append.1 hp).elim (h2 p) (bx0_B p)), MW, Comp.zB, decide_eq_true h, Bool.true_and]
 ·rw [if_neg (by simpa using h), Comp.zB, decide_eq_false h, Bool.false_and]
theorem gM (a b : List Pln) : (jA a b).val = some (apa a b, ()) := by
 unfold jA
 rw [jn_eq, Comp.zA, kP _ (by simp), MW]
 simp only [List.all_cons, List.all_nil, Bool.and_true, yk, Bool.not_not]
 unfold apa
 by_cases h : (decide (chk a = 0) && decide (chk b = 0)) = true
 ·rw [if_pos h, h]
  simp only [MY, decide_eq_true_eq] at h
  obtain ⟨h1, h2⟩ := chk_B h.1
  obtain ⟨h3, h4⟩ := chk_B h.2
  rw [Comp.zA, kB (by simp) (by simp; omega), MW, Comp.zA]
  simp only [List.flatten_cons, List.flatten_nil, List.append_nil]
  rw [qC (by simp [bx0]; omega) (fun p hp => (List.mem_append.1 hp).elim (fun hp => (List.mem_append.1 hp).elim (h2 p) (h4 p)) (bx0_B p)), MW, Comp.zB]
  rfl
 ·have h' : (decide (chk a = 0) && decide (chk b = 0)) = false := by simpa using h
  rw [if_neg h, h', Comp.zB]; rfl
end Go.Geo
end
