/- Lemmas behind a claim. -/
import Derived.Test.YtknbpncolbmoaaaGreatKBChgB
import Derived.Scope
set_option linter.unusedSimpArgs false
set_option linter.unusedVariables false
open Go.Lift.Comp (uH run_bind uc run_pure)
section
namespace Go.Den
open Go Go.RowKit Go.Eng Go.Lift
variable {α β γ δ : Type}
def jv (xs : List α) (m : Int) (v : α) : List α := xs.set m.toNat v
def mD (E : VE) (s : S) (i : TI) (k off : Nat) (ψ : AV) (c : S → Comp β) : Comp β := match look s.M k with
 | some (_, .bx nw φ T') => match ψ.Ea && (ψ.td && (!ψ.zw && Nat.beq ψ.sz i.sz)), AV.qE ψ i.sz (vA i.dd) φ true off with
  | true, some φ' => match φ'.zw with
   | false => c (s.mod k (.bx nw φ' T'))
   | true => Comp.fail
  | _, _ => Comp.fail
 | _ => Comp.fail
def mC (E : VE) (s : S) (Y : TypeId) (i : TI) (k : Nat) (m : Int) (esz off2 : Nat) (ψ : AV) (c : S → Comp β) : Comp β := match look s.M k with
 | some (_, .sl nw t T xs) => match Nat.beq off2 0 && (Nat.beq i.sz esz && (Nat.beq t.sz i.sz && Nat.beq T Y)), ψ.asT E.G s.M t with
  | true, some v => c (s.mod k (.sl nw t T (jv xs m v)))
  | _, _ => Comp.fail
 | _ => Comp.fail
def mB (E : VE) (s : S) (i : TI) (k : Nat) (m : Int) (esz off2 : Nat) (ψ : AV) (c : S → Comp β) : Comp β := match look s.M k with
 | some (_, .sl nw t T xs) => match Nat.beq t.sz esz && (t.agg && Nat.beq i.τ.sz i.sz), AA t off2 i.τ, ψ.asT E.G s.M i.τ with
  | true, some f, some v => (idx xs m).bind fun z => c (s.mod k (.sl nw t T (jv xs m (f z v))))
  | _, _, _ => Comp.fail
 | _ => Comp.fail
def mE (E : VE) (s : S) (i : TI) (k off sz : Nat) (m : Int) (esz off2 : Nat) (ψ : AV) (c : S → Comp β) : Comp β := match look s.M k with
 | some (_, .bx nw φ T') => match (φ.at_ sz true true off).bind (D2 E.G s.M (sz / esz) i.τ) with
  | some q => match Nat.beq off2 0 && (Nat.beq i.sz esz && (Nat.beq q.2.1.sz i.sz && (Nat.beq (q.1 * esz) sz && Nat.blt 0 esz))), ψ.asT E.G s.M q.2.1 with
   | true, some v => match AV.qE (.rd (.arr q.1 q.2.1) (jv q.2.2 m v)) sz true φ true off with
    | some φ' => match φ'.zw with
     | false => c (s.mod k (.bx nw φ' T'))
     | true => Comp.fail
    | none => Comp.fail
   | _, _ => Comp.fail
  | none => Comp.fail
 | _ => Comp.fail
def rV (E : VE) (s : S) (Y : TypeId) (φ ψ : Option AV) (c : S → Comp β) : Comp β := match look E.T Y, φ, ψ with
 | some i, some φ, some ψ => match φ with
  | .bx k off => mD E s i k off ψ c
  | .el k m esz off2 => match Nat.beq off2 0 && Nat.beq i.sz esz with
   | true => mC E s Y i k m esz off2 ψ c
   | false => mB E s i k m esz off2 ψ c
  | .ba k off sz m esz off2 => mE E s i k off sz m esz off2 ψ c
  | _ => Comp.fail
 | _, _, _ => Comp.fail
section
variable {F : Frm} {s : S} {a : Act} {w : World} {X : Cx} {E : VE}
variable {d : Option Tmp} {T Y : TypeId} {pos : String} {aft : Array Edge} {g : Option (Nat × Bool)} {k : S → Comp β}
theorem Cx.pS {X X' : Cx} (h1 : X'.A = X.A) (h2 : X'.F = X.F) : X'.B = X.B := by funext nw; cases nw <;> simp [Cx.B, h1, h2]
theorem As (hE : E.ok X.P) (h : RelX F s a w X) {x z : Operand} : gj F s a w ⟨none, .store Y x z, T, pos, aft, g⟩ (rV E s Y (rdO s.ep s.L [] [] x) (rdO s.ep s.L [] [] z) k) k := by
 intro nf y hr K Q hK
 rw [← h.P]
 rw [← h.ep] at hr
 unfold rV at hr
 split at hr
 ·rename_i i φ ψ hi hφ hψ
  have ht := (hE.T Y i hi).ty
  have k1 := h.rd #[x] x φ (by simp) hφ
  have k2 := h.rd #[z] z ψ (by simp) hψ
  split at hr
  ·rename_i kk off
   unfold mD at hr
   split at hr
   ·rename_i st nw φ0 T' hk
    split at hr
    ·rename_i φ' hb hp
     simp only [zFs] at hb
     obtain ⟨b1, b2, b3, b4⟩ := hb
     split at hr
     ·rename_i hfr
      obtain ⟨b, cs, m1, m2, m3, m4⟩ := h.m kk _ hk
      obtain ⟨_, b', m5, m6⟩ := k1
      rw [m1] at m5; cases m5
      have hv := AV.v_c b1 k2
      have hl := AV.len ψ hv
      rw [zFr b4] at hl
      obtain ⟨p1, p2⟩ := AV.CJ φ0 hp m3
      have p3 := p2 _ hl hv
      rw [← hl] at ht
      have hspl : kj cs.toList off (a.eval z).cells.toList = cs.toList.take off ++ ((a.eval z).cells.toList ++ cs.toList.drop (off + i.sz)) := by
       unfold kj; rw [hl]
      refine w6 h.ok0 h.base (h.okB nw) ht m6 rfl (vs := (a.eval z).cells.toList) (by simp) (AV.MA ψ b2 hv) m2 (by rw [hl]; simpa using p1) rfl fun w' q1 q2 q3 => hK _ undef _ (h.mod hk rfl q2 q3 fun X' e1 e2 e3 e4 e5 e6 hle => ?_) (Inv.mod _ _ _) hr
      refine ⟨b, (kj cs.toList off (a.eval z).cells.toList).toArray, by rw [e5]; exact m1, ?_, ?_, hfr⟩
      ·rw [e6, e4, Cx.pS e2 e3]; exact q1
      ·show (φ'.sem X' w').c (kj cs.toList off (a.eval z).cells.toList)
       rw [hspl]
       exact (φ'.mono hle fun hh => by rw [hfr] at hh; cases hh).2.2 _ p3
     ·cases hr
    ·cases hr
   ·cases hr
  ·rename_i kk m esz off2
   split at hr
   rotate_left
   ·unfold mB at hr
    split at hr
    ·rename_i st nw t T' xs hk
     split at hr
     ·rename_i f v hb hf hv
      simp only [zFs] at hb
      obtain ⟨b1, b2, b3⟩ := hb
      obtain ⟨zx, hz, hr⟩ := run_bind hr
      obtain ⟨_, m2, ⟨p, nn, cc, m3, m4⟩, m5⟩ := k1
      have hO := h.m kk _ hk
      have hrv := AV.YW hE.G h.m hv k2
      have hne := h.pos kk _ hk rfl
      refine Ak hf b2 (zFr b1) h.ok0 h.base (h.okB nw) ht (zFr b3) rfl m5 hO rfl hrv hz hne.1 fun w' q1 q2 q3 => hK _ undef _ (h.mod hk rfl q2 q3 fun X' e1 e2 e3 e4 e5 e6 hle => ?_) (Inv.mod _ _ _) hr
      show zr _ _ _ _ _ _ _ _
      rw [e6, e1, e4, e5, Cx.pS e2 e3]; exact q1
     ·cases hr
    ·cases hr
   unfold mC at hr
   split at hr
   ·rename_i st nw t T' xs hk
    split at hr
    ·rename_i v hb hv
     simp only [zFs] at hb
     obtain ⟨b1, b2, b3, b4⟩ := hb
     have b1 := zFr b1
     have b2 := zFr b2
     have b3 := zFr b3
     have b4 := zFr b4
     subst b1 b4
     obtain ⟨_, m2, ⟨p, nn, cc, m3, m4⟩, m5⟩ := k1
     have hO := h.m kk _ hk
     have hlen : nn = xs.length := by
      obtain ⟨vs, g1, g2, _⟩ := hO
      obtain ⟨ad, cap, g3, _⟩ := g1.slv
      rw [m3] at g3; cases g3; exact g2.len
     have hrv := AV.YW hE.G h.m hv k2
     have hne := h.pos kk _ hk rfl
     rw [← b2] at m5
     refine Am (r := t.gr X.P) (Ty.fits X.P _) (by rw [Ty.yc, b3]) h.ok0 h.base (h.okB nw) (n := 0) (ys := xs.set m.toNat v) ht rfl m5 hO rfl hrv (by unfold Go.Lift.upd; rw [if_pos ⟨m2, by omega⟩]; rfl) hne.1 fun w' q1 q2 q3 => hK _ undef _ (h.mod hk rfl q2 q3 fun X' e1 e2 e3 e4 e5 e6 hle => ?_) (Inv.mod _ _ _) hr
     show zr _ _ _ _ _ _ _ _
     rw [e6, e1, e4, e5, Cx.pS e2 e3]; exact q1
    ·cases hr
   ·cases hr
  ·rename_i kk off sz m esz off2
   unfold mE at hr
   split at hr
   ·rename_i st nw φ0 T' hk
    split at hr
    ·rename_i q hq
     split at hr
     ·rename_i v hb hv
      simp only [zFs] at hb
      obtain ⟨b1, b2, b3, b4, b5⟩ := hb
      have b1 := zFr b1
      have b2 := zFr b2
      have b3 := zFr b3
      have b4 := zFr b4
      rw [zb] at b5
      have h0 : 0 < esz := by simpa using b5
      subst b1
      split at hr
      ·rename_i φ' hp
       split at hr
       ·rename_i hfr
        obtain ⟨b, cs, m1, m2, m3, m4⟩ := h.m kk _ hk
        obtain ⟨_, m7, m8, b', m5, m6⟩ := k1
        rw [m1] at m5; cases m5
        cases hat : φ0.at_ sz true true off with
        | none => rw [hat] at hq; cases hq
        | some ψ0 =>
         rw [hat] at hq
         obtain ⟨c1, c2, c3, f1, f2, f3, f4, _, _⟩ := (AV.Ec φ0 hat m3).h
         obtain ⟨l1, l2⟩ := Mx hE.G h.m hq f4
         have hsz : (q.2.1.gr X.P).sz = esz := by rw [Ty.yc, b3, b2]
         have hrv := AV.YW hE.G h.m hv k2
         have hvc := wJ hrv
         have hl := (q.2.1.gr X.P).len hvc
         rw [hsz] at hl
         have hlt : m.toNat < q.2.2.length := by
          rw [l1]
          have : m.toNat * esz + esz ≤ q.1 * esz := by rw [b4]; exact m8
          have : (m.toNat + 1) * esz ≤ q.1 * esz := by rw [Nat.add_mul, Nat.one_mul]; exact this
          exact Nat.le_of_mul_le_mul_right this h0
         obtain ⟨d1, d2, d3, g1, g2, g3, g4, g5⟩ := jR.split l2 m.toNat q.2.2[m.toNat] (by simp [hlt])
         have g6 := g5 v _ hvc
         rw [hsz] at g2 g3
         have hds : (d1 ++ ((a.eval z).cells.toList ++ d3)).length = sz := by
          rw [← f3, g1]; simp only [zFt]; omega
         obtain ⟨p1, p2⟩ := AV.CJ φ0 hp m3
         have p3 := p2 _ hds ⟨by unfold jv; rw [List.length_set]; exact l1, g6⟩
         have hi : i.sz = (a.eval z).cells.toList.length := by rw [hl]; exact b2
         rw [hi] at ht
         have hspl : kj cs.toList (off + m.toNat * esz + 0) (a.eval z).cells.toList = cs.toList.take off ++ ((d1 ++ ((a.eval z).cells.toList ++ d3)) ++ cs.toList.drop (off + sz)) := by
          unfold kj
          rw [hl, f1, g1]
          have a1 : (c1 ++ (d1 ++ (d2 ++ d3) ++ c3)).take (off + m.toNat * esz + 0) = c1 ++ d1 := by
           rw [show c1 ++ (d1 ++ (d2 ++ d3) ++ c3) = (c1 ++ d1) ++ (d2 ++ d3 ++ c3) by simp [List.append_assoc]]
           rw [List.take_append_of_le_length (by simp only [zFt]; omega), List.take_of_length_le (by simp only [zFt]; omega)]
          have a2 : (c1 ++ (d1 ++ (d2 ++ d3) ++ c3)).drop (off + m.toNat * esz + 0 + esz) = d3 ++ c3 := by
           rw [show c1 ++ (d1 ++ (d2 ++ d3) ++ c3) = (c1 ++ d1 ++ d2) ++ (d3 ++ c3) by simp [List.append_assoc]]
           rw [List.drop_append_of_le_length (by simp only [zFt]; omega), List.drop_of_length_le (by simp only [zFt]; omega), List.nil_append]
          have a3 : (c1 ++ (d1 ++ (d2 ++ d3) ++ c3)).take off = c1 := by
           rw [List.take_append_of_le_length (by omega), List.take_of_length_le (by omega)]
          have a4 : (c1 ++ (d1 ++ (d2 ++ d3) ++ c3)).drop (off + sz) = c3 := by
           have : (d1 ++ (d2 ++ d3)).length = sz := by rw [← g1]; exact f3
           rw [show c1 ++ (d1 ++ (d2 ++ d3) ++ c3) = (c1 ++ (d1 ++ (d2 ++ d3))) ++ c3 by simp [List.append_assoc]]
           rw [List.drop_append_of_le_length (by simp only [zFt] at this ⊢; omega), List.drop_of_length_le (by simp only [zFt] at this ⊢; omega), List.nil_append]
          rw [a1, a2, a3, a4]; simp [List.append_assoc]
         have hbound : off + m.toNat * esz + 0 + (a.eval z).cells.toList.length ≤ cs.size := by
          rw [hl]
          have : cs.size = cs.toList.length := by simp
          rw [this]
          omega
         refine w6 h.ok0 h.base (h.okB nw) ht m6 rfl (vs := (a.eval z).cells.toList) (by simp) ((q.2.1.gr X.P).one hvc) m2 hbound rfl fun w' q1 q2 q3 => hK _ undef _ (h.mod hk rfl q2 q3 fun X' e1 e2 e3 e4 e5 e6 hle => ?_) (Inv.mod _ _ _) hr
         refine ⟨b, (kj cs.toList (off + m.toNat * esz + 0) (a.eval z).cells.toList).toArray, by rw [e5]; exact m1, ?_, ?_, hfr⟩
         ·rw [e6, e4, Cx.pS e2 e3]; exact q1
         ·show (φ'.sem X' w').c (kj cs.toList (off + m.toNat * esz + 0) (a.eval z).cells.toList)
          rw [hspl]
          exact (φ'.mono hle fun hh => by rw [hfr] at hh; cases hh).2.2 _ p3
       ·cases hr
      ·cases hr
     ·cases hr
    ·cases hr
   ·cases hr
  ·cases hr
 ·cases hr
def X4 : List (Option TypeId) → Ty → Bool
 | none :: ks, .cons a b => a.closed && X4 ks b
 | [], .nil => true
 | _, _ => false
def slT : (a : Ty) → a.D → Option ((t : Ty) × List t.D)
 | .sl e, y => some ⟨e, y⟩
 | _, _ => none
def Zu : List (Option TypeId) → (rs : Ty) → rs.D → Option (TypeId × (t : Ty) × List t.D)
 | some T :: ks, .cons a b, y => match X4 ks b, slT a y.1 with
  | true, some q => some (T, q)
  | _, _ => none
 | none :: ks, .cons a b, y => match a.closed with
  | true => Zu ks b y.2
  | false => none
 | _, _, _ => none
def Dv (k : Nat) : List (Option TypeId) → (rs : Ty) → rs.D → AV
 | some _ :: ks, .cons _ b, y => .pr (.ob k) (Dv k ks b y.2)
 | none :: ks, .cons a b, y => .pr (.rd a y.1) (Dv k ks b y.2)
 | _, _, _ => .un
def EB (k : Nat) (ks : List (Option TypeId)) (rs : Ty) (y : rs.D) : AV := match Dv k ks rs y with
 | .pr φ .un => φ
 | φ => .tp φ
theorem Km {P : Program} {O : zS} {B : Nat} {w1 : World} {k : Nat} : ∀ {ks : List (Option TypeId)} {rs : Ty} {y : rs.D} {vs : List Value}, X4 ks rs = true → JD P O B w1 ks rs vs y → ∀ (X' : Cx) (w2 : World), X'.P = P → ((Dv k ks rs y).sem X' w2).l vs
 | none :: ks, .cons a b, y, vs, hc, h, X', w2, hP => by
  simp only [X4, zFs] at hc
  obtain ⟨v, vs', h1, h2, h3, _⟩ := h
  refine ⟨v, vs', h1, ?_, Km hc.2 h3 X' w2 hP⟩
  show (a.gr X'.P).v _ _ _ _
  rw [hP]; exact Xm hc.1 h2
 | [], .nil, y, vs, hc, h, X', w2, hP => h
 | [], .int _, _, _, h, _, _, _, _ | [], .bool, _, _, h, _, _, _, _ | [], .str, _, _, h, _, _, _, _ | [], .sl _, _, _, h, _, _, _, _ | [], .cons .., _, _, h, _, _, _, _ | [], .arr .., _, _, h, _, _, _, _ | [], .box .., _, _, h, _, _, _, _ | [], .fn .., _, _, h, _, _, _, _ | [], .seq .., _, _, h, _, _, _, _ | [], .slo .., _, _, h, _, _, _, _ | [], .mp .., _, _, h, _, _, _, _ => by cases h
 | some _ :: _, .int _, _, _, h, _, _, _, _ | some _ :: _, .bool, _, _, h, _, _, _, _ | some _ :: _, .str, _, _, h, _, _, _, _ | some _ :: _, .sl _, _, _, h, _, _, _, _ | some _ :: _, .nil, _, _, h, _, _, _, _ | some _ :: _, .cons .., _, _, h, _, _, _, _ | some _ :: _, .arr .., _, _, h, _, _, _, _ | some _ :: _, .box .., _, _, h, _, _, _, _ | some _ :: _, .fn .., _, _, h, _, _, _, _ | some _ :: _, .seq .., _, _, h, _, _, _, _ | some _ :: _, .slo .., _, _, h, _, _, _, _ | some _ :: _, .mp .., _, _, h, _, _, _, _ => by cases h
 | none :: _, .int _, _, _, h, _, _, _, _ | none :: _, .bool, _, _, h, _, _, _, _ | none :: _, .str, _, _, h, _, _, _, _ | none :: _, .sl _, _, _, h, _, _, _, _ | none :: _, .nil, _, _, h, _, _, _, _ | none :: _, .arr .., _, _, h, _, _, _, _ | none :: _, .box .., _, _, h, _, _, _, _ | none :: _, .fn .., _, _, h, _, _, _, _ | none :: _, .seq .., _, _, h, _, _, _, _ | none :: _, .slo .., _, _, h, _, _, _, _ | none :: _, .mp .., _, _, h, _, _, _, _ => by cases h
theorem I6 : ∀ {a : Ty} {y : a.D} {q : (t : Ty) × List t.D}, slT a y = some q → ∃ e : a = .sl q.1, Ty.cast e y = q.2
 | .sl e, y, q, h => by cases h; exact ⟨rfl, rfl⟩
 | .int _, _, _, h | .bool, _, _, h | .str, _, _, h | .nil, _, _, h | .cons .., _, _, h | .arr .., _, _, h | .box .., _, _, h | .fn .., _, _, h | .seq .., _, _, h | .slo .., _, _, h | .mp .., _, _, h => by cases h
theorem JH {P : Program} {O : zS} {B : Nat} {w1 : World} {k : Nat} : ∀ {ks : List (Option TypeId)} {rs : Ty} {y : rs.D} {vs : List Value} {q : TypeId × (t : Ty) × List t.D}, Zu ks rs y = some q → JD P O B w1 ks rs vs y →
  ∃ u, ZH (q.2.1.gr P) q.1 B O w1 u q.2.2 ∧ ∀ (X' : Cx), X'.P = P → X'.U k = u → k < X'.n → u.oneCell' = true → ((Dv k ks rs y).sem X' w1).l vs
 | some T :: ks, .cons a b, y, vs, q, hq, h => by
  simp only [Zu] at hq
  split at hq
  ·rename_i q' hc hs
   cases hq
   obtain ⟨v, vs', h1, h2, h3, _⟩ := h
   obtain ⟨e, he⟩ := I6 hs
   subst e
   refine ⟨v, ?_, fun X' hP hU hk hv1 => ⟨v, vs', h1, ⟨hU.symm, hk, hv1⟩, Km hc h3 X' w1 hP⟩⟩
   rw [← he]; exact h2
  ·cases hq
 | none :: ks, .cons a b, y, vs, q, hq, h => by
  simp only [Zu] at hq
  split at hq
  ·rename_i hc
   obtain ⟨v, vs', h1, h2, h3, _⟩ := h
   obtain ⟨u, h4, h5⟩ := JH (k := k) hq h3
   refine ⟨u, h4, fun X' hP hU hk hv1 => ⟨v, vs', h1, ?_, h5 X' hP hU hk hv1⟩⟩
   show (a.gr X'.P).v _ _ _ _
   rw [hP]; exact Xm hc h2
  ·cases hq
 | [], _, _, _, _, h, _ => by cases h
 | _ :: _, .int _, _, _, _, h, _ | _ :: _, .bool, _, _, _, h, _ | _ :: _, .str, _, _, _, h, _ | _ :: _, .sl _, _, _, _, h, _ | _ :: _, .nil, _, _, _, h, _ | _ :: _, .arr .., _, _, _, h, _ | _ :: _, .box .., _, _, _, h, _ | _ :: _, .fn .., _, _, _, h, _ | _ :: _, .seq .., _, _, _, h, _ | _ :: _, .slo .., _, _, _, h, _ | _ :: _, .mp .., _, _, _, h, _ => by simp [Zu] at h
theorem DA {X' : Cx} {w1 : World} {k : Nat} {ks : List (Option TypeId)} {rs : Ty} {y : rs.D} {vs : List Value} {v : Value} (h : ((Dv k ks rs y).sem X' w1).l vs) (hne : vs ≠ []) (ht : YV vs v) : (EB k ks rs y).holds X' w1 v := by
 have hv : v = tup vs := ht.resolve_left hne
 unfold EB
 split
 ·rename_i φ hφ
  rw [hφ] at h
  obtain ⟨v1, vs1, h1, h2, h3⟩ := h
  rw [show vs1 = [] from h3] at h1
  rw [hv, h1]; exact h2
 ·rename_i φ hφ
  match vs, hne with
  | [v1], _ =>
   exfalso
   cases hL : Dv k ks rs y <;> rw [hL] at h <;> try exact h.elim
   ·cases h
   ·rename_i a b
    obtain ⟨_, vs1, h1, _, h3⟩ := h
    cases h1
    cases b <;> try exact h3.elim
    ·exact hφ _ hL
    ·obtain ⟨_, _, h4, _⟩ := h3; cases h4
  | v1 :: v2 :: vs, _ => exact ⟨_, h, hv⟩
end
theorem DM {d : Nat} : ∀ {l : List Nat}, d ∈ l → gx d l = true
 | [], h => nomatch h
 | e :: l, h => by
  unfold gx
  cases hb : Nat.beq e d with
  | true => rfl
  | false =>
   rcases List.mem_cons.1 h with rfl | h
   ·rw [Nat.beq_refl] at hb; cases hb
   ·exact DM h
theorem Xw {α : Type} {l m : List (Nat × α)} {t : Nat} {e : α} (h : look (l ++ m) t = some e) : look l t = some e ∨ (look l t = none ∧ look m t = some e) := by
 induction l with
 | nil => exact .inr ⟨rfl, h⟩
 | cons p l ih =>
  simp only [List.cons_append, look] at h ⊢
  cases hb : Nat.beq p.1 t with
  | true => rw [hb] at h; exact .inl h
  | false => rw [hb] at h; exact ih h
def AV.els : AV → List AV
 | .pr a b => a :: b.els
 | _ => []
theorem AV.Mp {X : Cx} {w : World} (φ : AV) : ∀ {vs : List Value}, (φ.sem X w).l vs → vs.length = φ.els.length ∧ ∀ (i : Nat) ψ v, φ.els[i]? = some ψ → vs[i]? = some v → ψ.holds X w v := by
 induction φ with
 | pr a b iha ihb =>
  intro vs h
  obtain ⟨v, vs', rfl, h1, h2⟩ := h
  obtain ⟨h3, h4⟩ := ihb h2
  refine ⟨by simp [AV.els, h3], fun i ψ u hi hu => ?_⟩
  cases i with
  | zero => simp only [AV.els, List.getElem?_cons_zero, Option.some.injEq] at hi hu; subst hi hu; exact h1
  | succ i => simp only [AV.els, List.getElem?_cons_succ] at hi hu; exact h4 i ψ u hi hu
 | un => intro vs h; rw [show vs = [] from h]; exact ⟨rfl, fun i ψ u hi => by simp [AV.els] at hi⟩
 | _ => intro vs h; exact False.elim h
def mIn (G : FE) (M : MS) : List (Option TypeId) → (ps : Ty) → List AV → Option (ps.D × List Nat)
 | some T :: io, .cons (.box e) q, φ :: l => match φ with
  | .bx k off => match off, look M k with
   | 0, some (_, .bx _ c T') => match Nat.beq T T', c.asT G M e, mIn G M io q l with
    | true, some x, some p => match gx k p.2 with
     | false => some ((x, p.1), k :: p.2)
     | true => none
    | _, _, _ => none
   | _, _ => none
  | _ => none
 | none :: io, .cons a q, φ :: l => match φ.asT G M a, mIn G M io q l with
  | some x, some p => some ((x, p.1), p.2)
  | _, _ => none
 | [], .nil, [] => some ((), [])
 | _, _, _ => none
inductive MSh : List (Option TypeId) → Ty → List AV → Prop
 | n : MSh [] .nil []
 | b {T io e q φ l} : MSh (some T :: io) (.cons (.box e) q) (φ :: l)
 | v {io a q φ l} : MSh (none :: io) (.cons a q) (φ :: l)
theorem K2 {G : FE} {M : MS} {io : List (Option TypeId)} {ps : Ty} {l : List AV} {r} (h : mIn G M io ps l = some r) : MSh io ps l := by
 cases io with
 | nil => cases ps <;> cases l <;> first | exact .n | (simp [mIn] at h)
 | cons o io =>
  cases o with
  | none => cases ps <;> cases l <;> first | exact .v | (simp [mIn] at h)
  | some T =>
   cases ps with
   | cons p q => cases p <;> cases l <;> first | exact .b | (simp [mIn] at h)
   | _ => cases l <;> (simp [mIn] at h)
theorem r9 {G : FE} {M : MS} {T io e q φ l} {x : (Ty.cons (.box e) q).D} {ks : List Nat} (h : mIn G M (some T :: io) (.cons (.box e) q) (φ :: l) = some (x, ks)) :
  ∃ k st nw c ks', φ = .bx k 0 ∧ look M k = some (st, .bx nw c T) ∧ c.asT G M e = some x.1 ∧ mIn G M io q l = some (x.2, ks') ∧ ks = k :: ks' ∧ gx k ks' = false := by
 unfold mIn at h
 split at h
 ·rename_i k off
  split at h
  ·rename_i st nw c T' hk
   split at h
   ·rename_i x1 p hT hc hp
    split at h
    ·rename_i hmem
     cases h
     have hTT : T = T' := zFr hT
     subst hTT
     exact ⟨k, st, nw, c, p.2, rfl, hk, hc, hp, rfl, hmem⟩
    ·cases h
   ·cases h
  ·cases h
 ·cases h
theorem rz {G : FE} {M : MS} {io a q φ l} {x : (Ty.cons a q).D} {ks : List Nat} (h : mIn G M (none :: io) (.cons a q) (φ :: l) = some (x, ks)) : φ.asT G M a = some x.1 ∧ mIn G M io q l = some (x.2, ks) := by
 unfold mIn at h
 split at h
 ·rename_i x1 p hx hp; cases h; exact ⟨hx, hp⟩
 ·cases h
def BK (X : Cx) : List Nat → List Nat → Prop
 | [], [] => True
 | k :: ks, b :: bl => X.U k = .pointer (some ⟨b, 0, none⟩) ∧ X.O b = X.ι k ∧ BK X ks bl
 | _, _ => False
def Nv (M : MS) (k : Nat) : Prop := ∃ e, look M k = some e ∧ e.2.own = true
theorem WB {X : Cx} {w : World} {G : FE} (hG : FOk X.P G) {M : MS} (hM : yG M X w) (hinj : ∀ k k' e e', look M k = some e → look M k' = some e' → e.2.own = true → e'.2.own = true → X.ι k = X.ι k' → k = k') (hpos : ∀ k e, look M k = some e → e.2.own = true → X.ι k ≠ 0) :
  ∀ {io : List (Option TypeId)} {ps : Ty} {l : List AV} {x : ps.D} {ks : List Nat} {vs : List Value}, mIn G M io ps l = some (x, ks) → vs.length = l.length → (∀ (i : Nat) φ v, l[i]? = some φ → vs[i]? = some v → φ.holds X w v) →
   ∃ bl, MIn X.P X.O w io ps bl vs x ∧ BK X ks bl ∧ (∀ k ∈ ks, Nv M k) ∧ (∀ b ∈ bl, ∃ k ∈ ks, X.O b = X.ι k) := by
 intro io
 induction io with
 | nil =>
  intro ps l x ks vs h hl hv
  cases K2 h
  simp only [mIn] at h
  cases h
  have : vs = [] := List.length_eq_zero_iff.1 hl
  subst this
  exact ⟨[], ⟨rfl, rfl⟩, trivial, by simp, by simp⟩
 | cons o io ih =>
  intro ps l x ks vs h hl hv
  cases K2 h with
  | @b T _ e q φ l' =>
   obtain ⟨k, st, nw, c, ks', rfl, hk, hc, hp, rfl, hmem⟩ := r9 h
   cases vs with
   | nil => simp at hl
   | cons v vs' =>
   have hφ := hv 0 _ v rfl rfl
   obtain ⟨b, cs, h1, h2, h3, h4⟩ := hM k _ hk
   obtain ⟨_, b', h5, rfl⟩ := (hφ : k < X.n ∧ ∃ b, X.U k = .pointer (some ⟨b, 0, none⟩) ∧ v = .pointer (some ⟨b, 0, none⟩))
   rw [h1] at h5
   simp only [Value.pointer.injEq, Option.some.injEq, Addr.mk.injEq, and_true] at h5
   subst h5
   obtain ⟨bl, g1, g2, g3, g4⟩ := ih (vs := vs') (l := l') hp (by simpa using hl) (fun i φ v hi hv' => hv (i + 1) φ v (by simpa using hi) (by simpa using hv'))
   have hkk : Nv M k := ⟨_, hk, rfl⟩
   have hnk : k ∉ ks' := fun hin => by rw [DM hin] at hmem; cases hmem
   refine ⟨b :: bl, ⟨b, bl, vs', cs, rfl, rfl, h2.own, ?_, fun c' hc' => ?_, (AV.km hG c hM).vc hc h3, g1⟩, ⟨h1, h2.tag, g2⟩, fun j hj => ?_, fun c' hc' => ?_⟩
   ·rw [h2.tag]; exact hpos k _ hk rfl
   ·obtain ⟨j, hj, hj2⟩ := g4 c' hc'
    rw [h2.tag, hj2]
    obtain ⟨e', he', ho'⟩ := g3 j hj
    intro heq
    exact hnk (hinj j k _ _ he' hk ho' rfl heq ▸ hj)
   ·rcases List.mem_cons.1 hj with rfl | hj
    ·exact hkk
    ·exact g3 j hj
   ·rcases List.mem_cons.1 hc' with rfl | hc'
    ·exact ⟨k, by simp, h2.tag⟩
    ·obtain ⟨j, hj, hj2⟩ := g4 c' hc'; exact ⟨j, by simp [hj], hj2⟩
  | @v _ a q φ l' =>
   obtain ⟨hx, hp⟩ := rz h
   cases vs with
   | nil => simp at hl
   | cons v vs' =>
   obtain ⟨bl, g1, g2, g3, g4⟩ := ih (vs := vs') (l := l') hp (by simpa using hl) (fun i φ v hi hv' => hv (i + 1) φ v (by simpa using hi) (by simpa using hv'))
   exact ⟨bl, ⟨v, vs', rfl, AV.YW hG hM hx (hv 0 φ v rfl rfl), g1⟩, g2, g3, g4⟩
def wD (M : MS) (n : Nat) : (io : List (Option TypeId)) → (ps : Ty) → List Nat → (ioT io ps).D → MS
 | some T :: io, .cons (.box e) q, k :: ks, y => match look M k with
  | some (_, .bx nw _ _) => (k, n, .bx nw (.rd e y.1) T) :: wD M n io q ks y.2
  | _ => wD M n io q ks y.2
 | none :: io, .cons _ q, ks, y => wD M n io q ks y
 | _, _, _, _ => []
theorem DO {X X' : Cx} {w w' : World} {G : FE} {M : MS} (hM : yG M X w) (hP : X'.P = X.P) (hO : X'.O = X.O) (hU : X'.U = X.U) (hι : X'.ι = X.ι) (hA : X'.A = X.A) (hF : X'.F = X.F) {n : Nat} :
  ∀ {io : List (Option TypeId)} {ps : Ty} {l : List AV} {x : ps.D} {ks bl : List Nat} {y : (ioT io ps).D}, mIn G M io ps l = some (x, ks) → BK X ks bl → Bx X.P X.O w' io ps bl y →
   (∀ k e, look (wD M n io ps ks y) k = some e → e.1 = n ∧ k ∈ ks ∧ e.2.holds X' w' k) ∧ (∀ k ∈ ks, look (wD M n io ps ks y) k ≠ none) := by
 intro io
 induction io with
 | nil =>
  intro ps l x ks bl y h hb ho
  cases K2 h
  simp only [mIn] at h
  cases h
  exact ⟨fun k e he => (nomatch he), by simp⟩
 | cons o io ih =>
  intro ps l x ks bl y h hb ho
  cases K2 h with
  | @b T _ e q φ l' =>
   obtain ⟨k, st, nw, c, ks', rfl, hk, hc, hp, rfl, hmem⟩ := r9 h
   obtain ⟨b0, cs0, h1, h2, h3, h4⟩ := hM k _ hk
   cases bl with
   | nil => exact hb.elim
   | cons b bl =>
   obtain ⟨hb1, hb2, hb3⟩ := hb
   obtain ⟨b', bl', cs, e1, h5, h6, h7⟩ := ho
   cases e1
   rw [h1] at hb1
   simp only [Value.pointer.injEq, Option.some.injEq, Addr.mk.injEq, and_true] at hb1
   subst hb1
   obtain ⟨g1, g2⟩ := ih hp hb3 h7
   have em : wD M n (some T :: io) (.cons (.box e) q) (k :: ks') y = (k, n, .bx nw (.rd e y.1) T) :: wD M n io q ks' y.2 := by
    simp only [wD]
    rw [hk]
   rw [em]
   refine ⟨fun j f hf => ?_, fun j hj => ?_⟩
   ·rcases zH hf with ⟨e1, e2⟩ | ⟨e1, e2⟩
    ·subst e1 e2
     refine ⟨rfl, by simp, b0, cs, by rw [hU]; exact h1, ⟨h5, ?_, ?_⟩, ?_, rfl⟩
     ·rw [Cx.pS hA hF]; exact h2.ge
     ·rw [hO, hι]; exact hb2
     ·show (e.gr X'.P).rel X'.O w' cs.toList y.1
      rw [hP, hO]; exact h6
    ·obtain ⟨a1, a2, a3⟩ := g1 j f e2; exact ⟨a1, by simp [a2], a3⟩
   ·unfold look
    cases hkj : Nat.beq k j with
    | true => simp [hkj]
    | false =>
     simp only [hkj, cond_false]
     refine g2 j ?_
     rcases List.mem_cons.1 hj with rfl | hj
     ·rw [Nat.beq_refl] at hkj; cases hkj
     ·exact hj
  | @v _ a q φ l' =>
   obtain ⟨hx, hp⟩ := rz h
   exact ih hp hb ho
def rf (E : VE) (s : S) (d : Option Tmp) (φ : Option AV) (l : Option (List AV)) (k : S → Comp β) : Comp β := match φ, l with
 | some (.cl f ca cb), some l => match E.H f with
  | none => Comp.fail
  | some fs => match mIn E.G s.M fs.io fs.ps (ca.els ++ (l ++ cb.els)) with
   | some p => (fs.sem p.1).bind fun y => k (S.put { L := s.L, M := wD s.M s.n fs.io fs.ps p.2 y.1 ++ s.M, n := s.n + 1, ep := s.n } d (AO fs.rs y.2))
   | none => Comp.fail
 | _, _ => Comp.fail
section
variable {F : Frm} {s : S} {a : Act} {w : World} {X : Cx} {E : VE}
variable {d : Option Tmp} {T Y : TypeId} {pos : String} {aft : Array Edge} {g : Option (Nat × Bool)} {k : S → Comp β}
theorem rQ {f : FuncId} {x : Operand} {xs : Array Operand} {ts : Array TypeId} {fst cap : Array Value} {R : Ending → World → Prop} {K : Act → World → Prop} {Q : Exit → Act → World → Prop} {P : Program} (hf : FnOk P f) (hu : a.eval x = .func (.func f) fst cap) (h : Calls P f (fst ++ xs.map a.eval ++ cap) w R)
  (hK : ∀ e w', R e w' → ∃ v, e = .returned v ∧ K (a.put d v) w') : Oper.wp P ⟨d, .call ⟨.value x, xs, ts⟩, T, pos, aft, g⟩ a w K Q := by
 obtain ⟨fn, h1, h2, h3⟩ := hf.h
 have hr : (execOp a.eval ⟨d, .call ⟨.value x, xs, ts⟩, T, pos, aft, g⟩).run P w = .ok (.enter f (fst ++ xs.map a.eval ++ cap)) w := by
  simp only [execOp, resolve, hu, Deferred.ofValue, Sem.run_bind, Sem.run_pure, Result.andThen, invoke, callFunc, run_program, h1]
  simp [h2, h3]
 unfold Oper.wp
 rw [hr]
 refine Calls.mono h fun e w' he => ?_
 obtain ⟨v, rfl, hv⟩ := hK e w' he
 exact hv
theorem RelX.W6 (h : RelX F s a w X) (hG : FOk X.P E.G) {io : List (Option TypeId)} {ps : Ty} {l : List AV} {x : ps.D} {ks bl : List Nat} {y : (ioT io ps).D} {w' : World} (hi : mIn E.G s.M io ps l = some (x, ks)) (hb : BK X ks bl) (hk : ∀ k ∈ ks, Nv s.M k) (hbl : ∀ b ∈ bl, ∃ k ∈ ks, X.O b = X.ι k) (hw : ButL bl w w') (ho : Bx X.P X.O w' io ps bl y) :
  RelX F { L := s.L, M := wD s.M s.n io ps ks y ++ s.M, n := s.n + 1, ep := s.n } a w' { X with n := s.n + 1, ep := s.n } := by
 have hne : ∀ b, b ∈ bl → X.O b ≠ 0 ∧ X.O b ≠ F.x.st := fun b hb => by
  obtain ⟨k, h1, h2⟩ := hbl b hb
  obtain ⟨e, h3, h4⟩ := hk k h1
  rw [h2]; exact h.pos k e h3 h4
 have hkeep : ∀ t, (∀ b ∈ bl, X.O b ≠ t) → zj t X.O w X.O w' := fun t ht => ⟨hw.size, fun b hb hbt => ⟨hbt, hw.block b hb fun hin => ht b hin hbt⟩⟩
 let X' : Cx := { X with n := s.n + 1, ep := s.n }
 have hout := DO (X := X) (X' := X') (w := w) (w' := w') (G := E.G) (n := s.n) h.m rfl rfl rfl rfl rfl rfl hi hb ho
 have hinbl : ∀ b ∈ bl, F.A b := fun b hbin => by
  have : ∀ {ks bl : List Nat}, BK X ks bl → (∀ k ∈ ks, Nv s.M k ∧ ∃ st nw c T, look s.M k = some (st, .bx nw c T)) → ∀ b ∈ bl, F.A b := by
   intro ks
   induction ks with
   | nil => intro bl hb _ b hin; cases bl with | nil => cases hin | cons => exact hb.elim
   | cons k ks ih =>
    intro bl hb hks b hin
    cases bl with
    | nil => cases hin
    | cons b' bl =>
     obtain ⟨q1, q2, q3⟩ := hb
     rcases List.mem_cons.1 hin with rfl | hin
     ·obtain ⟨_, st, nw, c, T, hl⟩ := hks k (by simp)
      obtain ⟨b0, cs0, e1, e2, _⟩ := h.m k _ hl
      rw [q1] at e1
      simp only [Value.pointer.injEq, Option.some.injEq, Addr.mk.injEq, and_true] at e1
      subst e1
      exact (h.okB nw).sub _ e2.ge
     ·exact ih q3 (fun k' hk' => hks k' (by simp [hk'])) b hin
  refine this hb (fun k hkk => ⟨hk k hkk, ?_⟩) b hbin
  have hsome : ∀ {io : List (Option TypeId)} {ps : Ty} {l : List AV} {x : ps.D} {ks : List Nat}, mIn E.G s.M io ps l = some (x, ks) → ∀ k ∈ ks, ∃ st nw c T, look s.M k = some (st, .bx nw c T) := by
   intro io
   induction io with
   | nil =>
    intro ps l x ks h
    cases K2 h
    simp only [mIn] at h
    cases h; simp
   | cons o io ih =>
    intro ps l x ks h
    cases K2 h with
    | b =>
     obtain ⟨k, st, nw, c, ks', rfl, hk, hc, hp, rfl, hmem⟩ := r9 h
     intro j hj
     rcases List.mem_cons.1 hj with rfl | hj
     ·exact ⟨_, _, _, _, hk⟩
     ·exact ih hp j hj
    | v =>
     obtain ⟨hx, hp⟩ := rz h
     exact ih hp
  exact hsome hi k hkk
 refine h.go h.fit rfl rfl rfl (fun j hj => hkeep j fun b hb e => by rcases hj with rfl | rfl; exact (hne b hb).1 e; exact (hne b hb).2 e) (fun _ _ => rfl) rfl rfl (Nat.le_succ _) (Nat.le_succ _) ?_ (fun hf => absurd (hf : s.n ≤ F.fe) (Nat.not_le.2 h.fe)) (fun _ _ _ => rfl) (fun t e he => .inr ⟨he, rfl, fun hfr hf => ?_⟩) (fun k' e he => ?_) (fun j k' e e' he he' ho ho' heq => ?_) (fun k' e he ho => ?_)
 ·have hB := h.base
  refine ⟨hw.os.trans hB.os, hw.tape.trans hB.tape, hw.output.trans hB.output, Nat.le_trans hB.size hw.size, fun b hb hA => ?_, fun b hb => hB.ok b (Nat.le_trans hw.size hb), hB.old, fun b hb h0 => ?_, hB.new⟩
  ·rw [hw.block b (Nat.lt_of_lt_of_le hb hB.size) fun hin => hA (hinbl b hin)]; exact hB.block b hb hA
  ·by_cases hlt : b < w.heap.size
   ·exact hB.zero b hlt h0
   ·exact h.ok0 b (by have := hB.size; omega)
 ·have := h.ln t e he
  simp only [fresh, hfr, Bool.not_true, Bool.false_or] at hf
  rw [kI] at hf
  have hf' : s.n ≤ e.1 := of_decide_eq_true hf
  omega
 ·rcases Xw he with h1 | ⟨h1, h2⟩
  ·obtain ⟨a1, a2, a3⟩ := hout.1 k' e h1
   obtain ⟨e0, a4, a5⟩ := hk k' a2
   have := (h.mn k' e0 a4).2
   exact .inl ⟨by rw [a1]; exact Nat.lt_succ_self _, Nat.lt_succ_of_lt this, a3⟩
  ·refine .inr ⟨h2, rfl, fun ho => hkeep _ fun b hb heq => ?_⟩
   obtain ⟨j, g1, g2⟩ := hbl b hb
   obtain ⟨e0, g3, g4⟩ := hk j g1
   have : j = k' := h.inj j k' e0 e g3 h2 g4 ho (g2.symm.trans heq)
   subst this
   exact hout.2 j g1 h1
 ·have key : ∀ {k e}, look (wD s.M s.n io ps ks y ++ s.M) k = some e → e.2.own = true → Nv s.M k := fun {k e} he ho => by
   rcases Xw he with h1 | ⟨h1, h2⟩
   ·exact hk k (hout.1 k e h1).2.1
   ·exact ⟨e, h2, ho⟩
  obtain ⟨e1, a1, a2⟩ := key he ho
  obtain ⟨e2, a3, a4⟩ := key he' ho'
  exact h.inj j k' e1 e2 a1 a3 a2 a4 heq
 ·rcases Xw he with h1 | ⟨h1, h2⟩
  ·obtain ⟨e0, a4, a5⟩ := hk k' (hout.1 k' e h1).2.1
   exact h.pos k' e0 a4 a5
  ·exact h.pos k' e h2 ho
theorem Inv.W6 (s : S) {io : List (Option TypeId)} {ps : Ty} {ks : List Nat} {y : (ioT io ps).D} (hn : ∀ k e, look (wD s.M s.n io ps ks y) k = some e → e.1 = s.n) : Inv s { L := s.L, M := wD s.M s.n io ps ks y ++ s.M, n := s.n + 1, ep := s.n } where
 le := Nat.le_succ _
 l := fun t e he _ => he
 m := fun k e he hlt => by
  rcases Xw he with h1 | ⟨_, h2⟩
  ·rw [hn k e h1] at hlt; exact absurd hlt (Nat.lt_irrefl _)
  ·exact h2
theorem Ay (hE : E.ok X.P) (h : RelX F s a w X) (hd : F.dst d) {x : Operand} {xs : Array Operand} {ts : Array TypeId} : gj F s a w ⟨d, .call ⟨.value x, xs, ts⟩, T, pos, aft, g⟩ (rf E s d (rdO s.ep s.L [] [] x) (ji (rdO s.ep s.L [] []) xs.toList) k) k := by
 intro nf y hr K Q hK
 rw [← h.P]
 rw [← h.ep] at hr
 unfold rf at hr
 split at hr
 ·rename_i f ca cb l hφ hl
  split at hr
  ·cases hr
  ·rename_i fs hs
   split at hr
   ·rename_i p hp
    obtain ⟨y0, hy0, hr⟩ := run_bind hr
    have H := h.rd (Op.operands (.call ⟨.value x, xs, ts⟩))
    have k1 := H x _ (by simp [Op.operands, Call.operands]) hφ
    have hlen := kL hl
    obtain ⟨vs, us, e1, e2, e3⟩ := k1
    obtain ⟨A1, A2⟩ := ca.Mp e1
    obtain ⟨B1, B2⟩ := cb.Mp e2
    have hget : ∀ (i : Nat) φ v, l[i]? = some φ → (xs.toList.map a.eval)[i]? = some v → φ.holds X w v := by
     intro i φ v hi hv
     rw [List.getElem?_map, Option.map_eq_some_iff] at hv
     obtain ⟨z, hz, rfl⟩ := hv
     obtain ⟨z', hz1, hz2⟩ := ZA hl i φ hi
     rw [hz] at hz1; cases hz1
     refine H z φ ?_ hz2
     have hz' : z ∈ xs := Array.mem_toList_iff.1 (List.mem_of_getElem? hz)
     simp [Op.operands, Call.operands, hz']
    have hall := X9 (R := fun (φ : AV) v => φ.holds X w v) A1 A2 (X9 (l1 := l) (m1 := xs.toList.map a.eval) (by simp [hlen]) hget B2)
    obtain ⟨bl, g1, g2, g3, g4⟩ := WB hE.G h.m h.inj (fun k e h1 h2 => (h.pos k e h1 h2).1) (vs := vs ++ (xs.toList.map a.eval ++ us)) (ks := p.2) (x := p.1) hp (by simp [A1, B1, hlen]) hall
    obtain ⟨f1, f2⟩ := hE.H f fs hs
    have hc := f2 X.O w h.okO bl _ p.1 g1 nf y0 hy0
    have harr : (vs ++ (xs.toList.map a.eval ++ us)).toArray = vs.toArray ++ xs.map a.eval ++ us.toArray := by
     rw [show xs.map a.eval = (xs.toList.map a.eval).toArray by rw [← Array.toList_map], YJ]
    rw [harr] at hc
    refine rQ f1 e3 hc fun e w' he => ?_
    obtain ⟨v, rs, q1, q2, q3, q4, q5⟩ := he
    refine ⟨v, q1, ?_⟩
    have hR := h.W6 (E := E) hE.G hp g2 g3 g4 q4 q5
    have hst := DO (X := X) (X' := X) (w := w) (w' := w') (G := E.G) (n := s.n) h.m rfl rfl rfl rfl rfl rfl hp g2 q5
    have hR2 := hR.val (Ext.refl w') hd (wN (X := { X with n := s.n + 1, ep := s.n }) q3 q2)
    exact hK _ _ _ ⟨_, hR2⟩ ((Inv.W6 s fun k e he => (hst.1 k e he).1).trans (Inv.put _ _ _)) hr
   ·cases hr
 ·cases hr
end
section
variable {F : Frm} {s : S} {a : Act} {w : World} {X : Cx} {E : VE}
variable {d : Option Tmp} {T Y : TypeId} {pos : String} {aft : Array Edge} {g : Option (Nat × Bool)} {k : S → Comp β}
def NF (s : S) (d : Option Tmp) (p : Nat × Bool × TypeId × (t : Ty) × List t.D) (n : Option (IntKind × Int)) (k : S → Comp β) : Comp β := match n with
 | some n => (sub p.2.2.2.2 0 n.2).bind fun ys => k (s.ren d p.1 (.sl p.2.1 p.2.2.2.1 p.2.2.1 ys))
 | none => Comp.fail
theorem HX (hE : E.ok X.P) (h : RelX F s a w X) (hd : F.dst d) {x y : Operand} {p : Nat × Bool × TypeId × (t : Ty) × List t.D} {φ : AV} (hφ : rdO s.ep s.L [] [] x = some φ) (hp : wA s.M φ = some p) {i : TI} (hi : look E.T Y = some i) {e : TypeId} (he : slD i.dd = some e) {j : TI} (hj : look E.T e = some j) (hs : Nat.beq p.2.2.2.1.sz j.sz = true) :
  gj F s a w ⟨d, .slice Y x none (some y) none, T, pos, aft, g⟩ (NF s d p ((rdO s.ep s.L [] [] y).bind AV.int?) k) k := by
 intro nf y' hr K Q hK
 rw [← h.P]
 unfold NF at hr
 split at hr
 ·rename_i n hn
  obtain ⟨ys, hys, hr⟩ := run_bind hr
  have ht := (hE.T Y i hi).ty
  rw [kO he] at ht
  have hj' := (hE.T e j hj).ty
  rw [← h.ep] at hφ hn
  have k1 := h.rd #[x] x φ (by simp) hφ
  have hn' := y9 (h.rd #[y]) (by simp) hn
  obtain ⟨e0, f1, f2, f3, f4⟩ := Ky h.m k1 hp
  have hs' : (p.2.2.2.1.gr X.P).sz = j.sz := by rw [Ty.yc]; exact zFr hs
  refine YR ht hj' hs' rfl f3.R6 hn' hys K Q fun v w' hEx hv => ?_
  have hv : v = G3 (a.eval x) ys.length := hv
  subst hv
  have g1 := l9 (f3.ext hEx) hys
  refine hK _ _ _ (h.ren hd f1 (by rw [f2]; rfl) (h.base.step hEx h.ok0) ⟨hEx.size, fun b hb _ => ⟨rfl, hEx.block b hb⟩⟩ (kg g1) fun X' e1 e2 e3 e4 e5 e6 hle => ?_) (Inv.ren _ _ _ _) hr
  show zr _ _ _ _ _ _ _ _
  rw [e5, e6, e1, e4, show X'.B = X.B from by funext nw; cases nw <;> simp [Cx.B, e2, e3]]
  exact g1
 ·cases hr
def CC (E : VE) (s : S) (d : Option Tmp) (Y : TypeId) (kk n : Nat) (ψ : Option AV) (k : S → Comp β) : Comp β := match ψ, look s.M kk with
 | some ψ, some (_, .sl nw t T xs) => match look E.T Y with
  | none => Comp.fail
  | some i => match slD i.dd with
   | none => Comp.fail
   | some e => match look E.T e with
    | none => Comp.fail
    | some j => match JT j t && Nat.beq T e, apY s.M t ψ with
     | true, some ys => (sub xs 0 (n : Int)).bind fun xs => (app xs ys).bind fun zs => k (s.ren d kk (.sl nw t e zs))
     | _, _ => Comp.fail
 | _, _ => Comp.fail
theorem E3 (hE : E.ok X.P) (h : RelX F s a w X) (hd : F.dst d) {x z : Operand} {kk n : Nat} (hφ : rdO s.ep s.L [] [] x = some (.px kk n)) : gj F s a w ⟨d, .call ⟨.builtin .append, #[x, z], #[Y, Y]⟩, T, pos, aft, g⟩ (CC E s d Y kk n (rdO s.ep s.L [] [] z) k) k := by
 intro nf y hr K Q hK
 rw [← h.P]
 rw [← h.ep] at hr hφ
 unfold CC at hr
 split at hr
 ·rename_i ψ st nw t T' xs hψ hk
  have k1 := h.rd #[x] x _ (by simp) hφ
  have k2 := h.rd #[z] z ψ (by simp) hψ
  split at hr
  ·cases hr
  ·rename_i i hi
   have ht := (hE.T Y i hi).ty
   split at hr
   ·cases hr
   ·rename_i e he
    rw [kO he] at ht
    split at hr
    ·cases hr
    ·rename_i j hj
     have ht' := (hE.T e j hj).ty
     have hap : ∀ {t : Ty}, JT j t = true → ∃ E', j.sz = E' + 1 ∧ (t.gr X.P).sz = E' + 1 ∧ j.by_ ≤ 131072 ∧ j.z.cells.size = E' + 1 := by
      intro t hb
      unfold JT at hb
      simp only [zFs] at hb
      obtain ⟨b1, b2, b3, b4⟩ := hb
      rw [zb] at b1
      have b1 : 0 < j.sz := by simpa using b1
      have b2 := zFr b2
      have b4 := zFr b4
      exact ⟨j.sz - 1, by omega, by rw [Ty.yc]; omega, Nat.le_of_ble_eq_true b3, by omega⟩
     split at hr
     ·rename_i ys hb hys
      rw [zFs] at hb
      obtain ⟨E', g1, g2, g3, g4⟩ := hap hb.1
      obtain ⟨⟨k3, p0, l0, c0, k4, k5⟩, k6⟩ := k1
      have f3 : zr (X.ι kk) (t.gr X.P) T' (X.B nw) X.O w (X.U kk) xs := h.m kk _ hk
      rw [g1] at ht'
      have hTe := zFr hb.2
      subst hTe
      obtain ⟨us, hu, hr⟩ := run_bind hr
      obtain ⟨zs, hz, hr⟩ := run_bind hr
      have hne := h.pos kk _ hk rfl
      have hul : us.length = n := by
       have hr2 := jP hu
       have e4 : us = xs.take n := by simpa using hr2.2.symm
       rw [e4, List.length_take]; omega
      have f4 := l9 f3 hu
      rw [hul, ← k3] at f4
      refine uS (Ty.fits X.P _) g2 ht ht' g4 g3 h.ok0 h.base (h.okB nw) rfl f4 rfl (pk h.m k2 hys) hz hne.1 fun u2 w2 O2 q1 q2 q3 => hK _ _ _ (h.ren hd hk rfl q2 q3 (kg q1) fun X' e1 e2 e3 e4 e5 e6 hle => ?_) (Inv.ren _ _ _ _) hr
      show zr _ _ _ _ _ _ _ _
      rw [e5, e6, e1, e4, show X'.B = X.B from by funext nw; cases nw <;> simp [Cx.B, e2, e3]]
      exact q1
     ·cases hr
 ·cases hr
def Wy : Option AV → Option (Nat × Nat)
 | some (.px k n) => some (k, n)
 | _ => none
theorem QW {φ : Option AV} {p : Nat × Nat} (h : Wy φ = some p) : φ = some (.px p.1 p.2) := by
 unfold Wy at h; split at h
 ·cases h; rfl
 ·cases h
def zBz {α : Type} (xs : List α) (lo : Nat) (z : α) : List α := xs.take lo ++ List.replicate (xs.length - lo) z
def rX (E : VE) (s : S) (d : Option Tmp) (Y : TypeId) (φ : Option AV) (k : S → Comp β) : Comp β := match d, φ with
 | none, some φ => match φ with
  | .sx kk lo esz => match look s.M kk with
   | some (_, .sl nw t T xs) => match look E.T Y with
    | none => Comp.fail
    | some i => match slD i.dd with
     | none => Comp.fail
     | some e => match look E.T e with
      | none => Comp.fail
      | some j => match Nat.beq esz j.sz && (Nat.beq t.sz j.sz && Nat.beq T e), ofV t j.z with
       | true, some z => (sub xs (lo : Int) (zD xs)).bind fun _ => k (s.mod kk (.sl nw t T (zBz xs lo z)))
       | _, _ => Comp.fail
   | _ => Comp.fail
  | _ => Comp.fail
 | _, _ => Comp.fail
theorem Av (hE : E.ok X.P) (h : RelX F s a w X) {x : Operand} : gj F s a w ⟨none, .call ⟨.builtin .clear, #[x], #[Y]⟩, T, pos, aft, g⟩ (rX E s none Y (rdO s.ep s.L [] [] x) k) k := by
 intro nf y' hr K Q hK
 rw [← h.P]
 rw [← h.ep] at hr
 unfold rX at hr
 split at hr
 ·rename_i φ _ hφ
  have k1 := h.rd #[x] x φ (by simp) hφ
  split at hr
  ·rename_i kk lo esz
   split at hr
   ·rename_i st nw t T' xs hk
    split at hr
    ·cases hr
    ·rename_i i hi
     split at hr
     ·cases hr
     ·rename_i e he
      split at hr
      ·cases hr
      ·rename_i j hj
       split at hr
       ·rename_i z hb hz
        simp only [zFs] at hb
        obtain ⟨b1, b2, b3⟩ := hb
        have b1 := zFr b1
        have b2 := zFr b2
        have b3 := zFr b3
        obtain ⟨ys, hys, hr⟩ := run_bind hr
        have ht := (hE.T Y i hi).ty
        rw [kO he] at ht
        have hj' := (hE.T e j hj).ty
        have hO : zr (X.ι kk) (t.gr X.P) T' (X.B nw) X.O w (X.U kk) xs := h.m kk _ hk
        have hx : a.eval x = qD (X.U kk) ((lo : Int).toNat) j.sz := by rw [← b1]; exact k1.1
        rw [b3] at hO
        refine Nx (m := (lo : Int)) (Ty.fits X.P t) (by rw [Ty.yc]; exact b2) h.ok0 h.base (h.okB nw) ht hj' hx hO (h.pos kk _ hk rfl).1 hys (fun O w => Jd X.P hz O w) fun w' q1 q2 q3 => ?_
        have hR := h.mod hk rfl (mv := .sl nw t T' (zBz xs lo z)) q2 q3 fun X' e1 e2 e3 e4 e5 e6 hle => by
         show zr _ _ _ _ _ _ _ _
         rw [e6, e5, e1, e4, show X'.B = X.B from by funext nw; cases nw <;> simp [Cx.B, e2, e3], b3]
         exact q1
        exact hK _ _ _ hR (Inv.mod _ _ _) hr
       ·cases hr
   ·cases hr
  ·cases hr
 ·cases hr
end
def S.AC (E : VE) (s : S) (k : Nat) : S := match look s.M k with
 | some (_, .bx true c T) => match look E.T T with
  | some i => match c.asT E.G s.M i.τ with
   | some x => { L := s.L, M := (k, s.n, .fb i.τ x) :: s.M, n := s.n + 1, ep := s.ep }
   | none => s
  | none => s
 | _ => s
def S.JY (E : VE) (s : S) : List Nat → S
 | [] => s
 | k :: l => (s.AC E k).JY E l
def AV.AU : AV → List Nat
 | .ob k | .bx k _ | .ba k .. | .el k .. | .sx k .. | .px k _ => [k]
 | .cl _ a b | .pr a b => a.AU ++ b.AU
 | .tp l | .ag l => l.AU
 | _ => []
def SR : List AV → List Nat
 | [] => []
 | φ :: l => φ.AU ++ SR l
def CG (M : MS) : List Nat → List Nat
 | [] => []
 | k :: l => match look M k with
  | some (_, .bx _ c _) => c.AU ++ CG M l
  | _ => CG M l
def S.Zq (E : VE) (s : S) (l : List AV) : S :=
 let r := SR l
 (s.Y1 (CG s.M r ++ r)).JY E r
section
variable {F : Frm} {s : S} {a : Act} {w : World} {X : Cx} {E : VE}
variable {d : Option Tmp} {T Y : TypeId} {pos : String} {aft : Array Edge} {g : Option (Nat × Bool)} {k : S → Comp β}
theorem Inv.AC (s : S) (k : Nat) : Inv s (s.AC E k) := by
 unfold S.AC
 split
 ·split
  ·split
   ·exact ⟨Nat.le_succ _, yQ, vO yQ⟩
   ·exact Inv.refl s
  ·exact Inv.refl s
 ·exact Inv.refl s
theorem Rel.AC (hE : E.ok F.P) (h : Rel F s a w) (k : Nat) : Rel F (s.AC E k) a w := by
 unfold S.AC
 split
 ·rename_i st c T hk
  split
  ·rename_i i hi
   split
   ·rename_i x hx
    obtain ⟨X, h⟩ := h
    obtain ⟨b, cs, g1, g2, g3, g4⟩ := h.m k _ hk
    have hp := h.pos k _ hk rfl
    have hG : FOk X.P E.G := by rw [h.P]; exact hE.G
    have G5 := (AV.km hG c h.m).vc hx g3
    have hge : F.w0.heap.size ≤ b := by
     have : X.F b := g2.ge
     rw [h.Fn] at this; exact this
    let O' := tag X.O (some b) 0
    have hkx : KX (some (X.ι k)) X.O w O' w := KX.free fun g hg => by cases hg; exact g2.tag
    have hB : Base F.A F.O0 F.w0 O' w := h.base.M9 h.ok0 (fun g hg => by cases hg; exact h.base.new b hge) fun g hg hlt => by cases hg; omega
    have h0 : zj 0 X.O w O' w := hkx.keep (by simpa using hp.1.symm)
    let X' : Cx := { X with O := O', n := s.n + 1 }
    have hlt := (h.mn k _ hk).2
    have hv : (MV.fb i.τ x).holds X' w k := by
     show (Jm _).v O' w (X.U k) x
     rw [g1]
     have hcs : cs = cs.toList.toArray := by simp
     rw [hcs] at g2
     exact g2.freeze hp.1 G5
    refine ⟨X', h.go h.fit rfl rfl rfl (fun j hj => hkx.keep (by rcases hj with rfl | rfl; simpa using hp.1.symm; simpa using hp.2.symm)) (fun _ _ => rfl) rfl h.ep (Nat.le_succ _) (Nat.le_succ_of_le h.epn) hB (fun hf => ⟨hf, Ext.refl _⟩) (fun _ _ _ => rfl) (fun t e he => .inr ⟨he, rfl, fun _ hf => ⟨hf, Ext.refl _⟩⟩) (fun k' e he => ?_) (fun j k' e e' he he' ho ho' heq => ?_) (fun k' e he ho => ?_)⟩
    ·rcases zH he with ⟨h1, h2⟩ | ⟨h1, h2⟩
     ·subst h1 h2; exact .inl ⟨Nat.lt_succ_self _, Nat.lt_succ_of_lt hlt, hv⟩
     ·refine .inr ⟨h2, rfl, fun ho => hkx.keep ?_⟩
      intro e1
      simp only [Option.some.injEq] at e1
      exact h1 (h.inj k k' _ e hk h2 rfl ho e1.symm)
    ·rcases zH he with ⟨h1, h2⟩ | ⟨h1, h2⟩
     ·rw [← h2] at ho; cases ho
     ·rcases zH he' with ⟨h3, h4⟩ | ⟨h3, h4⟩
      ·rw [← h4] at ho'; cases ho'
      ·exact h.inj j k' e e' h2 h4 ho ho' heq
    ·rcases zH he with ⟨h1, h2⟩ | ⟨h1, h2⟩
     ·rw [← h2] at ho; cases ho
     ·exact h.pos k' e h2 ho
   ·exact h
  ·exact h
 ·exact h
theorem Rel.JY (hE : E.ok F.P) : ∀ (l : List Nat) {s : S}, Rel F s a w → Rel F (s.JY E l) a w
 | [], _, h => h
 | k :: l, s, h => Rel.JY hE l (h.AC hE k)
theorem Inv.JY : ∀ (l : List Nat) (s : S), Inv s (s.JY E l)
 | [], s => Inv.refl s
 | k :: l, s => (Inv.AC s k).trans (Inv.JY l _)
theorem Rel.Zq (hE : E.ok F.P) (h : Rel F s a w) (l : List AV) : Rel F (s.Zq E l) a w := Rel.JY hE _ (h.Y1 _)
theorem Inv.Zq (s : S) (l : List AV) : Inv s (s.Zq E l) := (Inv.Y1 _ _).trans (Inv.JY _ _)
theorem mV {P : Program} {k T : Nat} {B : Nat → Prop} {O : zS} {w : World} {u : Value} {t t' : Ty} {xs : List t.D} {ys : List t'.D} (e : Ty.sl t = .sl t') (h : Ty.cast e xs = ys) (hO : zr k (t.gr P) T B O w u xs) : zr k (t'.gr P) T B O w u ys := by
 injection e with e1
 subst e1
 subst h
 exact hO
def rY (E : VE) (s : S) (d : Option Tmp) (φ : Option AV) (l : Option (List AV)) (k : S → Comp β) : Comp β := match φ, l with
 | some (.cl f .un .un), some (x :: l) => match E.O f with
  | none => Comp.fail
  | some fs => match wA s.M x with
   | none => Comp.fail
   | some p => match (Ty.sl p.2.2.2.1).to (.sl fs.e) p.2.2.2.2, Nat.beq p.2.2.1 fs.T, JB (l.map (fun φ => φ.asT E.G s.M)) fs.ps with
    | some xs, true, some z => (fs.sem xs z).bind fun ys => match fs.ret with
     | true => k (s.ren d p.1 (.sl p.2.1 fs.e fs.T ys))
     | false => k ((s.mod p.1 (.sl p.2.1 fs.e fs.T ys)).put d .top)
    | _, _, _ => Comp.fail
 | _, _ => Comp.fail
theorem Aw (hE : E.ok X.P) (h : RelX F s a w X) (hd : F.dst d) {x : Operand} {xs : Array Operand} {ts : Array TypeId} : gj F s a w ⟨d, .call ⟨.value x, xs, ts⟩, T, pos, aft, g⟩ (rY E s d (rdO s.ep s.L [] [] x) (ji (rdO s.ep s.L [] []) xs.toList) k) k := by
 intro nf y hr K Q hK
 rw [← h.P]
 rw [← h.ep] at hr
 unfold rY at hr
 split at hr
 ·rename_i f φ1 l hφ hl
  split at hr
  ·cases hr
  ·rename_i fs hs
   split at hr
   ·cases hr
   ·rename_i p hp
    split at hr
    ·rename_i xs0 z hxs hT hz
     obtain ⟨ys, hys, hr⟩ := run_bind hr
     have H := h.rd (Op.operands (.call ⟨.value x, xs, ts⟩))
     have k1 := H x _ (by simp [Op.operands, Call.operands]) hφ
     have hlen := kL hl
     obtain ⟨vs, us, e1, e2, e3⟩ := k1
     have e1 : vs = [] := e1
     have e2 : us = [] := e2
     subst e1 e2
     have hget : ∀ (i : Nat) φ v, (φ1 :: l)[i]? = some φ → (xs.toList.map a.eval)[i]? = some v → φ.holds X w v := by
      intro i φ v hi hv
      rw [List.getElem?_map, Option.map_eq_some_iff] at hv
      obtain ⟨z, hz, rfl⟩ := hv
      obtain ⟨z', hz1, hz2⟩ := ZA hl i φ hi
      rw [hz] at hz1; cases hz1
      refine H z φ ?_ hz2
      have hz' : z ∈ xs := Array.mem_toList_iff.1 (List.mem_of_getElem? hz)
      simp [Op.operands, Call.operands, hz']
     obtain ⟨u, vs, hvs⟩ : ∃ u vs, xs.toList.map a.eval = u :: vs := by
      cases hxl : xs.toList with
      | nil => rw [hxl] at hlen; cases hlen
      | cons u vs => exact ⟨_, _, rfl⟩
     rw [hvs] at hget
     have hvl : vs.length = l.length := by
      have h1 := congrArg List.length hvs
      rw [List.length_map] at h1
      simp only [List.length_cons] at h1 hlen
      omega
     have hu := hget 0 φ1 u rfl rfl
     obtain ⟨e0, f1, f2, f3, f4⟩ := Ky h.m hu hp
     obtain ⟨ee, ee2⟩ := Ty.ZQ hxs
     have hne := h.pos p.1 e0 f1 (by rw [f2]; rfl)
     have hargs : fs.ps.args X.P X.O w vs z := ZZ hz (by simp [hvl]) fun i f v hf hv t y hy => by
      rw [List.getElem?_map, Option.map_eq_some_iff] at hf
      obtain ⟨ψ, g1, rfl⟩ := hf
      exact AV.YW hE.G h.m hy (hget (i + 1) ψ v (by simpa using g1) (by simpa using hv))
     obtain ⟨o1, o2⟩ := hE.O f fs hs
     have hO : zr (X.ι p.1) (fs.e.gr X.P) fs.T (X.B p.2.1) X.O w u xs0 := by
      have hT' := zFr hT
      rw [hT'] at f3
      exact mV ee ee2 f3
     have hc := o2 X.O w h.okO u xs0 (Gv hO hne.1) vs z hargs nf ys hys
     have harr : (u :: vs).toArray = #[] ++ xs.map a.eval ++ #[] := by
      rw [show xs.map a.eval = (xs.toList.map a.eval).toArray by rw [← Array.toList_map], hvs]; simp
     rw [harr] at hc
     refine rQ o1 e3 hc fun e w2 he => ?_
     obtain ⟨v, u2, he, h1, ⟨vs2, h2, h3⟩, h4⟩ := he
     refine ⟨v, he, ?_⟩
     have hge := hO.ge
     obtain ⟨hB2, hkx⟩ := Kd h.base h.ok0 h1 (fun g hg => (h.okB p.2.1).sub g (hge g hg).1) hne.1 (fun g hg => h2.gn g hg) hO.tagged
     have hnew : zr (X.ι p.1) (fs.e.gr X.P) fs.T (X.B p.2.1) (tag X.O u2.ownBlock (X.ι p.1)) w2 u2 ys := by
      refine ⟨vs2, h2, h3.mono ⟨zFu _, fun b _ hb => ⟨?_, rfl⟩⟩, fun g hg => ⟨by rw [hg]; exact ye _ _ _, ?_⟩⟩
      ·by_cases hg : u2.ownBlock = some b
       ·rw [hg, ye] at hb; cases hb
       ·rw [vr hg] at hb ⊢; exact hb
      ·rcases h1.at_ with h8 | h8
       ·exact (hge g (h8 ▸ hg)).1
       ·exact (h.okB p.2.1).new g (by have := h8 g hg; have := h.base.size; omega)
     split at hr
     ·rename_i hret
      rw [hret] at h4
      have h4 : v = u2 := h4
      subst h4
      refine hK _ _ _ (h.ren hd f1 (by rw [f2]; rfl) hB2 hkx (kg hnew) fun X' e1 e2 e3 e4 e5 e6 hle => ?_) (Inv.ren _ _ _ _) hr
      show zr _ _ _ _ _ _ _ _
      rw [e5, e6, e1, e4, show X'.B = X.B from by funext nw; cases nw <;> simp [Cx.B, e2, e3]]
      exact hnew
     ·rename_i hret
      rw [hret] at h4
      obtain ⟨h5, h6⟩ : u2 = u ∧ v = .tuple #[] := h4
      subst h5
      have hR := h.mod f1 (by rw [f2]; rfl) (mv := .sl p.2.1 fs.e fs.T ys) hB2 hkx fun X' e1 e2 e3 e4 e5 e6 hle => by
       show zr _ _ _ _ _ _ _ _
       rw [e6, e5, e1, e4, show X'.B = X.B from by funext nw; cases nw <;> simp [Cx.B, e2, e3], ← f4]
       exact hnew
      obtain ⟨X2, hX2⟩ := hR
      exact hK _ _ _ ⟨_, hX2.val (Ext.refl w2) hd (show AV.top.holds X2 w2 v from trivial)⟩ ((Inv.mod _ _ _).trans (Inv.put _ _ _)) hr
    ·cases hr
 ·cases hr
end
theorem KG {P : Program} {w : World} (t ti ty e : TypeId) (i : TypeInfo) (z : Value) (ik : IntKind) (ht : P.underlying t = some (.slice e)) (hti : P.underlying ti = some (.int ik)) (hi : P.info? e = some i) (hz : i.zero = some z)
  (k : IntKind) (n : Nat) (h0 : 0 < n) (h63 : (n : Int) ≤ 9223372036854775807) (h48 : n * i.bytes ≤ 281474976710656) (hsz : 0 < i.size) :
  (Builtin.append_ #[t, ti] ty #[.slice none 0 0, .int k n]).run P w =
   .ok (.slice (some ⟨w.heap.size, 0, none⟩) n (grownCap w n 0 e)) (w.drew.alloc (.cells (Builtin.zeroCells z.cells n ++ Builtin.zeroCells z.cells (grownCap w n 0 e - n)) e)) := by
 have hn : n ≠ 0 := by omega
 have hw : IntKind.i64.wrap (n : Int) = n := by rw [IntKind.wrap_i64]; omega
 have h63' : ¬ (9223372036854775807 < (n : Int)) := by omega
 have h48' : ¬ (281474976710656 < Builtin.nextslicecap n 0 * i.bytes) := by rw [nextslicecap_zero h0]; omega
 have h48i : ¬ ((281474976710656 : Int) < (n : Int) * (i.bytes : Int)) := by
  have h : ((n * i.bytes : Nat) : Int) ≤ 281474976710656 := by omega
  rw [Int.natCast_mul] at h; omega
 have hneg : ¬ ((n : Int) < 0) := by omega
 have hnz : ¬ (n = 0 ∨ i.size = 0) := by omega
 simp [Builtin.append_, run_underlying ht, run_underlying hti, sizeOf, typeInfo, zeroValue, hi, hz, asInt, asIntOf, hw, hneg, hn, h63', h48', h48i, hnz, Question.forced, run_firstCells_none, newRow, grownCap]
 intro hm
 rcases Nat.mul_eq_zero.1 hm with h | h <;> omega
section
variable {F : Frm} {s : S} {a : Act} {w : World} {X : Cx} {E : VE}
variable {d : Option Tmp} {T Y Z : TypeId} {pos : String} {aft : Array Edge} {g : Option (Nat × Bool)} {k : S → Comp β}
theorem Ek {P : Program} {α : Type} {A : Nat → Prop} {K : Act → World → Prop} {Q : Exit → Act → World → Prop} {x y : Operand} {t ti e E bytes k : Nat} {ik : IntKind} {d0 : Option Tmp} {g0 : Option (Nat × Bool)} {dd : TypeDesc} {z z' zi : Value} {sz by_ szi byi : Nat} {r : GR α} (hr : r.fits) (hE : r.sz = E + 1) (hT : Eng.Ty P t (.slice e) z sz by_) (hti : Eng.Ty P ti (.int ik) zi szi byi) (he : Eng.Ty P e dd z' (E + 1) bytes) (hz : z'.cells.size = E + 1) (hby : bytes ≤ 131072)
  {O O0 : zS} {w0 : World} (hO0 : OkO O0 w0) (hB : Base A O0 w0 O w) {B : Nat → Prop} (hAB : OkB A w0 B) (hx : a.eval x = .slice none 0 0) {kk : IntKind} {m : Int} (hy : a.eval y = .int kk m) {z0 : α} (hz0 : ∀ O w, r.v O w z' z0) {zs : List α} {n : Nat} (happ : (mk m z0).run n = some zs) (hk : k ≠ 0)
  (hK : ∀ u2 w2 O2, zr k r e B O2 w2 u2 zs → Base A O0 w0 O2 w2 → KX (some k) O w O2 w2 → K (a.put d0 u2) w2) : Oper.wp P ⟨d0, .call ⟨.builtin .append, #[x, y], #[t, ti]⟩, T, pos, aft, g0⟩ a w K Q := by
 obtain ⟨⟨h0, h1⟩, h2⟩ := run_mk happ
 unfold LIM at h1
 obtain ⟨i, hi, hzz, hsz, hby'⟩ := he.info
 obtain ⟨c, rfl⟩ : ∃ c : Nat, m = (c : Int) := ⟨m.toNat, by omega⟩
 rw [Int.toNat_natCast] at h2
 by_cases hc : c = 0
 ·subst hc
  have hu : a.eval y = .int kk 0 := hy
  have hw : IntKind.i64.wrap (0 : Int) = 0 := by rw [IntKind.wrap_i64]; omega
  have hrun : (Builtin.append_ #[t, ti] T #[.slice none 0 0, .int kk 0]).run P w = .ok (.slice none 0 0) w := by
   simp [Builtin.append_, hT.gk, hti.gk, he.zn, sizeOf, typeInfo, hi, asInt, asIntOf, hw]
  refine tV (v := .slice none 0 0) (w' := w) (by simp [execOp, resolve, invoke, builtin, hx, hu, hrun]) (hK _ w O ?_ hB ⟨zFu _, fun _ _ _ => ⟨rfl, rfl⟩⟩)
  rw [← h2]; exact zr.nil _ _ _ _ _ _
 ·have hcb : c * i.bytes ≤ 1073741824 * 131072 := Nat.mul_le_mul (by omega) (by rw [hby']; exact hby)
  have hrun := KG (P := P) (w := w) t ti T e i z' ik hT.u hti.u hi hzz kk c (by omega) (by omega) (by omega) (by rw [hsz]; omega)
  have hge := grownCap_ge w c 0 e
  have hcm : grownCap w c 0 e ≤ maxLen := grownCap_le_maxLen w c 0 e (by unfold maxLen; omega)
  have hEx : Ext w (w.drew.alloc (.cells (Builtin.zeroCells z'.cells c ++ Builtin.zeroCells z'.cells (grownCap w c 0 e - c)) e)) := ⟨rfl, rfl, rfl, by simp, fun k hk => heap_alloc_old w.drew _ hk⟩
  refine tV (v := .slice (some ⟨w.heap.size, 0, none⟩) c (grownCap w c 0 e)) (w' := w.drew.alloc (.cells (Builtin.zeroCells z'.cells c ++ Builtin.zeroCells z'.cells (grownCap w c 0 e - c)) e)) (by simp [execOp, resolve, invoke, builtin, hx, hy, hrun]) ?_
  have hflat : (Builtin.zeroCells z'.cells c).toList = flat (List.replicate c z') := by
   rw [range_zero]
   unfold flat
   rw [List.flatMap_def, List.map_replicate]
  refine hK _ _ (tag O (some w.heap.size) k) ⟨List.replicate c z', ?_, ?_, fun g hg => ?_⟩ ?_ ?_
  ·rw [hE]
   refine ⟨fun x hx => by rw [List.eq_of_mem_replicate hx]; exact hz, ?_, .inr ⟨w.heap.size, grownCap w c 0 e, _, by rw [List.length_replicate], Nat.zero_le _, heap_alloc_new w.drew _, by rw [List.length_replicate]; exact hge, hcm, ?_, ?_⟩⟩
   ·rw [← hflat, List.length_replicate, Array.length_toList, size_zeroCells, hz]
   ·rw [Array.size_append, size_zeroCells, size_zeroCells, hz, ← Nat.add_mul]; congr 1; omega
   ·rw [Array.toList_append, ← hflat, List.length_replicate]
    have : c * (E + 1) = (Builtin.zeroCells z'.cells c).toList.length := by rw [Array.length_toList, size_zeroCells, hz]
    rw [this]; exact List.take_left
  ·rw [← h2]
   exact ym.replicate (hz0 _ _) c
  ·simp only [Value.ownBlock, Option.some.injEq] at hg
   subst hg
   exact ⟨ye _ _ _, hAB.new _ hB.size⟩
  ·exact (hB.step hEx hO0).tag hk fun g hg => by cases hg; exact ⟨hB.new _ hB.size, by simp⟩
  ·have h3 : KX none O w (tag O (some w.heap.size) k) _ := KX.tag hEx fun g hg => by cases hg; exact zFu _
   exact ⟨h3.1, fun b hb _ => h3.2 b hb (by simp)⟩
def CB (E : VE) (s : S) (d : Option Tmp) (Y Z : TypeId) (φ : Option AV) (m : Option (IntKind × Int)) (k : S → Comp β) : Comp β := match φ, m with
 | some φ, some m => match look E.T Y, look E.T Z with
  | some i, some iz => match slD i.dd with
   | none => Comp.fail
   | some e => match look E.T e with
    | none => Comp.fail
    | some j => match XN φ && (JT j j.τ && (R8 iz.dd).isSome), ofV j.τ j.z with
     | true, some z => (mk m.2 z).bind fun zs => k (s.Jn d (.sl true j.τ e zs) (.ob s.n))
     | _, _ => Comp.fail
  | _, _ => Comp.fail
 | _, _ => Comp.fail
theorem E2 (hE : E.ok X.P) (h : RelX F s a w X) (hd : F.dst d) {x z : Operand} : gj F s a w ⟨d, .call ⟨.builtin .append, #[x, z], #[Y, Z]⟩, T, pos, aft, g⟩ (CB E s d Y Z (rdO s.ep s.L [] [] x) ((rdO s.ep s.L [] [] z).bind AV.int?) k) k := by
 intro nf y hr K Q hK
 rw [← h.P]
 rw [← h.ep] at hr
 unfold CB at hr
 split at hr
 ·rename_i φ m hφ hm
  have k1 := h.rd #[x] x φ (by simp) hφ
  have k2 := y9 (h.rd #[z]) (by simp) hm
  split at hr
  ·rename_i i iz hi hiz
   have ht := (hE.T Y i hi).ty
   have htz := (hE.T Z iz hiz).ty
   split at hr
   ·cases hr
   ·rename_i e he
    rw [kO he] at ht
    split at hr
    ·cases hr
    ·rename_i j hj
     have ht' := (hE.T e j hj).ty
     split at hr
     ·rename_i z0 hb hz0
      simp only [zFs] at hb
      obtain ⟨b1, b2, b3⟩ := hb
      obtain ⟨ik, hik⟩ := Option.isSome_iff_exists.1 b3
      rw [pC hik] at htz
      rw [Zz b1] at k1
      unfold JT at b2
      simp only [zFs] at b2
      obtain ⟨c1, c2, c3, c4⟩ := b2
      rw [zb] at c1
      have c1 : 0 < j.sz := by simpa using c1
      have c2 := zFr c2
      have c4 := zFr c4
      have g1 : j.sz = (j.sz - 1) + 1 := by omega
      rw [g1] at ht'
      obtain ⟨zs, hz, hr⟩ := run_bind hr
      obtain ⟨τ, t0, t1⟩ := YG X.ι s.M F.x.st
      refine Ek (B := X.B true) (r := j.τ.gr X.P) (Ty.fits X.P _) (by rw [Ty.yc]; omega) ht htz ht' (by omega) (Nat.le_of_ble_eq_true c3) h.ok0 h.base (h.okB true) k1 k2 (fun O w => Jd X.P hz0 O w) hz t0.1 fun u2 w2 O2 q1 q2 q3 => hK _ _ _ (h.Jn (φ := .ob s.n) hd (v := u2) (u := u2) q2 q3 t0 t1 fun X' e1 e2 e3 e4 e5 e6 e7 e8 hle => ⟨⟨e7.symm, by omega, kg q1⟩, ?_⟩) (Inv.Jn _ _ _ _) hr
      show zr _ _ _ _ _ _ _ _
      rw [e7, e8, e1, e4, show X'.B = X.B from by funext nw; cases nw <;> simp [Cx.B, e2, e3]]
      exact q1
     ·cases hr
  ·cases hr
 ·cases hr
def rZ (E : VE) (s : S) (d : Option Tmp) (φ : Option AV) (l : Option (List AV)) (k : S → Comp β) : Comp β := match φ, l with
 | some (.cl f .un .un), some (x :: l) => match E.N f, XN x with
  | some fs, true => match JB (l.map (fun φ => φ.asT E.G s.M)) fs.ps with
   | some z => (fs.sem z).bind fun y => match Zu fs.rk fs.rs y with
    | some q => k (s.obj d (.sl true q.2.1 q.1 q.2.2) (EB s.n fs.rk fs.rs y))
    | none => Comp.fail
   | none => Comp.fail
  | _, _ => Comp.fail
 | _, _ => Comp.fail
theorem BP {P : Program} {O : zS} {B : Nat} {w : World} {ks : List (Option TypeId)} {rs : Ty} {vs : List Value} {y : rs.D} {q : TypeId × (t : Ty) × List t.D} (hq : Zu ks rs y = some q) (h : JD P O B w ks rs vs y) : vs ≠ [] := by
 intro e; subst e
 match ks, rs, y, hq, h with
 | k :: ks, .cons a b, y, hq, h => obtain ⟨v, vs', h1, _⟩ := h; cases h1
theorem Ax (hE : E.ok X.P) (h : RelX F s a w X) (hd : F.dst d) {x : Operand} {xs : Array Operand} {ts : Array TypeId} : gj F s a w ⟨d, .call ⟨.value x, xs, ts⟩, T, pos, aft, g⟩ (rZ E s d (rdO s.ep s.L [] [] x) (ji (rdO s.ep s.L [] []) xs.toList) k) k := by
 intro nf y hr K Q hK
 rw [← h.P]
 rw [← h.ep] at hr
 unfold rZ at hr
 split at hr
 ·rename_i f φ1 l hφ hl
  split at hr
  ·rename_i fs hs hn
   split at hr
   ·rename_i z hz
    obtain ⟨y0, hy0, hr⟩ := run_bind hr
    have H := h.rd (Op.operands (.call ⟨.value x, xs, ts⟩))
    have k1 := H x _ (by simp [Op.operands, Call.operands]) hφ
    have hlen := kL hl
    obtain ⟨vs, us, e1, e2, e3⟩ := k1
    have e1 : vs = [] := e1
    have e2 : us = [] := e2
    subst e1 e2
    have hget : ∀ (i : Nat) φ v, (φ1 :: l)[i]? = some φ → (xs.toList.map a.eval)[i]? = some v → φ.holds X w v := by
     intro i φ v hi hv
     rw [List.getElem?_map, Option.map_eq_some_iff] at hv
     obtain ⟨z, hz, rfl⟩ := hv
     obtain ⟨z', hz1, hz2⟩ := ZA hl i φ hi
     rw [hz] at hz1; cases hz1
     refine H z φ ?_ hz2
     have hz' : z ∈ xs := Array.mem_toList_iff.1 (List.mem_of_getElem? hz)
     simp [Op.operands, Call.operands, hz']
    obtain ⟨u, vs, hvs⟩ : ∃ u vs, xs.toList.map a.eval = u :: vs := by
     cases hxl : xs.toList with
     | nil => rw [hxl] at hlen; cases hlen
     | cons u vs => exact ⟨_, _, rfl⟩
    rw [hvs] at hget
    have hvl : vs.length = l.length := by
     have h1 := congrArg List.length hvs
     rw [List.length_map] at h1
     simp only [List.length_cons] at h1 hlen
     omega
    have hu := hget 0 φ1 u rfl rfl
    rw [Zz hn] at hu
    have hu : u = .slice none 0 0 := hu
    subst hu
    have hargs : fs.ps.args X.P X.O w vs z := ZZ hz (by simp [hvl]) fun i f v hf hv t y hy => by
     rw [List.getElem?_map, Option.map_eq_some_iff] at hf
     obtain ⟨ψ, g1, rfl⟩ := hf
     exact AV.YW hE.G h.m hy (hget (i + 1) ψ v (by simpa using g1) (by simpa using hv))
    obtain ⟨o1, o2⟩ := hE.N f fs hs
    have hc := o2 X.O w h.okO vs z hargs nf y0 hy0
    have harr : (Value.slice none 0 0 :: vs).toArray = #[] ++ xs.map a.eval ++ #[] := by
     rw [show xs.map a.eval = (xs.toList.map a.eval).toArray by rw [← Array.toList_map], hvs]; simp
    rw [harr] at hc
    refine rQ o1 e3 hc fun e w2 he => ?_
    obtain ⟨v, he, hEx, rs, h3, h4⟩ := he
    refine ⟨v, he, ?_⟩
    split at hr
    ·rename_i q hq
     obtain ⟨u, h5, h6⟩ := JH (k := s.n) hq h4
     refine hK _ _ _ (h.Ac hEx hd h5 fun X' e1 hle e2 e3 e4 => ?_) (Inv.obj _ _ _ _) hr
     exact DA (h6 X' e1 e2 e3 e4) (BP hq h4) h3
    ·cases hr
   ·cases hr
  ·cases hr
 ·cases hr
end
def rW (E : VE) (s : S) (d : Option Tmp) (Y : TypeId) (k : S → Comp β) : Option Operand → Comp β
 | some _ => Comp.fail
 | none => match look E.T Y with
  | some i => match mpD i.dd with
   | some kv => match look E.T kv.1, look E.T kv.2 with
    | some p, some q => k (s.obj d (.mp true p.τ q.τ []) (.ob s.n))
    | _, _ => Comp.fail
   | none => Comp.fail
  | none => Comp.fail
def NT (M : MS) : AV → Option (Nat × Bool × (a : Ty) × (b : Ty) × List (a.D × b.D))
 | .ob k => match look M k with
  | some (_, .mp nw a b xs) => some (k, nw, ⟨a, b, xs⟩)
  | _ => none
 | _ => none
theorem ID {M : MS} {φ : AV} {q} (h : NT M φ = some q) : φ = .ob q.1 ∧ ∃ st, look M q.1 = some (st, .mp q.2.1 q.2.2.1 q.2.2.2.1 q.2.2.2.2) := by
 unfold NT at h
 split at h
 ·split at h
  ·rename_i st nw a b xs hk; cases h; exact ⟨rfl, st, hk⟩
  ·cases h
 ·cases h
def B8 (E : VE) (s : S) (Y : TypeId) (k : S → Comp β) : Option AV → Option AV → Option AV → Comp β
 | some φ, some ψ, some χ => match look E.T Y, NT s.M φ with
  | some i, some q => match mpD i.dd with
   | some kv => match look E.T kv.1 with
    | some p => match p.kq && p.τ.beq q.2.2.1, ψ.asT E.G s.M q.2.2.1, χ.asT E.G s.M q.2.2.2.1 with
     | true, some y, some z => k (s.mod q.1 (.mp q.2.1 q.2.2.1 q.2.2.2.1 (mpB q.2.2.1.eqb q.2.2.2.2 y z)))
     | _, _, _ => Comp.fail
    | none => Comp.fail
   | none => Comp.fail
  | _, _ => Comp.fail
 | _, _, _ => Comp.fail
section
variable {F : Frm} {s : S} {a : Act} {w : World} {X : Cx} {E : VE}
variable {d : Option Tmp} {T Y : TypeId} {pos : String} {aft : Array Edge} {g : Option (Nat × Bool)} {k : S → Comp β}
theorem Au (h : RelX F s a w X) (hd : F.dst d) {n : Option Operand} : gj F s a w ⟨d, .makeMap Y n, T, pos, aft, g⟩ (rW E s d Y k n) k := by
 intro nf y hr K Q hK
 rw [← h.P]
 unfold rW at hr
 split at hr
 ·cases hr
 split at hr
 ·rename_i i hi
  split at hr
  ·rename_i kv hkv
   split at hr
   ·rename_i p q hp hq
    have hrun : (execOp a.eval ⟨d, .makeMap Y none, T, pos, aft, g⟩).run X.P w = .ok (.value (.map (some w.heap.size))) (w.alloc (.map #[] 0)) := by simp [execOp, run_makeMap]
    refine tV hrun ?_
    obtain ⟨τ, h0, h1⟩ := YG X.ι s.M F.x.st
    obtain ⟨O', hB', hk, hO⟩ := Q5 (t := p.τ) (r := q.τ.gr X.P) h.ok0 h.base τ h0.1
    refine hK _ _ _ (h.obj (φ := .ob s.n) (Ext.alloc w (.map #[] 0)) hd (u := .map (some w.heap.size)) hB' hk h0 h1 fun X' e1 e2 e3 e4 e5 e6 e7 e8 hle => ⟨⟨e7.symm, by omega, rfl⟩, ?_⟩) (Inv.obj _ _ _ _) hr
    show Zb _ _ _ _ _ _ _ _
    rw [e7, e8, e1, e4]
    show Zb _ _ _ X'.F _ _ _ _
    rw [e3, h.Fn]; exact hO
   ·cases hr
  ·cases hr
 ·cases hr
theorem Ey (hE : E.ok X.P) (h : RelX F s a w X) {m x v : Operand} : gj F s a w ⟨none, .mapUpdate Y m x v, T, pos, aft, g⟩ (B8 E s Y k (rdO s.ep s.L [] [] m) (rdO s.ep s.L [] [] x) (rdO s.ep s.L [] [] v)) k := by
 intro nf y hr K Q hK
 rw [← h.P]
 rw [← h.ep] at hr
 unfold B8 at hr
 split at hr
 ·rename_i φ ψ χ hφ hψ hχ
  have k1 := h.rd #[m] m φ (by simp) hφ
  have k2 := h.rd #[x] x ψ (by simp) hψ
  have k3 := h.rd #[v] v χ (by simp) hχ
  split at hr
  ·rename_i i q hi hq
   split at hr
   ·rename_i kv hkv
    split at hr
    ·rename_i p hp
     split at hr
     ·rename_i y0 z hb hy hz
      rw [zFs] at hb
      obtain ⟨hkq, hbe⟩ := hb
      obtain ⟨rfl, st, hk⟩ := ID hq
      have ht := (hE.T Y i hi).ty
      rw [Mc hkv] at ht
      have hK' := (hE.T _ p hp).key hkq
      rw [Ty.JZ hbe] at hK'
      have hy' := NY hK'.clo (AV.YW hE.G h.m hy k2)
      have hne := h.pos _ _ hk rfl
      have hO : Zb (X.ι q.1) (gR q.2.2.1) (q.2.2.2.1.gr X.P) (X.B q.2.1) X.O w (X.U q.1) q.2.2.2.2 := h.m _ _ hk
      refine qm h.ok0 h.base (h.okB q.2.1) ht hK' k1.1 hO hne.1 hy' (AV.YW hE.G h.m hz k3) fun w' q1 q2 q3 => hK _ undef _ (h.mod hk rfl q2 q3 fun X' e1 e2 e3 e4 e5 e6 hle => ?_) (Inv.mod _ _ _) hr
      show Zb _ _ _ _ _ _ _ _
      rw [e6, e1, e4, e5, Cx.pS e2 e3]; exact q1
     ·cases hr
    ·cases hr
   ·cases hr
  ·cases hr
 ·cases hr
end
abbrev OwQ := TypeId × (t : Ty) × List t.D
def YF : List (Option TypeId) → (rs : Ty) → rs.D → Option (List OwQ)
 | some T :: ks, .cons a b, y => match slT a y.1 with
  | some q => match q.1.closed, YF ks b y.2 with
   | true, some l => some ((T, q) :: l)
   | _, _ => none
  | none => none
 | none :: ks, .cons a b, y => match a.closed with
  | true => YF ks b y.2
  | false => none
 | [], .nil, _ => some []
 | _, _, _ => none
def AY (k : Nat) : List (Option TypeId) → (rs : Ty) → rs.D → AV
 | some _ :: ks, .cons _ b, y => .pr (.ob k) (AY (k + 1) ks b y.2)
 | none :: ks, .cons a b, y => .pr (.rd a y.1) (AY k ks b y.2)
 | _, _, _ => .un
def D5 (φ : AV) : AV := match φ with
 | .pr ψ .un => ψ
 | φ => .tp φ
theorem QF {X' : Cx} {w1 : World} {φ : AV} {vs : List Value} {v : Value} (h : (φ.sem X' w1).l vs) (hne : vs ≠ []) (ht : YV vs v) : (D5 φ).holds X' w1 v := by
 have hv : v = tup vs := ht.resolve_left hne
 by_cases hu : ∃ ψ, φ = .pr ψ .un
 ·obtain ⟨ψ, rfl⟩ := hu
  obtain ⟨v1, vs1, h1, h2, h3⟩ := h
  rw [show vs1 = [] from h3] at h1
  show ψ.holds X' w1 v
  rw [hv, h1]; exact h2
 ·have e : D5 φ = .tp φ := by
   cases φ <;> try rfl
   rename_i a b
   cases b <;> first | rfl | exact absurd ⟨_, rfl⟩ hu
  rw [e]
  match vs, hne with
  | [v1], _ =>
   exfalso
   cases φ <;> try exact h.elim
   ·cases h
   ·rename_i a b
    obtain ⟨_, vs1, h1, _, h3⟩ := h
    cases h1
    cases b <;> try exact h3.elim
    ·exact hu ⟨_, rfl⟩
    ·obtain ⟨_, _, h4, _⟩ := h3; cases h4
  | v1 :: v2 :: vs, _ => exact ⟨_, h, hv⟩
structure OwU (P : Program) (B : Nat) (w : World) (q : OwQ) (u : Value) : Prop where
 c : q.2.1.closed = true
 o : ∃ vs, OwnS w B q.1 (q.2.1.gr P).sz u vs ∧ ∀ O, ym (q.2.1.gr P) O w vs q.2.2
theorem Kk {P : Program} {t : Ty} (hc : t.closed = true) {O O' w} : ∀ {vs : List Value} {xs : List t.D}, ym (t.gr P) O w vs xs → ym (t.gr P) O' w vs xs
 | [], [], _ => trivial
 | v :: vs, x :: xs, h => ⟨Xm hc h.1, Kk hc h.2⟩
 | [], _ :: _, h => h.elim
 | _ :: _, [], h => h.elim
def Nw (P : Program) (B : Nat) (w : World) : List OwQ → List Value → Prop
 | [], [] => True
 | q :: qs, u :: us => OwU P B w q u ∧ Nw P B w qs us ∧ ∀ g, u.ownBlock = some g → ∀ u' ∈ us, u'.ownBlock ≠ some g
 | _, _ => False
theorem XV {P : Program} {O : zS} {B : Nat} {w1 : World} : ∀ {ks : List (Option TypeId)} {rs : Ty} {y : rs.D} {vs : List Value} {qs : List OwQ}, YF ks rs y = some qs → JD P O B w1 ks rs vs y →
  ∃ us, Nw P B w1 qs us ∧ (∀ u ∈ us, ∀ g, u.ownBlock = some g → g ∈ KL ks vs) ∧ ∀ (X' : Cx) (k : Nat), X'.P = P → (∀ (j : Nat) u, us[j]? = some u → X'.U (k + j) = u ∧ k + j < X'.n ∧ u.oneCell' = true) → ((AY k ks rs y).sem X' w1).l vs
 | some T :: ks, .cons a b, y, vs, qs, hq, h => by
  simp only [YF] at hq
  split at hq
  ·rename_i q hs
   split at hq
   ·rename_i l hc hl
    cases hq
    obtain ⟨v, vs', h1, h2, h3, h4⟩ := h
    obtain ⟨e, he⟩ := I6 hs
    subst e
    obtain ⟨us, f1, f2, f3⟩ := XV hl h3
    have h2 : ZH (q.1.gr P) T B O w1 v y.1 := h2
    have he : y.1 = q.2 := he
    rw [he] at h2
    obtain ⟨zs, g1, g2⟩ := h2
    refine ⟨v :: us, ⟨⟨hc, zs, g1, fun O => Kk hc g2⟩, f1, fun g hg u' hu' hg' => h4 g hg (f2 u' hu' g hg')⟩, ?_, fun X' k hP hU => ⟨v, vs', h1, ?_, f3 X' (k + 1) hP fun j u hj => ?_⟩⟩
    ·intro u hu g hg
     rw [h1]
     simp only [KL, List.mem_append, Option.mem_toList]
     rcases List.mem_cons.1 hu with rfl | hu
     ·exact .inl hg
     ·exact .inr (f2 u hu g hg)
    ·obtain ⟨p1, p2, p3⟩ := hU 0 v rfl
     exact ⟨p1.symm, p2, p3⟩
    ·have := hU (j + 1) u hj
     rwa [show k + (j + 1) = k + 1 + j by omega] at this
   ·cases hq
  ·cases hq
 | none :: ks, .cons a b, y, vs, qs, hq, h => by
  simp only [YF] at hq
  split at hq
  ·rename_i hc
   obtain ⟨v, vs', h1, h2, h3, _⟩ := h
   obtain ⟨us, f1, f2, f3⟩ := XV hq h3
   refine ⟨us, f1, fun u hu g hg => by rw [h1]; simpa [KL, rK] using f2 u hu g hg, fun X' k hP hU => ⟨v, vs', h1, ?_, f3 X' k hP hU⟩⟩
   show (a.gr X'.P).v _ _ _ _
   rw [hP]; exact Xm hc h2
  ·cases hq
 | [], .nil, y, vs, qs, hq, h => by
  cases hq
  exact ⟨[], trivial, (fun u hu => by cases hu), fun X' k hP hU => h⟩
 | [], .int _, _, _, _, h, _ | [], .bool, _, _, _, h, _ | [], .str, _, _, _, h, _ | [], .sl _, _, _, _, h, _ | [], .cons .., _, _, _, h, _ | [], .arr .., _, _, _, h, _ | [], .box .., _, _, _, h, _ | [], .fn .., _, _, _, h, _ | [], .seq .., _, _, _, h, _ | [], .slo .., _, _, _, h, _ | [], .mp .., _, _, _, h, _ => by cases h
 | some _ :: _, .int _, _, _, _, h, _ | some _ :: _, .bool, _, _, _, h, _ | some _ :: _, .str, _, _, _, h, _ | some _ :: _, .sl _, _, _, _, h, _ | some _ :: _, .nil, _, _, _, h, _ | some _ :: _, .arr .., _, _, _, h, _ | some _ :: _, .box .., _, _, _, h, _ | some _ :: _, .fn .., _, _, _, h, _ | some _ :: _, .seq .., _, _, _, h, _ | some _ :: _, .slo .., _, _, _, h, _ | some _ :: _, .mp .., _, _, _, h, _ => by cases h
 | none :: _, .int _, _, _, _, h, _ | none :: _, .bool, _, _, _, h, _ | none :: _, .str, _, _, _, h, _ | none :: _, .sl _, _, _, _, h, _ | none :: _, .nil, _, _, _, h, _ | none :: _, .arr .., _, _, _, h, _ | none :: _, .box .., _, _, _, h, _ | none :: _, .fn .., _, _, _, h, _ | none :: _, .seq .., _, _, _, h, _ | none :: _, .slo .., _, _, _, h, _ | none :: _, .mp .., _, _, _, h, _ => by cases h
def tgs (O : zS) : Nat → List Value → zS
 | _, [] => O
 | τ, u :: us => tag (tgs O (τ + 1) us) u.ownBlock τ
theorem Cs {O : zS} {b : Nat} : ∀ {τ : Nat} {us : List Value}, (∀ u ∈ us, u.ownBlock ≠ some b) → tgs O τ us b = O b
 | _, [], _ => rfl
 | τ, u :: us, h => by
  unfold tgs
  rw [vr (h u (by simp)), Cs fun u' hu' => h u' (by simp [hu'])]
theorem n5 {A : Nat → Prop} {O Oc : zS} {w0 w : World} (h : Base A O w0 Oc w) : ∀ {τ : Nat} {us : List Value}, τ ≠ 0 → (∀ u ∈ us, ∀ g, u.ownBlock = some g → A g ∧ g < w.heap.size) → Base A O w0 (tgs Oc τ us) w
 | _, [], _, _ => h
 | τ, u :: us, h0, hu => (n5 h (τ := τ + 1) (us := us) (by omega) fun u' hu' => hu u' (by simp [hu'])).tag h0 (hu u (by simp))
def S.Br (s : S) (d : Option Tmp) (φ : AV) : List OwQ → S
 | [] => s.put d φ
 | q :: qs => (s.obj none (.sl true q.2.1 q.1 q.2.2) .top).Br d φ qs
theorem Inv.Br {d : Option Tmp} {φ : AV} : ∀ (qs : List OwQ) (s : S), Inv s (s.Br d φ qs)
 | [], s => Inv.put _ _ _
 | q :: qs, s => (Inv.obj _ _ _ _).trans (Inv.Br qs _)
section
variable {F : Frm} {a : Act} {d : Option Tmp} {v : Value} {φ : AV} {O' : zS} {w' : World}
theorem DH (hd : F.dst d) (hB : Base F.A F.O0 F.w0 O' w') : ∀ {qs : List OwQ} {us : List Value} {s : S} {X : Cx} {w : World} {τ : Nat}, RelX F s a w X → Ext w w' → KX none X.O w O' w' → (qs = [] → X.O = O') → (τ ≠ 0 ∧ F.x.st < τ) → (∀ k e, look s.M k = some e → X.ι k < τ) →
  qs.length = us.length → (∀ (j : Nat) q u, qs[j]? = some q → us[j]? = some u → zr (τ + j) (q.2.1.gr X.P) q.1 (Go.Lift.Fr F.w0) O' w' u q.2.2) →
  (∀ X' : Cx, X'.P = X.P → (∀ k, k < X.n → X'.U k = X.U k) → X.n ≤ X'.n → (∀ (j : Nat) u, us[j]? = some u → X'.U (s.n + j) = u ∧ s.n + j < X'.n ∧ u.oneCell' = true) → φ.holds X' w' v) → Rel F (s.Br d φ qs) (a.put d v) w'
 | [], us, s, X, w, τ, h, hE, hk, h0, hτ, hι, hl, hO, hφ => by
  have hus : us = [] := List.eq_nil_of_length_eq_zero hl.symm
  subst hus
  exact ⟨_, h.val hE hd (hφ X rfl (fun _ _ => rfl) (zFu _) fun j u hj => by simp at hj)⟩
 | q :: qs, [], s, X, w, τ, h, hE, hk, h0, hτ, hι, hl, hO, hφ => by cases hl
 | q :: qs, u :: us, s, X, w, τ, h, hE, hk, h0, hτ, hι, hl, hO, hφ => by
  have hO0 : zr τ (q.2.1.gr X.P) q.1 (Go.Lift.Fr F.w0) O' w' u q.2.2 := hO 0 q u rfl rfl
  obtain ⟨X2, r1, r2, r3, r4, r5, r6, r7, r8⟩ := h.zCO (d := none) hE (fun _ e => nomatch e) (v := u) (u := u) (mv := .sl true q.2.1 q.1 q.2.2) (φ := .top) hB hk ⟨hτ.1, by omega⟩ (fun k e he => by have := hι k e he; omega)
   (fun X' e1 e2 e3 e4 e5 e6 e7 e8 hle => ⟨trivial, by
    show zr _ _ _ _ _ _ _ _
    rw [e7, e8, e1, e4]
    show zr _ _ _ (X'.F) _ _ _ _
    rw [e3, h.Fn]; exact hO0⟩)
  have hn : (s.obj none (.sl true q.2.1 q.1 q.2.2) .top).n = s.n + 1 := rfl
  refine DH hd hB (qs := qs) (us := us) (τ := τ + 1) r1 (Ext.refl _) ⟨zFu _, fun b _ _ => ⟨by rw [r3], rfl⟩⟩ (fun _ => r3) ⟨by omega, by omega⟩ (fun k e he => ?_) (by simpa using hl) (fun j q' u' hq hu => ?_) (fun X' hP hUo hno hU => hφ X' (hP.trans r2) (fun k hk => (hUo k (by rw [r8]; have := h.n; omega)).trans (r7.U k hk)) (Nat.le_trans r7.n hno) fun j u' hj => ?_)
  ·rcases zH he with ⟨h1, h2⟩ | ⟨h1, h2⟩
   ·subst h1; rw [r6]; omega
   ·rw [r5 k (Ne.symm h1)]; have := hι k e h2; omega
  ·have := hO (j + 1) q' u' hq hu
   rw [show τ + (j + 1) = τ + 1 + j by omega] at this
   rw [r2]; exact this
  ·cases j with
   | zero =>
    simp only [List.getElem?_cons_zero, Option.some.injEq] at hj
    subst hj
    exact ⟨(hUo s.n (by rw [r8]; omega)).trans r4, by rw [r8] at hno; omega, kg hO0⟩
   | succ j =>
    have := hU j u' hj
    rw [hn] at this
    rwa [show s.n + 1 + j = s.n + (j + 1) by omega] at this
end
theorem u5 {P : Program} {B : Nat} {w : World} : ∀ {qs : List OwQ} {us : List Value}, Nw P B w qs us → qs.length = us.length
 | [], [], _ => rfl
 | q :: qs, u :: us, h => by simp [u5 h.2.1]
 | [], _ :: _, h => h.elim
 | _ :: _, [], h => h.elim
theorem l6 {P : Program} {B : Nat} {w : World} : ∀ {qs : List OwQ} {us : List Value}, Nw P B w qs us → ∀ u ∈ us, ∃ q, OwU P B w q u
 | [], [], _, u, hu => by cases hu
 | q :: qs, u0 :: us, h, u, hu => by
  rcases List.mem_cons.1 hu with rfl | hu
  ·exact ⟨q, h.1⟩
  ·exact l6 h.2.1 u hu
 | [], _ :: _, h, _, _ => h.elim
 | _ :: _, [], h, _, _ => h.elim
theorem lz {P : Program} {B : Nat} {w : World} {O : zS} : ∀ {qs : List OwQ} {us : List Value} {τ : Nat}, Nw P B w qs us → ∀ (j : Nat) q u, qs[j]? = some q → us[j]? = some u → OwU P B w q u ∧ ∀ g, u.ownBlock = some g → tgs O τ us g = τ + j
 | [], [], _, _, j, q, u, hq, _ => by simp at hq
 | q0 :: qs, u0 :: us, τ, h, j, q, u, hq, hu => by
  cases j with
  | zero =>
   simp only [List.getElem?_cons_zero, Option.some.injEq] at hq hu
   subst hq hu
   exact ⟨h.1, fun g hg => by unfold tgs; rw [hg]; exact ye _ _ _⟩
  | succ j =>
   have hq' : qs[j]? = some q := by simpa using hq
   have hu' : us[j]? = some u := by simpa using hu
   obtain ⟨r1, r2⟩ := lz (O := O) (τ := τ + 1) h.2.1 j q u hq' hu'
   refine ⟨r1, fun g hg => ?_⟩
   unfold tgs
   rw [vr (fun e => h.2.2 g e u (List.mem_of_getElem? hu') hg), r2 g hg]
   omega
 | [], _ :: _, _, h, _, _, _, _, _ => h.elim
 | _ :: _, [], _, h, _, _, _, _, _ => h.elim
def Sl (ks : List (Option TypeId)) : Bool := Nat.ble 2 (ks.filter Option.isSome).length
theorem RelX.V2 {F : Frm} {s : S} {a : Act} {w w' : World} {X : Cx} (h : RelX F s a w X) (hE : Ext w w') {d : Option Tmp} (hd : F.dst d) {v : Value} {ks : List (Option TypeId)} {rs : Ty} {y : rs.D} {vs : List Value} {qs : List OwQ} (hm : Sl ks = true) (hq : YF ks rs y = some qs) (hr : JD X.P X.O w.heap.size w' ks rs vs y) (ht : YV vs v) :
  Rel F (s.Br d (D5 (AY s.n ks rs y)) qs) (a.put d v) w' := by
 have hne : vs ≠ [] := by
  intro e; subst e
  match ks, rs, y, hq, hr, hm with
  | [], _, _, _, _, hm => cases hm
  | k :: ks, .cons a b, y, hq, h, _ => obtain ⟨v, vs', h1, _⟩ := h; cases h1
 obtain ⟨us, f1, _, f3⟩ := XV hq hr
 obtain ⟨τ, hτ0, hτ1⟩ : ∃ τ, (τ ≠ 0 ∧ F.x.st < τ) ∧ ∀ k e, look s.M k = some e → X.ι k < τ := by
  refine ⟨1 + F.x.st + (s.M.map fun e => X.ι e.1).sum, ⟨by omega, by omega⟩, fun k e h => ?_⟩
  have := tF (l := s.M.map fun e => X.ι e.1) (x := X.ι k) (List.mem_map.2 ⟨_, Jt h, rfl⟩)
  omega
 have hge : ∀ u ∈ us, ∀ g, u.ownBlock = some g → w.heap.size ≤ g ∧ g < w'.heap.size := fun u hu g hg => by
  obtain ⟨q, hq⟩ := l6 f1 u hu
  obtain ⟨zs, g1, _⟩ := hq.o
  exact ⟨g1.uy g hg, g1.gn g hg⟩
 have hB := h.base.step hE h.ok0
 have hs := h.base.size
 refine DH hd (n5 (τ := τ) (us := us) hB hτ0.1 fun u hu g hg => ⟨hB.new g (by have := (hge u hu g hg).1; omega), (hge u hu g hg).2⟩) h hE ⟨hE.size, fun b hb _ => ⟨Cs fun u hu e => by have := (hge u hu b e).1; omega, hE.block b hb⟩⟩ (fun e => ?_) hτ0 hτ1 (u5 f1) (fun j q u hqj huj => ?_) fun X' hP _ _ hU => QF (f3 X' s.n hP hU) hne ht
 ·subst e
  have := u5 f1
  have : us = [] := List.eq_nil_of_length_eq_zero this.symm
  subst this; rfl
 ·obtain ⟨r1, r2⟩ := lz (O := X.O) (τ := τ) f1 j q u hqj huj
  obtain ⟨zs, g1, g2⟩ := r1.o
  exact ⟨zs, g1.mono (Nat.zero_le _), g2 _, fun g hg => ⟨r2 g hg, by have := (hge u (List.mem_of_getElem? huj) g hg).1; show F.w0.heap.size ≤ g; omega⟩⟩
section
variable {F : Frm} {s : S} {a : Act} {w : World} {X : Cx} {E : VE}
variable {d : Option Tmp} {T Y : TypeId} {pos : String} {aft : Array Edge} {g : Option (Nat × Bool)} {k : S → Comp β}
theorem Im (hE : E.ok X.P) {M : MS} (hM : yG M X w) (hO : OkO X.O w) {rd : Operand → Option AV} {x : Operand} {xs : Array Operand} {ts : Array TypeId} (H : kr X w a rd (Op.operands (.call ⟨.value x, xs, ts⟩))) {f : FuncId} {ca cb : AV} {l : List AV} (h1 : rd x = some (.cl f ca cb)) (h2 : ji rd xs.toList = some l) {fs : FS} (hs : E.G f = some fs)
  {z : fs.ps.D} (hz : JB ((ca.asv E.G M).2.2 ++ (l.map (fun φ => φ.asT E.G M) ++ (cb.asv E.G M).2.2)) fs.ps = some z) {nf : Nat} {y : fs.rs.D} (hy : (fs.sem z).run nf = some y) :
  Ok X.P ⟨d, .call ⟨.value x, xs, ts⟩, T, pos, aft, g⟩ a w (fun w' v => ∃ rs, YV rs v ∧ JD X.P X.O w.heap.size w' fs.rk fs.rs rs y) := by
 have k1 := H x _ (by simp [Op.operands, Call.operands]) h1
 have hlen := kL h2
 have hget := lv hE.G hM (a := a) h2 fun y ψ hy hψ => H y ψ (by have hy' : y ∈ xs := Array.mem_toList_iff.1 hy; simp [Op.operands, Call.operands, hy']) hψ
 have hmap : (xs.map a.eval) = (xs.toList.map a.eval).toArray := by rw [← Array.toList_map]
 obtain ⟨vs, us, e1, e2, e3⟩ := k1
 have A := AV.km hE.G ca hM
 have B := AV.km hE.G cb hM
 obtain ⟨f1, f2⟩ := hE.G f fs hs
 refine uk e3 hmap (JP f1 ?_)
 rw [YJ]
 have n1 := A.n e1
 have n2 := B.n e2
 have hargs : fs.ps.args X.P X.O w (vs ++ (xs.toList.map a.eval ++ us)) z := ZZ hz (by simp [n1, n2, hlen]) (X9 (R := fun f v => ∀ t x, f t = some x → (t.gr X.P).v X.O w v x) n1 (A.e e1) (X9 (by simp [hlen]) hget (B.e e2)))
 exact f2 X.O w hO _ _ hargs nf y hy
def WJ (G : FE) : Option AV → Bool
 | some (.cl f _ _) => match G f with
  | some fs => fs.rk.any Option.isSome
  | none => false
 | _ => false
def zBu (G : ME) : Option AV → Bool
 | some (.cl f _ _) => (G f).isSome
 | _ => false
def Sq {α : Type} (G : FuncId → Option α) : Option AV → Bool
 | some (.cl f _ _) => (G f).isSome
 | _ => false
def tlV : Option (List AV) → List AV
 | some (_ :: l) => l
 | _ => []
def CA (E : VE) (s : S) (d : Option Tmp) (φ : Option AV) (l : Option (List AV)) (k : S → Comp β) : Comp β := match φ, l with
 | some (.cl f ca cb), some l => match E.G f with
  | none => Comp.fail
  | some fs => match JB ((ca.asv E.G s.M).2.2 ++ (l.map (fun φ => φ.asT E.G s.M) ++ (cb.asv E.G s.M).2.2)) fs.ps with
   | some z => (fs.sem z).bind fun y => match Zu fs.rk fs.rs y with
    | some q => k (s.obj d (.sl true q.2.1 q.1 q.2.2) (EB s.n fs.rk fs.rs y))
    | none => match Sl fs.rk, YF fs.rk fs.rs y with
     | true, some qs => k (s.Br d (D5 (AY s.n fs.rk fs.rs y)) qs)
     | _, _ => k (s.put d (AO fs.rs y))
   | none => Comp.fail
 | _, _ => Comp.fail
theorem QV {P : Program} {O : zS} {B : Nat} {w : World} {ks : List (Option TypeId)} {rs : Ty} {vs : List Value} {y : rs.D} {q : TypeId × (t : Ty) × List t.D} (hq : Zu ks rs y = some q) (h : JD P O B w ks rs vs y) : vs ≠ [] := by
 intro e; subst e
 match ks, rs, y, hq, h with
 | k :: ks, .cons a b, y, hq, h => obtain ⟨v, vs', h1, _⟩ := h; cases h1
theorem E1 (hE : E.ok X.P) (h : RelX F s a w X) (hd : F.dst d) {x : Operand} {xs : Array Operand} {ts : Array TypeId} : gj F s a w ⟨d, .call ⟨.value x, xs, ts⟩, T, pos, aft, g⟩ (CA E s d (rdO s.ep s.L [] [] x) (ji (rdO s.ep s.L [] []) xs.toList) k) k := by
 intro nf y hr K Q hK
 rw [← h.P]
 rw [← h.ep] at hr
 unfold CA at hr
 split at hr
 ·rename_i f ca cb l hφ hl
  split at hr
  ·cases hr
  ·rename_i fs hs
   split at hr
   ·rename_i z hz
    obtain ⟨y0, hy0, hr⟩ := run_bind hr
    have hok := Im (d := d) (T := T) (pos := pos) (aft := aft) (g := g) (ts := ts) hE h.m h.okO (h.rd _) hφ hl hs hz hy0
    split at hr
    ·rename_i q hq
     refine hok K Q fun v w' hEx hv => ?_
     obtain ⟨rs, h3, h4⟩ := hv
     obtain ⟨u, h5, h6⟩ := JH (k := s.n) hq h4
     refine hK _ _ _ (h.Ac hEx hd h5 fun X' e1 hle e2 e3 e4 => ?_) (Inv.obj _ _ _ _) hr
     exact DA (h6 X' e1 e2 e3 e4) (QV hq h4) h3
    ·split at hr
     ·rename_i qs hm hqs
      refine hok K Q fun v w' hEx hv => ?_
      obtain ⟨rs, h3, h4⟩ := hv
      exact hK _ _ _ (h.V2 hEx hd hm hqs h4 h3) (Inv.Br _ _) hr
     ·refine hok K Q fun v w' hEx hv => ?_
      obtain ⟨rs, h3, h4⟩ := hv
      exact hK _ _ _ ⟨_, h.val hEx hd (wN (Yo (fun b hb => h.okO b hb) h4) h3)⟩ (Inv.put _ _ _) hr
   ·cases hr
 ·cases hr
def Rw {α : Type} : List α → Option (α × α)
 | [x, y] => some (x, y)
 | _ => none
theorem wK {α : Type} {l : Array α} {p : α × α} (h : Rw l.toList = some p) : l = #[p.1, p.2] := by
 unfold Rw at h; split at h
 ·rename_i x y e; cases h; exact Array.ext' e
 ·cases h
def Sr : Builtin → Bool
 | .clear => true
 | _ => false
theorem IM {b : Builtin} (h : Sr b = true) : b = .clear := by cases b <;> first | rfl | cases h
def one? {α : Type} : List α → Option α
 | [x] => some x
 | _ => none
theorem DC {α : Type} {l : Array α} {p : α} (h : one? l.toList = some p) : l = #[p] := by
 unfold one? at h
 split at h
 ·rename_i x e; cases h; exact Array.ext' (by simpa using e)
 ·cases h
def SX (E : VE) (s : S) (Y : TypeId) (x : Operand) (l h m : Option Operand) : Option (Operand × (Nat × Bool × TypeId × (t : Ty) × List t.D)) := match l, h, m with
 | none, some y, none => match rdO s.ep s.L [] [] x with
  | some φ => match wA s.M φ, look E.T Y with
   | some p, some i => match slD i.dd with
    | some e => match look E.T e with
     | some j => match Nat.beq p.2.2.2.1.sz j.sz with
      | true => some (y, p)
      | false => none
     | none => none
    | none => none
   | _, _ => none
  | none => none
 | _, _, _ => none
def isApp : Builtin → Bool
 | .append => true
 | _ => false
theorem IP {b : Builtin} (h : isApp b = true) : b = .append := by cases b <;> first | rfl | cases h
def AV.refs : AV → List Nat
 | .ob k | .bx k _ | .ba k .. | .el k .. | .sx k .. | .px k _ => [k]
 | .cl _ a b | .pr a b => a.refs ++ b.refs
 | .tp l | .ag l => l.refs
 | _ => []
def AP (rd : Operand → Option AV) : List Operand → List Nat
 | [] => []
 | x :: xs => match rd x with
  | some φ => φ.refs ++ AP rd xs
  | none => AP rd xs
def zFY : Option AV → Bool
 | some (.bx _ _) => true
 | _ => false
def clC (G : FE) : Option AV → Bool
 | some (.cl f _ _) => match G f with
  | some fs => fs.rs.closed
  | none => true
 | some (.rd (.fn _ tr) _) => tr.closed
 | _ => true
def Nh (E : VE) (s : S) (o : Op) : S := match o with
 | .buildSlice _ _ ps => s.Y1 (AP (rdO s.ep s.L [] []) (ps.toList.map (·.2)))
 | .store _ x z => match zFY (rdO s.ep s.L [] [] x) with
  | true => s
  | false => s.Y1 (AP (rdO s.ep s.L [] []) [z])
 | .call c => match c.callee with
  | .value x => match clC E.G (rdO s.ep s.L [] [] x) with
   | true => s
   | false => s.Y1 (AP (rdO s.ep s.L [] []) (x :: c.args.toList))
  | _ => s
 | _ => s
def D8 (E : VE) (wr : List Nat) (s : S) (o : Oper) (k : S → Comp β) : Comp β := match o.op with
 | .alloc Y => wM E s o.dst Y k
 | .box Y x => NH s o.dst Y (rdO s.ep s.L [] [] x) k
 | .store Y x z => match o.dst with
  | none => rV E s Y (rdO s.ep s.L [] [] x) (rdO s.ep s.L [] [] z) k
  | some _ => Comp.fail
 | .buildSlice Y n ps => NG E s o.dst (Dt E.T E.G s.M (rdO s.ep s.L [] []) Y n ps.toList) k
 | .makeSlice Y x z => B9 E s o.dst Y x z ((rdO s.ep s.L [] [] z).bind AV.int?) k
 | .call c => match c.callee with
  | .builtin b => match isApp b with
   | true => match Rw c.args.toList, Rw c.argTypes.toList with
    | some p, some q => match Nat.beq q.1 q.2 with
     | true => match Wy (rdO s.ep s.L [] [] p.1) with
      | some r => CC E s o.dst q.1 r.1 r.2 (rdO s.ep s.L [] [] p.2) k
      | none => NI E s o.dst q.1 (rdO s.ep s.L [] [] p.1) (rdO s.ep s.L [] [] p.2) k
     | false => CB E s o.dst q.1 q.2 (rdO s.ep s.L [] [] p.1) ((rdO s.ep s.L [] [] p.2).bind AV.int?) k
    | _, _ => Comp.fail
   | false => match Sr b with
    | true => match one? c.args.toList, one? c.argTypes.toList with
     | some x, some Y => rX E s o.dst Y (rdO s.ep s.L [] [] x) k
     | _, _ => Comp.fail
    | false => rG (val E s.M s.ep s.L [] [] wr o.dst o.op) s o.dst k
  | .value x => match zBu E.H (rdO s.ep s.L [] [] x) with
   | true => rf E s o.dst (rdO s.ep s.L [] [] x) (ji (rdO s.ep s.L [] []) c.args.toList) k
   | false => match Sq E.O (rdO s.ep s.L [] [] x) with
   | true =>
    let s1 := s.Zq E (tlV (ji (rdO s.ep s.L [] []) c.args.toList))
    rY E s1 o.dst (rdO s1.ep s1.L [] [] x) (ji (rdO s1.ep s1.L [] []) c.args.toList) k
   | false => match Sq E.N (rdO s.ep s.L [] [] x) with
   | true => rZ E s o.dst (rdO s.ep s.L [] [] x) (ji (rdO s.ep s.L [] []) c.args.toList) k
   | false => match WJ E.G (rdO s.ep s.L [] [] x) with
   | true => CA E s o.dst (rdO s.ep s.L [] [] x) (ji (rdO s.ep s.L [] []) c.args.toList) k
   | false => rG (val E s.M s.ep s.L [] [] wr o.dst o.op) s o.dst k
  | .invoke _ _ => Comp.fail
 | .makeMap Y n => rW E s o.dst Y k n
 | .mapUpdate Y m x v => match o.dst with
  | none => B8 E s Y k (rdO s.ep s.L [] [] m) (rdO s.ep s.L [] [] x) (rdO s.ep s.L [] [] v)
  | some _ => Comp.fail
 | .slice Y x l h m => match SX E s Y x l h m with
  | some q => NF s o.dst q.2 ((rdO s.ep s.L [] [] q.1).bind AV.int?) k
  | none => rG (val E s.M s.ep s.L [] [] wr o.dst o.op) s o.dst k
 | _ => rG (val E s.M s.ep s.L [] [] wr o.dst o.op) s o.dst k
theorem HV (hE : E.ok X.P) (h : RelX F s a w X) (wr : List Nat) (o : Oper) (hd : F.dst o.dst) : gj F s a w o (D8 E wr s o k) k := by
 have hv : gj F s a w o (rG (val E s.M s.ep s.L [] [] wr o.dst o.op) s o.dst k) k := by
  refine HW h hd ?_
  rw [← h.ep]
  exact Jb (R := []) (g := []) hE trivial h.okO h.m o (h.zBt o) trivial
 have hfail : gj F s a w o (Comp.fail : Comp β) k := fun nf y hr => nomatch hr
 obtain ⟨d, op, T, pos, aft, g⟩ := o
 unfold D8
 split
 ·rename_i Y e; simp only at e; subst e; exact Az hE h hd
 ·rename_i Y x e; simp only at e; subst e; exact HZ h hd
 ·rename_i Y x z e; simp only at e; subst e
  split
  ·rename_i e; simp only at e; subst e; exact As hE h
  ·exact hfail
 ·rename_i Y n ps e; simp only at e; subst e; exact HY hE h hd
 ·rename_i Y x z e; simp only at e; subst e; exact Ez hE h hd
 ·rename_i c e
  simp only at e
  obtain ⟨cal, xs, ts⟩ := c
  split
  ·rename_i b e2
   simp only at e2
   split
   ·rename_i hb
    rw [IP hb] at e2
    split
    ·rename_i p q hp hq
     split
     ·rename_i hpq
      have h1 := wK hp
      have h2 := wK hq
      simp only at h1 h2
      have h3 := zFr hpq
      rw [← h3] at h2
      subst e2 h1 h2 e
      split
      ·rename_i r hr
       exact E3 hE h hd (QW hr)
      ·exact Ha hE h hd
     ·have h1 := wK hp
      have h2 := wK hq
      simp only at h1 h2
      subst e2 h1 h2 e
      exact E2 hE h hd
    ·exact hfail
   ·split
    ·rename_i hb
     rw [IM hb] at e2
     split
     ·rename_i x Y hx hY
      have h1 := DC hx
      have h2 := DC hY
      simp only at h1 h2
      subst e2 h1 h2 e
      cases d with
      | none => exact Av hE h
      | some d => exact fun nf y hr => (by cases hr)
     ·exact hfail
    ·exact hv
  ·rename_i x e2
   simp only at e2
   split
   ·subst e2 e; exact Ay hE h hd
   ·split
    ·subst e2 e
     obtain ⟨X1, h1⟩ := Rel.Zq (E := E) (by rw [← h.P]; exact hE) ⟨X, h⟩ (tlV (ji (rdO s.ep s.L [] []) xs.toList))
     intro nf y hr K Q hK
     exact Aw (by rw [h1.P, ← h.P]; exact hE) h1 hd nf y hr K Q fun s' v w' q1 q2 q3 => hK s' v w' q1 ((Inv.Zq _ _).trans q2) q3
    split
    ·subst e2 e; exact Ax hE h hd
    split
    ·subst e2 e; exact E1 hE h hd
    ·exact hv
  ·exact hfail
 ·rename_i Y n e; simp only at e; subst e; exact Au h hd
 ·rename_i Y m x v e; simp only at e; subst e
  split
  ·rename_i e; simp only at e; subst e; exact Ey hE h
  ·exact hfail
 ·rename_i Y x l h' m e
  simp only at e
  split
  ·rename_i q hq
   unfold SX at hq
   split at hq
   ·rename_i y
    split at hq
    ·rename_i φ hφ
     split at hq
     ·rename_i p i hp hi
      split at hq
      ·rename_i e' he'
       split at hq
       ·rename_i j hj
        split at hq
        ·rename_i hs
         cases hq
         subst e
         exact HX hE h hd hφ hp hi he' hj hs
        ·cases hq
       ·cases hq
      ·cases hq
     ·cases hq
    ·cases hq
   ·cases hq
  ·exact hv
 ·exact hv
def step (E : VE) (wr : List Nat) (s : S) (o : Oper) (k : S → Comp β) : Comp β := D8 E wr (Nh E s o.op) o k
theorem QZ (h : Rel F s a w) (o : Op) : Rel F (Nh E s o) a w ∧ Inv s (Nh E s o) := by
 unfold Nh
 split
 ·exact ⟨Rel.Y1 _ h, Inv.Y1 _ _⟩
 ·split
  ·exact ⟨h, Inv.refl _⟩
  ·exact ⟨Rel.Y1 _ h, Inv.Y1 _ _⟩
 ·split
  ·split
   ·exact ⟨h, Inv.refl _⟩
   ·exact ⟨Rel.Y1 _ h, Inv.Y1 _ _⟩
  ·exact ⟨h, Inv.refl _⟩
 ·exact ⟨h, Inv.refl _⟩
theorem wL (hE : E.ok F.P) (h : Rel F s a w) (wr : List Nat) (o : Oper) (hd : F.dst o.dst) : gj F s a w o (step E wr s o k) k := by
 intro nf y hr K Q hK
 obtain ⟨⟨X, h1⟩, h2⟩ := QZ (E := E) h o.op
 exact HV (by rw [h1.P]; exact hE) h1 wr o hd nf y hr K Q fun s' v w' g1 g2 g3 => hK s' v w' g1 (h2.trans g2) g3
def D7 (E : VE) (wr : List Nat) (k : S → Comp β) : List Oper → S → Comp β
 | [], s => k s
 | o :: os, s => step E wr s o (D7 E wr k os)
theorem n9 (hE : E.ok F.P) (wr : List Nat) {nf : Nat} {y : β} {ops : Array Oper} {Q : Exit → Act → World → Prop} {s0 : S} : ∀ {os : List Oper} {s : S} {a : Act} {w : World}, Rel F s a w → Inv s0 s → (D7 E wr k os s).run nf = some y → (∀ o ∈ os, (o.guard.isNone = true ∧ ∀ c, o.op ≠ .defer c) ∧ F.dst o.dst) →
  (∀ s' a' w', Rel F s' a' w' → Inv s0 s' → (k s').run nf = some y → Q .normal a' w') → jz (F.W Q) ops (Q .normal) os a w
 | [], s, a, w, h, hi, hr, _, hK => hK s a w h hi hr
 | o :: os, s, a, w, h, hi, hr, ho, hK => by
  have h1 := ho o (by simp)
  have hg : o.guard = none := by cases hgo : o.guard <;> simp_all
  have hw : Region.wanted o (yielded ops a.tmps) = true := by simp [Region.wanted, hg]
  simp only [jz, hw, if_true]
  refine Y3 h1.1.2 (wL (k := D7 E wr k os) hE h wr o h1.2 nf y hr _ _ fun s' v w' hR hi' hr' => ?_)
  exact n9 hE wr hR (hi.trans hi') hr' (fun o' ho' => ho o' (by simp [ho'])) hK
end
def zFd : Builtin → Bool
 | .len | .max | .min | .cap => false
 | _ => true
def eff (G : FE) : Op → Bool
 | .alloc _ | .box .. | .store .. | .buildSlice .. | .makeSlice .. | .makeMap .. | .mapUpdate .. | .insert .. | .panic _ | .defer _ => true
 | .call c => match c.callee with
  | .builtin b => zFd b
  | .value (.func f) => match G f with
   | some fs => !fs.rs.closed
   | none => true
  | _ => false
 | _ => false
def G6 : List Oper → Bool
 | [] => false
 | o :: os => o.guard.isSome || G6 os
def cut (G : FE) (draw : Bool) (all : List Oper) : Nat → List Oper → Nat
 | i, [] => i
 | i, o :: os => match eff G o.op && (!G6 (o :: os) && (!draw || XM all i)) with
  | true => i
  | false => cut G draw all (i + 1) os
def wrS : List Oper → List Nat
 | [] => []
 | o :: os => match o.op with
  | .store _ (.tmp t) _ => t :: wrS os
  | .fieldAddr _ (.tmp t) _ => match Bt o.dst (wrS os) with
   | true => t :: wrS os
   | false => wrS os
  | .indexAddr _ (.tmp t) _ => match Bt o.dst (wrS os) with
   | true => t :: wrS os
   | false => wrS os
  | _ => wrS os
def zCj {β : Type} (E : VE) (draw : Bool) (os : List Oper) (s : S) (k : S → Comp β) : Comp β :=
 Bw E s.M s.ep s.L s.n (wrS os) (fun tl R F => match !G6 tl && (!draw || XM os R.length) with
  | true => D7 E (wrS os) k tl { s with L := F, n := s.n + 1 }
  | false => Comp.fail) (cut E.G draw os 0 os) 0 os [] s.L
theorem pD : ∀ {os : List Oper}, G6 os = false → ∀ o ∈ os, o.guard.isNone = true
 | [], _, o, h => by cases h
 | o' :: os, h, o, ho => by
  simp only [G6, Bool.or_eq_false_iff] at h
  rcases List.mem_cons.1 ho with rfl | ho
  ·have := h.1
   cases hg : o.guard <;> simp_all
  ·exact pD h.2 o ho
theorem RW {F : Frm} (hLh : ∀ t φ, ¬ F.Lh t φ) {E : VE} (hE : E.ok F.P) {s0 s : S} {a : Act} {w : World} (hR : Rel F s a w) (hi : Inv s0 s) {os : List Oper} {id nf : Nat} {draw : Bool} {β : Type} {y : β} {k : S → Comp β} {Q : Exit → Act → World → Prop} (hm : F.P.follows .mixedOrders = true)
  (hok : XP F.N os = true) (h : (zCj E draw os s k).run nf = some y) (hK : ∀ s' a' w', Rel F s' a' w' → Inv s0 s' → (k s').run nf = some y → Q .normal a' w') : F.wp (Code.region id os.toArray draw) Q a w := by
 refine BJ hLh hE hR (draw := draw) (fun _ => hm) hok h fun tl R' F' hF hr => ?_
 split at hr
 ·rename_i hb
  rw [zFs] at hb
  have hg : G6 tl = false := by simpa using hb.1
  refine ⟨List.all_eq_true.2 (pD hg), fun hd => ?_, fun a' w' hR' hmem => ?_⟩
  ·have := hb.2; rw [hd] at this; simpa using this
  ·refine n9 hE (wrS os) hR' (hi.trans ⟨Nat.le_succ _, hF, yQ⟩) hr (fun o ho => ⟨⟨pD hg o ho, wT hok o (hmem o ho)⟩, fun t ht => ?_⟩) hK
   obtain ⟨j, hj⟩ := List.mem_iff_getElem?.1 (hmem o ho)
   exact ⟨((zW (X7 hok) hj).2.1 t ht).1, fun φ => hLh t φ⟩
 ·cases hr
def AV.bd (n : Nat) : AV → Prop
 | .ob k | .bx k _ | .ba k .. | .el k .. | .sx k .. | .px k _ => k < n
 | .cl _ a b | .pr a b => a.bd n ∧ b.bd n
 | .tp l | .ag l => l.bd n
 | _ => True
theorem AV.Nb {X : Cx} {w : World} (φ : AV) : (∀ u, (φ.sem X w).v u → φ.bd X.n) ∧ (∀ vs, (φ.sem X w).l vs → φ.bd X.n) ∧ (∀ cs, (φ.sem X w).c cs → φ.bd X.n) := by
 have one_case : ∀ {q : Value → Prop} {p : Prop}, (∀ u, q u → p) → (∀ u, (one q).v u → p) ∧ (∀ vs, (one q).l vs → p) ∧ (∀ cs, (one q).c cs → p) :=
  fun h => ⟨h, fun _ h => h.elim, fun cs ⟨u, _, _, h3⟩ => h u h3⟩
 induction φ with
 | ob k => exact one_case fun u h => h.2.1
 | bx k off => exact one_case fun u h => h.1
 | ba k off sz i esz off2 => exact one_case fun u h => h.1
 | el k i esz off2 => exact one_case fun u h => h.1
 | sx k lo esz => exact one_case fun u h => h.2
 | px k n => exact one_case fun u h => h.2
 | yl => exact one_case fun u h => trivial
 | cl f a b iha ihb =>
  refine one_case fun u h => ?_
  obtain ⟨vs, us, h1, h2, _⟩ := h
  exact ⟨iha.2.1 _ h1, ihb.2.1 _ h2⟩
 | pr a b iha ihb =>
  refine ⟨fun _ h => h.elim, fun vs h => ?_, fun cs h => ?_⟩
  ·obtain ⟨v, vs', _, h2, h3⟩ := h; exact ⟨iha.1 _ h2, ihb.2.1 _ h3⟩
  ·obtain ⟨c1, c2, _, h2, h3⟩ := h; exact ⟨iha.2.2 _ h2, ihb.2.2 _ h3⟩
 | tp l ih => exact ⟨fun u ⟨vs, h1, _⟩ => ih.2.1 _ h1, fun _ h => h.elim, fun _ h => h.elim⟩
 | ag l ih => exact ⟨fun u ⟨cs, h1, _⟩ => ih.2.2 _ h1, fun _ h => h.elim, fun cs h => ih.2.2 _ h⟩
 | _ => exact ⟨fun _ _ => trivial, fun _ _ => trivial, fun _ _ => trivial⟩
structure Cx.al (X X' : Cx) (n : Nat) : Prop where
 P : X'.P = X.P
 O : X'.O = X.O
 U : ∀ k, k < n → X'.U k = X.U k
 n : n ≤ X'.n
 L : X'.Lp = X.Lp
theorem AV.al {X X' : Cx} {n : Nat} (hX : X.al X' n) {w : World} (φ : AV) (hb : φ.bd n) : (∀ u, (φ.sem X w).v u → (φ.sem X' w).v u) ∧ (∀ vs, (φ.sem X w).l vs → (φ.sem X' w).l vs) ∧ (∀ cs, (φ.sem X w).c cs → (φ.sem X' w).c cs) := by
 induction φ with
 | rd t x =>
  refine ⟨fun u h => ?_, fun _ h => h, fun cs h => ?_⟩
  ·show (t.gr X'.P).v _ _ _ _; rw [hX.P, hX.O]; exact h
  ·show (t.gr X'.P).rel _ _ _ _; rw [hX.P, hX.O]; exact h
 | pt t x => refine y8 fun u h => ?_; rw [hX.P, hX.O]; exact h
 | ob k => exact y8 fun u h => ⟨by rw [h.1, hX.U k hb], Nat.lt_of_lt_of_le hb hX.n, h.2.2⟩
 | bx k off =>
  refine y8 fun u h => ?_
  obtain ⟨h1, b, h2, h3⟩ := h
  exact ⟨Nat.lt_of_lt_of_le hb hX.n, b, by rw [hX.U k hb]; exact h2, h3⟩
 | ba k off sz i esz off2 =>
  refine y8 fun u h => ?_
  obtain ⟨h1, h2, h3, b, h4, h5⟩ := h
  exact ⟨Nat.lt_of_lt_of_le hb hX.n, h2, h3, b, by rw [hX.U k hb]; exact h4, h5⟩
 | el k i esz off2 =>
  refine y8 fun u h => ?_
  obtain ⟨h1, h2, h3, h4⟩ := h
  exact ⟨Nat.lt_of_lt_of_le hb hX.n, h2, by rw [hX.U k hb]; exact h3, by rw [hX.U k hb]; exact h4⟩
 | pq t x =>
  refine ⟨fun u h => ?_, fun _ h => h, fun _ h => h⟩
  show ∃ v, Ym w u v ∧ (t.gr X'.P).v X'.O w v x
  rw [hX.P, hX.O]; exact h
 | cl f a b iha ihb =>
  refine y8 fun u h => ?_
  obtain ⟨vs, us, h1, h2, h3⟩ := h
  exact ⟨vs, us, (iha hb.1).2.1 _ h1, (ihb hb.2).2.1 _ h2, h3⟩
 | un => exact ⟨fun _ h => h, fun _ h => h, fun _ h => h⟩
 | pr a b iha ihb =>
  refine ⟨fun _ h => h, fun vs h => ?_, fun cs h => ?_⟩
  ·obtain ⟨v, vs', h1, h2, h3⟩ := h
   exact ⟨v, vs', h1, (iha hb.1).1 _ h2, (ihb hb.2).2.1 _ h3⟩
  ·obtain ⟨c1, c2, h1, h2, h3⟩ := h
   exact ⟨c1, c2, h1, (iha hb.1).2.2 _ h2, (ihb hb.2).2.2 _ h3⟩
 | tp l ih =>
  refine ⟨fun u h => ?_, fun _ h => h, fun _ h => h⟩
  obtain ⟨vs, h1, h2⟩ := h
  exact ⟨vs, (ih hb).2.1 _ h1, h2⟩
 | ag l ih =>
  refine ⟨fun u h => ?_, fun _ h => h, fun cs h => (ih hb).2.2 _ h⟩
  obtain ⟨cs, h1, h2⟩ := h
  exact ⟨cs, (ih hb).2.2 _ h1, h2⟩
 | ex v => exact ⟨fun _ h => h, fun _ h => h, fun _ h => h⟩
 | nb p e => exact ⟨fun _ h => h, fun _ h => h, fun _ h => h⟩
 | sx k lo esz => exact y8 fun u h => ⟨by rw [h.1, hX.U k hb], Nat.lt_of_lt_of_le hb hX.n⟩
 | px k n => exact y8 fun u h => ⟨by rw [hX.U k hb]; exact h.1, Nat.lt_of_lt_of_le hb hX.n⟩
 | yl => exact y8 fun u h => by rw [hX.L]; exact h
 | em t => exact ⟨fun _ h => h, fun _ h => h, fun _ h => h⟩
 | top => exact ⟨fun _ h => h, fun _ h => h, fun _ h => h⟩
inductive Knd
 | v (t : Ty)
 | o (nw : Bool) (t : Ty) (T : TypeId)
 | m (nw : Bool) (a b : Ty)
 | un
 | pr (a b : Knd)
 | ag (l : Knd)
def Knd.D : Knd → Type
 | .v t => t.D
 | .o _ t _ => List t.D
 | .m _ a b => List (a.D × b.D)
 | .un => Unit
 | .pr a b => a.D × b.D
 | .ag l => l.D
def Knd.put (st : Nat) : (k : Knd) → k.D → Nat → AV × MS × Nat
 | .v t, x, n => (.rd t x, [], n)
 | .o nw t T, xs, n => (.ob n, [(n, st, .sl nw t T xs)], n + 1)
 | .m nw a b, xs, n => (.ob n, [(n, st, .mp nw a b xs)], n + 1)
 | .un, _, n => (.un, [], n)
 | .pr a b, x, n =>
  let p := a.put st x.1 n
  let q := b.put st x.2 p.2.2
  (.pr p.1 q.1, p.2.1 ++ q.2.1, q.2.2)
 | .ag l, x, n =>
  let p := l.put st x n
  (.ag p.1, p.2.1, p.2.2)
def Ns : AV → Option AV
 | .ag l => some l
 | .rd t x => match t.agg && okE t with
  | true => some (SC t x)
  | false => none
 | _ => none
def Ty.zCP : Ty → Bool
 | .slo _ => false
 | _ => true
theorem Q1 {P : Program} {k : Nat} {B : Nat → Prop} {O : zS} {w : World} {u : Value} {a b a' b' : Ty} {xs : List (a.D × b.D)} {ys : List (a'.D × b'.D)} (e : Ty.mp a b = .mp a' b') (h : Ty.cast e xs = ys) (hO : Zb k (gR a) (b.gr P) B O w u xs) : Zb k (gR a') (b'.gr P) B O w u ys := by
 injection e with e1 e2
 subst e1 e2
 subst h
 exact hO
def R4 (M : MS) : AV → Option (Nat × Bool × (a : Ty) × (b : Ty) × List (a.D × b.D))
 | .ob k => match look M k with
  | some (_, .mp nw a b xs) => some (k, nw, ⟨a, b, xs⟩)
  | _ => none
 | _ => none
theorem Q2 {M : MS} {φ : AV} {p : Nat × Bool × (a : Ty) × (b : Ty) × List (a.D × b.D)} (h : R4 M φ = some p) : φ = .ob p.1 ∧ ∃ e, look M p.1 = some e ∧ e.2 = .mp p.2.1 p.2.2.1 p.2.2.2.1 p.2.2.2.2 := by
 unfold R4 at h
 split at h
 ·split at h
  ·rename_i k _ st nw a b xs hk
   cases h
   exact ⟨rfl, _, hk, rfl⟩
  ·cases h
 ·cases h
def Knd.get (G : FE) (M : MS) : (k : Knd) → AV → Option (k.D × List (Option Nat))
 | .v t, φ => match t.zCP, φ.asT G M t with
  | true, some x => some (x, [])
  | _, _ => none
 | .o nw t T, φ => match wA M φ with
  | some p => match AG p.2.1 nw && Nat.beq p.2.2.1 T, (Ty.sl p.2.2.2.1).to (.sl t) p.2.2.2.2 with
   | true, some xs => some ((xs : List t.D), [some p.1])
   | _, _ => none
  | none => match XN φ && nw with
   | true => some (([] : List t.D), [none])
   | false => none
 | .m nw a b, φ => match R4 M φ with
  | some p => match AG p.2.1 nw, (Ty.mp p.2.2.1 p.2.2.2.1).to (.mp a b) p.2.2.2.2 with
   | true, some xs => some ((xs : List (a.D × b.D)), [some p.1])
   | _, _ => none
  | none => none
 | .un, φ => match φ with
  | .un => some ((), [])
  | _ => none
 | .pr a b, φ => match φ with
  | .pr φ1 φ2 => match a.get G M φ1, b.get G M φ2 with
   | some p, some q => some ((p.1, q.1), p.2 ++ q.2)
   | _, _ => none
  | _ => none
 | .ag l, φ => match Ns φ with
  | some φ => l.get G M φ
  | none => none
structure Ren (X X' : Cx) (n : Nat) (olds : List (Option Nat)) : Prop where
 P : X'.P = X.P
 O : X'.O = X.O
 A : X'.A = X.A
 F : X'.F = X.F
 L : X'.Lp = X.Lp
 U : ∀ i k, olds[i]? = some (some k) → X'.U (n + i) = X.U k ∧ X'.ι (n + i) = X.ι k
 N : ∀ i, olds[i]? = some none → X'.U (n + i) = .slice none 0 0
 n : n + olds.length ≤ X'.n
theorem Ren.left {X X' : Cx} {n : Nat} {a b : List (Option Nat)} (h : Ren X X' n (a ++ b)) : Ren X X' n a :=
 ⟨h.P, h.O, h.A, h.F, h.L, fun i k hi => h.U i k (by rw [List.getElem?_append_left (List.getElem?_eq_some_iff.1 hi).1]; exact hi), fun i hi => h.N i (by rw [List.getElem?_append_left (List.getElem?_eq_some_iff.1 hi).1]; exact hi), by have := h.n; rw [zFt] at this; omega⟩
theorem Ren.right {X X' : Cx} {n : Nat} {a b : List (Option Nat)} (h : Ren X X' n (a ++ b)) : Ren X X' (n + a.length) b :=
 ⟨h.P, h.O, h.A, h.F, h.L, fun i k hi => by
   have := h.U (a.length + i) k (by rw [List.getElem?_append_right (by omega), Nat.add_sub_cancel_left]; exact hi)
   rwa [← Nat.add_assoc] at this, fun i hi => by
   have := h.N (a.length + i) (by rw [List.getElem?_append_right (by omega), Nat.add_sub_cancel_left]; exact hi)
   rwa [← Nat.add_assoc] at this, by have := h.n; rw [zFt] at this; omega⟩
theorem ZW {α : Type} {l m : List (Nat × α)} {t : Nat} {e : α} (h : look (l ++ m) t = some e) : look l t = some e ∨ (look l t = none ∧ look m t = some e) := by
 induction l with
 | nil => exact .inr ⟨rfl, h⟩
 | cons x l ih =>
  obtain ⟨k, y⟩ := x
  rw [List.cons_append] at h
  simp only [look] at h ⊢
  cases hb : Nat.beq k t with
  | true => rw [hb] at h; exact .inl h
  | false => rw [hb] at h; exact ih h
def Eh (M : MS) (k : Nat) : Prop := ∃ e, look M k = some e ∧ e.2.own = true
theorem Knd.ok {X X' : Cx} {G : FE} (hG : FOk X.P G) {M : MS} {w : World} (hM : yG M X w) {st : Nat} : ∀ {kd : Knd} {φ : AV} {x : kd.D} {olds : List (Option Nat)} {n : Nat}, kd.get G M φ = some (x, olds) → Ren X X' n olds →
  (kd.put st x n).2.2 = n + olds.length ∧ (∀ u, (φ.sem X w).v u → ((kd.put st x n).1.sem X' w).v u) ∧ (∀ cs, (φ.sem X w).c cs → ((kd.put st x n).1.sem X' w).c cs ∧ (kd.put st x n).1.zw = false) ∧ (kd.put st x n).1.zw = false ∧
  (∀ j e, look (kd.put st x n).2.1 j = some e → e.1 = st ∧ n ≤ j ∧ j < n + olds.length ∧ e.2.holds X' w j) ∧ (∀ (i : Nat) k, olds[i]? = some (some k) → Eh M k) := by
 intro kd
 induction kd with
 | v t =>
  intro φ x olds n h hR
  simp only [Knd.get] at h
  split at h
  ·rename_i y _ hy
   cases h
   have hA := AV.km hG φ hM
   refine ⟨rfl, fun u hu => ?_, fun cs hc => ⟨?_, rfl⟩, rfl, fun j e he => (nomatch he), fun i k hi => by simp at hi⟩
   ·show (t.gr X'.P).v _ _ _ _; rw [hR.P, hR.O]; exact hA.v hy hu
   ·show (t.gr X'.P).rel _ _ _ _; rw [hR.P, hR.O]; exact hA.vc hy hc
  ·cases h
 | o nw t T =>
  intro φ x olds n h hR
  simp only [Knd.get] at h
  have hn1 : olds.length = 1 → n < X'.n := fun hl => by have := hR.n; omega
  split at h
  ·rename_i p hp
   split at h
   ·rename_i xs hb hx
    cases h
    rw [zFs] at hb
    have hb1 := X8 hb.1
    have hb2 := zFr hb.2
    obtain ⟨hU, hι⟩ := hR.U 0 p.1 rfl
    rw [Nat.add_zero] at hU hι
    have hn := hn1 rfl
    have hmv : ∀ u, φ.holds X w u → (AV.ob n).holds X' w u ∧ ∃ e, look M p.1 = some e ∧ e.2 = .sl p.2.1 p.2.2.2.1 p.2.2.1 p.2.2.2.2 := by
     intro u hu
     obtain ⟨e, h1, h2, h3, h4⟩ := Ky hM hu hp
     exact ⟨⟨by rw [hU]; exact h4, hn, kg h3⟩, e, h1, h2⟩
    have hob : ∃ k, φ = .ob k ∧ p.1 = k ∧ ∃ e, look M k = some e ∧ e.2 = .sl p.2.1 p.2.2.2.1 p.2.2.1 p.2.2.2.2 := by
     unfold wA at hp
     split at hp
     ·split at hp
      ·rename_i k _ st' nw' t' T' xs' hk
       cases hp
       exact ⟨k, rfl, rfl, _, hk, rfl⟩
      ·cases hp
     ·cases hp
    obtain ⟨k, hφ, hpk, e, he1, he2⟩ := hob
    refine ⟨rfl, fun u hu => (hmv u hu).1, fun cs hc => ⟨?_, rfl⟩, rfl, fun j e' he' => ?_, fun i k' hi => ?_⟩
    ·subst hφ
     obtain ⟨u, h1, h2, h3⟩ := hc
     exact ⟨u, h1, h2, (hmv u h3).1⟩
    ·rcases zH he' with ⟨h1, h2⟩ | ⟨_, h2⟩
     ·subst h1 h2
      refine ⟨rfl, zFu _, Nat.lt_succ_self _, ?_⟩
      have := hM k e he1
      rw [he2] at this
      show zr _ _ _ _ _ _ _ _
      rw [hU, hι, hR.P, hR.O, Cx.pS hR.A hR.F, hpk]
      obtain ⟨e3, hx⟩ := Ty.ZQ hx
      rw [hb1, hb2] at this
      cases e3; cases hx
      exact this
     ·cases h2
    ·match i, hi with
     | 0, hi => cases hi; rw [hpk]; exact ⟨e, he1, by rw [he2]; rfl⟩
     | i + 1, hi => simp at hi
   ·cases h
  ·split at h
   ·rename_i hb
    cases h
    rw [zFs] at hb
    have hφ := Zz hb.1
    subst hφ
    have hU := hR.N 0 rfl
    rw [Nat.add_zero] at hU
    have hn := hn1 rfl
    refine ⟨rfl, fun u hu => ⟨by rw [hU]; exact hu, hn, by rw [show u = _ from hu]; rfl⟩, fun cs hc => ⟨⟨.slice none 0 0, hc, rfl, hU.symm, hn, rfl⟩, rfl⟩, rfl, fun j e' he' => ?_, fun i k' hi => ?_⟩
    ·rcases zH he' with ⟨h1, h2⟩ | ⟨_, h2⟩
     ·subst h1 h2
      refine ⟨rfl, zFu _, Nat.lt_succ_self _, ?_⟩
      show zr _ _ _ _ _ _ _ _
      rw [hU]; exact zr.nil _ _ _ _ _ _
     ·cases h2
    ·match i, hi with
     | 0, hi => cases hi
     | i + 1, hi => simp at hi
   ·cases h
 | m nw a b =>
  intro φ x olds n h hR
  simp only [Knd.get] at h
  split at h
  ·rename_i p hp
   split at h
   ·rename_i xs hb hx
    cases h
    have hb1 := X8 hb
    obtain ⟨hU, hι⟩ := hR.U 0 p.1 rfl
    rw [Nat.add_zero] at hU hι
    have hn : n < X'.n := by have := hR.n; simp at this; omega
    obtain ⟨hφ, e, he1, he2⟩ := Q2 hp
    have hmm := hM _ e he1
    rw [he2] at hmm
    have h1c : (X.U p.1).oneCell' = true := by
     obtain ⟨c, es, clock, q1, _⟩ := hmm
     rw [q1]; rfl
    have hmv : ∀ u, (φ.sem X w).v u → (AV.ob n).holds X' w u := fun u hu => by
     subst hφ
     exact ⟨by rw [hU]; exact hu.1, hn, hu.2.2⟩
    refine ⟨rfl, fun u hu => hmv u hu, fun cs hc => ⟨?_, rfl⟩, rfl, fun j e' he' => ?_, fun i k' hi => ?_⟩
    ·subst hφ
     obtain ⟨u, g1, g2, g3⟩ := hc
     exact ⟨u, g1, g2, hmv u g3⟩
    ·rcases zH he' with ⟨h1, h2⟩ | ⟨_, h2⟩
     ·subst h1 h2
      refine ⟨rfl, zFu _, Nat.lt_succ_self _, ?_⟩
      show Zb _ _ _ _ _ _ _ _
      rw [hU, hι, hR.P, hR.O, Cx.pS hR.A hR.F]
      obtain ⟨e3, hx⟩ := Ty.ZQ hx
      rw [hb1] at hmm
      exact Q1 e3 hx hmm
     ·cases h2
    ·match i, hi with
     | 0, hi => cases hi; exact ⟨e, he1, by rw [he2]; rfl⟩
     | i + 1, hi => simp at hi
   ·cases h
  ·cases h
 | un =>
  intro φ x olds n h hR
  simp only [Knd.get] at h
  split at h
  ·cases h
   exact ⟨rfl, fun u hu => hu, fun cs hc => ⟨hc, rfl⟩, rfl, fun j e he => (nomatch he), fun i k hi => by simp at hi⟩
  ·cases h
 | pr a b iha ihb =>
  intro φ x olds n h hR
  simp only [Knd.get] at h
  split at h
  ·rename_i φ1 φ2
   split at h
   ·rename_i p q hp hq
    cases h
    obtain ⟨a1, a2, a3, a4, a5, a6⟩ := iha hp hR.left
    obtain ⟨b1, b2, b3, b4, b5, b6⟩ := ihb hq hR.right
    simp only [Knd.put]
    rw [a1]
    refine ⟨by rw [b1, zFt]; omega, fun u hu => hu.elim, fun cs hc => ?_, by simp [AV.zw, a4, b4], fun j e he => ?_, fun i k hi => ?_⟩
    ·obtain ⟨c1, c2, h1, h2, h3⟩ := hc
     exact ⟨⟨c1, c2, h1, (a3 _ h2).1, (b3 _ h3).1⟩, by simp [AV.zw, a4, b4]⟩
    ·rw [zFt]
     rcases ZW he with h1 | ⟨_, h1⟩
     ·obtain ⟨g1, g2, g3, g4⟩ := a5 j e h1; exact ⟨g1, g2, by omega, g4⟩
     ·obtain ⟨g1, g2, g3, g4⟩ := b5 j e h1; exact ⟨g1, by omega, by omega, g4⟩
    ·by_cases hlt : i < p.2.length
     ·rw [List.getElem?_append_left hlt] at hi; exact a6 i k hi
     ·rw [List.getElem?_append_right (by omega)] at hi; exact b6 _ k hi
   ·cases h
  ·cases h
 | ag l ih =>
  intro φ x olds n h hR
  simp only [Knd.get] at h
  split at h
  ·rename_i ψ hψ
   obtain ⟨a1, a2, a3, a4, a5, a6⟩ := ih h hR
   simp only [Knd.put]
   have hc : ∀ cs, (φ.sem X w).c cs → (ψ.sem X w).c cs := by
    intro cs hc
    unfold Ns at hψ
    split at hψ
    ·cases hψ; exact hc
    ·split at hψ
     ·rename_i hb
      cases hψ
      rw [zFs] at hb
      exact Ml hb.2 hc
     ·cases hψ
    ·cases hψ
   refine ⟨a1, fun u hu => ?_, fun cs h1 => ⟨(a3 cs (hc cs h1)).1, a4⟩, a4, a5, a6⟩
   unfold Ns at hψ
   split at hψ
   ·obtain ⟨cs, h1, h2⟩ := hu
    exact ⟨cs, (a3 cs (hc cs h1)).1, h2⟩
   ·split at hψ
    ·rename_i hb
     rw [zFs] at hb
     obtain ⟨cs, h1, h2⟩ := hu
     refine ⟨cs, (a3 cs (hc cs h1)).1, ?_⟩
     rw [h2, Ty.jq, hb.1]; rfl
    ·cases hψ
   ·cases hψ
  ·cases h
abbrev KE := Bool × Nat × Knd
def LD : List KE → Type
 | [] => Unit
 | [e] => e.2.2.D
 | e :: e' :: l => e.2.2.D × LD (e' :: l)
def LD.hd : (e : KE) → (l : List KE) → LD (e :: l) → e.2.2.D
 | _, [], x => x
 | _, _ :: _, x => x.1
def LD.tl : (e : KE) → (l : List KE) → LD (e :: l) → LD l
 | _, [], _ => ()
 | _, _ :: _, x => x.2
def LD.mk : (e : KE) → (l : List KE) → e.2.2.D → LD l → LD (e :: l)
 | _, [], x, _ => x
 | _, _ :: _, x, y => (x, y)
theorem LD.NW {e : KE} {l : List KE} {x : e.2.2.D} {y : LD l} : LD.hd e l (LD.mk e l x y) = x := by cases l <;> rfl
theorem LD.NC {e : KE} {l : List KE} {x : e.2.2.D} {y : LD l} : LD.tl e l (LD.mk e l x y) = y := by
 cases l with
 | nil => cases y; rfl
 | cons _ _ => rfl
def Ag (s : S) (t : Nat) : Option (Nat × Bool × TypeId) := match look s.L t with
 | some (_, .bx k 0) => match look s.M k with
  | some (_, .bx nw _ T) => some (k, nw, T)
  | _ => none
 | _ => none
theorem Bn {s : S} {t : Nat} {p : Nat × Bool × TypeId} (h : Ag s t = some p) : ∃ st c, look s.M p.1 = some (st, .bx p.2.1 c p.2.2) := by
 unfold Ag at h
 split at h
 ·split at h
  ·rename_i k _ st nw c T hk
   cases h; exact ⟨st, c, hk⟩
  ·cases h
 ·cases h
def Rx (s : S) (t : Nat) : Option (Nat × Bool × TypeId) := match look s.L t with
 | some (_, .ob k) => match look s.M k with
  | some (_, .sl nw _ T _) => some (k, nw, T)
  | _ => none
 | _ => none
theorem E5 {s : S} {t : Nat} {p : Nat × Bool × TypeId} (h : Rx s t = some p) : ∃ e, look s.M p.1 = some e := by
 unfold Rx at h
 split at h
 ·split at h
  ·rename_i hk; cases h; exact ⟨_, hk⟩
  ·cases h
 ·cases h
def slM (M : MS) (b : Nat × Bool × TypeId) : Option ((t : Ty) × List t.D) := match look M b.1 with
 | some (_, .sl nw t T xs) => match AG nw b.2.1 && Nat.beq T b.2.2 with
  | true => some ⟨t, xs⟩
  | false => none
 | _ => none
theorem Hg {M : MS} {b : Nat × Bool × TypeId} {r : (t : Ty) × List t.D} (h : slM M b = some r) : ∃ st, look M b.1 = some (st, .sl b.2.1 r.1 b.2.2 r.2) := by
 unfold slM at h
 split at h
 ·rename_i st nw t T xs hk
  split at h
  ·rename_i hb
   rw [zFs] at hb
   cases h
   rw [← X8 hb.1, ← zFr hb.2]
   exact ⟨st, hk⟩
  ·cases h
 ·cases h
def zAR (k st : Nat) (nw : Bool) (T : TypeId) : AV → MS
 | .rd (.sl t) xs => [(k, st, .sl nw t T xs)]
 | _ => []
theorem S5 {a b : Ty} {x : a.D} {y : b.D} (hn : b.zCP = true) (h : a.toN b x = some y) : a.to b x = some y := by
 unfold Ty.toN at h
 split at h
 ·rename_i z hz; cases h; exact hz
 ·split at h
  ·cases hn
  ·cases h
theorem WC {G : FE} {M : MS} {ek : Knd} {t : Ty} {xs : List t.D} {p : ek.D × List (Option Nat)} (h : ek.get G M (.rd (.sl t) xs) = some p) (st n : Nat) : ek.put st p.1 n = (.rd (.sl t) xs, [], n) ∧ p.2 = [] := by
 cases ek with
 | v t' =>
  simp only [Knd.get] at h
  split at h
  ·rename_i x hn hx
   cases h
   have hx : (Ty.sl t).toN t' xs = some x := hx
   obtain ⟨e, h2⟩ := Ty.ZQ (S5 hn hx)
   subst e
   have h2 : xs = x := h2
   subst h2
   exact ⟨rfl, rfl⟩
  ·cases h
 | o nw t' T => simp only [Knd.get, wA, XN] at h; simp at h
 | m nw a b => simp only [Knd.get, R4] at h; cases h
 | un => simp only [Knd.get] at h; cases h
 | pr a b => simp only [Knd.get] at h; cases h
 | ag l => simp only [Knd.get, Ns, Ty.agg] at h; simp at h
def pP (s : S) : (l : List KE) → LD l → Nat → LS × MS × Nat
 | [], _, n => ([], [], n)
 | e :: l, x, n =>
  let p := e.2.2.put s.n (LD.hd e l x) n
  let q := pP s l (LD.tl e l x) p.2.2
  match e.1 with
  | false => ((e.2.1, s.n, p.1) :: q.1, p.2.1 ++ q.2.1, q.2.2)
  | true => match Ag s e.2.1 with
   | some b => (q.1, (b.1, s.n, .bx b.2.1 p.1 b.2.2) :: (p.2.1 ++ q.2.1), q.2.2)
   | none => match Rx s e.2.1 with
    | none => (q.1, p.2.1 ++ q.2.1, q.2.2)
    | some b => (q.1, zAR b.1 s.n b.2.1 b.2.2 p.1 ++ (p.2.1 ++ q.2.1), q.2.2)
def bxM (M : MS) (b : Nat × Bool × TypeId) : Option AV := match look M b.1 with
 | some (_, .bx nw c T) => match AG nw b.2.1 && Nat.beq T b.2.2 with
  | true => some c
  | false => none
 | _ => none
theorem Io {M : MS} {b : Nat × Bool × TypeId} {c : AV} (h : bxM M b = some c) : ∃ st, look M b.1 = some (st, .bx b.2.1 c b.2.2) := by
 unfold bxM at h
 split at h
 ·rename_i st nw c' T hk
  split at h
  ·rename_i hb
   cases h
   rw [zFs] at hb
   rw [X8 hb.1, zFr hb.2] at hk
   exact ⟨st, hk⟩
  ·cases h
 ·cases h
def G7 (G : FE) (s s1 : S) : (l : List KE) → Option (LD l × List (Option Nat) × List Nat)
 | [] => some ((), [], [])
 | e :: l => match G7 G s s1 l with
  | none => none
  | some q => match e.1 with
   | false => match look s1.L e.2.1 with
    | none => none
    | some f => match fresh s1.ep f, e.2.2.get G s1.M f.2 with
     | true, some p => some (LD.mk e l p.1 q.1, p.2 ++ q.2.1, q.2.2)
     | _, _ => none
   | true => match Ag s e.2.1 with
    | none => match Rx s e.2.1 with
     | none => none
     | some b => match slM s1.M b with
      | none => none
      | some r => match e.2.2.get G s1.M (.rd (.sl r.1) r.2) with
       | some p => some (LD.mk e l p.1 q.1, p.2 ++ q.2.1, b.1 :: q.2.2)
       | none => none
    | some b => match bxM s1.M b with
     | none => none
     | some c => match e.2.2.get G s1.M c with
      | some p => some (LD.mk e l p.1 q.1, p.2 ++ q.2.1, b.1 :: q.2.2)
      | none => none
theorem JF {α : Type} {l m : List (Nat × α)} {t : Nat} (h : look (l ++ m) t = none) : look l t = none ∧ look m t = none := by
 induction l with
 | nil => exact ⟨rfl, h⟩
 | cons x l ih =>
  obtain ⟨k, y⟩ := x
  rw [List.cons_append] at h
  simp only [look] at h ⊢
  cases hb : Nat.beq k t with
  | true => rw [hb] at h; cases h
  | false => rw [hb] at h; exact ih h
theorem kR {α : Type} {k : Nat} {x : α} {l : List (Nat × α)} {t : Nat} (h : look ((k, x) :: l) t = none) : k ≠ t ∧ look l t = none := by
 simp only [look] at h
 cases hb : Nat.beq k t with
 | true => rw [hb] at h; cases h
 | false => rw [hb] at h; rw [zV] at hb; exact ⟨by simpa using hb, h⟩
structure AOk (s s1 : S) (X' : Cx) (w : World) (a : Act) (n : Nat) (olds : List (Option Nat)) (obs : List Nat) (r : LS × MS × Nat) : Prop where
 nn : r.2.2 = n + olds.length
 l : ∀ t e, look r.1 t = some e → e.1 = s.n ∧ e.2.holds X' w (a.get t)
 m : ∀ j e, look r.2.1 j = some e → e.1 = s.n ∧ e.2.holds X' w j ∧ ((n ≤ j ∧ j < n + olds.length) ∨ j ∈ obs)
 o : ∀ (i : Nat) k, olds[i]? = some (some k) → Eh s1.M k
 b : ∀ k, k ∈ obs → Eh s1.M k ∧ k < s.n ∧ look r.2.1 k ≠ none
theorem wR {s s1 : S} {a : Act} {w : World} {X X' : Cx} {E : VE} (hE : E.ok X.P) (hM : yG s1.M X w) (hL : XD s1.L X w a) (hep : X.ep = s1.ep) (hmn : ∀ k e, look s.M k = some e → k < s.n) (hU : ∀ k, k < s.n → X'.U k = X.U k ∧ X'.ι k = X.ι k) : ∀ {l : List KE} {x : LD l} {olds : List (Option Nat)} {obs : List Nat} {n : Nat}, G7 E.G s s1 l = some (x, olds, obs) → s.n ≤ n → Ren X X' n olds → AOk s s1 X' w a n olds obs (pP s l x n)
 | [], x, olds, obs, n, h, hn, hR => by
  cases h
  exact ⟨rfl, fun t e he => (nomatch he), fun j e he => (nomatch he), fun i k hi => by simp at hi, fun k hk => by cases hk⟩
 | e :: l, x, olds, obs, n, h, hn, hR => by
  obtain ⟨eb, et, ek⟩ := e
  simp only [G7] at h
  cases hq : G7 E.G s s1 l with
  | none => rw [hq] at h; cases h
  | some q =>
   obtain ⟨y, olds2, obs2⟩ := q
   rw [hq] at h
   simp only at h
   cases eb with
   | false =>
    simp only at h
    split at h
    ·cases h
    ·rename_i f hf
     split at h
     ·rename_i p hfr hp
      cases h
      obtain ⟨k1, k2, k3, k4, k5, k6⟩ := Knd.ok hE.G hM (st := s.n) hp hR.left
      have ih := wR hE hM hL hep hmn hU hq (n := n + p.2.length) (by omega) hR.right
      simp only [pP]
      rw [LD.NW, LD.NC, k1]
      refine ⟨by rw [ih.nn, zFt]; omega, fun t e' he' => ?_, fun j e' he' => ?_, fun i k hi => ?_, fun k hk => ?_⟩
      ·rcases zH he' with ⟨h1, h2⟩ | ⟨_, h2⟩
       ·subst h1 h2
        exact ⟨rfl, k2 _ (hL _ f hf (by rw [hep]; exact hfr))⟩
       ·exact ih.l t e' h2
      ·rw [zFt]
       rcases ZW he' with h1 | ⟨_, h1⟩
       ·obtain ⟨g1, g2, g3, g4⟩ := k5 j e' h1; exact ⟨g1, g4, .inl ⟨g2, by omega⟩⟩
       ·obtain ⟨g1, g2, g3⟩ := ih.m j e' h1
        exact ⟨g1, g2, g3.imp (fun h => ⟨by omega, by omega⟩) id⟩
      ·by_cases hlt : i < p.2.length
       ·rw [List.getElem?_append_left hlt] at hi; exact k6 i k hi
       ·rw [List.getElem?_append_right (by omega)] at hi; exact ih.o _ k hi
      ·obtain ⟨g1, g2, g3⟩ := ih.b k hk
       exact ⟨g1, g2, fun hnn => g3 (JF hnn).2⟩
     ·cases h
   | true =>
    simp only at h
    split at h
    ·rename_i hnb
     split at h
     ·cases h
     ·rename_i b hb
      split at h
      ·cases h
      ·rename_i r hr
       split at h
       ·rename_i p hp
        cases h
        obtain ⟨pe1, pe2⟩ := WC hp s.n n
        have ih := wR hE hM hL hep hmn hU hq (n := n) hn (by have := hR; rw [pe2] at this; exact this)
        simp only [pP, hnb, hb]
        rw [LD.NW, LD.NC, pe1, pe2]
        obtain ⟨st1, hb1⟩ := Hg hr
        obtain ⟨e0, hb0⟩ := E5 hb
        have hlt := hmn _ _ hb0
        have hO : zr _ _ _ _ _ _ _ _ := hM _ _ hb1
        obtain ⟨u1, u2⟩ := hU _ hlt
        show AOk s s1 X' w a n ([] ++ olds2) (b.1 :: obs2) ((pP s l y n).1, (b.1, s.n, MV.sl b.2.1 r.1 b.2.2 r.2) :: ([] ++ (pP s l y n).2.1), (pP s l y n).2.2)
        refine ⟨ih.nn, ih.l, fun j e' he' => ?_, ih.o, fun k hk => ?_⟩
        ·rcases zH he' with ⟨h1, h2⟩ | ⟨_, h2⟩
         ·subst h1 h2
          refine ⟨rfl, ?_, .inr (by simp)⟩
          show zr _ _ _ _ _ _ _ _
          rw [u1, u2, hR.P, hR.O, Cx.pS hR.A hR.F]; exact hO
         ·obtain ⟨g1, g2, g3⟩ := ih.m j e' h2
          exact ⟨g1, g2, g3.imp id (fun h => by simp [h])⟩
        ·rcases List.mem_cons.1 hk with rfl | hk
         ·refine ⟨⟨_, hb1, rfl⟩, hlt, fun hnn => ?_⟩
          exact (kR hnn).1 rfl
         ·obtain ⟨g1, g2, g3⟩ := ih.b k hk
          exact ⟨g1, g2, fun hnn => g3 (kR hnn).2⟩
       ·cases h
    ·rename_i b hb
     split at h
     ·cases h
     ·rename_i c hc
      split at h
      ·rename_i p hp
       cases h
       obtain ⟨k1, k2, k3, k4, k5, k6⟩ := Knd.ok hE.G hM (st := s.n) hp hR.left
       have ih := wR hE hM hL hep hmn hU hq (n := n + p.2.length) (by omega) hR.right
       simp only [pP, hb]
       rw [LD.NW, LD.NC, k1]
       obtain ⟨st0, c0, hb0⟩ := Bn hb
       obtain ⟨st1, hb1⟩ := Io hc
       have hlt := hmn _ _ hb0
       obtain ⟨bb, cs, m1, m2, m3, m4⟩ := hM _ _ hb1
       obtain ⟨u1, u2⟩ := hU _ hlt
       refine ⟨by rw [ih.nn, zFt]; omega, ih.l, fun j e' he' => ?_, fun i k hi => ?_, fun k hk => ?_⟩
       ·rw [zFt]
        rcases zH he' with ⟨h1, h2⟩ | ⟨_, h2⟩
        ·subst h1 h2
         refine ⟨rfl, ⟨bb, cs, by rw [u1]; exact m1, ?_, (k3 _ m3).1, k4⟩, .inr (by simp)⟩
         rw [u2, hR.O, Cx.pS hR.A hR.F]; exact m2
        ·rcases ZW h2 with h1 | ⟨_, h1⟩
         ·obtain ⟨g1, g2, g3, g4⟩ := k5 j e' h1; exact ⟨g1, g4, .inl ⟨g2, by omega⟩⟩
         ·obtain ⟨g1, g2, g3⟩ := ih.m j e' h1
          exact ⟨g1, g2, g3.imp (fun h => ⟨by omega, by omega⟩) (fun h => by simp [h])⟩
       ·by_cases hlt : i < p.2.length
        ·rw [List.getElem?_append_left hlt] at hi; exact k6 i k hi
        ·rw [List.getElem?_append_right (by omega)] at hi; exact ih.o _ k hi
       ·rcases List.mem_cons.1 hk with rfl | hk
        ·refine ⟨⟨_, hb1, rfl⟩, hlt, fun hnn => ?_⟩
         exact (kR hnn).1 rfl
        ·obtain ⟨g1, g2, g3⟩ := ih.b k hk
         exact ⟨g1, g2, fun hnn => g3 (JF (kR hnn).2).2⟩
      ·cases h
def tj (L : LS) : List Nat → LS
 | [] => []
 | t :: l => match look L t with
  | some e => match e.2.zw with
   | false => (t, e) :: tj L l
   | true => tj L l
  | none => tj L l
theorem k7 {L : LS} : ∀ {l : List Nat} {t : Nat} {e : Nat × AV}, look (tj L l) t = some e → look L t = some e ∧ e.2.zw = false ∧ gx t l = true
 | [], t, e, h => by cases h
 | u :: l, t, e, h => by
  have st : gx t l = true → gx t (u :: l) = true := fun h => by simp only [gx]; cases Nat.beq u t <;> simp [h]
  simp only [tj] at h
  split at h
  ·rename_i f hf
   split at h
   ·rename_i hfr
    rcases zH h with ⟨h1, h2⟩ | ⟨_, h2⟩
    ·subst h1 h2; exact ⟨hf, hfr, by simp [gx, zV]⟩
    ·obtain ⟨g1, g2, g3⟩ := k7 h2; exact ⟨g1, g2, st g3⟩
   ·obtain ⟨g1, g2, g3⟩ := k7 h; exact ⟨g1, g2, st g3⟩
  ·obtain ⟨g1, g2, g3⟩ := k7 h; exact ⟨g1, g2, st g3⟩
def Ae (M : MS) : List Nat → MS
 | [] => []
 | t :: l => match look M t with
  | some e => (t, e) :: Ae M l
  | none => Ae M l
theorem JN {M : MS} : ∀ {l : List Nat} {t : Nat} {e : Nat × MV}, look (Ae M l) t = some e → look M t = some e ∧ gx t l = true
 | [], t, e, h => by cases h
 | u :: l, t, e, h => by
  have st : gx t l = true → gx t (u :: l) = true := fun h => by simp only [gx]; cases Nat.beq u t <;> simp [h]
  simp only [Ae] at h
  split at h
  ·rename_i f hf
   rcases zH h with ⟨h1, h2⟩ | ⟨_, h2⟩
   ·subst h1 h2; exact ⟨hf, by simp [gx, zV]⟩
   ·obtain ⟨g1, g3⟩ := JN h2; exact ⟨g1, st g3⟩
  ·obtain ⟨g1, g3⟩ := JN h; exact ⟨g1, st g3⟩
def SG (s s1 : S) : List Nat → Bool
 | [] => true
 | t :: l => (match look s.L t with
  | none => true
  | some e => match e.2.zw with
   | true => true
   | false => match look s1.L t with
    | some e1 => Nat.blt e1.1 s.n
    | none => false) && SG s s1 l
theorem Dl {s s1 : S} (hi : Inv s s1) : ∀ {l : List Nat}, SG s s1 l = true → ∀ {t e}, gx t l = true → look s.L t = some e → e.2.zw = false → look s1.L t = some e
 | [], _, t, e, h, _, _ => by cases h
 | u :: l, hc, t, e, h, he, hf => by
  simp only [SG, zFs] at hc
  simp only [gx] at h
  cases hb : Nat.beq u t with
  | false => rw [hb] at h; exact Dl hi hc.2 h he hf
  | true =>
   have := zFr hb
   subst this
   have h1 := hc.1
   rw [he] at h1
   simp only [hf] at h1
   split at h1
   ·rename_i e1 he1
    rw [zb] at h1
    have h2 := hi.l u e1 he1 (by simpa using h1)
    rw [he] at h2; cases h2; exact he1
   ·cases h1
def SF (s s1 : S) (obs : List Nat) : List Nat → Bool
 | [] => true
 | t :: l => (gx t obs || match look s.M t with
  | none => true
  | some e => match look s1.M t with
   | some e1 => Nat.blt e1.1 s.n
   | none => false) && SF s s1 obs l
theorem Xa {t : Nat} : ∀ {l : List Nat}, gx t l = true ↔ t ∈ l
 | [] => by simp [gx]
 | u :: l => by
  simp only [gx, List.mem_cons]
  cases hb : Nat.beq u t with
  | true => have := zFr hb; simp [this]
  | false =>
   rw [zV] at hb
   have : ¬ u = t := by simpa using hb
   simp only [cond_false, Xa]
   exact ⟨.inr, fun h => h.resolve_left fun e => this e.symm⟩
theorem Dk {s s1 : S} (hi : Inv s s1) {obs : List Nat} : ∀ {l : List Nat}, SF s s1 obs l = true → ∀ {t e}, gx t l = true → t ∉ obs → look s.M t = some e → look s1.M t = some e
 | [], _, t, e, h, _, _ => by cases h
 | u :: l, hc, t, e, h, ho, he => by
  simp only [SF, zFs, Bool.or_eq_true] at hc
  simp only [gx] at h
  cases hb : Nat.beq u t with
  | false => rw [hb] at h; exact Dk hi hc.2 h ho he
  | true =>
   have := zFr hb
   subst this
   rcases hc.1 with h1 | h1
   ·exact absurd (Xa.1 h1) ho
   ·rw [he] at h1
    simp only at h1
    split at h1
    ·rename_i e1 he1
     rw [zb] at h1
     have h2 := hi.m u e1 he1 (by simpa using h1)
     rw [he] at h2; cases h2; exact he1
    ·cases h1
def Nq (no : List Nat) : List (Option Nat) → Bool
 | [] => true
 | none :: l => Nq no l
 | some k :: l => !gx k no && Nq (k :: no) l
theorem pJ : ∀ {l : List (Option Nat)} {no : List Nat}, Nq no l = true → (∀ (i : Nat) k, l[i]? = some (some k) → k ∉ no) ∧ ∀ (i j : Nat) k, l[i]? = some (some k) → l[j]? = some (some k) → i = j
 | [], no, _ => ⟨fun i k h => by simp at h, fun i j k h => by simp at h⟩
 | none :: l, no, h => by
  obtain ⟨h1, h2⟩ := pJ (l := l) h
  refine ⟨fun i k hi => ?_, fun i j k hi hj => ?_⟩
  ·cases i with
   | zero => simp at hi
   | succ i => exact h1 i k (by simpa using hi)
  ·cases i with
   | zero => simp at hi
   | succ i =>
    cases j with
    | zero => simp at hj
    | succ j => rw [h2 i j k (by simpa using hi) (by simpa using hj)]
 | some k0 :: l, no, h => by
  simp only [Nq, zFs] at h
  obtain ⟨h1, h2⟩ := pJ (l := l) h.2
  have h0 : k0 ∉ no := fun hm => by rw [Xa.2 hm] at h; simp at h
  refine ⟨fun i k hi => ?_, fun i j k hi hj => ?_⟩
  ·cases i with
   | zero => simp at hi; subst hi; exact h0
   | succ i => exact fun hm => h1 i k (by simpa using hi) (by simp [hm])
  ·cases i with
   | zero =>
    simp at hi; subst hi
    cases j with
    | zero => rfl
    | succ j => exact absurd (by simp) (h1 j k0 (by simpa using hj))
   | succ i =>
    cases j with
    | zero => simp at hj; subst hj; exact absurd (by simp) (h1 i k0 (by simpa using hi))
    | succ j => rw [h2 i j k (by simpa using hi) (by simpa using hj)]
def SV : LS → List Nat
 | [] => []
 | e :: L => e.2.2.refs ++ SV L
def AQ (M : MS) : List Nat → List Nat
 | [] => []
 | k :: l => match look M k with
  | some (_, .bx _ c _) => c.refs ++ AQ M l
  | _ => AQ M l
structure Sh where
 l : List KE
 keep : List Nat
 fz : List Nat
def NJ (s : S) : List Nat → List Nat
 | [] => []
 | t :: l => match look s.L t with
  | some (_, φ) => φ.refs ++ (AQ s.M φ.refs ++ NJ s l)
  | none => NJ s l
def Eb (s : S) : List KE → List Nat
 | [] => []
 | e :: l => match e.1 with
  | false => Eb s l
  | true => match Ag s e.2.1 with
   | some b => b.1 :: Eb s l
   | none => Eb s l
def pd (no : List Nat) : List Nat → List Nat
 | [] => []
 | k :: l => match gx k no with
  | true => pd no l
  | false => k :: pd no l
def Sh.tags (sh : Sh) (s : S) : List Nat :=
 let no := Eb s sh.l
 let a := SV (tj s.L sh.keep)
 let b := AQ s.M (pd no a)
 a ++ (b ++ AQ s.M (pd no b))
abbrev Sh.D (sh : Sh) : Type := LD sh.l
def Sh.put (sh : Sh) (s : S) (x : sh.D) : S :=
 let p := pP s sh.l x s.n
 { L := p.1 ++ tj s.L sh.keep, M := p.2.1 ++ Ae s.M (sh.tags s), n := p.2.2 + 1, ep := s.n }
def Sh.zAA (sh : Sh) (G : FE) (s s1 : S) : Option sh.D := match G7 G s s1 sh.l with
 | none => none
 | some q => match SG s s1 sh.keep && (SF s s1 q.2.2 (sh.tags s) && Nq (q.2.2 ++ sh.tags s) q.2.1) with
  | true => some q.1
  | false => none
def Knd.K9 : Knd → AV → List Nat
 | .v _, φ => φ.refs
 | .o .., _ => []
 | .m .., _ => []
 | .un, _ => []
 | .pr a b, φ => match φ with
  | .pr x y => a.K9 x ++ b.K9 y
  | _ => []
 | .ag l, φ => match Ns φ with
  | some ψ => l.K9 ψ
  | none => []
def rE (s1 : S) : List KE → List Nat
 | [] => []
 | e :: l => match look s1.L e.2.1 with
  | none => rE s1 l
  | some f => match e.1 with
   | false => e.2.2.K9 f.2 ++ rE s1 l
   | true => match f.2 with
    | .bx k _ => match look s1.M k with
     | some (_, .bx _ c _) => e.2.2.K9 c ++ rE s1 l
     | _ => rE s1 l
    | _ => rE s1 l
def Sh.get (sh : Sh) (G : FE) (s s1 : S) : Option sh.D := sh.zAA G s (s1.Y1 (rE s1 sh.l ++ NJ s1 sh.fz))
theorem S7 (ι : Nat → Nat) (M : MS) : ∃ B, 0 < B ∧ ∀ k e, look M k = some e → ι k < B :=
 ⟨1 + (M.map fun e => ι e.1).sum, by omega, fun k e h => by
  have := tF (l := M.map fun e => ι e.1) (x := ι k) (List.mem_map.2 ⟨_, Jt h, rfl⟩)
  omega⟩
structure Frm.kin (F F0 : Frm) : Prop where
 fe : F0.fe = F.fe
 bl : F0.bl = F.bl
 kv : F0.x.kv = F.x.kv
theorem Frm.Jw (F : Frm) : F.kin F := ⟨rfl, rfl, rfl⟩
theorem Frm.Same.kin {F F' : Frm} (h : F.Same F') : F'.kin F := ⟨h.fe.symm, h.bl.symm, h.kv.symm⟩
theorem IL {F : Frm} (hLh : ∀ t φ, ¬ F.Lh t φ) {E : VE} (hE : E.ok F.P) {s s1 : S} {a0 a1 : Act} {w0 w1 : World} {F0 : Frm} (hff : F.kin F0) (h0 : Rel F0 s a0 w0) (h1 : Rel F s1 a1 w1) (hi : Inv s s1) {sh : Sh} {x : sh.D} (hg : sh.zAA E.G s s1 = some x) : Rel F (sh.put s x) a1 w1 ∧ Inv s (sh.put s x) := by
 obtain ⟨X0, h0⟩ := h0
 obtain ⟨X, h1⟩ := h1
 unfold Sh.zAA at hg
 cases hq : G7 E.G s s1 sh.l with
 | none => rw [hq] at hg; cases hg
 | some q =>
  obtain ⟨y, olds, obs⟩ := q
  rw [hq] at hg
  simp only at hg
  split at hg
  ·rename_i hc
   cases hg
   simp only [zFs] at hc
   obtain ⟨c1, c2, c3⟩ := hc
   obtain ⟨t1, t2⟩ := pJ c3
   obtain ⟨B, hB0, hBs, hB⟩ : ∃ B, 0 < B ∧ F.x.st < B ∧ ∀ k e, look s1.M k = some e → X.ι k < B := by
    obtain ⟨B, hB0, hB⟩ := S7 X.ι s1.M
    exact ⟨B + F.x.st, by omega, by omega, fun k e he => by have := hB k e he; omega⟩
   have hfe0 := hff.fe ▸ h0.fe
   have hbl0 := hff.bl ▸ h0.bl
   let pick : Nat → Option Nat := fun k => (olds[k - s.n]?).bind id
   let X' : Cx := { X with
    U := fun k => if k < s.n then X.U k else match pick k with | some j => X.U j | none => .slice none 0 0
    ι := fun k => if k < s.n then X.ι k else match pick k with | some j => X.ι j | none => B + k
    n := s.n + olds.length + 1
    ep := s.n }
   have hU : ∀ k, k < s.n → X'.U k = X.U k ∧ X'.ι k = X.ι k := fun k hk => ⟨if_pos hk, if_pos hk⟩
   have hpk : ∀ i o, olds[i]? = some o → pick (s.n + i) = o := fun i o hi' => by
    show (olds[s.n + i - s.n]?).bind id = o
    rw [Nat.add_sub_cancel_left, hi']; rfl
   have hU2 : ∀ i o, olds[i]? = some o → X'.U (s.n + i) = (match o with | some j => X.U j | none => .slice none 0 0) ∧ X'.ι (s.n + i) = (match o with | some j => X.ι j | none => B + (s.n + i)) := fun i o hi' => by
    have h := hpk i o hi'
    refine ⟨?_, ?_⟩
    ·show (if s.n + i < s.n then _ else match pick (s.n + i) with | some j => X.U j | none => _) = _
     rw [if_neg (by omega), h]
    ·show (if s.n + i < s.n then _ else match pick (s.n + i) with | some j => X.ι j | none => _) = _
     rw [if_neg (by omega), h]
   have hR : Ren X X' s.n olds := ⟨rfl, rfl, rfl, rfl, rfl, fun i k hi' => hU2 i _ hi', fun i hi' => (hU2 i _ hi').1, Nat.le_succ _⟩
   have hmn : ∀ k e, look s.M k = some e → k < s.n := fun k e he => (h0.mn k e he).2
   have hA := wR (by rw [h1.P]; exact hE) h1.m h1.l h1.ep hmn hU hq (zFu _) hR
   have hn : (sh.put s x).n = s.n + olds.length + 1 := by show (pP s sh.l x s.n).2.2 + 1 = _; rw [hA.nn]
   have hal : X.al X' s.n := ⟨rfl, rfl, fun k hk => (hU k hk).1, by show s.n ≤ s.n + olds.length + 1; omega, rfl⟩
   -- the objects
   have cls : ∀ k e, look (sh.put s x).M k = some e → e.1 = s.n ∧ e.2.holds X' w1 k ∧ (s.n ≤ k ∧ k < s.n + olds.length) ∨ (e.1 = s.n ∧ e.2.holds X' w1 k ∧ k ∈ obs ∧ k < s.n) ∨ (k ∉ obs ∧ k < s.n ∧ gx k (sh.tags s) = true ∧ look s.M k = some e ∧ look s1.M k = some e) := by
    intro k e he
    rcases ZW he with h2 | ⟨h2, h3⟩
    ·obtain ⟨g1, g2, g3⟩ := hA.m k e h2
     rcases g3 with g3 | g3
     ·exact .inl ⟨g1, g2, g3⟩
     ·exact .inr (.inl ⟨g1, g2, g3, (hA.b k g3).2.1⟩)
    ·obtain ⟨g1, g2⟩ := JN h3
     have hno : k ∉ obs := fun hm => (hA.b k hm).2.2 h2
     exact .inr (.inr ⟨hno, hmn k e g1, g2, g1, Dk hi c2 g2 hno g1⟩)
   -- the tags of the call's own objects
   have tg : ∀ k e, look (sh.put s x).M k = some e → e.2.own = true → (∃ k0, Eh s1.M k0 ∧ X'.ι k = X.ι k0 ∧ ((k0 = k ∧ k < s.n ∧ (k ∈ obs ∨ gx k (sh.tags s) = true)) ∨ (∃ i, k = s.n + i ∧ olds[i]? = some (some k0)))) ∨ X'.ι k = B + k := by
    intro k e he ho
    rcases cls k e he with ⟨_, _, g1, g2⟩ | ⟨_, _, g1, g2⟩ | ⟨g1, g2, g3, g4, g5⟩
    ·have hlt : k - s.n < olds.length := by omega
     have hget : olds[k - s.n]? = some olds[k - s.n] := List.getElem?_eq_getElem hlt
     have h2 := (hU2 (k - s.n) _ hget).2
     have e1 : s.n + (k - s.n) = k := by omega
     rw [e1] at h2
     cases ho2 : olds[k - s.n] with
     | none => rw [ho2] at h2; exact .inr h2
     | some k0 =>
      rw [ho2] at h2 hget
      exact .inl ⟨k0, hA.o _ k0 hget, h2, .inr ⟨k - s.n, e1.symm, hget⟩⟩
    ·exact .inl ⟨k, (hA.b k g1).1, (hU k g2).2, .inl ⟨rfl, g2, .inl g1⟩⟩
    ·exact .inl ⟨k, ⟨e, g5, ho⟩, (hU k g2).2, .inl ⟨rfl, g2, .inr g3⟩⟩
   refine ⟨⟨X', ?_⟩, ?_⟩
   ·refine ⟨h1.P, h1.A, h1.Fn, hn.symm, rfl, h1.ok0, h1.fit, h1.base, fun t e he hf => ?_, fun k e he => ?_, fun t e he => ?_, fun k e he => ?_, fun k k' e e' he he' ho ho' heq => ?_, fun k e he ho => ?_, by rw [hn]; show s.n ≤ _; omega, by rw [hn]; have := hfe0; omega, fun t φ hp => absurd hp (hLh t φ), ⟨by rw [hn]; have := hbl0.1; omega, fun j b hj => (hU j (Nat.lt_of_lt_of_le (List.getElem?_eq_some_iff.1 hj).1 hbl0.1)).1.trans (h1.bl.2 j b hj)⟩, ⟨h1.ex.st, h1.ex.sys, fun v φ hv => ⟨(h1.ex.kv v φ hv).1, (AV.al hal φ (by have := (AV.Nb φ).1 _ (h0.ex.kv v φ (by rw [hff.kv]; exact hv)).2; rwa [h0.n] at this)).1 _ (h1.ex.kv v φ hv).2⟩, h1.ex.since, h1.ex.L⟩⟩
    ·rcases ZW he with h2 | ⟨_, h2⟩
     ·exact (hA.l t e h2).2
     ·obtain ⟨g1, g2, g3⟩ := k7 h2
      have g4 := Dl hi c1 g3 g1 g2
      have hfr : ∀ ep, fresh ep e = true := fun ep => by simp [fresh, g2]
      have hb : e.2.bd s.n := by
       have := (AV.Nb e.2).1 _ (h0.l t e g1 (hfr _))
       rwa [h0.n] at this
      exact (AV.al hal e.2 hb).1 _ (h1.l t e g4 (hfr _))
    ·rcases cls k e he with ⟨_, g2, _⟩ | ⟨_, g2, _⟩ | ⟨g1, g2, g3, g4, g5⟩
     ·exact g2
     ·exact g2
     ·have hh := h1.m k e g5
      have hh0 := h0.m k e g4
      obtain ⟨st, mv⟩ := e
      cases mv with
      | sl nw t T xs =>
       show zr _ _ _ _ _ _ _ _
       rw [(hU k g2).1, (hU k g2).2]
       exact hh
      | bx nw c T =>
       obtain ⟨b, cs, m1, m2, m3, m4⟩ := hh
       obtain ⟨_, cs0, _, _, m5, _⟩ := hh0
       have hb := (AV.Nb c).2.2 _ m5
       rw [h0.n] at hb
       refine ⟨b, cs, by rw [(hU k g2).1]; exact m1, ?_, (AV.al hal c hb).2.2 _ m3, m4⟩
       rw [(hU k g2).2]; exact m2
      | fs t xs => show (rSl _).v _ _ _ _; rw [(hU k g2).1]; exact hh
      | fb t x => show (Jm _).v _ _ _ _; rw [(hU k g2).1]; exact hh
      | fg f => intro t x hx; show (Jm _).v _ _ _ _; rw [(hU k g2).1]; exact hh t x hx
      | mp nw a b xs =>
       show Zb _ _ _ _ _ _ _ _
       rw [(hU k g2).1, (hU k g2).2]
       exact hh
      | fm a b xs => show ((Ty.mp a b).gr X.P).v _ _ _ _; rw [(hU k g2).1]; exact hh
      | dead => trivial
    ·rw [hn]
     rcases ZW he with h2 | ⟨_, h2⟩
     ·rw [(hA.l t e h2).1]; omega
     ·have := h0.ln t e (k7 h2).1; omega
    ·rw [hn]
     rcases cls k e he with ⟨g1, _, g2⟩ | ⟨g1, _, _, g2⟩ | ⟨_, g2, _, g4, _⟩
     ·omega
     ·omega
     ·have := (h0.mn k e g4).1; omega
    ·rcases tg k e he ho with ⟨k0, a1, a2, a3⟩ | a2 <;> rcases tg k' e' he' ho' with ⟨k1, b1, b2, b3⟩ | b2
     ·have hkk : k0 = k1 := by
       obtain ⟨e1, f1, f2⟩ := a1
       obtain ⟨e2, f3, f4⟩ := b1
       exact h1.inj k0 k1 e1 e2 f1 f3 f2 f4 (by rw [← a2, ← b2, heq])
      subst hkk
      rcases a3 with ⟨a3, a4, a5⟩ | ⟨i, a3, a4⟩ <;> rcases b3 with ⟨b3, b4, b5⟩ | ⟨j, b3, b4⟩
      ·omega
      ·refine absurd ?_ (t1 j k0 b4)
       rw [a3, List.mem_append]
       exact a5.imp id Xa.1
      ·refine absurd ?_ (t1 i k0 a4)
       rw [b3, List.mem_append]
       exact b5.imp id Xa.1
      ·have := t2 i j k0 a4 b4; omega
     ·obtain ⟨e1, f1, _⟩ := a1
      have := hB k0 e1 f1
      rw [a2, b2] at heq; omega
     ·obtain ⟨e1, f1, _⟩ := b1
      have := hB k1 e1 f1
      rw [a2, b2] at heq; omega
     ·rw [a2, b2] at heq; omega
    ·rcases tg k e he ho with ⟨k0, ⟨e1, f1, f2⟩, a2, _⟩ | a2
     ·rw [a2]; exact h1.pos k0 e1 f1 f2
     ·rw [a2]; exact ⟨by omega, by omega⟩
   ·refine ⟨by rw [hn]; omega, fun t e he hl => ?_, fun k e he hl => ?_⟩
    ·rcases ZW he with h2 | ⟨_, h2⟩
     ·rw [(hA.l t e h2).1] at hl; omega
     ·exact (k7 h2).1
    ·rcases cls k e he with ⟨g1, _⟩ | ⟨g1, _⟩ | ⟨_, _, _, g4, _⟩
     ·omega
     ·omega
     ·exact g4
  ·cases hg
theorem Zw {F : Frm} (hLh : ∀ t φ, ¬ F.Lh t φ) {E : VE} (hE : E.ok F.P) {s s1 : S} {a0 a1 : Act} {w0 w1 : World} {F0 : Frm} (hff : F.kin F0) (h0 : Rel F0 s a0 w0) (h1 : Rel F s1 a1 w1) (hi : Inv s s1) {sh : Sh} {x : sh.D} (hg : sh.get E.G s s1 = some x) : Rel F (sh.put s x) a1 w1 ∧ Inv s (sh.put s x) :=
 IL hLh hE hff h0 (Rel.Y1 _ h1) (hi.trans (Inv.Y1 _ _)) hg
section
variable {F : Frm} {s : S} {a : Act} {w w' : World} {X : Cx} {E : VE}
theorem RelX.ghost (h : RelX F s a w X) (hLh : ∀ t φ, ¬ F.Lh t φ) (hL : s.L = []) (hE : Ext w w') (hsb : F.x.sb ≤ F.w0.heap.size) {d : Option Tmp} {v : Value} {b : Nat} {o0 : Obj} (hb : w.heap.size ≤ b) (ho : w'.heap[b]? = some o0) :
  RelX (F.sys fun c o => F.x.sys c o ∨ (c = b ∧ o = o0)) s (a.put d v) w' { X with O := tag X.O (some b) F.x.st } := by
 have hlt := (Array.getElem?_eq_some_iff.1 ho).1
 have hk : KX none X.O w (tag X.O (some b) F.x.st) w' := KX.tag hE fun g hg => by cases hg; exact hb
 have hB : Base F.A F.O0 F.w0 (tag X.O (some b) F.x.st) w' := (h.base.step hE h.ok0).tag h.ex.st (fun g hg => by cases hg; exact ⟨h.base.new _ (Nat.le_trans h.base.size hb), hlt⟩)
 have h1 : RelX F s (a.put d v) w' { X with O := tag X.O (some b) F.x.st } := h.go (kh h.fit d v) rfl rfl rfl (fun _ _ => hk.keep (by simp)) (fun _ _ => rfl) h.n h.ep (zFu _) h.epn hB (fun hf => ⟨hf, hE⟩) (fun t φ hp => absurd hp (hLh t φ)) (fun t e he => by rw [hL] at he; cases he) (fun k e he => .inr ⟨he, rfl, fun _ => hk.keep (by simp)⟩) h.inj h.pos
 refine ⟨h1.P, h1.A, h1.Fn, h1.n, h1.ep, h1.ok0, h1.fit, h1.base, h1.l, h1.m, h1.ln, h1.mn, h1.inj, h1.pos, h1.epn, h1.fe, h1.lh, h1.bl, h1.ex.st, fun c o hc => ?_, h1.ex.kv, h1.ex.since, h1.ex.L⟩
 rcases hc with hc | ⟨rfl, rfl⟩
 ·exact h1.ex.sys c o hc
 ·exact ⟨⟨ho, ye _ _ _⟩, Nat.le_trans hsb (Nat.le_trans h.base.size hb)⟩
theorem RelX.take {q : Nat → Obj → Prop} {b : Nat} {cs : Array Value} {Y : TypeId} {o0 : Obj} {d : Nat} {c : AV} (h : RelX (F.sys q) s a w X) (hq : ∀ c o, F.x.sys c o → c ≠ b ∧ q c o) (hb : q b o0) (hw : F.w0.heap.size ≤ b) (hO : ∀ w : World, w.heap[b]? = some o0 → Own w b cs Y)
  (hd : a.get d = .pointer (some ⟨b, 0, none⟩)) (hc : (c.sem X w).c cs.toList) (hf : c.zw = false) (hdl : ∀ φ, ¬ F.Lh d φ) : Rel F (s.obj (some d) (.bx true c Y) (.bx s.n 0)) a w := by
 obtain ⟨τ, hτ0, hτ⟩ := YG X.ι s.M F.x.st
 obtain ⟨⟨e1, e2⟩, e3⟩ := h.ex.sys b o0 hb
 have hlt := (Array.getElem?_eq_some_iff.1 e1).1
 have hKeep : ∀ k, k ≠ F.x.st → zj k X.O w (tag X.O (some b) τ) w := fun k hk => ⟨zFu _, fun c hc hO => ⟨by rw [vr (fun e => hk (by cases e; rw [← hO]; exact e2))]; exact hO, rfl⟩⟩
 have hB : Base F.A F.O0 F.w0 (tag X.O (some b) τ) w := Base.tag h.base hτ0.1 (fun g hg => by cases hg; exact ⟨Base.new h.base _ hw, hlt⟩)
 let X' : Cx := { X with O := tag X.O (some b) τ, U := tO X.U s.n (.pointer (some ⟨b, 0, none⟩)), ι := tO X.ι s.n τ, n := s.n + 1 }
 have hU : ∀ k, k < s.n → X'.U k = X.U k := fun k hk => Yb _ _ (by omega)
 have hι : ∀ k, k ≠ s.n → X'.ι k = X.ι k := fun k hk => Yb _ _ hk
 have hιn : X'.ι s.n = τ := gI _ _ _
 have hUn : X'.U s.n = .pointer (some ⟨b, 0, none⟩) := gI _ _ _
 have hle : X.le w X' w := ⟨rfl, hKeep 0 h.ex.st.symm, fun k hk => hU k (by rw [← h.n]; exact hk), by rw [h.n]; exact Nat.le_succ _, rfl⟩
 have mono : ∀ {φ : AV} {v : Value}, φ.holds X w v → φ.holds X' w v := fun {φ v} hv => (φ.mono hle fun _ => Ext.refl _).1 v hv
 have hmn : ∀ k e, look s.M k = some e → k < s.n := fun k e he => (h.mn k e he).2
 refine ⟨X', h.P, h.A, h.Fn, rfl, h.ep, h.ok0, h.fit, hB, fun t e he hf' => ?_, fun k e he => ?_, fun t e he => ?_, fun k e he => ?_, fun k k' e e' he he' ho ho' heq => ?_, fun k e he ho => ?_, Nat.le_succ_of_le h.epn, Nat.lt_succ_of_lt h.fe, fun t φ hp hf' => mono (h.lh t φ hp hf'), ⟨Nat.le_succ_of_le h.bl.1, fun j b' hj => (hU j (Nat.lt_of_lt_of_le (List.getElem?_eq_some_iff.1 hj).1 h.bl.1)).trans (h.bl.2 j b' hj)⟩, ?_⟩
 ·rcases zH he with ⟨h1, h2⟩ | ⟨h1, h2⟩
  ·subst h1 h2
   exact ⟨Nat.lt_succ_self _, b, hUn, hd⟩
  ·exact mono (h.l t e h2 hf')
 ·rcases zH he with ⟨h1, h2⟩ | ⟨h1, h2⟩
  ·subst h1 h2
   refine ⟨b, cs, hUn, ⟨hO w e1, ?_, ?_⟩, (c.mono hle fun h => by rw [hf] at h; cases h).2.2 _ hc, hf⟩
   ·show X'.F b
    rw [show X'.F = X.F from rfl, h.Fn]; exact hw
   ·rw [hιn]; exact ye _ _ _
  ·exact MV.le hle (h.mnX k e h2) (hι k (Nat.ne_of_lt (hmn k e h2))) rfl rfl _ (fun ho => hKeep _ (h.pos k e h2 ho).2) (h.m k e h2)
 ·rcases zH he with ⟨h1, h2⟩ | ⟨h1, h2⟩
  ·subst h1 h2; exact Nat.lt_succ_self _
  ·exact Nat.lt_succ_of_lt (h.ln t e h2)
 ·rcases zH he with ⟨h1, h2⟩ | ⟨h1, h2⟩
  ·subst h1 h2; exact ⟨Nat.lt_succ_self _, Nat.lt_succ_self _⟩
  ·exact ⟨Nat.lt_succ_of_lt (h.mn k e h2).1, Nat.lt_succ_of_lt (h.mn k e h2).2⟩
 ·rcases zH he with ⟨h1, h2⟩ | ⟨h1, h2⟩ <;> rcases zH he' with ⟨h3, h4⟩ | ⟨h3, h4⟩
  ·omega
  ·subst h1
   rw [hιn, hι k' (Ne.symm h3)] at heq
   exact absurd heq.symm (hτ k' e' h4)
  ·subst h3
   rw [hιn, hι k (Ne.symm h1)] at heq
   exact absurd heq (hτ k e h2)
  ·rw [hι k (Ne.symm h1), hι k' (Ne.symm h3)] at heq
   exact h.inj k k' e e' h2 h4 ho ho' heq
 ·rcases zH he with ⟨h1, h2⟩ | ⟨h1, h2⟩
  ·subst h1; rw [hιn]; exact hτ0
  ·rw [hι k (Ne.symm h1)]; exact h.pos k e h2 ho
 ·refine ⟨h.ex.st, fun c o hc => ?_, fun v φ hv => ⟨(h.ex.kv v φ hv).1, mono (h.ex.kv v φ hv).2⟩, h.ex.since.trans hle.k, h.ex.L⟩
  obtain ⟨g1, g2⟩ := hq c o hc
  obtain ⟨⟨g3, g4⟩, g5⟩ := h.ex.sys c o g2
  exact ⟨⟨g3, by rw [show X'.O = tag X.O (some b) τ from rfl, vr (fun e => g1 (by cases e; rfl))]; exact g4⟩, g5⟩
end
structure It where
 i : Nat
 d : Nat
 n : Nat
 φ : AV
 L : LS
 M : MS
 ep : Nat
def bit (b : Array Nat) (i k : Nat) : Bool := (b.getD i 0).testBit k
def wOf : List Oper → Nat → Nat → Option Nat
 | [], _, _ => none
 | o :: os, i, t => match Bt o.dst [t] with
  | true => some i
  | false => wOf os (i + 1) t
def ndD : List Oper → Bool
 | [] => true
 | o :: os => (match o.dst with
  | some d => (wOf os 0 d).isNone
  | none => true) && ndD os
def R7 : List It → Nat → Option It
 | [], _ => none
 | e :: l, i => bif Nat.beq e.i i then some e else R7 l i
def rdX (b : Array Nat) (os : List Oper) (C : List It) (L0 : LS) (i t : Nat) : Option (Nat × AV) := match wOf os 0 t with
 | none => look L0 t
 | some j => match bit b i j with
  | true => match R7 C j with
   | some e => some (e.n, e.φ)
   | none => none
  | false => match bit b j i with
   | true => look L0 t
   | false => none
def tmps : List Operand → List Nat
 | [] => []
 | .tmp t :: l => t :: tmps l
 | _ :: l => tmps l
def lof (b : Array Nat) (os : List Oper) (C : List It) (L0 : LS) (i : Nat) : List Nat → LS
 | [] => []
 | t :: l => match rdX b os C L0 i t with
  | some e => (t, e) :: lof b os C L0 i l
  | none => lof b os C L0 i l
def frX (b : Array Nat) (i : Nat) : List Nat → Bool
 | [] => true
 | e :: l => (bit b i e || bit b e i) && frX b i l
def Nn (kill : List Nat) : MS → MS
 | [] => []
 | p :: M => match gx p.1 kill with
  | true => Nn kill M
  | false => p :: Nn kill M
def zAJ : LS → Bool
 | [] => false
 | e :: l => e.2.2.zw || zAJ l
def mvX (b : Array Nat) (i : Nat) (ch : List Nat) (kill : Nat → List Nat) (s : S) (L : LS) : MS × Nat := match frX b i ch with
 | true => (s.M, s.ep)
 | false => (Nn (kill i) s.M, match zAJ L with
  | true => s.ep
  | false => s.n + 1000000000)
def Ng (M M' : MS) : MS → Bool
 | [] => true
 | p :: l => (match look M p.1, look M' p.1 with
  | some e, some e' => Nat.beq e.1 e'.1
  | _, _ => false) && Ng M M' l
def stays (b : Array Nat) (i : Nat) (s' : S) : List It → Bool
 | [] => true
 | it :: C => (bit b i it.i || (Ng it.M s'.M it.M && Nat.ble s'.ep it.ep)) && stays b i s' C
def tH (b : Array Nat) (i : Nat) : List Nat → Bool
 | [] => true
 | j :: l => bit b j i && tH b i l
def tn (al : Nat) : List Nat → List Nat
 | [] => []
 | i :: l => match Nat.beq i al with
  | true => tn al l
  | false => i :: tn al l
def alX (b : Array Nat) (os : List Oper) (ch : List Nat) : List Nat → Nat
 | [] => os.length
 | i :: l => match os[i]? with
  | some o => match o.op with
   | .alloc _ => match frX b i (tn i ch) with
    | true => alX b os ch l
    | false => i
   | _ => alX b os ch l
  | none => alX b os ch l
def G9 (E : VE) (os : List Oper) (ch : List Nat) (al : Nat) : Bool := match os[al]? with
 | none => true
 | some o => gx al ch && (match o.op, o.dst with
  | .alloc Y, some _ => (look E.T Y).isSome
  | _, _ => false)
def Dw : List It → LS
 | [] => []
 | it :: C => (it.d, it.n, it.φ) :: Dw C
def JR {β : Type} (E : VE) (wr : List Nat) (b : Array Nat) (os : List Oper) (ch : List Nat) (al : Nat) (kill : Nat → List Nat) (L0 : LS) (k : S → Comp β) : List Nat → List It → S → Comp β
 | [], C, s => k { s with L := Dw C ++ L0, n := s.n + 1 }
 | i :: rest, C, s => match gx i rest, os[i]? with
  | false, some o => match gx i ch with
   | true => match tH b i (tn al rest) with
    | true => step E wr { L := lof b os C L0 i (tmps o.op.operands.toList), M := s.M, n := s.n + 1, ep := s.ep } o fun s' => match Nat.ble s.ep s'.ep && stays b i s' C with
     | true => match o.dst with
      | none => JR E wr b os ch al kill L0 k rest C { L := [], M := s'.M, n := s'.n, ep := s'.ep }
      | some d => match look s'.L d with
       | some e => match Nat.ble s.n e.1 with
        | true => JR E wr b os ch al kill L0 k rest (⟨i, d, e.1, e.2, [], [], s.n + 1000000000⟩ :: C) { L := [], M := s'.M, n := s'.n, ep := s'.ep }
        | false => Comp.fail
       | none => Comp.fail
     | false => Comp.fail
    | false => Comp.fail
   | false => match o.dst with
    | none => Comp.fail
    | some d => match val E (mvX b i ch kill s (lof b os C L0 i (tmps o.op.operands.toList))).1 (mvX b i ch kill s (lof b os C L0 i (tmps o.op.operands.toList))).2 (lof b os C L0 i (tmps o.op.operands.toList)) [] [] wr (some d) o.op with
     | .no => Comp.fail
     | .tot φ => JR E wr b os ch al kill L0 k rest (⟨i, d, s.n, φ, lof b os C L0 i (tmps o.op.operands.toList), (mvX b i ch kill s (lof b os C L0 i (tmps o.op.operands.toList))).1, (mvX b i ch kill s (lof b os C L0 i (tmps o.op.operands.toList))).2⟩ :: C) s
     | .par t c mk => c.bind fun x => JR E wr b os ch al kill L0 k rest (⟨i, d, s.n, mk x, lof b os C L0 i (tmps o.op.operands.toList), (mvX b i ch kill s (lof b os C L0 i (tmps o.op.operands.toList))).1, (mvX b i ch kill s (lof b os C L0 i (tmps o.op.operands.toList))).2⟩ :: C) s
  | _, _ => Comp.fail
def Nt : List Oper → List Nat
 | [] => []
 | o :: os => match o.op with
  | .call c => match c.callee with
   | .builtin .append => tmps (c.args.toList.take 1) ++ Nt os
   | _ => Nt os
  | _ => Nt os
def rJ (L : LS) : List Nat → List Nat
 | [] => []
 | t :: l => match look L t with
  | some e => e.2.refs ++ rJ L l
  | none => rJ L l
def noG : List Oper → Bool
 | [] => true
 | o :: os => o.guard.isNone && noG os
def Ed (can : List Nat) : Nat → Bool
 | 0 => true
 | n + 1 => gx n can && Ed can n
def CF (M : MS) : List Nat → List Nat
 | [] => []
 | k :: l => match look M k with
  | some (_, .bx _ c _) => c.refs ++ CF M l
  | _ => CF M l
def NV (L : LS) (M : MS) (D1 : List Nat) : List (Nat × List Nat) → Nat → List Nat
 | [], _ => D1
 | e :: l, i => match Nat.beq e.1 i with
  | true => rJ L e.2 ++ CF M (rJ L e.2)
  | false => NV L M D1 l i
def zAD {β : Type} (E : VE) (os : List Oper) (ch can : List Nat) (kl : List (Nat × List Nat)) (s : S) (k : S → Comp β) : Comp β := match ndD os && (noG os && (Ed can os.length && G9 E os ch (alX (bitsOf os) os ch ch))) with
 | true => JR E (wrS os) (bitsOf os) os ch (alX (bitsOf os) os ch ch) (NV s.L s.M (rJ s.L (wrS os ++ Nt os)) kl) s.L k can [] { s with L := [] }
 | false => Comp.fail
theorem XH {d : Nat} : ∀ {l : List Nat}, gx d l = true ↔ d ∈ l
 | [] => by simp [gx]
 | e :: l => by
  unfold gx
  cases hb : Nat.beq e d with
  | true => have := zFr hb; simp [this]
  | false =>
   rw [zV] at hb
   have hne : ¬ e = d := by simpa using hb
   simp only [cond_false, XH, List.mem_cons]
   exact ⟨.inr, fun h => h.resolve_left fun h => hne h.symm⟩
theorem mf {o : Option Tmp} {t : Nat} : Bt o [t] = true ↔ o = some t := by
 cases o with
 | none => simp [Bt]
 | some d =>
  show gx d [t] = true ↔ _
  rw [XH]; simp
theorem uT : ∀ {os : List Oper} {i t j : Nat}, wOf os i t = some j → i ≤ j ∧ ∃ o, os[j - i]? = some o ∧ o.dst = some t
 | [], _, _, _, h => by cases h
 | o :: os, i, t, j, h => by
  unfold wOf at h
  cases hb : Bt o.dst [t] with
  | true => rw [hb] at h; cases h; exact ⟨zFu _, o, by simp, mf.1 hb⟩
  | false =>
   rw [hb] at h
   obtain ⟨h1, o', h2, h3⟩ := uT h
   refine ⟨by omega, o', ?_, h3⟩
   rw [show j - i = (j - (i + 1)) + 1 by omega, List.getElem?_cons_succ]; exact h2
theorem uU : ∀ {os : List Oper} {i t : Nat}, wOf os i t = none → ∀ (j : Nat) o, os[j]? = some o → o.dst ≠ some t
 | [], _, _, _, j, o, h => by simp at h
 | o :: os, i, t, h, j, o', ho => by
  unfold wOf at h
  cases hb : Bt o.dst [t] with
  | true => rw [hb] at h; cases h
  | false =>
   rw [hb] at h
   cases j with
   | zero =>
    simp only [List.getElem?_cons_zero, Option.some.injEq] at ho
    subst ho
    intro e
    rw [mf.2 e] at hb; cases hb
   | succ j => exact uU h j o' (by simpa using ho)
theorem K1 : ∀ {os : List Oper}, ndD os = true → ∀ {i j : Nat} {o o' : Oper} {t : Nat}, os[i]? = some o → os[j]? = some o' → o.dst = some t → o'.dst = some t → i = j
 | [], _, i, j, o, o', t, h, _, _, _ => by simp at h
 | x :: os, hn, i, j, o, o', t, hi, hj, h1, h2 => by
  simp only [ndD, zFs] at hn
  have key : ∀ {j : Nat} {o' : Oper}, x.dst = some t → os[j]? = some o' → o'.dst = some t → False := by
   intro j o' hx hj h2
   have h := hn.1
   rw [hx] at h
   simp only at h
   exact uU (Option.isNone_iff_eq_none.1 h) j o' hj h2
  cases i with
  | zero =>
   cases j with
   | zero => rfl
   | succ j =>
    simp only [List.getElem?_cons_zero, Option.some.injEq] at hi
    subst hi
    exact (key h1 (by simpa using hj) h2).elim
  | succ i =>
   cases j with
   | zero =>
    simp only [List.getElem?_cons_zero, Option.some.injEq] at hj
    subst hj
    exact (key h2 (by simpa using hi) h1).elim
   | succ j => exact congrArg Nat.succ (K1 (os := os) (i := i) (j := j) hn.2 (by simpa using hi) (by simpa using hj) h1 h2)
theorem qc : ∀ {C : List It} {j : Nat} {e : It}, R7 C j = some e → e ∈ C ∧ e.i = j
 | [], _, _, h => by cases h
 | x :: C, j, e, h => by
  unfold R7 at h
  cases hb : Nat.beq x.i j with
  | true => rw [hb] at h; cases h; exact ⟨by simp, zFr hb⟩
  | false =>
   rw [hb] at h
   obtain ⟨h1, h2⟩ := qc h
   exact ⟨List.mem_cons_of_mem _ h1, h2⟩
theorem Ju {b : Array Nat} {os : List Oper} {C : List It} {L0 : LS} {i : Nat} : ∀ {l : List Nat} {t : Nat} {e : Nat × AV}, look (lof b os C L0 i l) t = some e → rdX b os C L0 i t = some e
 | [], _, _, h => by cases h
 | u :: l, t, e, h => by
  unfold lof at h
  split at h
  ·rename_i e' he
   rcases zH h with ⟨h1, h2⟩ | ⟨_, h2⟩
   ·subst h1 h2; exact he
   ·exact Ju h2
  ·exact Ju h
theorem KZ {kill : List Nat} : ∀ {M : MS} {k : Nat} {e : Nat × MV}, look (Nn kill M) k = some e → gx k kill = false ∧ look M k = some e
 | [], _, _, h => by cases h
 | p :: M, k, e, h => by
  unfold Nn at h
  cases hb : gx p.1 kill with
  | true =>
   rw [hb] at h
   obtain ⟨h1, h2⟩ := KZ h
   refine ⟨h1, ?_⟩
   unfold look
   rw [zV, decide_eq_false (fun e => by rw [e, h1] at hb; cases hb)]
   exact h2
  | false =>
   rw [hb] at h
   rcases zH (k := p.1) (x := p.2) h with ⟨h1, h2⟩ | ⟨h1, h2⟩
   ·subst h1
    refine ⟨hb, ?_⟩
    unfold look
    rw [zV, decide_eq_true rfl, ← h2]; rfl
   ·obtain ⟨h3, h4⟩ := KZ h2
    refine ⟨h3, ?_⟩
    unfold look
    rw [zV, decide_eq_false h1]; exact h4
theorem Cw {M M' : MS} : ∀ {l : MS}, Ng M M' l = true → ∀ {k : Nat} {e x : Nat × MV}, look M k = some e → look l k = some x → ∃ e', look M' k = some e' ∧ e'.1 = e.1
 | [], _, k, e, x, _, h => by cases h
 | p :: l, h, k, e, x, he, hl => by
  simp only [Ng, zFs] at h
  rcases zH (k := p.1) (x := p.2) hl with ⟨h1, _⟩ | ⟨_, h2⟩
  ·have h0 := h.1
   rw [h1, he] at h0
   cases hm : look M' k with
   | none => rw [hm] at h0; cases h0
   | some e' => rw [hm] at h0; exact ⟨e', rfl, (zFr h0).symm⟩
  ·exact Cw h.2 he h2
theorem mA {b : Array Nat} {i : Nat} {s' : S} : ∀ {C : List It}, stays b i s' C = true → ∀ it ∈ C, bit b i it.i = true ∨ (Ng it.M s'.M it.M = true ∧ s'.ep ≤ it.ep)
 | [], _, it, h => by cases h
 | x :: C, h, it, hm => by
  simp only [stays, zFs, Bool.or_eq_true] at h
  rcases List.mem_cons.1 hm with rfl | hm
  ·exact h.1.imp id fun h => ⟨h.1, Nat.le_of_ble_eq_true h.2⟩
  ·exact mA h.2 it hm
theorem uw {al j : Nat} : ∀ {l : List Nat}, j ∈ l → j ≠ al → j ∈ tn al l
 | x :: l, hm, hj => by
  unfold tn
  rcases List.mem_cons.1 hm with rfl | hm
  ·rw [zV, decide_eq_false hj]; exact List.mem_cons_self ..
  ·split
   ·exact uw hm hj
   ·exact List.mem_cons_of_mem _ (uw hm hj)
theorem qb {b : Array Nat} {i : Nat} : ∀ {l : List Nat}, tH b i l = true → ∀ j ∈ l, bit b j i = true
 | [], _, j, h => by cases h
 | x :: l, h, j, hm => by
  simp only [tH, zFs] at h
  rcases List.mem_cons.1 hm with rfl | hm
  ·exact h.1
  ·exact qb h.2 j hm
theorem qV : ∀ {C : List It} {t : Nat} {e : Nat × AV}, look (Dw C) t = some e → ∃ it ∈ C, it.d = t ∧ (it.n, it.φ) = e
 | [], _, _, h => by cases h
 | it :: C, t, e, h => by
  rcases zH (k := it.d) (x := (it.n, it.φ)) h with ⟨h1, h2⟩ | ⟨_, h2⟩
  ·exact ⟨it, by simp, h1, h2⟩
  ·obtain ⟨it', h3, h4⟩ := qV h2
   exact ⟨it', List.mem_cons_of_mem _ h3, h4⟩
theorem qU : ∀ {C : List It} {t : Nat}, look (Dw C) t = none → ∀ it ∈ C, it.d ≠ t
 | [], _, _, it, h => by cases h
 | x :: C, t, h, it, hm => by
  unfold Dw look at h
  simp only at h
  cases hb : Nat.beq x.d t with
  | true => rw [hb] at h; cases h
  | false =>
   rw [hb] at h
   rcases List.mem_cons.1 hm with rfl | hm
   ·intro e; rw [zV, decide_eq_true e] at hb; cases hb
   ·exact qU h it hm
theorem CX : ∀ {os : List Oper}, noG os = true → ∀ o ∈ os, o.guard = none
 | [], _, o, h => by cases h
 | x :: os, h, o, hm => by
  simp only [noG, zFs] at h
  rcases List.mem_cons.1 hm with rfl | hm
  ·exact Option.isNone_iff_eq_none.1 h.1
  ·exact CX h.2 o hm
theorem l8 {can : List Nat} : ∀ {n : Nat}, Ed can n = true → ∀ i, i < n → i ∈ can
 | 0, _, i, h => by omega
 | n + 1, h, i, hi => by
  simp only [Ed, zFs] at h
  by_cases e : i = n
  ·subst e; exact XH.1 h.1
  ·exact l8 h.2 i (by omega)
structure Rdy (P : Program) (os : List Oper) (L0 : LS) (C : List It) (s : S) (it : It) : Prop where
 sub : ∀ k e, look it.M k = some e → look s.M k = some e
 ep : s.ep ≤ it.ep
 op : ∀ t e, look it.L t = some e → (wOf os 0 t = none ∧ look L0 t = some e) ∨ (∃ j, wOf os 0 t = some j ∧ bit (bitsOf os) j it.i = true ∧ look L0 t = some e) ∨ (∃ jt ∈ C, jt.i ≠ it.i ∧ wOf os 0 t = some jt.i ∧ bit (bitsOf os) it.i jt.i = true ∧ (jt.n, jt.φ) = e)
 ok : ∃ o, os[it.i]? = some o ∧ o.dst = some it.d ∧ ∀ {X : Cx} {w : World} {a : Act}, X.P = P → OkO X.O w → yG it.M X w → X.ep = it.ep → XD it.L X w a → Ok P o a w (fun w v => it.φ.holds X w v)
structure JS (F : Frm) (al : Nat) (os : List Oper) (L0 : LS) (M0 : MS) (n0 : Nat) (rest : List Nat) (C : List It) (s : S) (T : Nat → Bool) (a : Act) (w : World) (X : Cx) : Prop where
 rel : RelX F s a w X
 sL : s.L = []
 hn : n0 ≤ s.n
 l0 : ∀ t e, look L0 t = some e → e.1 < n0
 im : ∀ k e, look s.M k = some e → e.1 < n0 → look M0 k = some e
 c : ∀ it ∈ C, T it.i = true → fresh s.ep (it.n, it.φ) = true → it.φ.holds X w (a.get it.d)
 l : ∀ t e, look L0 t = some e → (∀ j o, os[j]? = some o → o.dst = some t → T j = false) → fresh s.ep e = true → e.2.holds X w (a.get t)
 rd : ∀ it ∈ C, T it.i = false → Rdy F.P os L0 C s it
 rs : ∀ i ∈ rest, T i = false ∨ i = al
 nc : ∀ it ∈ C, it.i ∉ rest
 un : ∀ it ∈ C, ∀ it' ∈ C, it.i = it'.i → it = it'
 cov : ∀ i o, os[i]? = some o → i ∈ rest ∨ (o.dst = none ∧ T i = true) ∨ ∃ it ∈ C, it.i = i
 dst : ∀ it ∈ C, ∃ o, os[it.i]? = some o ∧ o.dst = some it.d
 st : ∀ it ∈ C, n0 ≤ it.n ∧ it.n ≤ s.n
section
variable {F : Frm} {E : VE} {os : List Oper} {L0 : LS} {M0 : MS} {n0 nf : Nat} {rest : List Nat} {C : List It} {s : S} {T : Nat → Bool} {a : Act} {w : World} {X : Cx} {wr ch : List Nat} {al : Nat} {kill : Nat → List Nat} {β : Type} {y : β} {k : S → Comp β}
theorem Rdy.cons {P : Program} {it : It} (h : Rdy P os L0 C s it) (x : It) : Rdy P os L0 (x :: C) s it :=
 ⟨h.sub, h.ep, fun t e he => (h.op t e he).imp id (·.imp id fun ⟨jt, h1, h2⟩ => ⟨jt, List.mem_cons_of_mem _ h1, h2⟩), h.ok⟩
theorem mN {b : Array Nat} {i t : Nat} {e : Nat × AV} (h : rdX b os C L0 i t = some e) : (wOf os 0 t = none ∧ look L0 t = some e) ∨ (∃ j, wOf os 0 t = some j ∧ bit b j i = true ∧ look L0 t = some e) ∨ (∃ jt ∈ C, wOf os 0 t = some jt.i ∧ bit b i jt.i = true ∧ (jt.n, jt.φ) = e) := by
 unfold rdX at h
 split at h
 ·rename_i hw; exact .inl ⟨hw, h⟩
 ·rename_i j hw
  split at h
  ·rename_i hb
   split at h
   ·rename_i e' he
    cases h
    obtain ⟨h1, h2⟩ := qc he
    exact .inr (.inr ⟨e', h1, by rw [h2]; exact hw, by rw [h2]; exact hb, rfl⟩)
   ·cases h
  ·split at h
   ·rename_i hb; exact .inr (.inl ⟨j, hw, hb, h⟩)
   ·cases h
theorem Q0 {b : Array Nat} {i : Nat} {L : LS} : ∀ k e, look (mvX b i ch kill s L).1 k = some e → look s.M k = some e := by
 intro k e h
 unfold mvX at h
 split at h
 ·exact h
 ·exact (KZ h).2
theorem V7 {b : Array Nat} {i : Nat} {L : LS} (h : s.ep ≤ s.n) : s.ep ≤ (mvX b i ch kill s L).2 := by
 unfold mvX
 split
 ·exact zFu _
 ·show s.ep ≤ (match zAJ L with
  | true => s.ep
  | false => s.n + 1000000000)
  split
  ·exact zFu _
  ·exact Nat.le_trans h (Nat.le_add_right _ _)
theorem JS.add (hE : E.ok F.P) {i : Nat} (h : JS F al os L0 M0 n0 (i :: rest) C s T a w X) (hn : i ∉ rest) (hia : i ≠ al) {o : Oper} (ho : os[i]? = some o) {d : Nat} (hd : o.dst = some d) {φ : AV}
  (hv : ∀ {X : Cx} {w : World} {a : Act}, X.P = F.P → OkO X.O w → yG (mvX (bitsOf os) i ch kill s (lof (bitsOf os) os C L0 i (tmps o.op.operands.toList))).1 X w → X.ep = (mvX (bitsOf os) i ch kill s (lof (bitsOf os) os C L0 i (tmps o.op.operands.toList))).2 → XD (lof (bitsOf os) os C L0 i (tmps o.op.operands.toList)) X w a → Ok F.P o a w (fun w v => φ.holds X w v)) :
  JS F al os L0 M0 n0 rest (⟨i, d, s.n, φ, lof (bitsOf os) os C L0 i (tmps o.op.operands.toList), (mvX (bitsOf os) i ch kill s (lof (bitsOf os) os C L0 i (tmps o.op.operands.toList))).1, (mvX (bitsOf os) i ch kill s (lof (bitsOf os) os C L0 i (tmps o.op.operands.toList))).2⟩ :: C) s T a w X := by
 have hTi : T i = false := (h.rs i (by simp)).resolve_right hia
 have hCi : ∀ it ∈ C, it.i ≠ i := fun it hm e => h.nc it hm (by rw [e]; simp)
 refine ⟨h.rel, h.sL, h.hn, h.l0, h.im, fun it hm ht => ?_, h.l, fun it hm ht => ?_, fun j hj => h.rs j (List.mem_cons_of_mem _ hj), fun it hm => ?_, fun it hm it' hm' he => ?_, fun j o' hj => ?_, fun it hm => ?_, fun it hm => ?_⟩
 ·rcases List.mem_cons.1 hm with rfl | hm
  ·rw [hTi] at ht; cases ht
  ·exact h.c it hm ht
 ·rcases List.mem_cons.1 hm with rfl | hm
  ·refine ⟨Q0, V7 h.rel.epn, fun t e he => ?_, o, ho, hd, hv⟩
   rcases mN (Ju he) with h1 | h1 | ⟨jt, h1, h2⟩
   ·exact .inl h1
   ·exact .inr (.inl h1)
   ·exact .inr (.inr ⟨jt, List.mem_cons_of_mem _ h1, hCi jt h1, h2⟩)
  ·exact (h.rd it hm ht).cons _
 ·rcases List.mem_cons.1 hm with rfl | hm
  ·exact hn
  ·exact fun hr => h.nc it hm (List.mem_cons_of_mem _ hr)
 ·rcases List.mem_cons.1 hm with rfl | hm <;> rcases List.mem_cons.1 hm' with rfl | hm'
  ·rfl
  ·exact absurd he.symm (hCi it' hm')
  ·exact absurd he (hCi it hm)
  ·exact h.un it hm it' hm' he
 ·rcases h.cov j o' hj with h1 | h1 | ⟨it, h1, h2⟩
  ·rcases List.mem_cons.1 h1 with rfl | h1
   ·exact .inr (.inr ⟨_, List.Mem.head _, rfl⟩)
   ·exact .inl h1
  ·exact .inr (.inl h1)
  ·exact .inr (.inr ⟨it, List.mem_cons_of_mem _ h1, h2⟩)
 ·rcases List.mem_cons.1 hm with rfl | hm
  ·exact ⟨o, ho, hd⟩
  ·exact h.dst it hm
 ·rcases List.mem_cons.1 hm with rfl | hm
  ·exact ⟨h.hn, zFu _⟩
  ·exact h.st it hm
theorem JS.zCN (hnd : ndD os = true) (h : JS F al os L0 M0 n0 rest C s T a w X) {i : Nat} (haft : ∀ k, bit (bitsOf os) k i = true → T k = false) (hbef : ∀ k, bit (bitsOf os) i k = true → yv T i k = true) {t : Nat} {e : Nat × AV}
  (hc : (wOf os 0 t = none ∧ look L0 t = some e) ∨ (∃ j, wOf os 0 t = some j ∧ bit (bitsOf os) j i = true ∧ look L0 t = some e) ∨ (∃ jt ∈ C, jt.i ≠ i ∧ wOf os 0 t = some jt.i ∧ bit (bitsOf os) i jt.i = true ∧ (jt.n, jt.φ) = e)) (hf : fresh s.ep e = true) : e.2.holds X w (a.get t) := by
 rcases hc with ⟨h1, h2⟩ | ⟨j, h1, h2, h3⟩ | ⟨jt, h1, h2, h3, h4, h5⟩
 ·exact h.l t e h2 (fun j o hj hd => absurd hd (uU h1 j o hj)) hf
 ·refine h.l t e h3 (fun j' o hj hd => ?_) hf
  obtain ⟨_, o', g1, g2⟩ := uT h1
  have : j' = j := K1 hnd hj (by simpa using g1) hd g2
  rw [this]; exact haft j h2
 ·obtain ⟨_, o', g1, g2⟩ := uT h3
  obtain ⟨o2, g3, g4⟩ := h.dst jt h1
  rw [Nat.sub_zero, g3] at g1
  cases g1
  rw [g4] at g2; cases g2
  have hT : T jt.i = true := by
   have := hbef _ h4
   simp only [yv, Bool.or_eq_true] at this
   exact this.resolve_right fun hb => h2 (zFr hb)
  rw [← h5] at hf ⊢
  exact h.c jt h1 hT hf
theorem RelX.set (hLh : ∀ t φ, ¬ F.Lh t φ) (h : RelX F s a w X) (hL : s.L = []) {w' : World} (hE : Ext w w') (d : Option Tmp) (v : Value) : RelX F s (a.put d v) w' X :=
 h.go (kh h.fit d v) rfl rfl rfl (fun _ _ => zj.ext hE) (fun _ _ => rfl) h.n h.ep (zFu _) h.epn (h.base.step hE h.ok0) (fun hf => ⟨hf, hE⟩) (fun t φ hp => absurd hp (hLh t φ)) (fun t e he => by rw [hL] at he; cases he) (fun k e he => .inr ⟨he, rfl, fun _ => zj.ext hE⟩) h.inj h.pos
theorem pM {T : Nat → Bool} {i j : Nat} (h : yv T i j = true) (hne : j ≠ i) : T j = true := by
 simp only [yv, Bool.or_eq_true] at h
 exact h.resolve_right fun hb => hne (zFr hb)
theorem Z2 (T : Nat → Bool) (i : Nat) : yv T i i = true := by simp [yv, zV]
theorem Yz {T : Nat → Bool} {i j : Nat} (h : yv T i j = false) : T j = false ∧ j ≠ i := by
 unfold yv at h
 rw [Bool.or_eq_false_iff, zV] at h
 exact ⟨h.1, by simpa using h.2⟩
theorem JS.val (hLh : ∀ t φ, ¬ F.Lh t φ) (hok : yH F.N os = true) (hnd : ndD os = true) (h : JS F al os L0 M0 n0 rest C s T a w X) {it : It} (hm : it ∈ C) (hT : T it.i = false) (haft : ∀ k, bit (bitsOf os) k it.i = true → T k = false) (hbef : ∀ k, bit (bitsOf os) it.i k = true → yv T it.i k = true) :
  ∃ o, os[it.i]? = some o ∧ Ok F.P o a w (fun w' v => Ext w w' → JS F al os L0 M0 n0 rest C s (yv T it.i) (a.put o.dst v) w' X) := by
 obtain ⟨r1, r2, r3, o, ho, hd, r4⟩ := h.rd it hm hT
 refine ⟨o, ho, fun K Q hK => ?_⟩
 let X1 : Cx := { X with ep := it.ep }
 have to1 : ∀ {φ : AV} {w : World} {v : Value}, φ.holds X w v → φ.holds X1 w v := fun {φ w v} hv => (φ.mono (X := X) (X' := X1) (w := w) (w' := w) ⟨rfl, zj.refl _ _ _, fun _ _ => rfl, zFu _, rfl⟩ fun _ => Ext.refl _).1 v hv
 have of1 : ∀ {φ : AV} {w : World} {v : Value}, φ.holds X1 w v → φ.holds X w v := fun {φ w v} hv => (φ.mono (X := X1) (X' := X) (w := w) (w' := w) ⟨rfl, zj.refl _ _ _, fun _ _ => rfl, zFu _, rfl⟩ fun _ => Ext.refl _).1 v hv
 have hMn := h.rel.mnX
 have hM1 : yG it.M X1 w := fun k e he => MV.le (X := X) (X' := X1) ⟨rfl, zj.refl _ _ _, fun _ _ => rfl, zFu _, rfl⟩ (hMn k e (r1 k e he)) rfl rfl rfl _ (fun _ => zj.refl _ _ _) (h.rel.m k e (r1 k e he))
 have hL1 : XD it.L X1 w a := fun t e he hf => by
  have hf' : fresh s.ep e = true := by
   unfold fresh at hf ⊢
   rw [Bool.or_eq_true] at hf ⊢
   exact hf.imp id fun hb => by
    rw [kI, decide_eq_true_eq] at hb ⊢
    exact Nat.le_trans r2 hb
  exact to1 (h.zCN hnd haft hbef (r3 t e he) hf')
 refine r4 (X := X1) h.rel.P h.rel.okO hM1 rfl hL1 K Q fun v w' hEx hv => ?_
 refine hK v w' hEx fun _ => ?_
 rw [hd]
 have hv := of1 hv
 have hdN := ((zW hok ho).2.1 it.d hd).1
 have hother : ∀ it' ∈ C, it'.i ≠ it.i → it.d ≠ it'.d := fun it' hm' hne e => by
  obtain ⟨o', g1, g2⟩ := h.dst it' hm'
  exact hne (K1 hnd g1 ho (by rw [g2, e]) hd)
 refine ⟨h.rel.set hLh h.sL hEx _ _, h.sL, h.hn, h.l0, h.im, fun it' hm' ht hf => ?_, fun t e he ht hf => ?_, fun it' hm' ht => h.rd it' hm' (Yz ht).1, fun j hj => ?_, h.nc, h.un, fun j o' hj => ?_, h.dst, h.st⟩
 ·by_cases hne : it'.i = it.i
  ·have := h.un it' hm' it hm hne
   subst this
   rw [vf h.rel.fit hdN]; exact hv
  ·rw [vt (hother it' hm' hne)]
   exact it'.φ.ext hEx (h.c it' hm' (pM ht hne) hf)
 ·have hne : it.d ≠ t := fun e => by
   have := ht it.i o ho (by rw [hd, e])
   rw [Z2] at this; cases this
  rw [vt hne]
  exact e.2.ext hEx (h.l t e he (fun j o' hj hd' => (Yz (ht j o' hj hd')).1) hf)
 ·have h1 := h.rs j hj
  have hne : j ≠ it.i := fun e => h.nc it hm (by rw [← e]; exact hj)
  refine h1.imp (fun h1 => ?_) id
  unfold yv
  rw [h1, zV, decide_eq_false hne]; rfl
 ·rcases h.cov j o' hj with h1 | ⟨h1, h2⟩ | h1
  ·exact .inl h1
  ·exact .inr (.inl ⟨h1, by simp [yv, h2]⟩)
  ·exact .inr (.inr h1)
def Nl (ep : Nat) (os : List Oper) (L0 : LS) (C : List It) (T : Nat → Bool) (i : Nat) : Nat → AV → Prop := fun t φ => (∀ o, os[i]? = some o → o.dst ≠ some t) ∧
 ((∃ it ∈ C, T it.i = true ∧ it.d = t ∧ it.φ = φ ∧ fresh ep (it.n, it.φ) = true) ∨ (∃ x, look L0 t = some x ∧ x.2 = φ ∧ fresh ep x = true ∧ ∀ j o, os[j]? = some o → o.dst = some t → T j = false))
theorem JS.nxt (hLh : ∀ t φ, ¬ F.Lh t φ) (hnd : ndD os = true) {q : Nat → Obj → Prop} {i : Nat} (h : JS (F.sys q) al os L0 M0 n0 (i :: rest) C s T a w X) (hn : i ∉ rest) {o : Oper} (ho : os[i]? = some o) (hbef : ∀ k, bit (bitsOf os) i k = true → yv T i k = true)
  {s' : S} {a' : Act} {w' : World} {X' : Cx} {Le : LS} (hX : RelX { F with Lh := Nl s.ep os L0 C T i, fe := s.n } s' a' w' X') (hi : Inv { L := Le, M := s.M, n := s.n + 1, ep := s.ep } s') (hmono : s.ep ≤ s'.ep) (hst : stays (bitsOf os) i s' C = true)
  {nw : List It} (h1 : ∀ it ∈ nw, it.i = i ∧ o.dst = some it.d ∧ look s'.L it.d = some (it.n, it.φ) ∧ s.n ≤ it.n) (h2 : ∀ it ∈ nw, ∀ it' ∈ nw, it = it') (h3 : o.dst = none ∨ ∃ it, it ∈ nw) :
  JS F al os L0 M0 n0 rest (nw ++ C) { L := [], M := s'.M, n := s'.n, ep := s'.ep } (yv T i) a' w' X' := by
 have hle : s.n + 1 ≤ s'.n := hi.le
 have hCi : ∀ it ∈ C, it.i ≠ i := fun it hm e => h.nc it hm (by rw [e]; simp)
 have hXF : RelX F { L := [], M := s'.M, n := s'.n, ep := s'.ep } a' w' X' := ⟨hX.P, hX.A, hX.Fn, hX.n, hX.ep, hX.ok0, hX.fit, hX.base, fun t e he => (nomatch he), hX.m, fun t e he => (nomatch he), hX.mn, hX.inj, hX.pos, hX.epn, Nat.lt_of_lt_of_le h.rel.fe (by show s.n ≤ s'.n; omega), fun t φ hp => absurd hp (hLh t φ), hX.bl, hX.ex⟩
 have hep : ∀ {e : Nat × AV}, fresh s'.ep e = true → e.1 ≤ s.n → e.2.zw = true → s'.ep ≤ s.n := fun {e} hf hl hfr => by
  simp only [fresh, hfr, Bool.not_true, Bool.false_or] at hf
  rw [kI] at hf
  exact Nat.le_trans (of_decide_eq_true hf) hl
 have hfe : ∀ {e : Nat × AV}, fresh s'.ep e = true → fresh s.ep e = true := fun {e} hf => by
  unfold fresh at hf ⊢
  rw [Bool.or_eq_true] at hf ⊢
  exact hf.imp id fun hb => by
   rw [kI, decide_eq_true_eq] at hb ⊢
   exact Nat.le_trans hmono hb
 refine ⟨hXF, rfl, Nat.le_trans h.hn (by show s.n ≤ s'.n; omega), h.l0, fun k e he hlt => h.im k e (hi.m k e he (by have := h.hn; show e.1 < s.n + 1; omega)) hlt,
  fun it hm ht hf => ?_, fun t e he ht hf => ?_, fun it hm ht => ?_, fun j hj => ?_, fun it hm => ?_, fun it hm it' hm' he => ?_, fun j o' hj => ?_, fun it hm => ?_, fun it hm => ?_⟩
 ·rcases List.mem_append.1 hm with hm | hm
  ·obtain ⟨_, _, g1, _⟩ := h1 it hm
   exact hX.l _ _ g1 (by rw [hX.ep]; exact hf)
  ·refine hX.lh it.d it.φ ⟨fun o' ho' e => ?_, .inl ⟨it, hm, pM ht (hCi it hm), rfl, rfl, hfe hf⟩⟩ (hep hf (h.st it hm).2)
   obtain ⟨o2, g1, g2⟩ := h.dst it hm
   exact hCi it hm (K1 hnd g1 ho' g2 e)
 ·refine hX.lh t e.2 ⟨fun o' ho' e' => ?_, .inr ⟨e, he, rfl, hfe hf, fun j o' hj hd => (Yz (ht j o' hj hd)).1⟩⟩ (hep hf (by have := h.l0 t e he; have := h.hn; omega))
  have := ht i o' ho' e'
  rw [Z2] at this; cases this
 ·rcases List.mem_append.1 hm with hm | hm
  ·rw [(h1 it hm).1, Z2] at ht; cases ht
  ·obtain ⟨r1, r2, r3, r4⟩ := h.rd it hm (Yz ht).1
   rcases mA hst it hm with g | ⟨g1, g2⟩
   ·rw [hbef _ g] at ht; cases ht
   ·refine ⟨fun k e he => ?_, g2, fun t e he => (r3 t e he).imp id (·.imp id fun ⟨jt, q1, q2⟩ => ⟨jt, List.mem_append_right _ q1, q2⟩), r4⟩
    obtain ⟨e', q1, q2⟩ := Cw g1 he he
    have q3 := r1 k e he
    have q4 := (h.rel.mn k e q3).1
    have q5 := hi.m k e' q1 (by show e'.1 < s.n + 1; omega)
    have q6 : look s.M k = some e' := q5
    rw [q3] at q6
    cases q6; exact q1
 ·have g1 := h.rs j (List.mem_cons_of_mem _ hj)
  have hne : j ≠ i := fun e => hn (by rw [← e]; exact hj)
  refine g1.imp (fun g1 => ?_) id
  unfold yv
  rw [g1, zV, decide_eq_false hne]; rfl
 ·rcases List.mem_append.1 hm with hm | hm
  ·rw [(h1 it hm).1]; exact hn
  ·exact fun hr => h.nc it hm (List.mem_cons_of_mem _ hr)
 ·rcases List.mem_append.1 hm with hm | hm <;> rcases List.mem_append.1 hm' with hm' | hm'
  ·exact h2 it hm it' hm'
  ·rw [(h1 it hm).1] at he; exact absurd he.symm (hCi it' hm')
  ·rw [(h1 it' hm').1] at he; exact absurd he (hCi it hm)
  ·exact h.un it hm it' hm' he
 ·rcases h.cov j o' hj with g | ⟨g1, g2⟩ | ⟨it, g1, g2⟩
  ·rcases List.mem_cons.1 g with rfl | g
   ·rw [ho] at hj; cases hj
    rcases h3 with g | ⟨it, g⟩
    ·exact .inr (.inl ⟨g, Z2 _ _⟩)
    ·exact .inr (.inr ⟨it, List.mem_append_left _ g, (h1 it g).1⟩)
   ·exact .inl g
  ·exact .inr (.inl ⟨g1, by simp [yv, g2]⟩)
  ·exact .inr (.inr ⟨it, List.mem_append_right _ g1, g2⟩)
 ·rcases List.mem_append.1 hm with hm | hm
  ·exact ⟨o, by rw [(h1 it hm).1]; exact ho, (h1 it hm).2.1⟩
  ·exact h.dst it hm
 ·rcases List.mem_append.1 hm with hm | hm
  ·exact ⟨Nat.le_trans h.hn (h1 it hm).2.2.2, Nat.le_of_lt (hX.ln _ _ (h1 it hm).2.2.1)⟩
  ·have := h.st it hm; exact ⟨this.1, by show it.n ≤ s'.n; omega⟩
theorem JS.G5 (h : JS F al os L0 M0 n0 rest C s T a w X) (i : Nat) : RelX { F with Lh := Nl s.ep os L0 C T i, fe := s.n } { L := [], M := s.M, n := s.n + 1, ep := s.ep } a w { X with n := s.n + 1 } := by
 let Xe : Cx := { X with n := s.n + 1 }
 have toe : ∀ {φ : AV} {v : Value}, φ.holds X w v → φ.holds Xe w v := fun {φ v} hv => (φ.mono (X := X) (X' := Xe) (w := w) (w' := w) ⟨rfl, zj.refl _ _ _, fun _ _ => rfl, by rw [h.rel.n]; exact Nat.le_succ _, rfl⟩ fun _ => Ext.refl _).1 v hv
 have hgo : RelX F { L := [], M := s.M, n := s.n + 1, ep := s.ep } a w Xe :=
  h.rel.go (X' := Xe) h.rel.fit rfl rfl rfl (fun _ _ => zj.refl _ _ _) (fun _ _ => rfl) rfl h.rel.ep (Nat.le_succ _) (Nat.le_succ_of_le h.rel.epn) h.rel.base (fun hf => ⟨hf, Ext.refl _⟩) (fun _ _ _ => rfl) (fun t e he => nomatch he) (fun k e he => .inr ⟨he, rfl, fun _ => zj.refl _ _ _⟩) h.rel.inj h.rel.pos
 refine ⟨hgo.P, hgo.A, hgo.Fn, hgo.n, hgo.ep, hgo.ok0, hgo.fit, hgo.base, hgo.l, hgo.m, hgo.ln, hgo.mn, hgo.inj, hgo.pos, hgo.epn, Nat.lt_succ_self _, fun t φ hp _ => toe ?_, hgo.bl, hgo.ex⟩
 rcases hp.2 with ⟨it, g1, g2, g3, g4, g5⟩ | ⟨x, g1, g2, g5, g3⟩
 ·rw [← g3, ← g4]; exact h.c it g1 g2 g5
 ·rw [← g2]; exact h.l t x g1 g3 g5
def Gh (E : VE) (F : Frm) (q : Nat → Obj → Prop) (al : Nat) (os : List Oper) (rest : List Nat) (T : Nat → Bool) (a : Act) : Prop :=
 (q = F.x.sys ∧ (al ∈ rest → T al = false)) ∨ (al ∈ rest ∧ T al = true ∧ (∀ k, bit (bitsOf os) al k = true → T k = true) ∧ ∃ b Y d i o0 o, os[al]? = some o ∧ o.op = .alloc Y ∧ o.dst = some d ∧ look E.T Y = some i ∧ a.get d = .pointer (some ⟨b, 0, none⟩) ∧
  (∀ c o, F.x.sys c o → c ≠ b ∧ q c o) ∧ q b o0 ∧ F.w0.heap.size ≤ b ∧ ∀ w : World, w.heap[b]? = some o0 → Own w b i.z.cells Y)
theorem Gh.no {q : Nat → Obj → Prop} (h : Gh E F q al os rest T a) (hT : al ∈ rest → T al = false) : q = F.x.sys := by
 rcases h with h | ⟨h1, h2, _⟩
 ·exact h.1
 ·rw [hT h1] at h2; cases h2
theorem Gh.tail {q : Nat → Obj → Prop} {i : Nat} (h : Gh E F q al os (i :: rest) T a) (hi : i ≠ al) : Gh E F q al os rest T a :=
 h.imp (fun h => ⟨h.1, fun hm => h.2 (List.mem_cons_of_mem _ hm)⟩) fun h => ⟨(List.mem_cons.1 h.1).resolve_left (Ne.symm hi), h.2⟩
theorem Gh.step {q : Nat → Obj → Prop} (hnd : ndD os = true) (h : Gh E F q al os rest T a) {i : Nat} {o : Oper} (ho : os[i]? = some o) (hi : al ∈ rest → i ≠ al) (v : Value) : Gh E F q al os rest (yv T i) (a.put o.dst v) := by
 rcases h with ⟨h1, h2⟩ | ⟨h1, h2, h3, b, Y, d, j, o0, o', h4, h5, h6, h7, h8, h9⟩
 ·refine .inl ⟨h1, fun hm => ?_⟩
  unfold yv
  rw [h2 hm, zV, decide_eq_false (Ne.symm (hi hm))]; rfl
 ·refine .inr ⟨h1, by simp [yv, h2], fun k hk => by simp [yv, h3 k hk], b, Y, d, j, o0, o', h4, h5, h6, h7, ?_, h9⟩
  rw [jE (fun e => hi h1 (K1 hnd ho h4 e h6))]; exact h8
theorem Ar {o : Oper} {Y : TypeId} {i : TI} (hop : o.op = .alloc Y) (hi : look E.T Y = some i) {k : S → Comp β} : step E wr s o k = k (s.obj o.dst (.bx true (tQ i) Y) (.bx s.n 0)) := by
 obtain ⟨d, op, T, pos, aft, g⟩ := o
 simp only at hop
 subst hop
 simp only [step, Nh, D8, wM, hi]
theorem Rq (h : T al = true) : yv T al = T := by
 funext j
 unfold yv
 by_cases e : j = al
 ·rw [e, h]; rfl
 ·rw [zV, decide_eq_false e, Bool.or_false]
theorem JS.adv (hLh : ∀ t φ, ¬ F.Lh t φ) (hE : E.ok F.P) (hnd : ndD os = true) (hal : G9 E os ch al = true) : ∀ {rest : List Nat} {C : List It} {s : S} {X : Cx} {q : Nat → Obj → Prop}, JS (F.sys q) al os L0 M0 n0 rest C s T a w X → Gh E F q al os rest T a → (JR E wr (bitsOf os) os ch al kill L0 k rest C s).run nf = some y →
  ∃ rest' C' s' X' q', JS (F.sys q') al os L0 M0 n0 rest' C' s' T a w X' ∧ Gh E F q' al os rest' T a ∧ (JR E wr (bitsOf os) os ch al kill L0 k rest' C' s').run nf = some y ∧ (∀ i l, rest' = i :: l → gx i ch = true ∧ T i = false)
 | [], C, s, X, q, h, hg, hr => ⟨[], C, s, X, q, h, hg, hr, fun _ _ e => nomatch e⟩
 | i :: rest, C, s, X, q, h, hg, hr => by
  cases hc : gx i ch with
  | true =>
   cases hT : T i with
   | false => exact ⟨i :: rest, C, s, X, q, h, hg, hr, fun j l e => by cases e; exact ⟨hc, hT⟩⟩
   | true =>
    obtain rfl : al = i := ((h.rs i (by simp)).resolve_left fun e => by rw [hT] at e; cases e).symm
    rcases hg with hg | ⟨_, _, g3, b, Y, d, j, o0, o', g4, g5, g6, g7, g8, g9, g10, g11, g12⟩
    ·rw [hg.2 (by simp)] at hT; cases hT
    simp only [JR] at hr
    split at hr
    ·rename_i o hn ho
     rw [g4] at ho; cases ho
     have hn' : al ∉ rest := fun hm => by rw [XH.2 hm] at hn; cases hn
     rw [hc] at hr
     simp only at hr
     split at hr
     ·rw [Ar g5 g7] at hr
      have hlof : lof (bitsOf os) os C L0 al (tmps o'.op.operands.toList) = [] := by rw [g5]; rfl
      rw [hlof, g6] at hr
      obtain ⟨X', hX'⟩ := RelX.take (F := { F with Lh := Nl s.ep os L0 C T al, fe := s.n }) (d := d) (h.G5 al) g9 g10 g11 g12 g8 Cj Ci fun φ hp => hp.1 _ g4 g6
      have hi' := Inv.obj { L := [], M := s.M, n := s.n + 1, ep := s.ep } (some d) (.bx true (tQ j) Y) (.bx (s.n + 1) 0)
      have hTT := Rq hT
      have hbef : ∀ k, bit (bitsOf os) al k = true → yv T al k = true := fun k hk => by rw [hTT]; exact g3 k hk
      split at hr
      ·rename_i hst
       rw [zFs] at hst
       obtain ⟨hmo, hst⟩ := hst
       have hmo := Nat.le_of_ble_eq_true hmo
       simp only at hr
       split at hr
       ·rename_i e he
        split at hr
        ·rename_i hb
         have h2 := h.nxt (nw := [⟨al, d, e.1, e.2, [], [], s.n + 1000000000⟩]) hLh hnd hn' g4 hbef hX' hi' hmo hst (fun it hm => by
          obtain rfl := List.mem_singleton.1 hm
          exact ⟨rfl, g6, he, Nat.le_of_ble_eq_true hb⟩) (fun it hm it' hm' => by rw [List.mem_singleton.1 hm, List.mem_singleton.1 hm']) (.inr ⟨_, List.Mem.head _⟩)
         rw [hTT] at h2
         have h3 : JS (F.sys F.x.sys) al os L0 M0 n0 rest _ _ T a w X' := h2
         exact JS.adv hLh hE hnd hal h3 (.inl ⟨rfl, fun hm => absurd hm hn'⟩) hr
        ·cases hr
       ·cases hr
      ·cases hr
     ·cases hr
    ·cases hr
  | false =>
   simp only [JR] at hr
   split at hr
   ·rename_i o hn ho
    have hn' : i ∉ rest := fun hm => by rw [XH.2 hm] at hn; cases hn
    have hia : i ≠ al := fun e => by
     subst e
     unfold G9 at hal
     rw [ho] at hal
     simp only [zFs] at hal
     rw [hal.1] at hc; cases hc
    rw [hc] at hr
    simp only at hr
    split at hr
    ·cases hr
    ·rename_i d hd
     split at hr
     ·cases hr
     ·rename_i φ hv
      refine JS.adv hLh hE hnd hal (JS.add (F := F.sys q) (ch := ch) (kill := kill) hE h hn' hia ho hd fun {X w a} hP hO hM hep hL => ?_) (hg.tail hia) hr
      have := Jb (X := X) (R := []) (g := []) (wr := wr) (L := lof (bitsOf os) os C L0 i (tmps o.op.operands.toList)) (by rw [hP]; exact hE) trivial hO hM o (fun t _ => fun e he hf => hL t e he hf) trivial
      rw [hep, hd, hv] at this
      rw [← hP]; exact this
     ·rename_i t c mk hv
      obtain ⟨x, hx, hr⟩ := run_bind hr
      refine JS.adv hLh hE hnd hal (JS.add (F := F.sys q) (ch := ch) (kill := kill) hE h hn' hia ho hd fun {X w a} hP hO hM hep hL => ?_) (hg.tail hia) hr
      have := Jb (X := X) (R := []) (g := []) (wr := wr) (L := lof (bitsOf os) os C L0 i (tmps o.op.operands.toList)) (by rw [hP]; exact hE) trivial hO hM o (fun t _ => fun e he hf => hL t e he hf) trivial
      rw [hep, hd, hv] at this
      rw [← hP]; exact this nf x hx
   ·cases hr
theorem JS.early (hLh : ∀ t φ, ¬ F.Lh t φ) (hE : E.ok F.P) (hsb : F.x.sb ≤ F.w0.heap.size) (hok : yH F.N os = true) (hnd : ndD os = true) (hal : G9 E os ch al = true) (h : JS F al os L0 M0 n0 rest C s T a w X) (hm : al ∈ rest) (hT : T al = false) {o : Oper} (ho : os[al]? = some o) (hbef : ∀ k, bit (bitsOf os) al k = true → yv T al k = true) :
  ∀ (K : Act → World → Prop) (Q : Exit → Act → World → Prop), (∀ v w', (∃ q X', JS (F.sys q) al os L0 M0 n0 rest C s (yv T al) (a.put o.dst v) w' X' ∧ Gh E F q al os rest (yv T al) (a.put o.dst v)) → K (a.put o.dst v) w') → o.wp F.P a w K Q := by
 intro K Q hK
 unfold G9 at hal
 rw [ho] at hal
 simp only [zFs] at hal
 obtain ⟨_, hal⟩ := hal
 split at hal
 ·rename_i Y d hop hd
  obtain ⟨i, hi⟩ := Option.isSome_iff_exists.1 hal
  obtain ⟨d', op, T0, pos, aft, g⟩ := o
  simp only at hop hd
  subst hop hd
  refine mY (zFu _) (hE.T Y i hi).ty K Q fun v w' hEx hv => hK v w' ?_
  obtain ⟨b, hb1, hb2, fr, hb3, hb4⟩ := hv
  have hg := h.rel.ghost hLh h.sL hEx hsb (d := some d) (v := v) hb1 hb3
  have hdN := ((zW hok ho).2.1 d rfl).1
  have hk : KX none X.O w (tag X.O (some b) F.x.st) w' := KX.tag hEx fun g hg => by cases hg; exact hb1
  have hle : X.le w { X with O := tag X.O (some b) F.x.st } w' := ⟨rfl, hk.keep (by simp), fun _ _ => rfl, zFu _, rfl⟩
  have mono : ∀ {φ : AV} {v : Value}, φ.holds X w v → φ.holds { X with O := tag X.O (some b) F.x.st } w' v := fun {φ v} hv => (φ.mono hle fun _ => hEx).1 v hv
  refine ⟨_, _, ⟨hg, h.sL, h.hn, h.l0, h.im, fun it hi' ht hf => ?_, fun t e he ht hf => ?_, fun it hi' ht => h.rd it hi' (Yz ht).1, fun j hj => ?_, h.nc, h.un, fun j o' hj => ?_, h.dst, h.st⟩, .inr ⟨hm, Z2 _ _, hbef, b, Y, d, i, _, _, ho, rfl, rfl, hi, ?_, fun c o hc => ⟨fun e => ?_, .inl hc⟩, .inr ⟨rfl, rfl⟩, Nat.le_trans h.rel.base.size hb1, fun w hw => ⟨fr, hw, hb4⟩⟩⟩
  ·have hne : it.i ≠ al := fun e => h.nc it hi' (by rw [e]; exact hm)
   obtain ⟨o', g1, g2⟩ := h.dst it hi'
   rw [vt (fun e => hne (K1 hnd g1 ho g2 (by rw [e])))]
   exact mono (h.c it hi' (pM ht hne) hf)
  ·have hne : d ≠ t := fun e => by
    have := ht al _ ho (by rw [e])
    rw [Z2] at this; cases this
   rw [vt hne]
   exact mono (h.l t e he (fun j o' hj hd' => (Yz (ht j o' hj hd')).1) hf)
  ·by_cases e : j = al
   ·exact .inr e
   ·refine .inl ?_
    have := (h.rs j hj).resolve_right e
    unfold yv
    rw [this, zV, decide_eq_false e]; rfl
  ·rcases h.cov j o' hj with h1 | ⟨h1, h2⟩ | h1
   ·exact .inl h1
   ·exact .inr (.inl ⟨h1, by simp [yv, h2]⟩)
   ·exact .inr (.inr h1)
  ·rw [vf h.rel.fit hdN]; exact hb2
  ·have := (Array.getElem?_eq_some_iff.1 (h.rel.ex.sys c o hc).1.1).1
   omega
 ·cases hal
theorem JS.eff (hLh : ∀ t φ, ¬ F.Lh t φ) (hE : E.ok F.P) (hok : yH F.N os = true) (hnd : ndD os = true) (hal : G9 E os ch al = true) {q : Nat → Obj → Prop} {i : Nat} (h : JS (F.sys q) al os L0 M0 n0 (i :: rest) C s T a w X) (hgh : Gh E F q al os (i :: rest) T a) (hTi : T i = false) (hch : gx i ch = true) (hr : (JR E wr (bitsOf os) os ch al kill L0 k (i :: rest) C s).run nf = some y)
  (haft : ∀ k, bit (bitsOf os) k i = true → T k = false) (hbef : ∀ k, bit (bitsOf os) i k = true → yv T i k = true) :
  ∃ o, os[i]? = some o ∧ ∀ (K : Act → World → Prop) (Q : Exit → Act → World → Prop), (∀ v w', (∃ rest' C' s' X' q', JS (F.sys q') al os L0 M0 n0 rest' C' s' (yv T i) (a.put o.dst v) w' X' ∧ Gh E F q' al os rest' (yv T i) (a.put o.dst v) ∧ (JR E wr (bitsOf os) os ch al kill L0 k rest' C' s').run nf = some y ∧ (∀ j l, rest' = j :: l → gx j ch = true ∧ yv T i j = false)) → K (a.put o.dst v) w') → o.wp F.P a w K Q := by
 simp only [JR] at hr
 split at hr
 ·rename_i o hn ho
  have hn' : i ∉ rest := fun hm => by rw [XH.2 hm] at hn; cases hn
  rw [hch] at hr
  simp only at hr
  split at hr
  ·refine ⟨o, ho, fun K Q hK => ?_⟩
   have hCi : ∀ it ∈ C, it.i ≠ i := fun it hm e => h.nc it hm (by rw [e]; simp)
   let Xe : Cx := { X with n := s.n + 1 }
   have toe : ∀ {φ : AV} {v : Value}, φ.holds X w v → φ.holds Xe w v := fun {φ v} hv => (φ.mono (X := X) (X' := Xe) (w := w) (w' := w) ⟨rfl, zj.refl _ _ _, fun _ _ => rfl, by rw [h.rel.n]; exact Nat.le_succ _, rfl⟩ fun _ => Ext.refl _).1 v hv
   have hcase : ∀ t e, look (lof (bitsOf os) os C L0 i (tmps o.op.operands.toList)) t = some e → (wOf os 0 t = none ∧ look L0 t = some e) ∨ (∃ j, wOf os 0 t = some j ∧ bit (bitsOf os) j i = true ∧ look L0 t = some e) ∨ (∃ jt ∈ C, jt.i ≠ i ∧ wOf os 0 t = some jt.i ∧ bit (bitsOf os) i jt.i = true ∧ (jt.n, jt.φ) = e) := fun t e he => by
    rcases mN (Ju he) with g | g | ⟨jt, g1, g2⟩
    ·exact .inl g
    ·exact .inr (.inl g)
    ·exact .inr (.inr ⟨jt, g1, hCi jt g1, g2⟩)
   have h0 := h.G5 i
   have G5 : RelX { F.sys q with Lh := Nl s.ep os L0 C T i, fe := s.n } { L := lof (bitsOf os) os C L0 i (tmps o.op.operands.toList), M := s.M, n := s.n + 1, ep := s.ep } a w Xe := by
    refine ⟨h0.P, h0.A, h0.Fn, h0.n, h0.ep, h0.ok0, h0.fit, h0.base, fun t e he hf => toe (h.zCN hnd haft hbef (hcase t e he) (by rw [← h0.ep]; exact hf)), h0.m, fun t e he => ?_, h0.mn, h0.inj, h0.pos, h0.epn, h0.fe, h0.lh, h0.bl, h0.ex⟩
    rcases hcase t e he with ⟨_, g⟩ | ⟨_, _, _, g⟩ | ⟨jt, g1, _, _, _, g⟩
    ·have := h.l0 t e g; have := h.hn; show e.1 < s.n + 1; omega
    ·have := h.l0 t e g; have := h.hn; show e.1 < s.n + 1; omega
    ·rw [← g]; have := (h.st jt g1).2; show jt.n < s.n + 1; omega
   have hgh2 : ∀ v, Gh E F q al os rest (yv T i) (a.put o.dst v) := fun v => by
    by_cases hia : i = al
    ·subst hia
     exact .inl ⟨hgh.no fun _ => hTi, fun hm => absurd hm hn'⟩
    ·exact (hgh.tail hia).step hnd ho (fun _ => hia) v
   refine wL (F := { F.sys q with Lh := Nl s.ep os L0 C T i, fe := s.n }) hE ⟨_, G5⟩ wr o (fun t ht => ⟨((zW hok ho).2.1 t ht).1, fun φ hp => hp.1 o ho ht⟩) nf y hr K Q fun s' v w' hR' hi' hr' => hK v w' ?_
   obtain ⟨X', hX'⟩ := hR'
   split at hr'
   ·rename_i hst
    rw [zFs] at hst
    obtain ⟨hmo, hst⟩ := hst
    have hmo := Nat.le_of_ble_eq_true hmo
    split at hr'
    ·rename_i hd
     obtain ⟨rest', C', s2, X2, q', g⟩ := JS.adv hLh hE hnd hal (JS.nxt (F := F.sys q) (q := q) (nw := []) hLh hnd h hn' ho hbef hX' hi' hmo hst (fun _ hm => nomatch hm) (fun _ hm => nomatch hm) (.inl hd)) (hgh2 v) hr'
     exact ⟨rest', C', s2, X2, q', g⟩
    ·rename_i d hd
     split at hr'
     ·rename_i e he
      split at hr'
      ·rename_i hb
       obtain ⟨rest', C', s2, X2, q', g⟩ := JS.adv hLh hE hnd hal (JS.nxt (F := F.sys q) (q := q) (nw := [⟨i, d, e.1, e.2, [], [], s.n + 1000000000⟩]) hLh hnd h hn' ho hbef hX' hi' hmo hst (fun it hm => by
        obtain rfl := List.mem_singleton.1 hm
        exact ⟨rfl, hd, he, Nat.le_of_ble_eq_true hb⟩) (fun it hm it' hm' => by rw [List.mem_singleton.1 hm, List.mem_singleton.1 hm']) (.inr ⟨_, List.Mem.head _⟩)) (hgh2 v) hr'
       exact ⟨rest', C', s2, X2, q', g⟩
      ·cases hr'
     ·cases hr'
   ·cases hr'
  ·cases hr
 ·cases hr
theorem Bm {b : Array Nat} {i : Nat} (hch : gx i ch = true) (hr : (JR E wr b os ch al kill L0 k (i :: rest) C s).run nf = some y) : tH b i (tn al rest) = true := by
 simp only [JR] at hr
 split at hr
 ·rw [hch] at hr
  simp only at hr
  split at hr
  ·rename_i h; exact h
  ·cases hr
 ·cases hr
theorem l7 : ∀ os : List Oper, AllSt tw (os.map fun _ => SP.tt)
 | [] => .nil
 | _ :: os => .cons (UA _) (l7 os)
end
theorem RV {F : Frm} (hLh : ∀ t φ, ¬ F.Lh t φ) {E : VE} (hE : E.ok F.P) {s0 s : S} {a : Act} {w : World} (hR : Rel F s a w) (hi : Inv s0 s) {os : List Oper} {id nf : Nat} {draw : Bool} {ch can : List Nat} {kl : List (Nat × List Nat)} {β : Type} {y : β} {k : S → Comp β} {Q : Exit → Act → World → Prop} (hm : F.P.follows .mixedOrders = true) (hsb : F.x.sb ≤ F.w0.heap.size)
  (hok : XP F.N os = true) (h : (zAD E os ch can kl s k).run nf = some y) (hK : ∀ s' a' w', Rel F s' a' w' → Inv s0 s' → (k s').run nf = some y → Q .normal a' w') : F.wp (Code.region id os.toArray draw) Q a w := by
 have hokI := hok
 replace hok := X7 hok
 unfold zAD at h
 split at h
 ·rename_i hb
  simp only [zFs] at hb
  obtain ⟨hnd, hng, hall, hal⟩ := hb
  generalize hale : alX (bitsOf os) os ch ch = al at h hal
  obtain ⟨X, hX⟩ := hR
  let J : (Nat → Bool) → Act → World → Prop := fun T a w => ∃ rest C s' X' q, JS (F.sys q) al os s.L s.M s.n rest C s' T a w X' ∧ Gh E F q al os rest T a ∧ (JR E (wrS os) (bitsOf os) os ch al (NV s.L s.M (rJ s.L (wrS os ++ Nt os)) kl) s.L k rest C s').run nf = some y ∧ (∀ i l, rest = i :: l → gx i ch = true ∧ T i = false)
  have obl : ∀ (os' : List Oper) (i : Nat), (∀ j, os'[j]? = os[i + j]?) → OblsX J F.P F.N F.D os (os.map fun _ => SP.tt) a i os' (os'.map fun _ => SP.tt) := by
   intro os'
   induction os' with
   | nil => exact fun _ _ => .nil
   | cons o os' ih =>
    intro i hos
    have ho : os[i]? = some o := by have := hos 0; simpa using this.symm
    refine .cons (fun T a' w' hfit hJ hTi haft hbef _ _ K Q hcont => ?_) (ih (i + 1) fun j => by have := hos (j + 1); simp only [List.getElem?_cons_succ] at this; rw [this]; congr 1; omega)
    obtain ⟨rest, C, s', X', q, hJS, hgh, hrun, hbd⟩ := hJ
    rcases hJS.cov i o ho with hr | ⟨_, h2⟩ | ⟨it, hm', rfl⟩
    ·match rest, hr, hJS, hgh, hrun, hbd with
     | e :: l, hr, hJS, hgh, hrun, hbd =>
      obtain ⟨hch, hTe⟩ := hbd e l rfl
      rcases List.mem_cons.1 hr with rfl | hr'
      ·obtain ⟨o', g1, g2⟩ := hJS.eff hLh hE hok hnd hal hgh hTe hch hrun haft hbef
       rw [ho] at g1; cases g1
       exact g2 K Q fun v w' hJ' => hcont v w' hJ' trivial
      ·by_cases hia : i = al
       ·subst hia
        obtain rfl := hgh.no fun _ => hTi
        refine JS.early hLh hE hsb hok hnd hal hJS hr hTi ho hbef K Q fun v w' hJ' => hcont v w' ?_ trivial
        obtain ⟨q, X2, g1, g2⟩ := hJ'
        refine ⟨_, C, s', X2, q, g1, g2, hrun, fun j l' he => ?_⟩
        cases he
        refine ⟨hch, ?_⟩
        have hne : e ≠ i := fun e' => by
         subst e'
         simp only [JR] at hrun
         split at hrun
         ·rename_i hn _
          rw [XH.2 hr'] at hn; cases hn
         ·cases hrun
        unfold yv
        rw [hTe, zV, decide_eq_false hne]; rfl
       ·have g1 := qb (Bm hch hrun) i (uw hr' hia)
        have g2 := hbef e g1
        have g4 : e = i := by
         unfold yv at g2
         rw [hTe, Bool.false_or] at g2
         exact zFr g2
        subst g4
        obtain ⟨o', g1, g2⟩ := hJS.eff hLh hE hok hnd hal hgh hTe hch hrun haft hbef
        rw [ho] at g1; cases g1
        exact g2 K Q fun v w' hJ' => hcont v w' hJ' trivial
    ·rw [hTi] at h2; cases h2
    ·obtain ⟨o', g1, g2⟩ := JS.val (F := F.sys q) hLh hok hnd hJS hm' hTi haft hbef
     rw [ho] at g1; cases g1
     refine g2 K Q fun v w' hEx hJ' => hcont v w' ⟨rest, C, s', X', q, hJ' hEx, hgh.step hnd ho (fun hm2 e => hJS.nc it hm' (by rw [e]; exact hm2)) v, hrun, fun j l he => ⟨(hbd j l he).1, ?_⟩⟩ trivial
     have hne : j ≠ it.i := fun e => hJS.nc it hm' (by rw [← e, he]; simp)
     unfold yv
     rw [(hbd j l he).2, zV, decide_eq_false hne]; rfl
  refine wX (fun _ => hm) (UD Jy (fun i o ho => mZ hokI i o (by simpa using ho)) ?_)
  refine Hp J (os.map fun _ => SP.tt) hX.fit (l7 os) (obl os 0 fun j => by simp) (fun i o S a' w' ho hact => ?_) (fun w1 hEx => ?_) hok ?_ fun a' w' hfit _ hJ => ?_
  ·rw [J4 ho (CX hng o (List.mem_of_getElem? ho))] at hact; cases hact
  ·have hX0 : RelX F { s with L := [] } a w1 X := hX.go hX.fit rfl rfl rfl (fun _ _ => zj.ext hEx) (fun _ _ => rfl) hX.n hX.ep (zFu _) hX.epn (hX.base.step hEx hX.ok0) (fun hf => ⟨hf, hEx⟩) (fun _ _ _ => rfl) (fun t e he => nomatch he) (fun k e he => .inr ⟨he, rfl, fun _ => zj.ext hEx⟩) hX.inj hX.pos
   have h0 : JS (F.sys F.x.sys) al os s.L s.M s.n can [] { s with L := [] } (fun _ => false) a w1 X := by
    refine ⟨hX0, rfl, zFu _, hX.ln, fun k e he _ => he, fun it hm => (nomatch hm), fun t e he _ hf => ?_, fun it hm => (nomatch hm), fun _ _ => .inl rfl, fun it hm => (nomatch hm), fun it hm => (nomatch hm), fun i o ho => .inl (l8 hall i (List.getElem?_eq_some_iff.1 ho).1), fun it hm => (nomatch hm), fun it hm => (nomatch hm)⟩
    exact e.2.ext hEx (hX.l t e he (by rw [hX.ep]; exact hf))
   exact JS.adv hLh hE hnd hal h0 (.inl ⟨rfl, fun _ => rfl⟩) h
  ·unfold kb
   rw [List.all_eq_true]
   intro o ho
   rw [CX hng o ho]
  ·obtain ⟨rest, C, s', X', q, hJS, hgh, hrun, hbd⟩ := hJ
   cases rest with
   | cons i l =>
    exfalso
    have g1 : Nat.blt i os.length = false := (hbd i l rfl).2
    rw [zb] at g1
    have g2 : os.length ≤ i := by simpa using g1
    simp only [JR] at hrun
    split at hrun
    ·rename_i o _ ho
     have := (List.getElem?_eq_some_iff.1 ho).1
     omega
    ·cases hrun
   | nil =>
    obtain rfl := hgh.no fun hm => nomatch hm
    have hlt : ∀ it ∈ C, Nat.blt it.i os.length = true := fun it hm => by
     obtain ⟨o, g1, _⟩ := hJS.dst it hm
     rw [zb]; exact decide_eq_true (List.getElem?_eq_some_iff.1 g1).1
    have hcl : ∀ t e, look (Dw C ++ s.L) t = some e → (∃ it ∈ C, it.d = t ∧ (it.n, it.φ) = e) ∨ (look s.L t = some e ∧ ∀ (j : Nat) (o : Oper), os[j]? = some o → o.dst ≠ some t) := fun t e he => by
     rcases ZW he with g | ⟨g1, g2⟩
     ·exact .inl (qV g)
     ·refine .inr ⟨g2, fun j o hj hd => ?_⟩
      rcases hJS.cov j o hj with g | ⟨g, _⟩ | ⟨it, g3, g4⟩
      ·cases g
      ·rw [hd] at g; cases g
      ·obtain ⟨o', g5, g6⟩ := hJS.dst it g3
       rw [g4, hj] at g5; cases g5
       rw [hd] at g6; cases g6
       exact qU g1 it g3 rfl
    let X1 : Cx := { X' with n := s'.n + 1 }
    have to1 : ∀ {φ : AV} {v : Value}, φ.holds X' w' v → φ.holds X1 w' v := fun {φ v} hv => (φ.mono (X := X') (X' := X1) (w := w') (w' := w') ⟨rfl, zj.refl _ _ _, fun _ _ => rfl, by rw [hJS.rel.n]; exact Nat.le_succ _, rfl⟩ fun _ => Ext.refl _).1 v hv
    refine hK _ a' w' ⟨X1, hJS.rel.go (X' := X1) (s' := { s' with L := Dw C ++ s.L, n := s'.n + 1 }) hJS.rel.fit rfl rfl rfl (fun _ _ => zj.refl _ _ _) (fun _ _ => rfl) rfl hJS.rel.ep (Nat.le_succ _) (Nat.le_succ_of_le hJS.rel.epn) hJS.rel.base (fun hf => ⟨hf, Ext.refl _⟩) (fun _ _ _ => rfl) (fun t e he => .inl ?_) (fun k e he => .inr ⟨he, rfl, fun _ => zj.refl _ _ _⟩) hJS.rel.inj hJS.rel.pos⟩ (hi.trans ⟨?_, fun t e he hlt' => ?_, hJS.im⟩) hrun
    ·rcases hcl t e he with ⟨it, g1, g2, g3⟩ | ⟨g1, g2⟩
     ·subst g3
      refine ⟨Nat.lt_succ_of_le (hJS.st it g1).2, fun hf => ?_⟩
      rw [← g2]; exact to1 (hJS.c it g1 (hlt it g1) hf)
     ·refine ⟨?_, fun hf => to1 (hJS.l t e g1 (fun j o hj hd => absurd hd (g2 j o hj)) hf)⟩
      have := hJS.l0 t e g1; have := hJS.hn; show e.1 < s'.n + 1; omega
    ·exact Nat.le_succ_of_le hJS.hn
    ·rcases hcl t e he with ⟨it, g1, g2, g3⟩ | ⟨g1, g2⟩
     ·rw [← g3] at hlt'
      have := (hJS.st it g1).1
      change it.n < s.n at hlt'
      omega
     ·exact g1
 ·cases h
def exG : AV → Option (Option Bool)
 | .ex (.bool b) => some (some b)
 | .ex (.tuple vs) => match vs.toList with
  | [] => some none
  | _ => none
 | _ => none
theorem lK {φ : AV} {b : Bool} (h : exG φ = some (some b)) : φ = .ex (.bool b) := by
 unfold exG at h; split at h
 ·cases h; rfl
 ·split at h <;> cases h
 ·cases h
theorem lL {φ : AV} (h : exG φ = some none) : φ = .ex undef := by
 unfold exG at h; split at h
 ·cases h
 ·rename_i vs
  split at h
  ·rename_i e
   have : vs = #[] := Array.ext' (by simpa using e)
   rw [this]; rfl
  ·cases h
 ·cases h
def rM (all : List Oper) (i : Nat) : Option Tmp := match all[i]? with
 | some o => o.dst
 | none => none
def rD (b : Option Bool) (w : Bool) : Bool := match b, w with
 | some true, true => true
 | some false, false => true
 | _, _ => false
def Z9 (E : VE) (wr : List Nat) (all : List Oper) (k : S → Comp β) : List Oper → S → Comp β
 | [], s => k s
 | o :: os, s => match o.guard with
  | none => step E wr s o (Z9 E wr all k os)
  | some g => match rM all g.1 with
   | none => Comp.fail
   | some t => match rdO s.ep s.L [] [] (.tmp t) with
    | none => Comp.fail
    | some φ => match exG φ with
     | some b => match rD b g.2 with
      | true => step E wr s o (Z9 E wr all k os)
      | false => Z9 E wr all k os (s.put o.dst (.ex undef))
     | none => match φ.bool? with
      | none => Comp.fail
      | some b => if gB b g.2 = true then step E wr (s.put (some t) (.ex (.bool g.2))) o (Z9 E wr all k os) else Z9 E wr all k os ((s.put (some t) (.ex (.bool (ntB g.2)))).put o.dst (.ex undef))
section
variable {F : Frm} {E : VE} {k : S → Comp β}
theorem Rel.XK {s : S} {a : Act} {w : World} {X : Cx} (h : RelX F s a w X) {t : Nat} {φ : AV} (hφ : ∀ X' : Cx, X'.P = X.P → φ.holds X' w (a.get t)) : Rel F (s.put (some t) φ) a w := by
 refine ⟨{ X with n := s.n + 1 }, h.go h.fit rfl rfl rfl (fun _ _ => zj.refl _ _ _) (fun _ _ => rfl) rfl h.ep (Nat.le_succ _) (Nat.le_succ_of_le h.epn) h.base (fun hf => ⟨hf, Ext.refl _⟩) (fun _ _ _ => rfl) (fun u e he => ?_) (fun k e he => .inr ⟨he, rfl, fun _ => zj.refl _ _ _⟩) h.inj h.pos⟩
 rcases zH he with ⟨h1, h2⟩ | ⟨h1, h2⟩
 ·subst h1 h2; exact .inl ⟨Nat.lt_succ_self _, fun _ => hφ _ rfl⟩
 ·exact .inr ⟨h2, rfl, fun hfr hf => ⟨hf, Ext.refl _⟩⟩
theorem Rel.skip {s : S} {a : Act} {w : World} (h : Rel F s a w) {d : Option Tmp} (hd : F.dst d) : Rel F (s.put d (.ex undef)) (a.put d undef) w := by
 obtain ⟨X, hX⟩ := h
 exact ⟨_, hX.val (Ext.refl w) hd (show (AV.ex undef).holds X w undef from rfl)⟩
theorem Zi {all : List Oper} {a : Act} {g t : Nat} (hd : rM all g = some t) {b : Bool} (h : a.get t = .bool b) : yielded all.toArray a.tmps g = some b := by
 unfold rM at hd
 split at hd
 ·rename_i o ho
  have h1 : all.toArray[g]? = some o := by simpa using ho
  unfold yielded
  simp only [h1, zFq, hd]
  have h2 : a.tmps.getD t undef = .bool b := h
  rw [Array.getD_eq_getD_getElem?] at h2
  cases h3 : a.tmps[t]? with
  | none => rw [h3] at h2; simp [undef] at h2
  | some v => rw [h3] at h2; simp only [Option.getD_some] at h2; subst h2; rfl
 ·cases hd
theorem JE {all : List Oper} {a : Act} {g t : Nat} (hd : rM all g = some t) (h : a.get t = undef) : yielded all.toArray a.tmps g = none := by
 unfold rM at hd
 split at hd
 ·rename_i o ho
  have h1 : all.toArray[g]? = some o := by simpa using ho
  unfold yielded
  simp only [h1, zFq, hd]
  have h2 : a.tmps.getD t undef = undef := h
  rw [Array.getD_eq_getD_getElem?] at h2
  cases h3 : a.tmps[t]? with
  | none => rfl
  | some v => rw [h3] at h2; simp only [Option.getD_some] at h2; subst h2; rfl
 ·cases hd
theorem Mg {b w : Bool} : gB b w = true ↔ b = w := by cases b <;> cases w <;> decide
theorem MX {b w : Bool} (h : ¬ gB b w = true) : b = ntB w := by cases b <;> cases w <;> first | rfl | exact absurd rfl h
theorem Jr (hE : E.ok F.P) (wr : List Nat) {all : List Oper} {nf : Nat} {y : β} {Q : Exit → Act → World → Prop} {s0 : S} : ∀ {os : List Oper} {s : S} {a : Act} {w : World}, Rel F s a w → Inv s0 s → (Z9 E wr all k os s).run nf = some y → (∀ o ∈ os, (∀ c, o.op ≠ .defer c) ∧ F.dst o.dst) →
  (∀ s' a' w', Rel F s' a' w' → Inv s0 s' → (k s').run nf = some y → Q .normal a' w') → jz (F.W Q) all.toArray (Q .normal) os a w
 | [], s, a, w, h, hi, hr, _, hK => hK s a w h hi hr
 | o :: os, s, a, w, h, hi, hr, ho, hK => by
  have h1 := ho o (by simp)
  have ho' : ∀ o ∈ os, (∀ c, o.op ≠ .defer c) ∧ F.dst o.dst := fun o' ho' => ho o' (by simp [ho'])
  have act : ∀ {s : S}, Rel F s a w → Inv s0 s → (step E wr s o (Z9 E wr all k os)).run nf = some y → Region.wanted o (yielded all.toArray a.tmps) = true → jz (F.W Q) all.toArray (Q .normal) (o :: os) a w := fun {s} h hi hr hw => by
   simp only [jz, hw, if_true]
   refine Y3 h1.1 (wL (k := Z9 E wr all k os) hE h wr o h1.2 nf y hr _ _ fun s' v w' hR hi' hr' => ?_)
   exact Jr hE wr hR (hi.trans hi') hr' ho' hK
  have off : ∀ {s : S}, Rel F s a w → Inv s0 s → (Z9 E wr all k os (s.put o.dst (.ex undef))).run nf = some y → Region.wanted o (yielded all.toArray a.tmps) = false → jz (F.W Q) all.toArray (Q .normal) (o :: os) a w := fun {s} h hi hr hw => by
   simp only [jz, hw, Bool.false_eq_true, if_false]
   exact Jr hE wr (h.skip h1.2) (hi.trans (Inv.put _ _ _)) hr ho' hK
  simp only [Z9] at hr
  split at hr
  ·rename_i hg
   exact act h hi hr (by simp [Region.wanted, hg])
  ·rename_i g hg
   have hwant : Region.wanted o (yielded all.toArray a.tmps) = (yielded all.toArray a.tmps g.1 == some g.2) := by simp [Region.wanted, hg]
   split at hr
   ·cases hr
   ·rename_i t ht
    split at hr
    ·cases hr
    ·rename_i φ hφ
     obtain ⟨X, hX⟩ := h
     rw [← hX.ep] at hφ
     have hv : φ.holds X w (a.get t) := hX.rd #[.tmp t] (.tmp t) φ (by simp) hφ
     split at hr
     ·rename_i b hb
      have hy : yielded all.toArray a.tmps g.1 = b := by
       cases b with
       | none => rw [lL hb] at hv; exact JE ht hv
       | some b => rw [lK hb] at hv; exact Zi ht hv
      rw [hy] at hwant
      split at hr
      ·rename_i hw
       refine act ⟨X, hX⟩ hi hr ?_
       rw [hwant]
       unfold rD at hw
       split at hw <;> first | simp_all | cases hw
      ·rename_i hw
       refine off ⟨X, hX⟩ hi hr ?_
       rw [hwant]
       cases b with
       | none => rfl
       | some b =>
        generalize g.2 = v at hw
        cases b <;> cases v <;> first | rfl | (simp [rD] at hw)
     ·split at hr
      ·cases hr
      ·rename_i b hb
       have hab : a.get t = .bool b := by rw [AV.Z8 hb] at hv; exact kf.1 hv
       have hy := Zi ht hab
       rw [hy] at hwant
       split at hr
       ·rename_i hgb
        have e := Mg.1 hgb
        refine act (Rel.XK hX (φ := .ex (.bool g.2)) fun X' _ => (by rw [hab, e]; exact rfl)) (hi.trans (Inv.put _ _ _)) hr ?_
        rw [hwant, e]; simp
       ·rename_i hgb
        have e := MX hgb
        refine off (Rel.XK hX (φ := .ex (.bool (ntB g.2))) fun X' _ => (by rw [hab, e]; exact rfl)) (hi.trans (Inv.put _ _ _)) hr ?_
        rw [hwant, e]; cases g.2 <;> rfl
theorem RX (hLh : ∀ t φ, ¬ F.Lh t φ) (hE : E.ok F.P) {s0 s : S} {a : Act} {w : World} (hR : Rel F s a w) (hi : Inv s0 s) {os : List Oper} {id nf : Nat} {y : β} {Q : Exit → Act → World → Prop}
  (hok : XP F.N os = true) (h : (Z9 E (wrS os) os k os s).run nf = some y) (hK : ∀ s' a' w', Rel F s' a' w' → Inv s0 s' → (k s').run nf = some y → Q .normal a' w') : F.wp (Code.region id os.toArray false) Q a w := by
 have key : jz (F.W Q) os.toArray (Q .normal) os a w := Jr hE (wrS os) hR hi h (fun o ho => ⟨wT hok o ho, fun t ht => ?_⟩) hK
 ·refine wX (fun h => nomatch h) ?_
  show XL (F.W Q) os.toArray (Q .normal) (List.range os.toArray.size) a w
  rw [List.range_eq_range', List.size_toArray, YX os 0 (by simp)]; exact key
 obtain ⟨j, hj⟩ := List.mem_iff_getElem?.1 ho
 exact ⟨((zW (X7 hok) hj).2.1 t ht).1, fun φ => hLh t φ⟩
end
end Go.Den
end
section
namespace Go.Den
open Go Go.RowKit Go.Eng Go.Lift
variable {α β γ δ σ ε : Type}
def KM (body : σ → α → Comp (Comp.Step σ ε)) : List α → σ → Comp (Comp.Step σ ε)
 | [], s => Comp.pure (.next s)
 | x :: xs, s => (body s x).bind fun r => match r with
  | .next s' => KM body xs s'
  | .done e => Comp.pure (.done e)
def S.tick (s : S) : S := { s with n := s.n + 1, ep := s.n }
def pT (n : Nat) : LS → LS
 | [] => []
 | e :: L => (match e.2.2.zw with
  | true => (e.1, n, .top)
  | false => e) :: pT n L
def S.kt (s : S) : S := { s with L := pT s.n s.L, n := s.n + 1 }
def S.back (s : S) (L : LS) : S := { s with L := L }
theorem Inv.tick (s : S) : Inv s s.tick := ⟨Nat.le_succ _, fun _ _ h _ => h, fun _ _ h _ => h⟩
theorem ZJ {n : Nat} : ∀ {L : LS} {t : Nat} {e : Nat × AV}, look (pT n L) t = some e → e.2.zw = false ∧ (look L t = some e ∨ e = (n, .top))
 | [], t, e, h => by cases h
 | f :: L, t, e, h => by
  obtain ⟨t0, n0, φ⟩ := f
  simp only [pT] at h
  cases hf : φ.zw with
  | true =>
   rw [hf] at h
   rcases zH h with ⟨h1, h2⟩ | ⟨h1, h2⟩
   ·exact ⟨by rw [← h2]; rfl, .inr h2.symm⟩
   ·obtain ⟨g1, g2⟩ := ZJ h2
    exact ⟨g1, g2.imp (fun g => by simp only [look]; rw [show Nat.beq t0 t = false by rw [zV]; simpa using h1]; exact g) id⟩
  | false =>
   rw [hf] at h
   rcases zH h with ⟨h1, h2⟩ | ⟨h1, h2⟩
   ·refine ⟨by rw [← h2]; exact hf, .inl ?_⟩
    simp only [look]; rw [show Nat.beq t0 t = true by rw [zV]; simpa using h1]; exact congrArg some h2
   ·obtain ⟨g1, g2⟩ := ZJ h2
    exact ⟨g1, g2.imp (fun g => by simp only [look]; rw [show Nat.beq t0 t = false by rw [zV]; simpa using h1]; exact g) id⟩
theorem Inv.kt (s : S) : Inv s s.kt := ⟨Nat.le_succ _, fun t e h hl => by
 rcases (ZJ h).2 with h1 | h1
 ·exact h1
 ·rw [h1] at hl; exact absurd hl (Nat.lt_irrefl _), fun _ _ h _ => h⟩
section
variable {F : Frm} {s : S} {a : Act} {w w' : World} {X : Cx}
theorem RelX.conv (h : RelX F s a w X) {F' : Frm} {L' : LS} {a' : Act} (hP : F'.P = F.P) (hA : F'.A = F.A) (hO : F'.O0 = F.O0) (hw : F'.w0 = F.w0) (hLh : ∀ t φ, ¬ F'.Lh t φ) (hfe : F'.fe = F.fe) (hbl : F'.bl = F.bl) (hst : F'.x.st = F.x.st)
  (hfit : a'.fitD F'.N F'.D) (hL : XD L' X w a') (hln : ∀ t e, look L' t = some e → e.1 < s.n) (hex : Exx F'.x X w) : RelX F' { s with L := L' } a' w X :=
 ⟨h.P.trans hP.symm, h.A.trans hA.symm, by rw [hw]; exact h.Fn, h.n, h.ep, by rw [hO, hw]; exact h.ok0, hfit, by rw [hA, hO, hw]; exact h.base, hL, h.m, hln, h.mn, h.inj, by rw [hst]; exact h.pos, h.epn, by rw [hfe]; exact h.fe, fun t φ hp => absurd hp (hLh t φ), by rw [hbl]; exact h.bl, hex⟩
theorem RelX.kt (h : RelX F s a w X) (hLh : ∀ t φ, ¬ F.Lh t φ) : RelX F s.kt a w { X with n := s.n + 1 } := by
 have hle : X.le w { X with n := s.n + 1 } w := ⟨rfl, zj.refl _ _ _, fun _ _ => rfl, by rw [h.n]; exact Nat.le_succ _, rfl⟩
 refine h.go h.fit rfl rfl rfl (fun _ _ => zj.refl _ _ _) (fun _ _ => rfl) rfl h.ep (Nat.le_succ _) (Nat.le_succ_of_le h.epn) h.base (fun hf => ⟨hf, Ext.refl _⟩) (fun _ _ _ => rfl) (fun t e he => ?_) (fun k e he => .inr ⟨he, rfl, fun _ => zj.refl _ _ _⟩) h.inj h.pos
 rcases ZJ he with ⟨h1, h2 | h2⟩
 ·exact .inr ⟨h2, rfl, fun hf => by rw [h1] at hf; cases hf⟩
 ·subst h2; exact .inl ⟨Nat.lt_succ_self _, fun _ => trivial⟩
theorem RelX.I3 (h : RelX F s a w X) (hsb : F.x.sb = F.w0.heap.size) (o0 : Obj) : RelX (F.sys fun c o => F.x.sys c o ∨ (c = w.heap.size ∧ o = o0)) s a (w.alloc o0) { X with O := tag X.O (some w.heap.size) F.x.st } := by
 have hE := Ext.alloc w o0
 have hk : KX none X.O w (tag X.O (some w.heap.size) F.x.st) (w.alloc o0) := KX.tag hE fun g hg => by cases hg; exact zFu _
 have hB : Base F.A F.O0 F.w0 (tag X.O (some w.heap.size) F.x.st) (w.alloc o0) := (h.base.step hE h.ok0).tag h.ex.st (fun g hg => by cases hg; exact ⟨h.base.new _ h.base.size, by simp⟩)
 have h1 : RelX F s a (w.alloc o0) { X with O := tag X.O (some w.heap.size) F.x.st } := h.go h.fit rfl rfl rfl (fun _ _ => hk.keep (by simp)) (fun _ _ => rfl) h.n h.ep (zFu _) h.epn hB (fun hf => ⟨hf, hE⟩) (fun _ _ _ => rfl) (fun t e he => .inr ⟨he, rfl, fun _ hf => ⟨hf, hE⟩⟩) (fun k e he => .inr ⟨he, rfl, fun _ => hk.keep (by simp)⟩) h.inj h.pos
 refine ⟨h1.P, h1.A, h1.Fn, h1.n, h1.ep, h1.ok0, h1.fit, h1.base, h1.l, h1.m, h1.ln, h1.mn, h1.inj, h1.pos, h1.epn, h1.fe, h1.lh, h1.bl, h1.ex.st, fun c o hc => ?_, h1.ex.kv, h1.ex.since, h1.ex.L⟩
 rcases hc with hc | ⟨rfl, rfl⟩
 ·exact h1.ex.sys c o hc
 ·exact ⟨⟨World.alloc_heap_new w _, ye _ _ _⟩, show F.x.sb ≤ w.heap.size by rw [hsb]; exact h.base.size⟩
theorem RelX.ext (h : RelX F s a w X) (hE : Ext w w') : RelX F s a w' X :=
 h.go h.fit rfl rfl rfl (fun _ _ => zj.ext hE) (fun _ _ => rfl) h.n h.ep (zFu _) h.epn (h.base.step hE h.ok0) (fun hf => ⟨hf, hE⟩) (fun _ _ _ => rfl) (fun t e he => .inr ⟨he, rfl, fun _ hf => ⟨hf, hE⟩⟩) (fun k e he => .inr ⟨he, rfl, fun _ => zj.ext hE⟩) h.inj h.pos
end
theorem Frm.To.sys {F F' : Frm} (h : F.To F') {b : Nat} {o : Obj} (hs : F.x.sys b o) : F'.x.sys b o := by
 induction h with
 | refl => exact hs
 | mark _ _ _ _ ih => exact .inl ih
theorem Frm.Same.HR {A B C : Frm} {q : Nat → Obj → Prop} (h1 : A.Same B) (h2 : (B.sys q).Same C) : A.Same C :=
 ⟨h2.P.trans h1.P, h2.N.trans h1.N, h2.A.trans h1.A, h2.O0.trans h1.O0, h2.w0.trans h1.w0, h2.Lh.trans h1.Lh, h2.fe.trans h1.fe, h2.bl.trans h1.bl, h2.st.trans h1.st, h2.kv.trans h1.kv, h2.sO.trans h1.sO, h2.sw.trans h1.sw, h2.rd.trans h1.rd, h2.Lp.trans h1.Lp, h2.sb.trans h1.sb, h2.nr.trans h1.nr⟩
def S2 {β : Type} (a : Ty) (x : a.D) (k : AV → Comp β) : Comp β := match a, x with
 | .slo e, x => match (x : Option (List e.D)) with
  | none => k (.ex (.slice none 0 0))
  | some xs => k (.rd (.sl e) xs)
 | a, x => k (.rd a x)
def Ah {β : Type} : List Nat → (t : Ty) → t.D → S → (S → Comp β) → Comp β
 | p :: ps, .cons a b, x, s, k => S2 a x.1 fun φ => Ah ps b x.2 (s.put (some p) φ) k
 | [], .nil, _, s, k => k s
 | _, _, _, _, _ => Comp.fail
theorem Iq {β : Type} {X : Cx} {w : World} {v : Value} {a : Ty} {x : a.D} (h : (a.gr X.P).v X.O w v x) {k : AV → Comp β} {nf : Nat} {y : β} (hr : (S2 a x k).run nf = some y) : ∃ φ, (k φ).run nf = some y ∧ ∀ X' : Cx, X'.P = X.P → X'.O = X.O → φ.holds X' w v := by
 have gen : ∀ {a : Ty} {x : a.D}, (a.gr X.P).v X.O w v x → (k (.rd a x)).run nf = some y → ∃ φ, (k φ).run nf = some y ∧ ∀ X' : Cx, X'.P = X.P → X'.O = X.O → φ.holds X' w v := fun {a x} h hr => ⟨_, hr, fun X' e1 e2 => by show (a.gr X'.P).v X'.O w v x; rw [e1, e2]; exact h⟩
 cases a <;> try exact gen h hr
 rename_i e
 cases x with
 | none =>
  refine ⟨_, hr, fun X' _ _ => ?_⟩
  obtain ⟨cs, h1, h2⟩ := h
  rw [show cs = _ from h1] at h2
  exact h2
 | some xs =>
  refine ⟨_, hr, fun X' e1 e2 => ?_⟩
  obtain ⟨cs, h1, h2⟩ := h
  show ((Ty.sl e).gr X'.P).v X'.O w v xs
  rw [e1, e2]; exact ⟨cs, h1, h2⟩
def YH : List Nat → List Value → Act → Act
 | p :: ps, v :: vs, a => YH ps vs (a.put (some p) v)
 | _, _, a => a
theorem C6 : ∀ (ps : List Nat) (vs : List Value) (a : Act), YH ps vs a = { tmps := (ps.zip vs).foldl (fun t p => t.setIfInBounds p.1 p.2) a.tmps, defers := a.defers }
 | [], _, _ => rfl
 | _ :: _, [], _ => rfl
 | p :: ps, v :: vs, a => by rw [YH, C6 ps vs]; rfl
def Rz (N : Nat) : List Nat → Bool
 | [] => true
 | p :: ps => Nat.blt p N && Rz N ps
theorem Ir {β : Type} {F : Frm} (hLh : ∀ t φ, ¬ F.Lh t φ) {w : World} {k : S → Comp β} {nf : Nat} {y : β} : ∀ {ps : List Nat} {t : Ty} {x : t.D} {vs : List Value} {s : S} {a : Act} {X : Cx}, RelX F s a w X → t.args X.P X.O w vs x → Rz F.N ps = true → (Ah ps t x s k).run nf = some y →
  ∃ s2 X2, RelX F s2 (YH ps vs a) w X2 ∧ X2.O = X.O ∧ Inv s s2 ∧ (k s2).run nf = some y ∧ ps.length = vs.length := by
 intro ps
 induction ps with
 | nil =>
  intro t x vs s a X h ha _ hr
  cases t <;> first | (rw [show vs = [] from ha]; exact ⟨s, X, h, rfl, Inv.refl s, hr, rfl⟩) | cases hr
 | cons p ps ih =>
  intro t x vs s a X h ha hps hr
  cases t <;> first | cases hr | skip
  rename_i p1 q1
  obtain ⟨v, vs', rfl, h1, h2⟩ := ha
  simp only [Ah] at hr
  simp only [Rz, zFs] at hps
  obtain ⟨φ, hr, hφ⟩ := Iq h1 hr
  have h3 := h.val (Ext.refl w) (d := some p) (fun t e => by cases e; exact ⟨by have := hps.1; rw [zb] at this; simpa using this, fun φ => hLh _ φ⟩) (hφ X rfl rfl)
  obtain ⟨s2, X2, g1, g2, g3, g4, g5⟩ := ih h3 (X := { X with n := s.n + 1 }) h2 hps.2 hr
  exact ⟨s2, X2, g1, g2, (Inv.put _ _ _).trans g3, g4, by simp [g5]⟩
def Wu : Option AV → Option ((t : Ty) × Comp (List t.D))
 | some (.rd (.seq t) C) => some ⟨t, C⟩
 | _ => none
theorem QN {o : Option AV} {q : (t : Ty) × Comp (List t.D)} (h : Wu o = some q) : o = some (.rd (.seq q.1) q.2) := by
 unfold Wu at h; split at h
 ·cases h; rfl
 ·cases h
def Yg : Code → Bool
 | .seq a b => Yg a && Yg b
 | .cond _ a b => Yg a && Yg b
 | .block _ a | .loop a | .scope a => Yg a
 | .rangeFunc .. => false
 | _ => true
end Go.Den
end
noncomputable section
namespace Go.Den
open Go Go.RowKit Go.Eng Go.Lift
variable {α β γ δ : Type}
inductive H
 | z
 | s (a b : H)
 | b (a : H)
 | j (sh : Sh) (a b : H)
 | jb (sh : Sh) (a : H)
 | l (sh : Sh) (ex : List (Option Nat × Sh)) (a : H)
 | xr (ch can : List Nat) (kl : List (Nat × List Nat))
 | xg (sh : Sh)
 | f (l : List Nat) (a : H)
 | y
def H.l1 : H → H
 | .s x _ | .j _ x _ | .b x | .jb _ x | .l _ _ x => x
 | .z | .xr .. | .xg _ | .f .. | .y => .z
def H.l2 : H → H
 | .s _ x | .j _ _ x => x
 | _ => .z
def jn (f : α → Comp β) (g : (α → Comp β) → Comp β) : Comp β := g f
def amb {β : Type} (e : Bool) (c1 c2 : Comp β) : Comp β := match e with
 | false => c2
 | true => ⟨fun n => match c1.run n, c2.run n with
  | some x, some y => match Classical.propDecidable (x = y) with
   | isTrue _ => some x
   | isFalse _ => none
  | _, _ => none, by
   intro n m a hnm h
   cases h1 : c1.run n with
   | none => rw [h1] at h; cases h
   | some x =>
    cases h2 : c2.run n with
    | none => rw [h1, h2] at h; cases h
    | some y => rw [h1, h2] at h; rw [c1.mono hnm h1, c2.mono hnm h2]; exact h⟩
theorem wk {β : Type} {e : Bool} {c1 c2 : Comp β} {n : Nat} {y : β} (h : (amb e c1 c2).run n = some y) : c2.run n = some y ∧ (e = true → c1.run n = some y) := by
 cases e with
 | false => exact ⟨h, fun h => nomatch h⟩
 | true =>
  unfold amb at h
  simp only at h
  cases h1 : c1.run n with
  | none => rw [h1] at h; cases h
  | some x =>
   cases h2 : c2.run n with
   | none => rw [h1, h2] at h; cases h
   | some z =>
    rw [h1, h2] at h
    simp only at h
    split at h
    ·rename_i heq _; cases h; subst heq; exact ⟨rfl, fun _ => rfl⟩
    ·cases h
def AV.nb? : Option AV → Option (Bool × Bool)
 | some (.nb p e) => some (p, e)
 | _ => none
theorem AV.V6 {o : Option AV} {q : Bool × Bool} (h : AV.nb? o = some q) : o = some (.nb q.1 q.2) := by
 unfold AV.nb? at h; split at h
 ·cases h; rfl
 ·cases h
def zCq {β : Type} (p e : Bool) (c1 c2 : Comp β) : Comp β := match p with
 | true => amb e c1 c2
 | false => amb e c2 c1
theorem Ix {β : Type} {p e b : Bool} {c1 c2 : Comp β} {n : Nat} {y : β} (h : (zCq p e c1 c2).run n = some y) (hb : b = p → e = true) : (b = true → c1.run n = some y) ∧ (b = false → c2.run n = some y) := by
 cases p with
 | true => exact ⟨fun h1 => (wk h).2 (hb h1), fun _ => (wk h).1⟩
 | false => exact ⟨fun _ => (wk h).1, fun h1 => (wk h).2 (hb h1)⟩
def goJ (G : FE) (sh : Sh) (s s' : S) (j : sh.D → Comp β) : Comp β := match sh.get G s s' with
 | some x => j x
 | none => Comp.fail
def ED : List (Option Nat × Sh) → Type
 | [] => Empty
 | [e] => e.2.D
 | e :: e' :: l => Sum e.2.D (ED (e' :: l))
def eqO : Option Nat → Option Nat → Bool
 | none, none => true
 | some a, some b => Nat.beq a b
 | _, _ => false
theorem Mn {a b : Option Nat} (h : eqO a b = true) : a = b := by
 cases a <;> cases b <;> simp_all [eqO]
def Nk (G : FE) (s : S) (o : Option Nat) (s' : S) : (l : List (Option Nat × Sh)) → Option (ED l)
 | [] => none
 | [e] => match eqO e.1 o with
  | true => e.2.get G s s'
  | false => none
 | e :: e' :: l => match eqO e.1 o with
  | true => match e.2.get G s s' with
   | some x => some (Sum.inl x : Sum e.2.D (ED (e' :: l)))
   | none => none
  | false => match Nk G s o s' (e' :: l) with
   | some x => some (Sum.inr x : Sum e.2.D (ED (e' :: l)))
   | none => none
def ku {σ : Type} (G : FE) (s : S) (l : List (Option Nat × Sh)) (o : Option Nat) (s' : S) : Comp (Comp.Step σ (ED l)) := match Nk G s o s' l with
 | some x => Comp.pure (.done x)
 | none => Comp.fail
def toE (s : S) (ex : Nat → S → Comp β) (rt : S → Comp β) (e : Option Nat × Sh) (x : e.2.D) : Comp β := match e.1 with
 | some i => ex i (e.2.put s x)
 | none => rt (e.2.put s x)
def Dx (s : S) (ex : Nat → S → Comp β) (rt : S → Comp β) : (l : List (Option Nat × Sh)) → ED l → Comp β
 | [], x => nomatch x
 | [e], x => toE s ex rt e x
 | e :: e' :: l, x => match (x : Sum e.2.D (ED (e' :: l))) with
  | .inl x => toE s ex rt e x
  | .inr x => Dx s ex rt (e' :: l) x
def JU {ε : Type} (G : FE) (sh : Sh) (s s' : S) : Comp (Comp.Step sh.D ε) := match sh.get G s s' with
 | some x => Comp.pure (.next x)
 | none => Comp.fail
def tY (s : S) : List Nat → List AV
 | [] => []
 | t :: l => match look s.L t with
  | some e => e.2 :: tY s l
  | none => tY s l
def G0 {β : Type} (E : VE) (ops : Array Oper) (draw : Bool) (h : H) (s : S) (k : S → Comp β) : Comp β := match h with
 | .xr ch can kl => zAD E ops.toList ch can kl s k
 | .xg sh => match draw with
  | false => jn (fun x => k (sh.put s x)) fun j => Z9 E (wrS ops.toList) ops.toList (fun s' => goJ E.G sh s s' j) ops.toList s
  | true => Comp.fail
 | _ => zCj E draw ops.toList s k
def den (E : VE) : Code → (β : Type) → H → S → (S → Comp β) → (Nat → S → Comp β) → (S → Comp β) → Comp β
 | .skip, _, _, s, k, _, _ => k s
 | .label _, _, _, s, k, _, _ => k s
 | .region _ ops draw, _, h, s, k, _, _ => match h with
  | .f l h' => G0 E ops draw h' (s.Zq E (tY s l)) k
  | h => G0 E ops draw h s k
 | .seq a b, β, h, s, k, ex, rt => den E a β h.l1 s (fun s' => den E b β h.l2 s' k ex rt) ex rt
 | .cond c t e, β, h, s, k, ex, rt => match (rdO s.ep s.L [] [] c).bind AV.bool? with
  | none => match AV.nb? (rdO s.ep s.L [] [] c) with
   | some q => zCq q.1 q.2 (den E t β h.l1 s k ex rt) (den E e β h.l2 s k ex rt)
   | none => Comp.fail
  | some b => match h with
   | .j sh h1 h2 => jn (fun x => k (sh.put s x)) fun j => if b = true then den E t β h1 s (fun s' => goJ E.G sh s s' j) ex rt else den E e β h2 s (fun s' => goJ E.G sh s s' j) ex rt
   | h => if b = true then den E t β h.l1 s k ex rt else den E e β h.l2 s k ex rt
 | .block id c, β, h, s, k, ex, rt => match h with
  | .jb sh h1 => jn (fun x => k (sh.put s x)) fun j => den E c β h1 s (fun s' => goJ E.G sh s s' j) (fun i s' => match Nat.beq i id with | true => goJ E.G sh s s' j | false => ex i s') rt
  | h => den E c β h.l1 s k (fun i s' => match Nat.beq i id with | true => k s' | false => ex i s') rt
 | .loop c, β, h, s, k, ex, rt => match h with
  | .l sh l h1 => match sh.get E.G s s with
   | none => Comp.fail
   | some x0 => (Comp.loop (fun x => den E c (Comp.Step sh.D (ED l)) h1 (sh.put s x) (JU E.G sh s) (fun i s' => ku E.G s l (some i) s') (ku E.G s l none)) x0).bind (Dx s ex rt l)
  | _ => Comp.fail
 | .scope c, β, h, s, k, ex, rt => den E c β h.l1 s k ex rt
 | .exit i, _, _, s, _, ex, _ => ex i s
 | .ret, _, _, s, _, _, rt => rt s
 | .rangeFunc g ps asg bd, β, h, s, k, ex, rt => match h with
  | .l sh l h1 => match Wu (rdO s.ep s.L [] [] g), sh.get E.G s.kt s.kt with
   | some q, some x0 => q.2.bind fun xs => (KM (fun x d => Ah ps.toList q.1 d (sh.put s.kt x) fun s2 => den E asg (Comp.Step sh.D (ED l)) h1.l1 s2
     (fun s3 => den E bd (Comp.Step sh.D (ED l)) h1.l2 s3.tick (fun s' => JU E.G sh s.kt (s'.back s.kt.L).tick) (fun i s' => ku E.G s.kt l (some i) (s'.back s.kt.L).tick) (fun s' => ku E.G s.kt l none (s'.back s.kt.L).tick))
     (fun _ _ => Comp.fail) (fun _ => Comp.fail)) xs x0).bind fun r => match r with
    | .next x => k (sh.put s.kt x).tick
    | .done e => Dx s.kt (fun i s' => ex i s'.tick) (fun s' => rt s'.tick) l e
   | _, _ => Comp.fail
  | _ => Comp.fail
 | _, _, _, _, _, _, _ => Comp.fail
def okC (N : Nat) : Code → Bool
 | .region _ ops _ => XP N ops.toList
 | .seq a b => okC N a && okC N b
 | .cond _ a b => okC N a && okC N b
 | .block _ a | .loop a | .scope a => okC N a
 | .rangeFunc _ ps a b => okC N a && (okC N b && (Yg a && (Yg b && Rz N ps.toList)))
 | _ => true
theorem qI {F : Fence} {n : Nat} {P : Program} {Q : Exit → Act → World → Prop} {c : Code} (I : Nat → Act → World → Prop) (round : ∀ m a w, I m a w → c.wpIn F n P (Exit.then (fun a' w' => ∃ m', m' < m ∧ I m' a' w') Q) a w) {m : Nat} {a : Act} {w : World} (h₀ : I m a w) : (Code.loop c).wpIn F n P Q a w := by
 intro b k cs hro hb hr
 have key : ∀ j a w, I j a w → ∃ e a' w', Q e a' w' ∧ ArrivesIn (Machine.fenced P F) P (lone (b.atR a (.code c :: .inLoop c :: k)) cs w) b k cs e a' w' := by
  intro j
  induction j using Nat.strongRecOn with
  | _ j ih =>
   intro a w hI
   obtain ⟨e, a₁, w₁, hq, harr⟩ := round j a w hI b (.inLoop c :: k) cs hro hb hr
   cases e with
   | normal =>
    obtain ⟨m', hlt, hI₁⟩ := hq
    obtain ⟨e₂, a₂, w₂, hq₂, harr₂⟩ := ih m' hlt a₁ w₁ hI₁
    exact ⟨e₂, a₂, w₂, hq₂, .of_steps (StepsIn.trans harr (.one (fenced_calm hb hr rfl) stepR_inLoop)) harr₂⟩
   | exit id => exact ⟨_, a₁, w₁, hq, .pass (x := .inLoop c) rfl (fun _ _ => .inl (by simp)) harr⟩
   | goto l => exact ⟨_, a₁, w₁, hq, .pass (x := .inLoop c) rfl (fun _ _ => .inl (by simp)) harr⟩
   | ret => exact ⟨_, a₁, w₁, hq, .pass (x := .inLoop c) rfl (fun _ _ => .inl (by simp)) harr⟩
   | panic ch => exact ⟨_, a₁, w₁, hq, .pass (x := .inLoop c) rfl (fun _ _ => .inl (by simp)) harr⟩
   | outgrown => exact ⟨_, a₁, w₁, hq, .pass (x := .inLoop c) rfl (fun _ _ => .inl (by simp)) harr⟩
 obtain ⟨e, a', w', hq, harr⟩ := key _ a w h₀
 exact ⟨e, a', w', hq, .of_steps (.one (fenced_calm hb hr rfl) stepR_loop) harr⟩
theorem w7 {F : Fence} {n : Nat} {P : Program} {Q : Exit → Act → World → Prop} {c : Code} {a : Act} {w : World} (h : c.wpIn F n P (Exit.noGoto Q) a w) : (Code.scope c).wpIn F n P Q a w := by
 intro b k cs hro hb hr
 have h0 : (lone (b.atR a (.code (.scope c) :: k)) cs w).fenced P F := fenced_calm hb hr rfl
 obtain ⟨e, a₁, w₁, hq, harr⟩ := h b (.inScope c :: k) cs hro hb hr
 cases e with
 | normal => exact ⟨.normal, a₁, w₁, hq, .head h0 kK (StepsIn.trans harr (.one (fenced_calm hb hr rfl) tx))⟩
 | exit id =>
  have hx : exitTo id (.inScope c :: k) = exitTo id k := by simp [exitTo]
  exact ⟨.exit id, a₁, w₁, hq, fun k' hk => .head h0 kK (harr.1 k' (by rw [hx]; exact hk)), fun hr' hk => let ⟨k₁, h1, h2⟩ := harr.2 hr' (by rw [hx]; exact hk); ⟨k₁, h1, .head h0 kK h2⟩⟩
 | goto l => exact hq.elim
 | ret => exact ⟨_, a₁, w₁, hq, .of_steps (.one h0 kK) harr⟩
 | panic ch => exact ⟨_, a₁, w₁, hq, .of_steps (.one h0 kK) harr⟩
 | outgrown => exact ⟨_, a₁, w₁, hq, .of_steps (b := b) (k := k) (cs := cs) (e := .outgrown) (.one h0 kK) harr⟩
section
variable {F : Frm} {E : VE}
structure Ways (F : Frm) (s0 : S) (nf : Nat) {β : Type} (y : β) (k : S → Comp β) (ex : Nat → S → Comp β) (rt : S → Comp β) (Q : Exit → Act → World → Prop) : Prop where
 k : ∀ F' s' a' w', F.To F' → Rel F' s' a' w' → Inv s0 s' → (k s').run nf = some y → Q .normal a' w'
 ex : ∀ i F' s' a' w', F.To F' → Rel F' s' a' w' → Inv s0 s' → (ex i s').run nf = some y → Q (.exit i) a' w'
 rt : ∀ F' s' a' w', F.To F' → Rel F' s' a' w' → Inv s0 s' → (rt s').run nf = some y → Q .ret a' w'
theorem Ways.to {F F' : Frm} {s0 : S} {nf : Nat} {β : Type} {y : β} {k : S → Comp β} {ex : Nat → S → Comp β} {rt : S → Comp β} {Q : Exit → Act → World → Prop} (h : Ways F s0 nf y k ex rt Q) (ht : F.To F') : Ways F' s0 nf y k ex rt Q :=
 ⟨fun F2 s' a' w' g => h.k F2 s' a' w' (ht.trans g), fun i F2 s' a' w' g => h.ex i F2 s' a' w' (ht.trans g), fun F2 s' a' w' g => h.rt F2 s' a' w' (ht.trans g)⟩
theorem tI (hLh : ∀ t φ, ¬ F.Lh t φ) (hE : E.ok F.P) {s s1 : S} {a0 a1 : Act} {w0 w1 : World} {F0 : Frm} (hff : F.kin F0) (h0 : Rel F0 s a0 w0) (h1 : Rel F s1 a1 w1) (hi : Inv s s1) {sh : Sh} {j : sh.D → Comp β} {nf : Nat} {y : β} (h : (goJ E.G sh s s1 j).run nf = some y) :
  ∃ x, Rel F (sh.put s x) a1 w1 ∧ Inv s (sh.put s x) ∧ (j x).run nf = some y := by
 unfold goJ at h
 split at h
 ·rename_i x hx
  obtain ⟨g1, g2⟩ := Zw hLh hE hff h0 h1 hi hx
  exact ⟨x, g1, g2, h⟩
 ·cases h
theorem wW (hLh : ∀ t φ, ¬ F.Lh t φ) (hE : E.ok F.P) {s s1 : S} {a0 a1 : Act} {w0 w1 : World} {F0 : Frm} (hff : F.kin F0) (h0 : Rel F0 s a0 w0) (h1 : Rel F s1 a1 w1) (hi : Inv s s1) {o : Option Nat} {ex : Nat → S → Comp β} {rt : S → Comp β} {nf : Nat} {y : β} : ∀ {l : List (Option Nat × Sh)} {x : ED l}, Nk E.G s o s1 l = some x → (Dx s ex rt l x).run nf = some y →
  ∃ s', Rel F s' a1 w1 ∧ Inv s s' ∧ (match o with | some i => ex i s' | none => rt s').run nf = some y
 | [], x, h, _ => nomatch x
 | [e], x, h, hr => by
  simp only [Nk] at h
  split at h
  ·rename_i he
   obtain ⟨g1, g2⟩ := Zw hLh hE hff h0 h1 hi h
   have := Mn he
   subst this
   refine ⟨_, g1, g2, ?_⟩
   simp only [Dx, toE] at hr
   split at hr <;> rename_i he2 <;> first | exact hr | (rw [he2]; exact hr)
  ·cases h
 | e :: e' :: l, x, h, hr => by
  simp only [Nk] at h
  split at h
  ·rename_i he
   split at h
   ·rename_i x1 hx
    cases h
    obtain ⟨g1, g2⟩ := Zw hLh hE hff h0 h1 hi hx
    have := Mn he
    subst this
    refine ⟨_, g1, g2, ?_⟩
    simp only [Dx, toE] at hr
    split at hr <;> rename_i he2 <;> first | exact hr | (rw [he2]; exact hr)
   ·cases h
  ·split at h
   ·rename_i x1 hx
    cases h
    exact wW hLh hE hff h0 h1 hi hx hr
   ·cases h
theorem wP (hLh : ∀ t φ, ¬ F.Lh t φ) (hE : E.ok F.P) (hm : F.P.follows .mixedOrders = true) (hsb : F.x.sb ≤ F.w0.heap.size) {id : Nat} {ops : Array Oper} {draw : Bool} (hok : XP F.N ops.toList = true) {β : Type} {h : H} {s0 s : S} {a : Act} {w : World} {k : S → Comp β} {nf : Nat} {y : β} {Q : Exit → Act → World → Prop}
  (hR : Rel F s a w) (hi : Inv s0 s) (hr : (G0 E ops draw h s k).run nf = some y) (hk : ∀ s' a' w', Rel F s' a' w' → Inv s0 s' → (k s').run nf = some y → Q .normal a' w') : F.wp (Code.region id ops draw) Q a w := by
 unfold G0 at hr
 split at hr
 ·have := RV (id := id) (draw := draw) hLh hE hR hi hm hsb hok hr hk
  simpa using this
 ·rename_i sh
  split at hr
  ·dsimp only [jn] at hr
   have := RX (id := id) hLh hE hR (Inv.refl s) hok hr (Q := Q) fun s' a' w' g1 g2 g3 => by
    obtain ⟨x, q1, q2, q3⟩ := tI hLh hE (Frm.Jw F) hR g1 g2 g3
    exact hk _ _ _ q1 (hi.trans q2) q3
   simpa using this
  ·cases hr
 ·have := RW (id := id) hLh hE hR hi hm hok hr hk
  simpa using this
theorem tK : ∀ (c : Code), ∀ {F : Frm}, F.P.follows .mixedOrders = true → (∀ t φ, ¬ F.Lh t φ) → E.ok F.P → okC F.N c = true → ((F.x.rd = none ∧ F.x.nr = false) ∨ Yg c = true) → F.x.sb = F.w0.heap.size → ∀ {β : Type} {h : H} {s0 s : S} {a : Act} {w : World} {k : S → Comp β} {ex : Nat → S → Comp β} {rt : S → Comp β} {nf : Nat} {y : β} {Q : Exit → Act → World → Prop},
  Rel F s a w → Inv s0 s → (den E c β h s k ex rt).run nf = some y → Ways F s0 nf y k ex rt Q → F.wp c Q a w := by
 intro c
 induction c with
 | skip => intro F hm hLh hE _ hrd hsb β h s0 s a w k ex rt nf y Q hR hi hr hW; exact wpIn_skip (hW.k F s a w (.refl F) hR hi hr)
 | label l => intro F hm hLh hE _ hrd hsb β h s0 s a w k ex rt nf y Q hR hi hr hW; exact wpIn_label (hW.k F s a w (.refl F) hR hi hr)
 | exit i => intro F hm hLh hE _ hrd hsb β h s0 s a w k ex rt nf y Q hR hi hr hW; exact wpIn_exit (hW.ex i F s a w (.refl F) hR hi hr)
 | ret => intro F hm hLh hE _ hrd hsb β h s0 s a w k ex rt nf y Q hR hi hr hW; exact wpIn_ret (hW.rt F s a w (.refl F) hR hi hr)
 | region id ops draw =>
  intro F hm hLh hE hok hrd hsb β h s0 s a w k ex rt nf y Q hR hi hr hW
  simp only [den] at hr
  split at hr
  ·rename_i l h'
   exact wP hLh hE hm (Nat.le_of_eq hsb) hok (Rel.Zq hE hR _) (hi.trans (Inv.Zq _ _)) hr fun s' a' w' => hW.k F s' a' w' (.refl F)
  ·exact wP hLh hE hm (Nat.le_of_eq hsb) hok hR hi hr fun s' a' w' => hW.k F s' a' w' (.refl F)
 | seq x z ihx ihz =>
  intro F hm hLh hE hok hrd hsb β h s0 s a w k ex rt nf y Q hR hi hr hW
  simp only [okC, zFs] at hok
  simp only [den] at hr
  have hrd1 : (F.x.rd = none ∧ F.x.nr = false) ∨ Yg x = true := hrd.imp id fun h => by simp only [Yg, zFs] at h; exact h.1
  have hrd2 : (F.x.rd = none ∧ F.x.nr = false) ∨ Yg z = true := hrd.imp id fun h => by simp only [Yg, zFs] at h; exact h.2
  refine wpIn_seq (ihx hm hLh hE hok.1 hrd1 hsb hR hi hr ⟨fun F' s' a' w' h0 h1 h2 h3 => ?_, hW.ex, hW.rt⟩)
  have hs := h0.same
  have := ihz (F := F') (by rw [hs.P]; exact hm) (by rw [hs.Lh]; exact hLh) (by rw [hs.P]; exact hE) (by rw [hs.N]; exact hok.2) (by rw [hs.rd, hs.nr]; exact hrd2) (by rw [hs.sb, hs.w0]; exact hsb) h1 h2 h3 (hW.to h0)
  unfold Frm.wp at this
  rwa [hs.P, hs.rd] at this
 | scope x ih =>
  intro F hm hLh hE hok hrd hsb β h s0 s a w k ex rt nf y Q hR hi hr hW
  simp only [den] at hr
  exact w7 (ih hm hLh hE hok hrd hsb hR hi hr ⟨hW.k, hW.ex, hW.rt⟩)
 | cond c t e iht ihe =>
  intro F hm hLh hE hok hrd hsb β h s0 s a w k ex rt nf y Q hR hi hr hW
  have hrd1 : (F.x.rd = none ∧ F.x.nr = false) ∨ Yg t = true := hrd.imp id fun h => by simp only [Yg, zFs] at h; exact h.1
  have hrd2 : (F.x.rd = none ∧ F.x.nr = false) ∨ Yg e = true := hrd.imp id fun h => by simp only [Yg, zFs] at h; exact h.2
  simp only [okC, zFs] at hok
  simp only [den] at hr
  split at hr
  ·split at hr
   ·rename_i q hq
    obtain ⟨b, hc, hb⟩ : ∃ b, a.eval c = .bool b ∧ (b = q.1 → q.2 = true) := by
     obtain ⟨X, hX⟩ := hR
     have hq := AV.V6 hq
     rw [← hX.ep] at hq
     exact hX.rd #[c] c _ (by simp) hq
    have hr := Ix hr hb
    exact wpIn_cond_split hc (fun hbt => iht hm hLh hE hok.1 hrd1 hsb hR hi (hr.1 hbt) hW) (fun hbf => ihe hm hLh hE hok.2 hrd2 hsb hR hi (hr.2 hbf) hW)
   ·cases hr
  ·rename_i b hb
   have hc : a.eval c = .bool b := by
    obtain ⟨X, hX⟩ := hR
    rw [← hX.ep] at hb
    cases h1 : rdO X.ep s.L [] [] c with
    | none => rw [h1] at hb; cases hb
    | some φ => rw [h1] at hb; exact Yv (hX.rd #[c] c φ (by simp) h1) hb
   split at hr
   ·rename_i sh h1 h2
    dsimp only [jn] at hr
    have hW' : Ways F s nf y (fun s' => goJ E.G sh s s' (fun x => k (sh.put s x))) ex rt Q := by
     refine ⟨fun F' s' a' w' g0 g1 g2 g3 => ?_, fun i F' s' a' w' g0 g1 g2 g3 => hW.ex i F' s' a' w' g0 g1 (hi.trans g2) g3, fun F' s' a' w' g0 g1 g2 g3 => hW.rt F' s' a' w' g0 g1 (hi.trans g2) g3⟩
     have hs := g0.same
     obtain ⟨x, q1, q2, q3⟩ := tI (F := F') (by rw [hs.Lh]; exact hLh) (by rw [hs.P]; exact hE) hs.kin hR g1 g2 g3
     exact hW.k _ _ _ _ g0 q1 (hi.trans q2) q3
    refine wpIn_cond_split hc (fun hbt => ?_) (fun hbf => ?_)
    ·rw [if_pos hbt] at hr; exact iht hm hLh hE hok.1 hrd1 hsb hR (Inv.refl s) hr hW'
    ·rw [if_neg (by rw [hbf]; simp)] at hr; exact ihe hm hLh hE hok.2 hrd2 hsb hR (Inv.refl s) hr hW'
   ·refine wpIn_cond_split hc (fun hbt => ?_) (fun hbf => ?_)
    ·rw [if_pos hbt] at hr; exact iht hm hLh hE hok.1 hrd1 hsb hR hi hr hW
    ·rw [if_neg (by rw [hbf]; simp)] at hr; exact ihe hm hLh hE hok.2 hrd2 hsb hR hi hr hW
 | block id x ih =>
  intro F hm hLh hE hok hrd hsb β h s0 s a w k ex rt nf y Q hR hi hr hW
  simp only [den] at hr
  refine wpIn_block ?_
  split at hr
  ·rename_i sh h1
   dsimp only [jn] at hr
   have hk : ∀ F' s' a' w', F.To F' → Rel F' s' a' w' → Inv s s' → (goJ E.G sh s s' (fun x => k (sh.put s x))).run nf = some y → Q .normal a' w' := by
    intro F' s' a' w' g0 g1 g2 g3
    have hs := g0.same
    obtain ⟨x, q1, q2, q3⟩ := tI (F := F') (by rw [hs.Lh]; exact hLh) (by rw [hs.P]; exact hE) hs.kin hR g1 g2 g3
    exact hW.k _ _ _ _ g0 q1 (hi.trans q2) q3
   refine ih hm hLh hE hok hrd hsb hR (Inv.refl s) hr ⟨fun F' s' a' w' g0 g1 g2 g3 => hk F' s' a' w' g0 g1 g2 g3, fun i F' s' a' w' g0 g1 g2 g3 => ?_, fun F' s' a' w' g0 g1 g2 g3 => hW.rt F' s' a' w' g0 g1 (hi.trans g2) g3⟩
   show (if i = id then Q .normal a' w' else Q (.exit i) a' w')
   cases hb : Nat.beq i id with
   | true => rw [hb] at g3; rw [if_pos (zFr hb)]; exact hk F' s' a' w' g0 g1 g2 g3
   | false =>
    rw [hb] at g3
    rw [zV] at hb
    rw [if_neg (by simpa using hb)]; exact hW.ex i F' s' a' w' g0 g1 (hi.trans g2) g3
  ·refine ih hm hLh hE hok hrd hsb hR hi hr ⟨fun F' s' a' w' g0 g1 g2 g3 => hW.k F' s' a' w' g0 g1 g2 g3, fun i F' s' a' w' g0 g1 g2 g3 => ?_, fun F' s' a' w' g0 g1 g2 g3 => hW.rt F' s' a' w' g0 g1 g2 g3⟩
   show (if i = id then Q .normal a' w' else Q (.exit i) a' w')
   cases hb : Nat.beq i id with
   | true => rw [hb] at g3; rw [if_pos (zFr hb)]; exact hW.k F' s' a' w' g0 g1 g2 g3
   | false =>
    rw [hb] at g3
    rw [zV] at hb
    rw [if_neg (by simpa using hb)]; exact hW.ex i F' s' a' w' g0 g1 g2 g3
 | loop x ih =>
  intro F hm hLh hE hok hrd hsb β h s0 s a w k ex rt nf y Q hR hi hr hW
  simp only [den] at hr
  split at hr
  ·rename_i sh l h1
   split at hr
   ·cases hr
   ·rename_i x0 hx0
    obtain ⟨e, he, hr⟩ := run_bind hr
    obtain ⟨g1, g2⟩ := Zw hLh hE (Frm.Jw F) hR hR (Inv.refl s) hx0
    refine qI (fun m a' w' => ∃ F' x, F.To F' ∧ Rel F' (sh.put s x) a' w' ∧ Inv s (sh.put s x) ∧ Comp.Yj (fun x => den E _ (Comp.Step sh.D (ED l)) h1 (sh.put s x) (JU E.G sh s) (fun i s' => ku E.G s l (some i) s') (ku E.G s l none)) nf m x = some e) (fun m a' w' hI => ?_) ⟨F, x0, .refl F, g1, g2, uc he⟩
    obtain ⟨F', x, q0, q1, q2, q3⟩ := hI
    have hs := q0.same
    obtain ⟨m', hlt, st, hst, hn, hd⟩ := uH q3
    have hdone : ∀ (o : Option Nat) (F2 : Frm) (s' : S) (a2 : Act) (w2 : World), F'.To F2 → Rel F2 s' a2 w2 → Inv s s' → (ku (σ := sh.D) E.G s l o s').run nf = some st → ∃ s2, Rel F2 s2 a2 w2 ∧ Inv s s2 ∧ (match o with | some i => ex i s2 | none => rt s2).run nf = some y := by
     intro o F2 s' a2 w2 f0 f1 f2 f3
     have hs2 := (q0.trans f0).same
     unfold ku at f3
     split at f3
     ·rename_i z hz
      have hst := run_pure f3
      have := hd z hst.symm
      subst this
      exact wW (F := F2) (by rw [hs2.Lh]; exact hLh) (by rw [hs2.P]; exact hE) hs2.kin hR f1 f2 hz hr
     ·cases f3
    have hgoal : ∀ {cc : Code} {R : Exit → Act → World → Prop}, F'.wp cc R a' w' → cc.wpIn (fw F.x.rd) 0 F.P R a' w' := fun {cc R} h => by
     unfold Frm.wp at h
     rwa [hs.P, hs.rd] at h
    refine hgoal (ih (F := F') (by rw [hs.P]; exact hm) (by rw [hs.Lh]; exact hLh) (by rw [hs.P]; exact hE) (by rw [hs.N]; exact hok) (by rw [hs.rd, hs.nr]; exact hrd) (by rw [hs.sb, hs.w0]; exact hsb) q1 q2 hst ⟨fun F2 s' a2 w2 f0 f1 f2 f3 => ?_, fun i F2 s' a2 w2 f0 f1 f2 f3 => ?_, fun F2 s' a2 w2 f0 f1 f2 f3 => ?_⟩)
    ·have hs2 := (q0.trans f0).same
     unfold JU at f3
     split at f3
     ·rename_i z hz
      have hst := run_pure f3
      obtain ⟨r1, r2⟩ := Zw (F := F2) (by rw [hs2.Lh]; exact hLh) (by rw [hs2.P]; exact hE) hs2.kin hR f1 f2 hz
      exact ⟨m', hlt, F2, z, q0.trans f0, r1, r2, hn z hst.symm⟩
     ·cases f3
    ·obtain ⟨s2, r1, r2, r3⟩ := hdone (some i) F2 s' a2 w2 f0 f1 f2 f3
     exact hW.ex i F2 s2 a2 w2 (q0.trans f0) r1 (hi.trans r2) r3
    ·obtain ⟨s2, r1, r2, r3⟩ := hdone none F2 s' a2 w2 f0 f1 f2 f3
     exact hW.rt F2 s2 a2 w2 (q0.trans f0) r1 (hi.trans r2) r3
  ·cases hr
 | goto l => intro F hm hLh hE _ hrd hsb β h s0 s a w k ex rt nf y Q hR hi hr hW; cases hr
 | refuse l => intro F hm hLh hE _ hrd hsb β h s0 s a w k ex rt nf y Q hR hi hr hW; cases hr
 | rangeFunc g ps asg bd iha ihb =>
  intro F hm hLh hE hok hrd hsb β h s0 s a w k ex rt nf y Q hR hi hr hW
  obtain ⟨hrd, hnr⟩ := hrd.resolve_right (by simp [Yg])
  simp only [okC, zFs] at hok
  obtain ⟨hoka, hokb, hna, hnb, hps⟩ := hok
  simp only [den] at hr
  split at hr
  case h_2 => cases hr
  rename_i sh l h1
  split at hr
  case h_2 => cases hr
  rename_i q x0 hq hx0
  obtain ⟨xs, hxs, hr⟩ := run_bind hr
  obtain ⟨r, hr1, hr2⟩ := run_bind hr
  obtain ⟨X, hX⟩ := hR
  -- the function
  have hq := QN hq
  rw [← hX.ep] at hq
  obtain ⟨cs, ⟨f, us, e1, hf, hC⟩, e2⟩ := hX.rd #[g] g _ (by simp) hq
  have hg : a.eval g = .func (.func f) #[] us.toArray := by rw [e2, e1]; rfl
  clear e1 e2 cs
  have his : Inv s0 s.kt := hi.trans (Inv.kt s)
  generalize hs1 : s.kt = s1 at *
  have hX1 : RelX F s1 a w { X with n := s.n + 1 } := hs1 ▸ hX.kt hLh
  have hnf : ∀ t e, look s1.L t = some e → e.2.zw = false := fun t e he => by rw [← hs1] at he; exact (ZJ he).1
  have hkv0 : ∀ t e, look s1.L t = some e → e.2.holds { X with n := s.n + 1 } w (a.get t) := fun t e he => hX1.l t e he (by simp [fresh, hnf t e he])
  unfold Frm.wp
  rw [hrd]
  refine wpIn_rangeFunc (F := fw none) fun fn _ => ?_
  -- the machine's blocks
  let D := w.heap.size
  let r0 : Loop := { state := .ready, pending := none, fn := fn, tmps := a.tmps, params := ps, assign := asg, body := bd, defers := D }
  let wE := (w.alloc (.deferred (some []))).alloc (.loop r0)
  let qS : Loop → Nat → Obj → Prop := fun r c o => (F.x.sys c o ∨ (c = D ∧ o = .deferred (some []))) ∨ (c = D + 1 ∧ o = .loop r)
  let kv1 : Value → AV → Prop := fun v φ => F.x.kv v φ ∨ ∃ t e, look s1.L t = some e ∧ v = a.get t ∧ φ = e.2
  let FJ : Loop → Frm := fun r => { F with x := { F.x with sys := qS r, kv := kv1, sO := X.O, sw := w } }
  have hsz : (w.alloc (.deferred (some []))).heap.size = D + 1 := by simp [D]
  have hsysF : ∀ c o, F.x.sys c o → c < D := fun c o hc => (Array.getElem?_eq_some_iff.1 (hX.ex.sys c o hc).1.1).1
  have hX2 := (hX1.I3 hsb (.deferred (some []))).I3 hsb (.loop r0)
  rw [hsz] at hX2
  have hExt : Ext w wE := (Ext.alloc w _).trans (Ext.alloc _ _)
  let XE : Cx := { X with n := s.n + 1, O := tag (tag X.O (some D) F.x.st) (some (D + 1)) F.x.st }
  have hX2 : RelX { F with x := { F.x with sys := qS r0 } } s1 a wE XE := hX2
  have hKE : zj 0 X.O w XE.O wE := by
   refine ⟨hExt.size, fun b hb h0 => ⟨?_, hExt.block b hb⟩⟩
   show tag (tag X.O (some D) F.x.st) (some (D + 1)) F.x.st b = 0
   rw [vr (by simp only [D]; intro e; cases e; omega), vr (by simp only [D]; intro e; cases e; omega)]; exact h0
  have hleE : ({ X with n := s.n + 1 } : Cx).le w XE wE := ⟨rfl, hKE, fun _ _ => rfl, zFu _, rfl⟩
  have hexJ : Exx (FJ r0).x XE wE := by
   refine ⟨hX2.ex.st, hX2.ex.sys, fun v φ hv => ?_, hKE, hX2.ex.L⟩
   rcases hv with hv | ⟨t, e, he, rfl, rfl⟩
   ·exact hX2.ex.kv v φ hv
   ·exact ⟨hnf t e he, e.2.le (hnf t e he) hleE (hkv0 t e he)⟩
  have hLhJ : ∀ r t φ, ¬ (FJ r).Lh t φ := fun r => hLh
  have hXJ : RelX (FJ r0) s1 a wE XE := hX2.conv (F' := FJ r0) (L' := s1.L) rfl rfl rfl rfl hLh rfl rfl rfl hX2.fit hX2.l hX2.ln hexJ
  obtain ⟨j1, j2⟩ := Zw (F := FJ r0) hLh hE (Frm.Jw _) ⟨_, hXJ⟩ ⟨_, hXJ⟩ (Inv.refl s1) hx0
  -- what holds between the rounds
  generalize hB : (fun x d => Ah ps.toList q.1 d (sh.put s1 x) fun s2 => den E asg (Comp.Step sh.D (ED l)) h1.l1 s2 (fun s3 => den E bd (Comp.Step sh.D (ED l)) h1.l2 s3.tick (fun s' => JU E.G sh s1 (s'.back s1.L).tick) (fun i s' => ku E.G s1 l (some i) (s'.back s1.L).tick) (fun s' => ku E.G s1 l none (s'.back s1.L).tick)) (fun _ _ => Comp.fail) (fun _ => Comp.fail)) = B at *
  let J : List q.1.D → zS → World → Prop := fun pre O W => ∃ rest x Xc, xs = pre ++ rest ∧ (KM B rest x).run nf = some r ∧ RelX (FJ r0) (sh.put s1 x) a W Xc ∧ Xc.O = O ∧ Inv s1 (sh.put s1 x)
  let Jx : zS → World → Prop := fun O W => ∃ c s2 Xc, RelX (FJ { r0 with state := .done, pending := some c }) s2 a W Xc ∧ Xc.O = O ∧ Inv s1 s2 ∧ ((∃ i, c = .exit i ∧ (ex i s2.tick).run nf = some y) ∨ (c = .ret ∧ (rt s2.tick).run nf = some y))
  have hwE : ∀ b, b < wE.heap.size ↔ b < D + 2 := fun b => by simp [wE, D]
  -- at the end
  have hend : ∀ (r1 : Loop) (s2 : S) (W : World), r1.state ≠ .busy → Rel (FJ r1) s2 a W → ∃ W', (Instr.endLoop (D + 1)).run F.P W = .ok r1.pending W' ∧ Rel (F.mark D) s2.tick { a with defers := rL D :: a.defers } W' := by
   intro r1 s2 W hb ⟨Xc, hXc⟩
   obtain ⟨⟨k1, k2⟩, k3⟩ := hXc.ex.sys (D + 1) (.loop r1) (.inr ⟨rfl, rfl⟩)
   refine ⟨_, run_endLoop k1 hb, { Xc with n := s2.n + 1, ep := s2.n }, ?_⟩
   have ht := hXc.turn (o' := .loop { r1 with state := .exhausted }) (q := fun c o => F.x.sys c o ∨ (c = D ∧ o = .deferred (some []))) k2 (by have := hX.base.size; show F.w0.heap.size ≤ D + 1; simp only [D]; omega) (Array.getElem?_eq_some_iff.1 k1).1 fun c o hc => .inl ⟨by rcases hc with hc | ⟨hc, _⟩; have := hsysF c o hc; omega; omega, .inl hc⟩
   refine ht.conv (F' := F.mark D) (L' := s2.L) rfl rfl rfl rfl hLh rfl rfl rfl ⟨hXc.fit.size, by show rL D :: a.defers = _; rw [show a.defers = F.D from hXc.fit.defers]; rfl⟩ (fun t e he hf => ht.l t e he hf) ht.ln ⟨ht.ex.st, fun c o hc => ht.ex.sys c o hc, fun v φ hv => ht.ex.kv v φ (.inl hv), ?_, ht.ex.L⟩
   have hsince : zj 0 X.O w Xc.O (W.putObj (D + 1) (.loop { r1 with state := .exhausted })) := ht.ex.since
   exact hX.ex.since.trans hsince
  have hmk : F.To (F.mark D) := .mark (.refl F) D (fun o hc => absurd (hsysF D o hc) (Nat.lt_irrefl _)) hnr
  refine ⟨D + 1, [rL D], wE, { target := .fn (.func f) us.toArray, args := #[.func (.yield (D + 1)) #[] #[]] }, wE, f, #[.func (.yield (D + 1)) #[] #[]] ++ us.toArray, wE, ?_, ?_, fun _ _ => trivial, ?_, fun h => by simp [Fence.wide] at h, ?_⟩
  ·show (Instr.enterLoop fn a.tmps _ _ _ none).run F.P w = _
   rw [run_enterLoop_outer]
  ·have h2 : ∀ v, a.eval (.const v) = v := fun _ => rfl
   simp [resolve, hg, Deferred.ofValue, h2]
  ·obtain ⟨fnc, hf1, hf2, hf3⟩ := hf.h
   have hP : X.P = F.P := hX.P
   rw [hP] at hf1
   simp only [invoke, callFunc, run_program, Sem.run_bind, Sem.run_pure, Result.andThen, hf1]
   simp [hf2, hf3]
  ·have hP : X.P = F.P := hX.P
   obtain ⟨XJ, hXJ1⟩ := j1
   have hz : J [] XJ.O wE := ⟨xs, x0, XJ, rfl, hr1, hXJ1, rfl, j2⟩
   have hcall := hC XJ.O wE hXJ1.okO hXJ1.ex.since nf xs hxs (D + 1) J Jx ?_
   ·rw [hP] at hcall
    rw [show #[Value.func (Fn.yield (D + 1)) #[] #[]] ++ us.toArray = (Value.func (.yield (D + 1)) #[] #[] :: us).toArray by simp]
    refine uP (m := 0) (Calls.mono hcall fun e W he => ?_)
    obtain ⟨rfl, ⟨O', rest, x, Xc, g1, g2, g3, g4, g5⟩ | ⟨O', c, s2, Xc, g3, g4, g5, g6⟩⟩ := he
    ·have hrest : rest = [] := by simpa using g1
     subst hrest
     have := run_pure g2
     subst this
     obtain ⟨W', k1, k2⟩ := hend r0 _ W (by simp [r0]) ⟨_, g3⟩
     exact ⟨none, W', k1, hW.k _ _ _ _ hmk k2 (his.trans (g5.trans (Inv.tick _))) hr2⟩
    ·obtain ⟨W', k1, k2⟩ := hend _ s2 W (by simp) ⟨_, g3⟩
     refine ⟨some c, W', k1, ?_⟩
     rcases g6 with ⟨i, rfl, g6⟩ | ⟨rfl, g6⟩
     ·exact wpIn_exit (hW.ex i _ _ _ _ hmk k2 (his.trans (g5.trans (Inv.tick _))) g6)
     ·exact wpIn_ret (hW.rt _ _ _ _ hmk k2 (his.trans (g5.trans (Inv.tick _))) g6)
   ·-- a round
    refine ⟨fun pre O1 w1 w2 ⟨rest, x, Xc, g1, g2, g3, g4, g5⟩ hE1 => ⟨rest, x, Xc, g1, g2, g3.ext hE1, g4, g5⟩, fun O1 w1 w2 ⟨c, s2, Xc, g1, g2, g3, g4⟩ hE1 => ⟨c, s2, Xc, g1.ext hE1, g2, g3, g4⟩,
     fun pre O1 w1 ⟨rest, x, Xc, g1, g2, g3, g4, g5⟩ => g4 ▸ g3.okO, fun O1 w1 ⟨c, s2, Xc, g1, g2, g3, g4⟩ => g2 ▸ g1.okO, ?_, hz⟩
    rintro pre d post O1 w1 vs hpre ⟨rest, x, Xc, g1, g2, g3, g4, g5⟩ hvs
    subst g4
    have hrest : rest = d :: post := by rw [g1] at hpre; simpa using hpre
    subst hrest
    obtain ⟨st1, hst1, hst2⟩ := run_bind g2
    rw [← hB] at hst1
    obtain ⟨⟨k1, k2⟩, k3⟩ := g3.ex.sys (D + 1) (.loop r0) (.inr ⟨rfl, rfl⟩)
    -- the round's own frame
    let FR : Loop → Frm := fun r => { F with D := [], x := { F.x with sys := qS r, kv := kv1, sO := Xc.O, sw := w1, rd := some (D + 1) } }
    have hfit0 : (⟨a.tmps, []⟩ : Act).fitD F.N [] := ⟨g3.fit.size, rfl⟩
    have hXR : RelX (FR r0) (sh.put s1 x) ⟨a.tmps, []⟩ w1 Xc := g3.conv (F' := FR r0) (L' := (sh.put s1 x).L) rfl rfl rfl rfl hLh rfl rfl rfl hfit0 g3.l g3.ln ⟨g3.ex.st, g3.ex.sys, g3.ex.kv, zj.refl _ _ _, g3.ex.L⟩
    have hPc : Xc.P = F.P := g3.P
    rw [hP] at hvs
    obtain ⟨s2, X2, p1, p2, p3, p4, p5⟩ := Ir (F := FR r0) hLh hXR (by rw [hPc]; exact hvs) hps hst1
    have hsince0 : ∀ {O2 : zS} {w2 : World}, zj 0 Xc.O w1 O2 w2 → zj 0 X.O w O2 w2 := fun h => g3.ex.since.trans h
    rw [hP]
    refine ⟨fn, _, asg, bd, run_yield k1 (by simp [r0, ← p5]), ?_⟩
    have hact : ({ tmps := (r0.params.zip vs.toArray).foldl (fun tmps p => tmps.setIfInBounds p.1 p.2) r0.tmps, defers := [] } : Act) = YH ps.toList vs ⟨a.tmps, []⟩ := by
     rw [C6, ← Array.foldl_toList]; simp [r0, Array.toList_zip]
    refine roundIn_of_wpIn trivial ?_
    show asg.wpIn (fw (some (D + 1))) 0 F.P _ { tmps := (r0.params.zip vs.toArray).foldl (fun tmps p => tmps.setIfInBounds p.1 p.2) r0.tmps, defers := [] } w1
    rw [hact]
    refine iha (F := FR r0) hm hLh hE hoka (.inr hna) hsb ⟨_, p1⟩ (Inv.refl s2) p4 ⟨fun F' s3 a3 w3 f0 f1 f2 f3 => ?_, fun i F' s3 a3 w3 _ _ _ f3 => (nomatch f3), fun F' s3 a3 w3 _ _ _ f3 => (nomatch f3)⟩
    obtain ⟨X3, hX3⟩ := f1
    have hs3 := f0.same
    obtain ⟨⟨m1, m2⟩, m3⟩ := hX3.ex.sys (D + 1) (.loop r0) (f0.sys (.inr ⟨rfl, rfl⟩))
    let rb : Loop := { r0 with state := .busy }
    let q' : Nat → Obj → Prop := fun c o => (c ≠ D + 1 ∧ F'.x.sys c o) ∨ (c = D + 1 ∧ o = .loop rb)
    have hwD : F.w0.heap.size ≤ D + 1 := by have := hX.base.size; simp only [D]; omega
    have hX4 := hX3.turn (o' := .loop rb) (q := q') m2 (by rw [hs3.w0]; exact hwD) (Array.getElem?_eq_some_iff.1 m1).1 fun c o hc => hc.imp (fun h => h) fun h => ⟨h.1, h.2, m3⟩
    refine ⟨w3.putObj (D + 1) (.loop rb), run_beginRound m1 rfl, ?_⟩
    show bd.wpIn (fw (some (D + 1))) 0 F.P _ a3 _
    have hgoal : ∀ {cc : Code} {R : Exit → Act → World → Prop} {a' : Act} {w' : World}, (F'.sys q').wp cc R a' w' → cc.wpIn (fw (some (D + 1))) 0 F.P R a' w' := fun {cc R a' w'} h => by
     unfold Frm.wp at h
     change cc.wpIn (fw F'.x.rd) 0 F'.P R a' w' at h
     rwa [hs3.P, hs3.rd] at h
    let FK : Loop → Frm := fun r => { F with x := { F.x with sys := qS r, kv := kv1, sO := Xc.O, sw := w1 } }
    -- the end of a round
    have hback : ∀ (F2 : Frm) (s' : S) (a2 : Act) (W3 : World) (r1 : Loop), (F'.sys q').To F2 → Rel F2 s' a2 W3 → Inv s2 s' → (W3.heap[D + 1]? = some (.loop rb)) ∧ Rel (FK r1) (s'.back s1.L).tick a (W3.putObj (D + 1) (.loop r1)) := by
     intro F2 s' a2 W3 r1 u0 ⟨X5, hX5⟩ u2
     have hs5 : (FR r0).Same F2 := hs3.HR u0.same
     have hsys5 : ∀ {c o}, c ≠ D + 1 → qS r0 c o → F2.x.sys c o := fun {c o} hc hq => u0.sys (.inl ⟨hc, f0.sys hq⟩)
     obtain ⟨⟨n1, n2⟩, n3⟩ := hX5.ex.sys (D + 1) (.loop rb) (u0.sys (.inr ⟨rfl, rfl⟩))
     refine ⟨n1, ?_⟩
     have hk5 : zj 0 Xc.O w1 X5.O W3 := by
      have := hX5.ex.since
      rwa [hs5.sO, hs5.sw] at this
     have hXb : RelX (FK rb) (s'.back s1.L) a W3 X5 := by
      refine hX5.conv (F' := FK rb) (L' := s1.L) (by rw [hs5.P]) (by rw [hs5.A]) (by rw [hs5.O0]) (by rw [hs5.w0]) hLh (by rw [hs5.fe]) (by rw [hs5.bl]) (by rw [hs5.st]) hX.fit (fun t e he _ => ?_) (fun t e he => Nat.lt_of_lt_of_le (hX1.ln t e he) ?_) ⟨by have := hX5.ex.st; rwa [hs5.st] at this, fun c o hc => ?_, fun v φ hv => hX5.ex.kv v φ (by rw [hs5.kv]; exact hv), hk5, by have := hX5.ex.L; rwa [hs5.Lp] at this⟩
      ·exact (hX5.ex.kv _ _ (by rw [hs5.kv]; exact .inr ⟨t, e, he, rfl, rfl⟩)).2
      ·exact ((g5.trans p3).trans u2).le
      ·have hst5 : F2.x.st = F.x.st := hs5.st
       have hsb5 : F2.x.sb = F.x.sb := hs5.sb
       rcases hc with hc | ⟨rfl, rfl⟩
       ·have hne : c ≠ D + 1 := by
         rcases hc with hc | ⟨hc, _⟩
         ·have := hsysF c o hc; omega
         ·omega
        have := hX5.ex.sys c o (hsys5 hne (.inl hc))
        rw [hst5, hsb5] at this; exact this
       ·have := hX5.ex.sys (D + 1) (.loop rb) (u0.sys (.inr ⟨rfl, rfl⟩))
        rw [hst5, hsb5] at this; exact this
     have hbO : X5.O (D + 1) = F.x.st := (hXb.ex.sys (D + 1) (.loop rb) (.inr ⟨rfl, rfl⟩)).1.2
     have hsbD : F.x.sb ≤ D + 1 := (hXb.ex.sys (D + 1) (.loop rb) (.inr ⟨rfl, rfl⟩)).2
     have hlt5 := (Array.getElem?_eq_some_iff.1 n1).1
     have ht := hXb.turn (o' := .loop r1) (q := qS r1) hbO hwD hlt5 fun c o hc => by
      rcases hc with hc | ⟨rfl, rfl⟩
      ·refine .inl ⟨?_, .inl hc⟩
       rcases hc with hc | ⟨hc, _⟩
       ·have := hsysF c o hc; omega
       ·omega
      ·exact .inr ⟨rfl, rfl, hsbD⟩
     exact ⟨_, ht⟩
    have hInvB : ∀ {s' : S}, Inv s2 s' → Inv s1 (s'.back s1.L).tick := fun {s'} hi' => (⟨((g5.trans p3).trans hi').le, fun t e he _ => he, fun k e he hl => ((g5.trans p3).trans hi').m k e he hl⟩ : Inv s1 (s'.back s1.L)).trans (Inv.tick _)
    have hJkin : ∀ r1, (FK r1).kin (FJ r0) := fun r1 => ⟨rfl, rfl, rfl⟩
    have hKJ : ∀ {r1 : Loop} {s' : S} {W : World} {Xg : Cx}, RelX (FK r1) s' a W Xg → RelX (FJ r1) s' a W Xg := fun {r1 s' W Xg} h => h.conv (F' := FJ r1) (L' := s'.L) rfl rfl rfl rfl hLh rfl rfl rfl h.fit h.l h.ln ⟨h.ex.st, h.ex.sys, h.ex.kv, hsince0 h.ex.since, h.ex.L⟩
    have hdone : ∀ (o : Option Nat) (c : Code) (F2 : Frm) (s' : S) (a2 : Act) (W3 : World), (∀ i, o = some i → c = .exit i) → (o = none → c = .ret) → (F'.sys q').To F2 → Rel F2 s' a2 W3 → Inv s2 s' → (ku (σ := sh.D) E.G s1 l o (s'.back s1.L).tick).run nf = some st1 →
      ∃ v w', (Instr.endRound (D + 1) (some c)).run F.P W3 = .ok v w' ∧ (∃ b, Ending.returned v = .returned (.bool b) ∧ ∃ O2, zj 0 Xc.O w1 O2 w' ∧ match b with | true => J (pre ++ [d]) O2 w' | false => Jx O2 w') := by
     intro o c F2 s' a2 W3 hc1 hc2 u0 u1 u2 u3
     obtain ⟨n1, n2⟩ := hback F2 s' a2 W3 { r0 with state := .done, pending := some c } u0 u1 u2
     refine ⟨_, _, run_endRound (some c) n1, false, rfl, ?_⟩
     unfold ku at u3
     split at u3
     ·rename_i z hz
      have hst := run_pure u3
      rw [← hst] at hst2
      have hr := run_pure hst2
      rw [← hr] at hr2
      obtain ⟨s3', ⟨Xg, v1⟩, v2, v3⟩ := wW (F := FK { r0 with state := .done, pending := some c }) (o := o) (ex := fun i s' => ex i s'.tick) (rt := fun s' => rt s'.tick) hLh hE (hJkin _) ⟨_, hXJ⟩ n2 (hInvB u2) hz hr2
      refine ⟨Xg.O, v1.ex.since, c, s3', Xg, hKJ v1, rfl, v2, ?_⟩
      cases o with
      | some i => exact .inl ⟨i, hc1 i rfl, v3⟩
      | none => exact .inr ⟨hc2 rfl, v3⟩
     ·cases u3
    refine hgoal (ihb (F := F'.sys q') (by rw [show (F'.sys q').P = F'.P from rfl, hs3.P]; exact hm) (by rw [show (F'.sys q').Lh = F'.Lh from rfl, hs3.Lh]; exact hLh) (by rw [show (F'.sys q').P = F'.P from rfl, hs3.P]; exact hE) (by rw [show (F'.sys q').N = F'.N from rfl, hs3.N]; exact hokb) (.inr hnb) (by rw [show (F'.sys q').x.sb = F'.x.sb from rfl, show (F'.sys q').w0 = F'.w0 from rfl, hs3.sb, hs3.w0]; exact hsb) ⟨_, hX4⟩ (f2.trans (Inv.tick _)) f3 ⟨fun F2 s' a2 W3 u0 u1 u2 u3 => ?_, fun i F2 s' a2 W3 u0 u1 u2 u3 => ?_, fun F2 s' a2 W3 u0 u1 u2 u3 => ?_⟩)
    ·obtain ⟨n1, n2⟩ := hback F2 s' a2 W3 r0 u0 u1 u2
     refine ⟨_, _, run_endRound none n1, true, rfl, ?_⟩
     unfold JU at u3
     split at u3
     ·rename_i z hz
      have hst := run_pure u3
      rw [← hst] at hst2
      obtain ⟨⟨Xg, v1⟩, v2⟩ := Zw (F := FK r0) hLh hE (hJkin r0) ⟨_, hXJ⟩ n2 (hInvB u2) hz
      exact ⟨Xg.O, v1.ex.since, post, z, Xg, by rw [g1]; simp, hst2, hKJ v1, rfl, v2⟩
     ·cases u3
    ·exact hdone (some i) (.exit i) F2 s' a2 W3 (fun _ h => by cases h; rfl) (fun h => nomatch h) u0 u1 u2 u3
    ·exact hdone none .ret F2 s' a2 W3 (fun _ h => nomatch h) (fun _ => rfl) u0 u1 u2 u3
end
end Go.Den
end
section
namespace Go.Den
open Go Go.RowKit Go.Eng Go.Lift
variable {α β γ δ : Type}
def Zq : MV → MV
 | .sl true t T xs => .fs t xs
 | .fs t xs => .fs t xs
 | .fb t x => .fb t x
 | .mp true a b xs => .fm a b xs
 | .fm a b xs => .fm a b xs
 | _ => .dead
def frz : MS → MS
 | [] => []
 | e :: M => (e.1, e.2.1, Zq e.2.2) :: frz M
theorem Xj : ∀ {M : MS} {k : Nat} {e : Nat × MV}, look (frz M) k = some e → ∃ m, look M k = some (e.1, m) ∧ e.2 = Zq m
 | [], k, e, h => by cases h
 | f :: M, k, e, h => by
  obtain ⟨k0, st, m⟩ := f
  simp only [frz, look] at h ⊢
  cases hb : Nat.beq k0 k with
  | true => rw [hb] at h; cases h; exact ⟨m, rfl, rfl⟩
  | false => rw [hb] at h; exact Xj h
section
variable {F : Frm} {s : S} {a : Act} {w : World} {X : Cx} {E : VE}
def Cx.out (X : Cx) (F : Frm) : Cx := { X with O := F.O0 }
theorem RelX.tG (h : RelX F s a w X) : X.le w (X.out F) w := ⟨rfl, ⟨zFu _, fun b hb hz => ⟨h.base.zero b hb hz, rfl⟩⟩, fun _ _ => rfl, zFu _, rfl⟩
theorem RelX.EF (h : RelX F s a w X) : yG (frz s.M) (X.out F) w := by
 intro k e he
 obtain ⟨m, h1, h2⟩ := Xj he
 have hh := h.m k _ h1
 have hk0 := h.tG.k
 rw [h2]
 cases m with
 | sl nw t T xs =>
  cases nw with
  | false => trivial
  | true =>
   obtain ⟨vs, g1, g2, g3⟩ := hh
   refine YA.2 ⟨vs, g1.slv, g2.mono hk0, fun _ g hg => ⟨g1.gn g hg, ?_⟩⟩
   have := (g3 g hg).2
   change X.F g at this
   rw [h.Fn] at this
   exact h.ok0 g this
 | bx nw c T => cases nw <;> trivial
 | fs t xs => exact GR.vg _ hh hk0
 | fb t x => exact GR.vg _ hh hk0
 | fg f => trivial
 | mp nw a b xs =>
  cases nw with
  | false => trivial
  | true =>
   obtain ⟨c, es, clock, g1, g2, g3, g4, g5⟩ := hh
   have hc : F.w0.heap.size ≤ c := by
    have : X.F c := g4
    rw [h.Fn] at this; exact this
   exact ⟨_, .inr ⟨c, es, clock, rfl, g2, g3.mono hk0, h.ok0 c hc⟩, g1⟩
 | fm a b xs => exact GR.vg _ hh hk0
 | dead => trivial
def rI (E : VE) (s : S) : ResultVar → Option AV
 | .tmp t => rdO s.ep s.L [] [] (.tmp t)
 | .cell t T => match rdO s.ep s.L [] [] (.tmp t), look E.T T with
  | some (.bx k off), some i => match Nr s.M k with
   | some c => match c.at_ i.sz (vA i.dd) true off with
    | some φ => match φ.td with
     | true => some φ
     | false => none
    | none => none
   | none => none
  | _, _ => none
def AB (E : VE) (s : S) : List ResultVar → Option (List AV)
 | [] => some []
 | r :: l => match rI E s r, AB E s l with
  | some φ, some m => some (φ :: m)
  | _, _ => none
def Gz (tmps : Array Value) : ResultVar → Sem Value
 | .tmp t => pure (tmps.getD t undef)
 | .cell a t => do loadVar t (← asAddr (tmps.getD a undef))
theorem p8 {P : Program} {Y : TypeId} {i : TI} (ht : Eng.Ty P Y i.dd i.z i.sz i.by_) {b off : Nat} {c2 : List Value} (hp : Ym w (.pointer (some ⟨b, off, none⟩)) (yF (vA i.dd) c2)) (hl : c2.length = i.sz) (h1 : vA i.dd = false → c2.length = 1) (ho : ∀ c ∈ c2, c.oneCell' = true) : (loadVar Y ⟨b, off, none⟩).run P w = .ok (yF (vA i.dd) c2) w := by
 obtain ⟨b', o', e1, e2⟩ := hp
 cases e1
 rw [jW h1 ho] at e2
 cases hag : vA i.dd with
 | true =>
  have hs : c2.toArray.size = i.sz := by simpa using hl
  have := Go.Eng.run_loadCells (P := P) (w := w) (b := b) (off := off) (cs := c2.toArray) e2
  rw [hs] at this
  simp [loadVar, ht.Zt, hag, ht.zn, this, yF]
 | false =>
  have hl1 := h1 hag
  match c2, hl1 with
  | [v0], _ =>
   have := e2 0 (by simp)
   simp [loadVar, ht.Zt, hag, yF, this] at this ⊢
   simp [this]
theorem Hm (hE : E.ok X.P) (h : RelX F s a w X) {r : ResultVar} {φ : AV} (hr : rI E s r = some φ) : ∃ v, (Gz a.tmps r).run X.P w = .ok v w ∧ φ.holds X w v := by
 cases r with
 | tmp t =>
  refine ⟨a.get t, rfl, ?_⟩
  simp only [rI] at hr
  rw [← h.ep] at hr
  exact h.rd #[.tmp t] (.tmp t) φ (by simp) hr
 | cell t T =>
  simp only [rI] at hr
  rw [← h.ep] at hr
  split at hr
  ·rename_i k off i h1 h2
   split at hr
   ·rename_i c hc
    split at hr
    case h_2 => cases hr
    rename_i ψ hat
    split at hr
    case h_2 => cases hr
    rename_i hoo
    cases hr
    have k1 := h.rd #[.tmp t] (.tmp t) _ (by simp) h1
    obtain ⟨T', nw, b, cs, e1, e2, e3⟩ := Cd h.m hc
    obtain ⟨c1, c2, c3, f1, f2, f3, f4, f5, f6⟩ := (AV.Ec c hat e3).h
    obtain ⟨_, b', e4, e5⟩ := k1
    rw [e1] at e4; cases e4
    have hone := AV.MA φ hoo f4
    have hl : vA i.dd = false → c2.length = 1 := fun ha => by rw [f3]; exact f5 ha
    refine ⟨_, ?_, f6⟩
    have hrun := p8 (hE.T T i h2).ty (mR e2.own f1 f2 hl hone) f3 hl hone
    have e6 : a.tmps.getD t undef = .pointer (some ⟨b, off, none⟩) := e5
    simp [Gz, e6, asAddr, hrun]
   ·cases hr
  ·cases hr
theorem J7 (hE : E.ok X.P) (h : RelX F s a w X) : ∀ {l : List ResultVar} {m : List AV}, AB E s l = some m → ∃ vs, (l.mapM (Gz a.tmps)).run X.P w = .ok vs w ∧ vs.length = m.length ∧ ∀ (i : Nat) φ v, m[i]? = some φ → vs[i]? = some v → φ.holds X w v
 | [], m, hr => by cases hr; exact ⟨[], by simp, rfl, fun i φ v hi => by simp at hi⟩
 | r :: l, m, hr => by
  simp only [AB] at hr
  split at hr
  ·rename_i φ m' h1 h2
   cases hr
   obtain ⟨v, e1, e2⟩ := Hm hE h h1
   obtain ⟨vs, f1, f2, f3⟩ := J7 hE h h2
   refine ⟨v :: vs, by simp [List.mapM_cons, e1, f1, Result.andThen], by simp [f2], fun i φ' v' hi hv => ?_⟩
   cases i with
   | zero => simp at hi hv; subst hi hv; exact e2
   | succ i => exact f3 i φ' v' (by simpa using hi) (by simpa using hv)
  ·cases hr
theorem YP {P : Program} {fn : Func} {tmps : Array Value} {w : World} {vs : List Value} (h : (fn.results.toList.mapM (Gz tmps)).run P w = .ok vs w) : ∃ v, (results fn tmps).run P w = .ok v w ∧ YV vs v := by
 have e : (fn.results.mapM (Gz tmps)).run P w = .ok vs.toArray w := by
  rw [Array.mapM_eq_mapM_toList]
  rw [map_eq_pure_bind]
  simp [h, Result.andThen]
 have e4 : results fn tmps = (do let vs ← fn.results.mapM (Gz tmps); pure (if h : vs.size = 1 then vs[0] else .tuple vs)) := by
  unfold results
  congr 2
 have e3 : (results fn tmps).run P w = .ok (if h : vs.toArray.size = 1 then vs.toArray[0] else .tuple vs.toArray) w := by
  rw [e4]
  simp only [Sem.run_bind, e, Result.andThen, Sem.run_pure]
 refine ⟨_, e3, ?_⟩
 match vs with
 | [] => exact .inl rfl
 | [v] => exact .inr rfl
 | v :: u :: vs => exact .inr (by rw [dif_neg (by simp)]; rfl)
def zCE {t : Ty} (xs : List t.D) (a : Ty) : Option a.D := (Ty.sl t).to a xs
def zCR : (a : Ty) → Option a.D
 | .sl e => some ([] : List e.D)
 | _ => none
def tZ (M : MS) : List (Option TypeId) → List AV → List Nat
 | k :: ks, φ :: l => match k, wA M φ with
  | some _, some p => p.1 :: tZ M ks l
  | _, _ => tZ M ks l
 | _, _ => []
def R5 (k : Nat) : List Nat → Bool
 | [] => false
 | j :: l => Nat.beq k j || R5 k l
theorem DN {k : Nat} : ∀ {l : List Nat}, R5 k l = false → k ∉ l
 | [], _ => by simp
 | j :: l, h => by
  simp only [R5, Bool.or_eq_false_iff] at h
  have h1 := h.1
  rw [zV] at h1
  have h2 := DN h.2
  simp only [List.mem_cons, not_or]
  exact ⟨by simpa using h1, h2⟩
def pO (G : FE) (M : MS) : List (Option TypeId) → (rs : Ty) → List AV → Option rs.D
 | [], .nil, [] => some ()
 | none :: ks, .cons a b, φ :: l => match φ.asT G (frz M) a, pO G M ks b l with
  | some x, some y => some (x, y)
  | _, _ => none
 | some T :: ks, .cons a b, φ :: l => match wA M φ with
  | some p => match p.2.1 && (Nat.beq p.2.2.1 T && !R5 p.1 (tZ M ks l)), zCE p.2.2.2.2 a, pO G M ks b l with
   | true, some x, some y => some (x, y)
   | _, _, _ => none
  | none => match XN φ, zCR a, pO G M ks b l with
   | true, some x, some y => some (x, y)
   | _, _, _ => none
 | _, _, _ => none
theorem ug (hG : FOk X.P E.G) (h : RelX F s a w X) : ∀ {ks : List (Option TypeId)} {rs : Ty} {l : List AV} {y : rs.D}, pO E.G s.M ks rs l = some y → ∀ {vs : List Value}, vs.length = l.length → (∀ (i : Nat) φ v, l[i]? = some φ → vs[i]? = some v → φ.holds X w v ∧ φ.zw = false) →
  JD X.P F.O0 F.w0.heap.size w ks rs vs y ∧ ∀ g ∈ KL ks vs, ∃ k' ∈ tZ s.M ks l, ∃ e', look s.M k' = some e' ∧ e'.2.own = true ∧ X.O g = X.ι k'
 | [], .nil, [], y, hr, vs, hl, _ => ⟨List.length_eq_zero_iff.1 hl, fun g hg => by cases hg⟩
 | none :: ks, .cons t b, φ :: l, y, hr, vs, hl, hv => by
  simp only [pO] at hr
  split at hr
  ·rename_i x y' h1 h2
   cases hr
   match vs, hl with
   | v :: vs, hl =>
    obtain ⟨k1, k2⟩ := hv 0 φ v rfl rfl
    have k3 := φ.le k2 h.tG k1
    obtain ⟨r1, r2⟩ := ug hG h h2 (vs := vs) (by simpa using hl) fun i ψ u hi hu => hv (i + 1) ψ u (by simpa using hi) (by simpa using hu)
    exact ⟨⟨v, vs, rfl, AV.YW (X := X.out F) hG h.EF h1 k3, r1, fun g hg => by cases hg⟩, fun g hg => r2 g (by simpa [KL, rK] using hg)⟩
  ·cases hr
 | some T :: ks, .cons t b, φ :: l, y, hr, vs, hl, hv => by
  simp only [pO] at hr
  match vs, hl with
  | v :: vs, hl =>
   obtain ⟨k1, k2⟩ := hv 0 φ v rfl rfl
   have rest := fun {y' : b.D} (h2 : pO E.G s.M ks b l = some y') => ug hG h h2 (vs := vs) (by simpa using hl) fun i ψ u hi hu => hv (i + 1) ψ u (by simpa using hi) (by simpa using hu)
   split at hr
   ·rename_i p hp
    split at hr
    ·rename_i x y' hb h1 h2
     cases hr
     simp only [zFs, Bool.not_eq_true'] at hb
     obtain ⟨e, f1, f2, f3, f4⟩ := Ky h.m k1 hp
     obtain ⟨e1, e2⟩ := Ty.ZQ h1
     obtain ⟨r1, r2⟩ := rest h2
     have hown : e.2.own = true := by rw [f2]; rfl
     have htg : ∀ g, v.ownBlock = some g → X.O g = X.ι p.1 := fun g hg => f3.tagged g hg
     refine ⟨⟨v, vs, rfl, ?_, r1, fun g hg hg2 => ?_⟩, fun g hg => ?_⟩
     rotate_left
     ·obtain ⟨k', q1, e', q2, q3, q4⟩ := r2 g hg2
      have := h.inj p.1 k' e e' f1 q2 hown q3 ((htg g hg).symm.trans q4)
      exact DN hb.2.2 (this ▸ q1)
     ·simp only [KL, rK, List.mem_append, Option.mem_toList] at hg
      rcases hg with hg | hg
      ·exact ⟨p.1, by simp [tZ, hp], e, f1, hown, htg g hg⟩
      ·obtain ⟨k', q1, q2⟩ := r2 g hg
       exact ⟨k', by simp [tZ, hp, q1], q2⟩
     have hne := h.pos p.1 e f1 hown
     rw [hb.1, zFr hb.2.1] at f3
     change zr _ _ _ X.F _ _ _ _ at f3
     rw [h.Fn] at f3
     have := zr.res (O0 := F.O0) f3 hne.1 (fun b hb hz => h.base.zero b hb hz)
     subst e1
     have e2 : p.2.2.2.2 = _ := e2
     show ZH _ _ _ _ _ _ _
     rw [← e2]; exact this
    ·cases hr
   ·rename_i hno
    split at hr
    ·rename_i x y' hb h1 h2
     cases hr
     obtain ⟨r1, r2⟩ := rest h2
     rw [Zz hb] at k1
     have hvn : v = .slice none 0 0 := k1
     refine ⟨⟨v, vs, rfl, ?_, r1, fun g hg => by rw [hvn] at hg; cases hg⟩, fun g hg => ?_⟩
     rotate_left
     ·rw [hvn] at hg
      obtain ⟨k', q1, q2⟩ := r2 g (by simpa [KL, rK, Value.ownBlock] using hg)
      exact ⟨k', by simp [tZ, hno, q1], q2⟩
     cases t <;> simp only [zCR] at h1 <;> cases h1
     show ZH _ _ _ _ _ _ _
     rw [show v = _ from k1]
     exact ZH.nil _ _ _ _ _
    ·cases hr
 | [], .nil, _ :: _, _, h, _, _, _ => by cases h
 | [], .int _, _, _, h, _, _, _ | [], .bool, _, _, h, _, _, _ | [], .str, _, _, h, _, _, _ | [], .sl _, _, _, h, _, _, _ | [], .cons .., _, _, h, _, _, _ | [], .arr .., _, _, h, _, _, _ | [], .box .., _, _, h, _, _, _ | [], .fn .., _, _, h, _, _, _ | [], .seq .., _, _, h, _, _, _ | [], .slo .., _, _, h, _, _, _ | [], .mp .., _, _, h, _, _, _ => by cases h
 | none :: _, .int _, _, _, h, _, _, _ | none :: _, .bool, _, _, h, _, _, _ | none :: _, .str, _, _, h, _, _, _ | none :: _, .sl _, _, _, h, _, _, _ | none :: _, .nil, _, _, h, _, _, _ | none :: _, .arr .., _, _, h, _, _, _ | none :: _, .box .., _, _, h, _, _, _ | none :: _, .fn .., _, _, h, _, _, _ | none :: _, .seq .., _, _, h, _, _, _ | none :: _, .slo .., _, _, h, _, _, _ | none :: _, .mp .., _, _, h, _, _, _ => by cases h
 | some _ :: _, .int _, _, _, h, _, _, _ | some _ :: _, .bool, _, _, h, _, _, _ | some _ :: _, .str, _, _, h, _, _, _ | some _ :: _, .sl _, _, _, h, _, _, _ | some _ :: _, .nil, _, _, h, _, _, _ | some _ :: _, .arr .., _, _, h, _, _, _ | some _ :: _, .box .., _, _, h, _, _, _ | some _ :: _, .fn .., _, _, h, _, _, _ | some _ :: _, .seq .., _, _, h, _, _, _ | some _ :: _, .slo .., _, _, h, _, _, _ | some _ :: _, .mp .., _, _, h, _, _, _ => by cases h
 | none :: _, .cons .., [], _, h, _, _, _ | some _ :: _, .cons .., [], _, h, _, _, _ => by cases h
theorem rj (hG : FOk X.P E.G) (h : RelX F s a w X) {ks : List (Option TypeId)} {rs : Ty} {l : List AV} {y : rs.D} (hr : pO E.G s.M ks rs l = some y) {vs : List Value} (hl : vs.length = l.length) (hv : ∀ (i : Nat) φ v, l[i]? = some φ → vs[i]? = some v → φ.holds X w v ∧ φ.zw = false) :
  JD X.P F.O0 F.w0.heap.size w ks rs vs y := (ug hG h hr hl hv).1
end
end Go.Den
end
