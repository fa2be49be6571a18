/- Lemmas behind a claim. -/
import Derived.Test.YtknbpncolbmoaaaGreatKBChgC
set_option linter.unusedSimpArgs false
set_option linter.unusedVariables false
open Go.Lift.Comp (run_bind run_pure zA I1 XF zL y7)
noncomputable section
namespace Go.Den
open Go Go.RowKit Go.Eng Go.Lift
variable {α β γ δ : Type}
def JW : (ps : Ty) → ps.D → Nat → LS
 | .cons p q, x, i => (i, 0, .rd p x.1) :: JW q x.2 (i + 1)
 | _, _, _ => []
def Zv : List AV → Bool
 | [] => true
 | φ :: l => !φ.zw && Zv l
def rtF (E : VE) (rk : List (Option TypeId)) (rs : Ty) (l : List ResultVar) (s : S) : Comp rs.D := match AB E s l with
 | some m => match Zv m, pO E.G s.M rk rs m with
  | true, some y => Comp.pure y
  | _, _ => Comp.fail
 | none => Comp.fail
def Sv (E : VE) (c : Code) (h : H) (l : List ResultVar) (ps rs : Ty) (rk : List (Option TypeId)) (x : ps.D) : Comp rs.D :=
 den E c rs.D h ⟨JW ps x 0, [], 1, 0⟩ (rtF E rk rs l) (fun _ _ => Comp.fail) (rtF E rk rs l)
def Ty.len : Ty → Nat
 | .cons _ b => b.len + 1
 | _ => 0
theorem Xn {P : Program} {O w} : ∀ {t : Ty} {vs : List Value} {x : t.D}, t.args P O w vs x → vs.length = t.len
 | .cons a b, vs, x, ⟨v, vs', h, _, h2⟩ => by rw [h, List.length_cons, Xn h2]; rfl
 | .nil, vs, x, h => by rw [show vs = [] from h]; rfl
 | .int _, _, _, h | .bool, _, _, h | .str, _, _, h | .sl _, _, _, h | .arr .., _, _, h | .box .., _, _, h | .fn .., _, _, h | .seq .., _, _, h | .slo .., _, _, h | .mp .., _, _, h => h.elim
theorem Xi {P : Program} {O w} {X : Cx} (hP : X.P = P) (hO : X.O = O) {a : Act} : ∀ {t : Ty} {vs : List Value} {x : t.D} {i : Nat}, t.args P O w vs x → (∀ (j : Nat) v, vs[j]? = some v → a.get (i + j) = v) → ∀ {u e}, look (JW t x i) u = some e → e.1 = 0 ∧ e.2.holds X w (a.get u)
 | .cons p q, vs, x, i, ⟨v, vs', h, h1, h2⟩, ha, u, e, he => by
  rcases zH he with ⟨e1, e2⟩ | ⟨_, e2⟩
  ·subst e1 e2
   refine ⟨rfl, ?_⟩
   have := ha 0 v (by rw [h]; rfl)
   rw [Nat.add_zero] at this
   rw [this]
   show (p.gr X.P).v _ _ _ _
   rw [hP, hO]; exact h1
  ·exact Xi hP hO h2 (fun j v hj => by have := ha (j + 1) v (by rw [h]; simpa using hj); rw [← this]; congr 1; omega) e2
 | .nil, _, _, _, _, _, _, _, he => by cases he
 | .int _, _, _, _, h, _, _, _, _ | .bool, _, _, _, h, _, _, _, _ | .str, _, _, _, h, _, _, _, _ | .sl _, _, _, _, h, _, _, _, _ | .arr .., _, _, _, h, _, _, _, _ | .box .., _, _, _, h, _, _, _, _ | .fn .., _, _, _, h, _, _, _, _ | .seq .., _, _, _, h, _, _, _, _ | .slo .., _, _, _, h, _, _, _, _ | .mp .., _, _, _, h, _, _, _, _ => h.elim
theorem J8 {E : VE} {s : S} {ep n : Nat} : ∀ {l : List ResultVar} {m : List AV}, AB E s l = some m → Zv m = true → AB E { s with ep := ep, n := n } l = some m
 | [], m, h, _ => h
 | r :: l, m, h, hn => by
  have rd : ∀ {t : Nat} {φ : AV}, rdO s.ep s.L [] [] (.tmp t) = some φ → φ.zw = false → rdO ep s.L [] [] (.tmp t) = some φ := fun {t φ} h hf => by
   simp only [rdO, ZX] at h ⊢
   cases he : look s.L t with
   | none => rw [he] at h; cases h
   | some e =>
    rw [he] at h
    simp only at h ⊢
    cases hfr : fresh s.ep e with
    | false => rw [hfr] at h; cases h
    | true =>
     rw [hfr] at h; cases h
     simp [fresh, hf]
  simp only [AB] at h ⊢
  split at h
  ·rename_i φ m' h1 h2
   cases h
   simp only [Zv, zFs] at hn
   rw [J8 h2 hn.2]
   have : rI E { s with ep := ep, n := n } r = some φ := by
    cases r with
    | tmp t => exact rd h1 (by simpa using hn.1)
    | cell t T =>
     simp only [rI] at h1 ⊢
     cases hr : rdO s.ep s.L [] [] (.tmp t) with
     | none => rw [hr] at h1; cases h1
     | some ψ =>
      rw [hr] at h1
      cases ψ <;> first | (rw [rd hr rfl]; exact h1) | cases h1
   rw [this]
  ·cases h
theorem mh {P : Program} {fn : Func} {R : Ending → World → Prop} {F : Frm} (hsb : F.w0.heap.size ≤ F.x.sb) {a : Act} {s : S} : ∀ (bs : List Nat) {q : Nat → Obj → Prop} {n ep : Nat} {w : World}, Rel (F.sys q) { s with n := n, ep := ep } a w → bs.Nodup → (∀ b ∈ bs, q b (.deferred (some []))) →
  (∀ q' n' ep' w', Rel (F.sys q') { s with n := n', ep := ep' } a w' → ∃ v, (results fn a.tmps).run P w' = .ok v w' ∧ R (.returned v) w') → LeavesInM Fence.wide 0 P fn a.tmps R (bs.map rL) .returning w
 | [], q, n, ep, w, h, _, _, hK => hK _ _ _ _ h
 | b :: bs, q, n, ep, w, ⟨X, h⟩, hn, hb, hK => by
  obtain ⟨hn1, hn2⟩ := List.nodup_cons.1 hn
  obtain ⟨⟨h1, h2⟩, h3⟩ := h.ex.sys b _ (hb b (by simp))
  refine ⟨by simp, .inl ⟨b, _, rfl, run_takeDeferred h1, ?_⟩⟩
  have := h.turn (o' := .deferred none) (q := fun c o => q c o ∧ c ≠ b) h2 (Nat.le_trans hsb h3) (Array.getElem?_eq_some_iff.1 h1).1 fun c o hc => .inl ⟨hc.2, hc.1⟩
  exact mh hsb bs (q := fun c o => q c o ∧ c ≠ b) ⟨_, this⟩ hn2 (fun c hc => ⟨hb c (by simp [hc]), fun e => hn1 (by rw [← e]; exact hc)⟩) hK
theorem leaves {P : Program} {fn : Func} {R : Ending → World → Prop} {F F' : Frm} (hT : F.To F') (hD : F.D = []) (hs : ∀ b o, ¬ F.x.sys b o) (hsb : F.w0.heap.size ≤ F.x.sb) {a : Act} {s : S} {w : World} (h : Rel F' s a w)
  (hK : ∀ q' n' ep' w', Rel (F'.sys q') { s with n := n', ep := ep' } a w' → ∃ v, (results fn a.tmps).run P w' = .ok v w' ∧ R (.returned v) w') : LeavesInM Fence.wide 0 P fn a.tmps R a.defers .returning w := by
 obtain ⟨bs, h1, h2, h3⟩ := hT.marks hD hs
 have hsm := hT.same
 have hd : a.defers = bs.map rL := by obtain ⟨X, hX⟩ := h; rw [hX.fit.defers]; exact h1
 rw [hd]
 exact mh (F := F') (s := s) (q := F'.x.sys) (n := s.n) (ep := s.ep) (by rw [hsm.w0, hsm.sb]; exact hsb) bs h h2 (fun b hb => (h3 b _).2 ⟨hb, rfl⟩) hK
theorem Z5 : ∀ {l : List AV}, Zv l = true → ∀ φ ∈ l, φ.zw = false
 | [], _, φ, h => by cases h
 | ψ :: l, h, φ, hm => by
  simp only [Zv, zFs] at h
  rcases List.mem_cons.1 hm with rfl | hm
  ·simpa using h.1
  ·exact Z5 h.2 φ hm
theorem zBv {P : Program} {E : VE} (hE : E.ok P) (hm : P.follows .mixedOrders = true) {f : FuncId} {fn : Func} {c : Code} {h : H} {fs : FS} (hF : FnOk P f) (hf : P.funcs[f]? = some fn) (hb : fn.body = some c) (hc : okC fn.ntmps c = true) (hl : Nat.ble fs.ps.len fn.ntmps = true)
  (hs : ∀ x, Sv E c h fn.results.toList fs.ps fs.rs fs.rk x = fs.sem x) : fs.ok P f := by
 refine ⟨hF, fun O w hO vs x ha n y hy => ?_⟩
 rw [← hs x] at hy
 have hfit := Ys vs.toArray fn.ntmps (by have := Xn ha; simp only [List.size_toArray]; rw [this]; exact Nat.le_of_ble_eq_true hl)
 have hget : ∀ (j : Nat) v, vs[j]? = some v → Act.get { tmps := vs.toArray ++ Array.replicate (fn.ntmps - vs.toArray.size) undef, defers := [] } j = v := fun j v hj => Yr (by simpa using hj)
 refine callsIn_wide.1 (callsIn_of_wp_marks (n := 0) hf hb trivial ?_)
 generalize ({ tmps := vs.toArray ++ Array.replicate (fn.ntmps - vs.toArray.size) undef, defers := [] } : Act) = a at hfit hget ⊢
 let F : Frm := ⟨P, fn.ntmps, [], Go.Lift.Fr w, O, w, fun _ _ => False, 0, [], FrX.no 1 O w⟩
 let X : Cx := ⟨P, O, fun _ => .nilIface, 1, fun k => k, Go.Lift.Fr w, Go.Lift.Fr w, 0, 0⟩
 have hR : Rel F ⟨JW fs.ps x 0, [], 1, 0⟩ a w := by
  have hin := fun {u e} => Xi (X := X) (a := a) (i := 0) rfl rfl ha (fun j v hj => by rw [Nat.zero_add]; exact hget j v hj) (u := u) (e := e)
  refine ⟨X, rfl, rfl, rfl, rfl, rfl, hO, hfit, Base.start hO, fun t e he _ => (hin he).2, fun k e he => (nomatch he), fun t e he => (by rw [(hin he).1]; exact Nat.zero_lt_one), fun k e he => (nomatch he), fun k k' e e' he => (nomatch he), fun k e he => (nomatch he), Nat.zero_le _, Nat.zero_lt_one, fun _ _ h => h.elim, ⟨Nat.zero_le _, fun j b hj => (nomatch hj)⟩, Exx.no Nat.one_ne_zero rfl⟩
 have hrt : ∀ F' s' a' w', F.To F' → Rel F' s' a' w' → (rtF E fs.rk fs.rs fn.results.toList s').run n = some y → LeavesInM Fence.wide 0 P fn a'.tmps (fun e w' => ∃ v, e = .returned v ∧ Ext w w' ∧ ∃ rs, YV rs v ∧ JD P O w.heap.size w' fs.rk fs.rs rs y) a'.defers .returning w' := by
  intro F' s' a' w' hT h' hr
  refine leaves hT rfl (fun _ _ h => h) (zFu _) h' fun q n' ep' w' hX' => ?_
  obtain ⟨X', hX'⟩ := hX'
  have hs := hT.same
  have hP : X'.P = P := hX'.P.trans hs.P
  have hE' : E.ok X'.P := by rw [hP]; exact hE
  unfold rtF at hr
  split at hr
  ·rename_i m hm'
   split at hr
   ·rename_i y' hnf hy'
    have e := run_pure hr
    subst e
    obtain ⟨vs', g1, g2, g3⟩ := J7 hE' hX' (J8 hm' hnf)
    obtain ⟨v, g4, g5⟩ := YP g1
    rw [hP] at g4
    refine ⟨v, g4, v, rfl, ?_, vs', g5, ?_⟩
    ·have := hX'.base
     change Base F'.A F'.O0 F'.w0 _ _ at this
     rw [hs.A, hs.O0, hs.w0] at this
     exact this.ext
    ·have := rj hE'.G hX' hy' g2 fun i φ u hi hu => ⟨g3 i φ u hi hu, Z5 hnf φ (List.mem_of_getElem? hi)⟩
     change JD _ F'.O0 F'.w0.heap.size _ _ _ _ _ at this
     rwa [hP, hs.O0, hs.w0] at this
   ·cases hr
  ·cases hr
 exact tK c (F := F) hm (fun _ _ h => h) hE hc (.inl ⟨rfl, rfl⟩) rfl hR (Inv.refl _) hy ⟨fun F' s' a' w' h0 h1 _ h2 => hrt F' s' a' w' h0 h1 h2, fun i F' s' a' w' _ _ _ h2 => (nomatch h2), fun F' s' a' w' h0 h1 _ h2 => hrt F' s' a' w' h0 h1 h2⟩
def JA : List (Option TypeId) → (ps : Ty) → ps.D → Nat → Nat → LS × MS
 | some T :: io, .cons (.box e) q, x, i, j => ((i, 0, .bx j 0) :: (JA io q x.2 (i + 1) (j + 1)).1, (j, 0, .bx false (.rd e x.1) T) :: (JA io q x.2 (i + 1) (j + 1)).2)
 | none :: io, .cons a q, x, i, j => ((i, 0, .rd a x.1) :: (JA io q x.2 (i + 1) j).1, (JA io q x.2 (i + 1) j).2)
 | _, _, _, _, _ => ([], [])
def nbx : List (Option TypeId) → Nat
 | [] => 0
 | some _ :: io => nbx io + 1
 | none :: io => nbx io
def wB (G : FE) (M Mf : MS) : (io : List (Option TypeId)) → (ps : Ty) → Nat → Option (ioT io ps).D
 | some T :: io, .cons (.box e) q, j => match look M j with
  | some (_, .bx _ c T') => match Nat.beq T T', c.asT G Mf e, wB G M Mf io q (j + 1) with
   | true, some x, some y => some (x, y)
   | _, _, _ => none
  | _ => none
 | none :: io, .cons _ q, j => wB G M Mf io q j
 | [], .nil, _ => some ()
 | _, _, _ => none
def Sj : Ty → List (Option TypeId)
 | .cons _ b => none :: Sj b
 | _ => []
def rtM (E : VE) (io : List (Option TypeId)) (ps rs : Ty) (l : List ResultVar) (s : S) : Comp ((ioT io ps).D × rs.D) := match AB E s l with
 | some m => match Zv m, pO E.G s.M (Sj rs) rs m, wB E.G s.M (frz s.M) io ps 0 with
  | true, some y, some x => Comp.pure (x, y)
  | _, _, _ => Comp.fail
 | none => Comp.fail
def Mk (E : VE) (c : Code) (h : H) (l : List ResultVar) (ps : Ty) (io : List (Option TypeId)) (rs : Ty) (x : ps.D) : Comp ((ioT io ps).D × rs.D) :=
 den E c ((ioT io ps).D × rs.D) h ⟨(JA io ps x 0 0).1, (JA io ps x 0 0).2, nbx io + 1, 0⟩ (rtM E io ps rs l) (fun _ _ => Comp.fail) (rtM E io ps rs l)
structure Start (P : Program) (O : zS) (w : World) (bl : List Nat) (X : Cx) (n : Nat) : Prop where
 U : ∀ (j : Nat) b, bl[j]? = some b → X.U j = .pointer (some ⟨b, 0, none⟩) ∧ X.ι j = O b
 A : ∀ b ∈ bl, X.A b
 n : X.n = n
 P : X.P = P
 O : X.O = O
theorem MIn.len {P : Program} {O : zS} {w : World} : ∀ {io : List (Option TypeId)} {ps : Ty} {bl : List Nat} {vs : List Value} {x : ps.D}, MIn P O w io ps bl vs x →
  bl.length = nbx io ∧ (∀ b ∈ bl, O b ≠ 0 ∧ b < w.heap.size) ∧ vs.length = ps.len ∧ bl.Pairwise (fun b c => O c ≠ O b) := by
 intro io
 induction io with
 | nil =>
  intro ps bl vs x h
  cases ps <;> first | exact h.elim | skip
  obtain ⟨rfl, rfl⟩ := h
  exact ⟨rfl, by simp, rfl, .nil⟩
 | cons o io ih =>
  intro ps bl vs x h
  cases ps with
  | cons p q =>
   cases o with
   | none =>
    obtain ⟨v, vs', rfl, h1, h2⟩ := h
    obtain ⟨g1, g2, g3, g4⟩ := ih h2
    exact ⟨g1, g2, by simp [Ty.len, g3], g4⟩
   | some T =>
    cases p with
    | box e =>
     obtain ⟨b, bl', vs', cs, rfl, rfl, h1, h2, h3, h4, h5⟩ := h
     obtain ⟨g1, g2, g3, g4⟩ := ih h5
     refine ⟨by simp [nbx, g1], fun c hc => ?_, by simp [Ty.len, g3], .cons h3 g4⟩
     rcases List.mem_cons.1 hc with rfl | hc
     ·obtain ⟨fr, h6, _⟩ := h1
      exact ⟨h2, (Array.getElem?_eq_some_iff.1 h6).1⟩
     ·exact g2 c hc
    | _ => exact h.elim
  | _ => cases o <;> exact h.elim
theorem IR {P : Program} {O : zS} {w : World} {all : List Nat} {X : Cx} {n : Nat} (hs : Start P O w all X n) (hn : all.length ≤ n) {a : Act} : ∀ {io : List (Option TypeId)} {ps : Ty} {bl : List Nat} {vs : List Value} {x : ps.D} {i j : Nat}, MIn P O w io ps bl vs x → (∀ k, all[j + k]? = bl[k]?) → (∀ (k : Nat) v, vs[k]? = some v → a.get (i + k) = v) →
  (∀ {t e}, look (JA io ps x i j).1 t = some e → e.1 = 0 ∧ e.2.holds X w (a.get t)) ∧ (∀ {k e}, look (JA io ps x i j).2 k = some e → e.1 = 0 ∧ j ≤ k ∧ k < j + bl.length ∧ e.2.holds X w k) := by
 intro io
 induction io with
 | nil =>
  intro ps bl vs x i j h hb hv
  cases ps <;> first | exact h.elim | skip
  obtain ⟨rfl, rfl⟩ := h
  exact ⟨fun {t e} he => (nomatch he), fun {k e} he => (nomatch he)⟩
 | cons o io ih =>
  intro ps bl vs x i j h hb hv
  cases ps with
  | cons p q =>
   cases o with
   | none =>
    obtain ⟨v, vs', rfl, h1, h2⟩ := h
    obtain ⟨g1, g2⟩ := ih (i := i + 1) h2 hb (fun k u hk => by rw [show i + 1 + k = i + (k + 1) by omega]; exact hv (k + 1) u (by simpa using hk))
    refine ⟨fun {t e} he => ?_, fun {k e} he => g2 he⟩
    rcases zH he with ⟨rfl, rfl⟩ | ⟨_, he⟩
    ·refine ⟨rfl, ?_⟩
     have := hv 0 v rfl
     rw [Nat.add_zero] at this
     rw [this]
     show (p.gr X.P).v X.O w v x.1
     rw [hs.P, hs.O]; exact h1
    ·exact g1 he
   | some T =>
    cases p with
    | box e =>
     obtain ⟨b, bl', vs', cs, rfl, rfl, h1, h2, h3, h4, h5⟩ := h
     obtain ⟨g1, g2⟩ := ih (i := i + 1) (j := j + 1) h5 (fun k => by rw [show j + 1 + k = j + (k + 1) by omega, hb (k + 1)]; rfl) (fun k u hk => by rw [show i + 1 + k = i + (k + 1) by omega]; exact hv (k + 1) u (by simpa using hk))
     have hj : all[j]? = some b := by have := hb 0; simpa using this
     obtain ⟨k1, k2⟩ := hs.U j b hj
     have hjn : j < X.n := by rw [hs.n]; exact Nat.lt_of_lt_of_le (List.getElem?_eq_some_iff.1 hj).1 hn
     refine ⟨fun {t f} he => ?_, fun {k f} he => ?_⟩
     ·rcases zH he with ⟨rfl, rfl⟩ | ⟨_, he⟩
      ·refine ⟨rfl, ?_⟩
       have := hv 0 _ rfl
       rw [Nat.add_zero] at this
       rw [this]
       exact ⟨hjn, b, k1, rfl⟩
      ·exact g1 he
     ·rcases zH he with ⟨rfl, rfl⟩ | ⟨_, he⟩
      ·refine ⟨rfl, zFu _, by simp, b, cs, k1, ⟨h1, ?_, ?_⟩, ?_, rfl⟩
       ·exact hs.A b (List.mem_of_getElem? hj)
       ·rw [hs.O]; exact k2.symm
       ·show (e.gr X.P).rel X.O w cs.toList x.1
        rw [hs.P, hs.O]; exact h4
      ·obtain ⟨a1, a2, a3, a4⟩ := g2 he
       exact ⟨a1, by omega, by simp; omega, a4⟩
    | _ => exact h.elim
  | _ => cases o <;> exact h.elim
theorem Qc {G : FE} {M Mf : MS} {T : TypeId} {io : List (Option TypeId)} {e q : Ty} {j : Nat} : wB G M Mf (some T :: io) (.cons (.box e) q) j = (match look M j with
  | some (_, .bx _ c T') => match Nat.beq T T', c.asT G Mf e, wB G M Mf io q (j + 1) with
   | true, some x, some y => some (x, y)
   | _, _, _ => none
  | _ => none) := rfl
theorem Hw {G : FE} {M Mf : MS} {T : TypeId} {io : List (Option TypeId)} {e q : Ty} {j : Nat} {r : Option (ioT (some T :: io) (.cons (.box e) q)).D} (h0 : wB G M Mf (some T :: io) (.cons (.box e) q) j = r) {y : e.D × (ioT io q).D} (hr : r = some y) :
  ∃ st nw c, look M j = some (st, .bx nw c T) ∧ c.asT G Mf e = some y.1 ∧ wB G M Mf io q (j + 1) = some y.2 := by
 rw [Qc] at h0
 rw [hr] at h0
 split at h0
 ·rename_i st nw c T' hk
  split at h0
  ·rename_i x1 y1 hT hc hq
   cases h0
   have hTT : T = T' := zFr hT
   subst hTT
   exact ⟨st, nw, c, hk, hc, hq⟩
  ·cases h0
 ·cases h0
section
variable {F : Frm} {s : S} {a : Act} {w : World} {X : Cx} {E : VE}
theorem Qb (hG : FOk X.P E.G) (h : RelX F s a w X) {all : List Nat} (hU : ∀ (j : Nat) b, all[j]? = some b → X.U j = .pointer (some ⟨b, 0, none⟩)) : ∀ {io : List (Option TypeId)} {ps : Ty} {bl : List Nat} {w0 : World} {vs : List Value} {x : ps.D} {j : Nat} {y : (ioT io ps).D}, MIn X.P F.O0 w0 io ps bl vs x → (∀ k, all[j + k]? = bl[k]?) → wB E.G s.M (frz s.M) io ps j = some y → Bx X.P F.O0 w io ps bl y := by
 intro io
 induction io with
 | nil =>
  intro ps bl w0 vs x j y h0 hb hy
  cases ps <;> first | exact h0.elim | skip
  exact h0.1
 | cons o io ih =>
  intro ps bl w0 vs x j y h0 hb hy
  cases ps with
  | cons p q =>
   cases o with
   | none =>
    obtain ⟨v, vs', rfl, h1, h2⟩ := h0
    exact ih h2 hb hy
   | some T =>
    cases p with
    | box e =>
     obtain ⟨b, bl', vs', cs, rfl, rfl, h1, h2, h3, h4, h5⟩ := h0
     obtain ⟨st, nw, c, hk, hc, hr⟩ := Hw rfl hy
     obtain ⟨b', cs', k1, k2, k3, k4⟩ := h.m j _ hk
     have hj : all[j]? = some b := by have := hb 0; simpa using this
     rw [hU j b hj] at k1
     simp only [Value.pointer.injEq, Option.some.injEq, Addr.mk.injEq, and_true] at k1
     subst k1
     refine ⟨b, bl', cs', rfl, k2.own, ?_, ih h5 (fun k => by rw [show j + 1 + k = j + (k + 1) by omega, hb (k + 1)]; rfl) hr⟩
     have hc2 := (c.mono h.tG fun hf => absurd hf (by rw [k4]; decide)).2.2 _ k3
     exact (AV.km (X := X.out F) hG c h.EF).vc hc hc2
    | _ => exact h0.elim
  | _ => cases o <;> exact h0.elim
end
theorem WO {P : Program} {E : VE} (hE : E.ok P) (hm : P.follows .mixedOrders = true) {f : FuncId} {fn : Func} {c : Code} {h : H} {fs : FM} (hF : FnOk P f) (hf : P.funcs[f]? = some fn) (hb : fn.body = some c) (hc : okC fn.ntmps c = true) (hl : Nat.ble fs.ps.len fn.ntmps = true)
  (hs : ∀ x, Mk E c h fn.results.toList fs.ps fs.io fs.rs x = fs.sem x) : fs.ok P f := by
 refine ⟨hF, fun O w hO bl vs x ha n y hy => ?_⟩
 rw [← hs x] at hy
 refine callsIn_wide.1 (callsIn_of_wp_marks (n := 0) hf hb trivial ?_)
 obtain ⟨st, hst0, hst1⟩ : ∃ st, st ≠ 0 ∧ ∀ b ∈ bl, O b ≠ st := ⟨1 + (bl.map O).sum, by omega, fun b hb => by have := tF (l := bl.map O) (x := O b) (List.mem_map.2 ⟨b, hb, rfl⟩); omega⟩
 let F : Frm := ⟨P, fn.ntmps, [], fun b => w.heap.size ≤ b ∨ b ∈ bl, O, w, fun _ _ => False, 0, bl, FrX.no st O w⟩
 let X : Cx := ⟨P, O, fun j => match bl[j]? with | some b => .pointer (some ⟨b, 0, none⟩) | none => .nilIface, nbx fs.io + 1, fun j => match bl[j]? with | some b => O b | none => 0, fun b => w.heap.size ≤ b ∨ b ∈ bl, Go.Lift.Fr w, 0, 0⟩
 have hst : Start P O w bl X (nbx fs.io + 1) := ⟨fun j b hj => by simp [X, hj], fun b hb => .inr hb, rfl, rfl, rfl⟩
 obtain ⟨hbl, hblO, hvs, hpw⟩ := ha.len
 have hfit := Ys vs.toArray fn.ntmps (by simp only [List.size_toArray]; rw [hvs]; exact Nat.le_of_ble_eq_true hl)
 have hget : ∀ (j : Nat) v, vs[j]? = some v → Act.get { tmps := vs.toArray ++ Array.replicate (fn.ntmps - vs.toArray.size) undef, defers := [] } j = v := fun j v hj => Yr (by simpa using hj)
 generalize ({ tmps := vs.toArray ++ Array.replicate (fn.ntmps - vs.toArray.size) undef, defers := [] } : Act) = a at hfit hget ⊢
 have hin := IR (a := a) (i := 0) (j := 0) hst (by omega) ha (fun k => by rw [Nat.zero_add]) (fun j v hj => by rw [Nat.zero_add]; exact hget j v hj)
 have hι : ∀ k e, look (JA fs.io fs.ps x 0 0).2 k = some e → ∃ b, bl[k]? = some b ∧ X.ι k = O b := fun k e he => by
  obtain ⟨_, _, h2, _⟩ := hin.2 he
  have : k < bl.length := by omega
  exact ⟨bl[k], by simp [this], (hst.U k bl[k] (by simp [this])).2⟩
 have hR : Rel F ⟨(JA fs.io fs.ps x 0 0).1, (JA fs.io fs.ps x 0 0).2, nbx fs.io + 1, 0⟩ a w := by
  refine ⟨X, rfl, rfl, rfl, rfl, rfl, hO, hfit, ⟨rfl, rfl, rfl, zFu _, fun _ _ _ => rfl, hO, fun _ _ _ => rfl, fun _ _ h => h, fun b hb => .inl hb⟩, fun t e he _ => (hin.1 he).2, fun k e he => (hin.2 he).2.2.2, fun t e he => (by rw [(hin.1 he).1]; exact Nat.succ_pos _), fun k e he => (by obtain ⟨h1, _, h2, _⟩ := hin.2 he; exact ⟨by rw [h1]; exact Nat.succ_pos _, show k < nbx fs.io + 1 by omega⟩), fun k k' e e' he he' _ _ heq => ?_, fun k e he _ => ?_, Nat.zero_le _, Nat.succ_pos _, fun _ _ h => h.elim, ⟨show bl.length ≤ nbx fs.io + 1 by omega, fun j b hj => (hst.U j b hj).1⟩, Exx.no hst0 rfl⟩
  ·obtain ⟨b, h1, h2⟩ := hι k e he
   obtain ⟨b', h3, h4⟩ := hι k' e' he'
   rw [h2, h4] at heq
   have hp := List.pairwise_iff_getElem.1 hpw
   obtain ⟨l1, h5⟩ := List.getElem?_eq_some_iff.1 h1
   obtain ⟨l2, h6⟩ := List.getElem?_eq_some_iff.1 h3
   rcases Nat.lt_trichotomy k k' with hlt | heq' | hlt
   ·exact absurd heq.symm (by have := hp k k' l1 l2 hlt; rwa [h5, h6] at this)
   ·exact heq'
   ·exact absurd heq (by have := hp k' k l2 l1 hlt; rwa [h5, h6] at this)
  ·obtain ⟨b, h1, h2⟩ := hι k e he
   rw [h2]; exact ⟨(hblO b (List.mem_of_getElem? h1)).1, hst1 b (List.mem_of_getElem? h1)⟩
 have hrt : ∀ F' s' a' w', F.To F' → Rel F' s' a' w' → (rtM E fs.io fs.ps fs.rs fn.results.toList s').run n = some y → LeavesInM Fence.wide 0 P fn a'.tmps (fun e w' => ∃ v rs, e = .returned v ∧ YV rs v ∧ fs.rs.args P O w' rs y.2 ∧ ButL bl w w' ∧ Bx P O w' fs.io fs.ps bl y.1) a'.defers .returning w' := by
  intro F' s' a' w' hT h' hr
  refine leaves hT rfl (fun _ _ h => h) (zFu _) h' fun q n' ep' w' hX' => ?_
  obtain ⟨X', hX'⟩ := hX'
  have hs := hT.same
  have hP : X'.P = P := hX'.P.trans hs.P
  have hE' : E.ok X'.P := by rw [hP]; exact hE
  unfold rtM at hr
  split at hr
  ·rename_i m hm'
   split at hr
   ·rename_i y' x' hnf hy' hx'
    have e := run_pure hr
    subst e
    obtain ⟨vs', g1, g2, g3⟩ := J7 hE' hX' (J8 hm' hnf)
    obtain ⟨v, g4, g5⟩ := YP g1
    rw [hP] at g4
    have hB := hX'.base
    change Base F'.A F'.O0 F'.w0 _ _ at hB
    rw [hs.A, hs.O0, hs.w0] at hB
    have hres := rj hE'.G hX' hy' g2 fun i φ u hi hu => ⟨g3 i φ u hi hu, Z5 hnf φ (List.mem_of_getElem? hi)⟩
    change JD _ F'.O0 F'.w0.heap.size _ _ _ _ _ at hres
    rw [hP, hs.O0, hs.w0] at hres
    refine ⟨v, g4, v, vs', rfl, g5, Yo (O := O) (B := w.heap.size) (fun b hb => hO b hb) hres, ⟨hB.os, hB.tape, hB.output, hB.size, fun b hb hn => hB.block b hb fun hA => hA.elim (fun h => absurd h (Nat.not_le.2 hb)) hn⟩, ?_⟩
    have hU : ∀ (j : Nat) b, bl[j]? = some b → X'.U j = .pointer (some ⟨b, 0, none⟩) := by
     have := hX'.bl.2
     change ∀ (j : Nat) b, F'.bl[j]? = some b → _ at this
     rw [hs.bl] at this
     exact this
    have := Qb (E := E) hE'.G hX' hU (io := fs.io) (ps := fs.ps) (bl := bl) (w0 := w) (vs := vs) (x := x) (j := 0) (by rw [hP]; show MIn P F'.O0 w fs.io fs.ps bl vs x; rw [hs.O0]; exact ha) (fun k => by rw [Nat.zero_add]) hx'
    change Bx _ F'.O0 _ _ _ _ _ at this
    rwa [hP, hs.O0] at this
   ·cases hr
  ·cases hr
 exact tK c (F := F) hm (fun _ _ h => h) hE hc (.inl ⟨rfl, rfl⟩) rfl hR (Inv.refl _) hy ⟨fun F' s' a' w' h0 h1 _ h2 => hrt F' s' a' w' h0 h1 h2, fun i F' s' a' w' _ _ _ h2 => (nomatch h2), fun F' s' a' w' h0 h1 _ h2 => hrt F' s' a' w' h0 h1 h2⟩
def rtO (E : VE) (e : Ty) (T : TypeId) (l : List ResultVar) (s : S) : Comp (List e.D) := match AB E s l with
 | some [φ] => match wA s.M φ with
  | some p => match Nat.beq p.2.2.1 T, zCE p.2.2.2.2 (.sl e) with
   | true, some ys => Comp.pure ys
   | _, _ => Comp.fail
  | none => Comp.fail
 | _ => Comp.fail
def Mi (E : VE) (c : Code) (h : H) (l : List ResultVar) (e : Ty) (T : TypeId) (ps : Ty) (xs : List e.D) (z : ps.D) : Comp (List e.D) :=
 den E c (List e.D) h ⟨(0, 0, .ob 0) :: JW ps z 1, [(0, 0, .sl false e T xs)], 1, 0⟩ (rtO E e T l) (fun _ _ => Comp.fail) (rtO E e T l)
theorem WM {P : Program} {E : VE} (hE : E.ok P) (hm : P.follows .mixedOrders = true) {f : FuncId} {fn : Func} {c : Code} {h : H} {fs : FO} (hF : FnOk P f) (hf : P.funcs[f]? = some fn) (hb : fn.body = some c) (hc : okC fn.ntmps c = true) (hl : Nat.ble (fs.ps.len + 1) fn.ntmps = true) (hret : fs.ret = true)
  (hs : ∀ xs z, Mi E c h fn.results.toList fs.e fs.T fs.ps xs z = fs.sem xs z) : fs.ok P f := by
 refine ⟨hF, fun O w hO u xs ha vs z hz n ys hy => ?_⟩
 rw [← hs xs z] at hy
 obtain ⟨O', hB, hOw, hk0⟩ := Hh hO ha
 have hz' := fs.ps.Kf P hk0 hz
 have hvs := Xn hz
 refine callsIn_wide.1 (callsIn_of_wp_marks (n := 0) hf hb trivial ?_)
 have hfit := Ys (u :: vs).toArray fn.ntmps (by simp only [List.size_toArray, List.length_cons]; rw [hvs]; exact Nat.le_of_ble_eq_true hl)
 have hget : ∀ (j : Nat) v, (u :: vs)[j]? = some v → Act.get { tmps := (u :: vs).toArray ++ Array.replicate (fn.ntmps - (u :: vs).toArray.size) undef, defers := [] } j = v := fun j v hj => Yr (by simpa using hj)
 generalize ({ tmps := (u :: vs).toArray ++ Array.replicate (fn.ntmps - (u :: vs).toArray.size) undef, defers := [] } : Act) = a at hfit hget ⊢
 let F : Frm := ⟨P, fn.ntmps, [], FrS w u, O, w, fun _ _ => False, 0, [], FrX.no 2 O' w⟩
 let X : Cx := ⟨P, O', fun _ => u, 1, fun _ => 1, FrS w u, Go.Lift.Fr w, 0, 0⟩
 have hin := fun {t e} => Xi (X := X) (a := a) (i := 1) rfl rfl hz' (fun j v hj => by rw [Nat.add_comm]; exact hget (j + 1) v (by simpa using hj)) (u := t) (e := e)
 have hR : Rel F ⟨(0, 0, .ob 0) :: JW fs.ps z 1, [(0, 0, .sl false fs.e fs.T xs)], 1, 0⟩ a w := by
  refine ⟨X, rfl, rfl, rfl, rfl, rfl, hO, hfit, hB, fun t e he _ => ?_, fun k e he => ?_, fun t e he => ?_, fun k e he => ?_, fun k k' e e' he he' _ _ _ => ?_, fun k e he _ => ⟨Nat.one_ne_zero, show 1 ≠ 2 by decide⟩, Nat.zero_le _, Nat.zero_lt_one, fun _ _ h => h.elim, ⟨Nat.zero_le _, fun j b hj => (nomatch hj)⟩, Exx.no (show 2 ≠ 0 by decide) rfl⟩
  ·rcases zH he with ⟨rfl, rfl⟩ | ⟨_, he⟩
   ·have hg : a.get 0 = u := hget 0 u rfl
    rw [hg]
    exact ⟨rfl, Nat.zero_lt_one, kg hOw⟩
   ·exact (hin he).2
  ·rcases zH he with ⟨rfl, rfl⟩ | ⟨_, he⟩
   ·exact hOw
   ·cases he
  ·rcases zH he with ⟨rfl, rfl⟩ | ⟨_, he⟩
   ·exact Nat.zero_lt_one
   ·rw [(hin he).1]; exact Nat.zero_lt_one
  ·rcases zH he with ⟨rfl, rfl⟩ | ⟨_, he⟩
   ·exact ⟨Nat.zero_lt_one, Nat.zero_lt_one⟩
   ·cases he
  ·rcases zH he with ⟨rfl, rfl⟩ | ⟨_, he⟩
   ·rcases zH he' with ⟨rfl, rfl⟩ | ⟨_, he'⟩
    ·rfl
    ·cases he'
   ·cases he
 have hrt : ∀ F' s' a' w', F.To F' → Rel F' s' a' w' → (rtO E fs.e fs.T fn.results.toList s').run n = some ys → LeavesInM Fence.wide 0 P fn a'.tmps (pv (fs.e.gr P) fs.T O w u ys (Wv fs.ret u)) a'.defers .returning w' := by
  intro F' s' a' w' hT h' hr
  refine leaves hT rfl (fun _ _ h => h) (zFu _) h' fun q n' ep' w' hX' => ?_
  obtain ⟨X', hX'⟩ := hX'
  have hs := hT.same
  have hP : X'.P = P := hX'.P.trans hs.P
  have hE' : E.ok X'.P := by rw [hP]; exact hE
  unfold rtO at hr
  split at hr
  ·rename_i φ hm'
   split at hr
   ·rename_i p hp
    split at hr
    ·rename_i ys' hT2 hys
     have e := run_pure hr
     subst e
     have hnf : Zv [φ] = true := by
      unfold wA at hp
      split at hp
      ·rfl
      ·cases hp
     obtain ⟨vs', g1, g2, g3⟩ := J7 hE' hX' (J8 hm' hnf)
     obtain ⟨v, g4, g5⟩ := YP g1
     rw [hP] at g4
     refine ⟨v, g4, ?_⟩
     match vs', g2 with
     | [v1], _ =>
      have hv : v = v1 := by
       rcases g5 with g5 | g5
       ·cases g5
       ·exact g5
      subst hv
      have k1 := g3 0 φ v rfl rfl
      obtain ⟨e0, f1, f2, f3, f4⟩ := Ky hX'.m k1 hp
      obtain ⟨ee, ee2⟩ := Ty.ZQ hys
      rw [zFr hT2] at f3
      have f5 := mV ee ee2 f3
      rw [hP] at f5
      have hne := hX'.pos p.1 e0 f1 (by rw [f2]; rfl)
      have hB := hX'.base
      have hAB := (hX'.okB p.2.1).sub
      change Base F'.A F'.O0 F'.w0 _ _ at hB
      change ∀ g, _ → F'.A g at hAB
      rw [hs.A, hs.O0, hs.w0] at hB
      rw [hs.A] at hAB
      refine QM hB (zr.zFf f5 fun g hg => hAB g hg) hne.1 ?_
      rw [hret]; exact rfl
    ·cases hr
   ·cases hr
  ·cases hr
 exact tK c (F := F) hm (fun _ _ h => h) hE hc (.inl ⟨rfl, rfl⟩) rfl hR (Inv.refl _) hy ⟨fun F' s' a' w' h0 h1 _ h2 => hrt F' s' a' w' h0 h1 h2, fun i F' s' a' w' _ _ _ h2 => (nomatch h2), fun F' s' a' w' h0 h1 _ h2 => hrt F' s' a' w' h0 h1 h2⟩
def Mj (E : VE) (c : Code) (h : H) (l : List ResultVar) (ps rs : Ty) (rk : List (Option TypeId)) (x : ps.D) : Comp rs.D :=
 den E c rs.D h ⟨(0, 0, .ex (.slice none 0 0)) :: JW ps x 1, [], 1, 0⟩ (rtF E rk rs l) (fun _ _ => Comp.fail) (rtF E rk rs l)
theorem WN {P : Program} {E : VE} (hE : E.ok P) (hm : P.follows .mixedOrders = true) {f : FuncId} {fn : Func} {c : Code} {h : H} {fs : FS} (hF : FnOk P f) (hf : P.funcs[f]? = some fn) (hb : fn.body = some c) (hc : okC fn.ntmps c = true) (hl : Nat.ble (fs.ps.len + 1) fn.ntmps = true)
  (hs : ∀ x, Mj E c h fn.results.toList fs.ps fs.rs fs.rk x = fs.sem x) : fs.okN P f := by
 refine ⟨hF, fun O w hO vs x ha n y hy => ?_⟩
 rw [← hs x] at hy
 have hfit := Ys (.slice none 0 0 :: vs).toArray fn.ntmps (by have := Xn ha; simp only [List.size_toArray, List.length_cons]; rw [this]; exact Nat.le_of_ble_eq_true hl)
 have hget : ∀ (j : Nat) v, (Value.slice none 0 0 :: vs)[j]? = some v → Act.get { tmps := (Value.slice none 0 0 :: vs).toArray ++ Array.replicate (fn.ntmps - (Value.slice none 0 0 :: vs).toArray.size) undef, defers := [] } j = v := fun j v hj => Yr (by simpa using hj)
 refine callsIn_wide.1 (callsIn_of_wp_marks (n := 0) hf hb trivial ?_)
 generalize ({ tmps := (Value.slice none 0 0 :: vs).toArray ++ Array.replicate (fn.ntmps - (Value.slice none 0 0 :: vs).toArray.size) undef, defers := [] } : Act) = a at hfit hget ⊢
 let F : Frm := ⟨P, fn.ntmps, [], Go.Lift.Fr w, O, w, fun _ _ => False, 0, [], FrX.no 1 O w⟩
 let X : Cx := ⟨P, O, fun _ => .nilIface, 1, fun k => k, Go.Lift.Fr w, Go.Lift.Fr w, 0, 0⟩
 have hR : Rel F ⟨(0, 0, .ex (.slice none 0 0)) :: JW fs.ps x 1, [], 1, 0⟩ a w := by
  have hin := fun {u e} => Xi (X := X) (a := a) (i := 1) rfl rfl ha (fun j v hj => by rw [Nat.add_comm]; exact hget (j + 1) v (by simpa using hj)) (u := u) (e := e)
  refine ⟨X, rfl, rfl, rfl, rfl, rfl, hO, hfit, Base.start hO, fun t e he _ => (by rcases zH he with ⟨rfl, rfl⟩ | ⟨_, he⟩; exact hget 0 _ (by simp); exact (hin he).2), fun k e he => (nomatch he), fun t e he => (by rcases zH he with ⟨rfl, rfl⟩ | ⟨_, he⟩; exact Nat.zero_lt_one; rw [(hin he).1]; exact Nat.zero_lt_one), fun k e he => (nomatch he), fun k k' e e' he => (nomatch he), fun k e he => (nomatch he), Nat.zero_le _, Nat.zero_lt_one, fun _ _ h => h.elim, ⟨Nat.zero_le _, fun j b hj => (nomatch hj)⟩, Exx.no Nat.one_ne_zero rfl⟩
 have hrt : ∀ F' s' a' w', F.To F' → Rel F' s' a' w' → (rtF E fs.rk fs.rs fn.results.toList s').run n = some y → LeavesInM Fence.wide 0 P fn a'.tmps (fun e w' => ∃ v, e = .returned v ∧ Ext w w' ∧ ∃ rs, YV rs v ∧ JD P O w.heap.size w' fs.rk fs.rs rs y) a'.defers .returning w' := by
  intro F' s' a' w' hT h' hr
  refine leaves hT rfl (fun _ _ h => h) (zFu _) h' fun q n' ep' w' hX' => ?_
  obtain ⟨X', hX'⟩ := hX'
  have hs := hT.same
  have hP : X'.P = P := hX'.P.trans hs.P
  have hE' : E.ok X'.P := by rw [hP]; exact hE
  unfold rtF at hr
  split at hr
  ·rename_i m hm'
   split at hr
   ·rename_i y' hnf hy'
    have e := run_pure hr
    subst e
    obtain ⟨vs', g1, g2, g3⟩ := J7 hE' hX' (J8 hm' hnf)
    obtain ⟨v, g4, g5⟩ := YP g1
    rw [hP] at g4
    refine ⟨v, g4, v, rfl, ?_, vs', g5, ?_⟩
    ·have := hX'.base
     change Base F'.A F'.O0 F'.w0 _ _ at this
     rw [hs.A, hs.O0, hs.w0] at this
     exact this.ext
    ·have := rj hE'.G hX' hy' g2 fun i φ u hi hu => ⟨g3 i φ u hi hu, Z5 hnf φ (List.mem_of_getElem? hi)⟩
     change JD _ F'.O0 F'.w0.heap.size _ _ _ _ _ at this
     rwa [hP, hs.O0, hs.w0] at this
   ·cases hr
  ·cases hr
 exact tK c (F := F) hm (fun _ _ h => h) hE hc (.inl ⟨rfl, rfl⟩) rfl hR (Inv.refl _) hy ⟨fun F' s' a' w' h0 h1 _ h2 => hrt F' s' a' w' h0 h1 h2, fun i F' s' a' w' _ _ _ h2 => (nomatch h2), fun F' s' a' w' h0 h1 _ h2 => hrt F' s' a' w' h0 h1 h2⟩
end Go.Den
end
noncomputable section
namespace Go.Den
open Go Go.RowKit Go.Eng Go.Lift
variable {α β γ δ σ ε τ : Type}
def tell (ys : List τ) (c : Comp (List τ × β)) : Comp (List τ × β) := c.bind fun p => Comp.pure (ys ++ p.1, p.2)
theorem mI {ys zs : List τ} {c : Comp (List τ × β)} {n : Nat} {y : β} (h : (tell ys c).run n = some (zs, y)) : ∃ zs', c.run n = some (zs', y) ∧ zs = ys ++ zs' := by
 obtain ⟨p, h1, h2⟩ := run_bind h
 have := run_pure h2
 cases this
 exact ⟨p.1, h1, rfl⟩
def kC (body : σ → Comp (List τ × Comp.Step σ ε)) (n : Nat) : Nat → σ → Option (List τ × ε)
 | 0, _ => none
 | k + 1, s => match (body s).run n with
  | none => none
  | some (ys, .next s') => match kC body n k s' with
   | some p => some (ys ++ p.1, p.2)
   | none => none
  | some (ys, .done e) => some (ys, e)
theorem Kr {body : σ → Comp (List τ × Comp.Step σ ε)} {n m : Nat} (hnm : n ≤ m) : ∀ {k l : Nat} {s : σ} {e : List τ × ε}, k ≤ l → kC body n k s = some e → kC body m l s = some e := by
 intro k
 induction k with
 | zero => intro l s e _ h; cases h
 | succ k ih =>
  intro l s e hkl h
  obtain ⟨l, rfl⟩ : ∃ l', l = l' + 1 := ⟨l - 1, by omega⟩
  simp only [kC] at h ⊢
  cases hb : (body s).run n with
  | none => rw [hb] at h; cases h
  | some x =>
   rw [(body s).mono hnm hb]; rw [hb] at h
   obtain ⟨ys, st⟩ := x
   cases st with
   | next s' =>
    simp only at h ⊢
    cases hl : kC body n k s' with
    | none => rw [hl] at h; cases h
    | some p => rw [hl] at h; rw [ih (by omega) hl]; exact h
   | done e' => exact h
def Zh (body : σ → Comp (List τ × Comp.Step σ ε)) (s : σ) : Comp (List τ × ε) := ⟨fun n => kC body n n s, fun hnm h => Kr hnm hnm h⟩
theorem nT {body : σ → Comp (List τ × Comp.Step σ ε)} {s : σ} {n m : Nat} {ys : List τ} {e : ε} (h : kC body n m s = some (ys, e)) :
  ∃ m', m' < m ∧ ∃ zs st, (body s).run n = some (zs, st) ∧ (∀ s', st = .next s' → ∃ zs', kC body n m' s' = some (zs', e) ∧ ys = zs ++ zs') ∧ (∀ e', st = .done e' → e' = e ∧ ys = zs) := by
 cases m with
 | zero => cases h
 | succ k =>
  simp only [kC] at h
  cases hb : (body s).run n with
  | none => rw [hb] at h; cases h
  | some x =>
   rw [hb] at h
   obtain ⟨zs, st⟩ := x
   refine ⟨k, by omega, zs, st, rfl, fun s' hs => ?_, fun e' he => ?_⟩
   ·subst hs
    simp only at h
    cases hl : kC body n k s' with
    | none => rw [hl] at h; cases h
    | some p => rw [hl] at h; cases h; exact ⟨p.1, rfl, rfl⟩
   ·subst he; cases h; exact ⟨rfl, rfl⟩
def D0 (n : Nat) : MS → MS
 | [] => []
 | e :: M => (match e.2.2 with
  | .sl true t T xs => (e.1, n, .fs t xs)
  | .mp true a b xs => (e.1, n, .fm a b xs)
  | .fs .. | .fb .. | .fm .. => e
  | _ => (e.1, n, .dead)) :: D0 n M
theorem Z0 : ∀ {n : Nat} {M : MS} {k : Nat} {e : Nat × MV}, look (D0 n M) k = some e → (look M k = some e ∧ e.2.own = false ∧ look (frz M) k = some e) ∨ (e.1 = n ∧ e.2.own = false ∧ ∃ m, look (frz M) k = some (m, e.2))
 | n, [], k, e, h => by cases h
 | n, f :: M, k, e, h => by
  obtain ⟨k0, st, m⟩ := f
  have rest : ∀ {x : Nat × MV}, look ((k0, x) :: D0 n M) k = some e → k0 ≠ k → look (D0 n M) k = some e := fun {x} h hn => by
   rcases zH h with ⟨h1, _⟩ | ⟨_, h2⟩
   ·exact absurd h1 hn
   ·exact h2
  by_cases hk : k0 = k
  ·subst hk
   cases m with
   | sl nw t T xs =>
    cases nw with
    | true =>
     rcases zH h with ⟨_, h2⟩ | ⟨h1, _⟩
     ·subst h2; exact .inr ⟨rfl, rfl, st, by simp [frz, look, zV, Zq]⟩
     ·exact absurd rfl h1
    | false =>
     rcases zH h with ⟨_, h2⟩ | ⟨h1, _⟩
     ·subst h2; exact .inr ⟨rfl, rfl, st, by simp [frz, look, zV, Zq]⟩
     ·exact absurd rfl h1
   | fs t xs =>
    rcases zH h with ⟨_, h2⟩ | ⟨h1, _⟩
    ·subst h2; exact .inl ⟨by simp [look, zV], rfl, by simp [frz, look, zV, Zq]⟩
    ·exact absurd rfl h1
   | fb t x =>
    rcases zH h with ⟨_, h2⟩ | ⟨h1, _⟩
    ·subst h2; exact .inl ⟨by simp [look, zV], rfl, by simp [frz, look, zV, Zq]⟩
    ·exact absurd rfl h1
   | mp nw a b xs =>
    cases nw with
    | true =>
     rcases zH h with ⟨_, h2⟩ | ⟨h1, _⟩
     ·subst h2; exact .inr ⟨rfl, rfl, st, by simp [frz, look, zV, Zq]⟩
     ·exact absurd rfl h1
    | false =>
     rcases zH h with ⟨_, h2⟩ | ⟨h1, _⟩
     ·subst h2; exact .inr ⟨rfl, rfl, st, by simp [frz, look, zV, Zq]⟩
     ·exact absurd rfl h1
   | fm a b xs =>
    rcases zH h with ⟨_, h2⟩ | ⟨h1, _⟩
    ·subst h2; exact .inl ⟨by simp [look, zV], rfl, by simp [frz, look, zV, Zq]⟩
    ·exact absurd rfl h1
   | bx nw c T =>
    rcases zH h with ⟨_, h2⟩ | ⟨h1, _⟩
    ·subst h2; exact .inr ⟨rfl, rfl, st, by simp [frz, look, zV, Zq]⟩
    ·exact absurd rfl h1
   | fg f =>
    rcases zH h with ⟨_, h2⟩ | ⟨h1, _⟩
    ·subst h2; exact .inr ⟨rfl, rfl, st, by simp [frz, look, zV, Zq]⟩
    ·exact absurd rfl h1
   | dead =>
    rcases zH h with ⟨_, h2⟩ | ⟨h1, _⟩
    ·subst h2; exact .inr ⟨rfl, rfl, st, by simp [frz, look, zV, Zq]⟩
    ·exact absurd rfl h1
  ·have hb : Nat.beq k0 k = false := by rw [zV]; simpa using hk
   have h' : look (D0 n M) k = some e := by
    simp only [D0] at h
    cases m with
    | sl nw t T xs => cases nw <;> exact rest h hk
    | mp nw a b xs => cases nw <;> exact rest h hk
    | _ => exact rest h hk
   rcases Z0 h' with ⟨g1, g2, g3⟩ | ⟨g1, g2, m', g3⟩
   ·exact .inl ⟨by simp only [look, hb]; exact g1, g2, by simp only [frz, look, hb]; exact g3⟩
   ·exact .inr ⟨g1, g2, m', by simp only [frz, look, hb]; exact g3⟩
theorem MV.zCQ {X X' : Cx} {w w' : World} {k : Nat} (hX : X.le w X' w') (hk : k < X.n) (m : MV) (h1 : m.own = false) (h : m.holds X w k) : m.holds X' w' k := by
 cases m with
 | sl nw t T xs => cases h1
 | bx nw c T => cases h1
 | fs t xs =>
  show (rSl _).v _ _ _ _
  rw [hX.U k hk, hX.P]; exact GR.vg _ h hX.k
 | fb t x =>
  show (Jm _).v _ _ _ _
  rw [hX.U k hk, hX.P]; exact GR.vg _ h hX.k
 | fg f =>
  intro t x hx
  rw [hX.U k hk, hX.P]; exact GR.vg _ (h t x hx) hX.k
 | mp nw a b xs => cases h1
 | fm a b xs =>
  show ((Ty.mp a b).gr X'.P).v _ _ _ _
  rw [hX.U k hk, hX.P]; exact GR.vg _ h hX.k
 | dead => trivial
def S.yl (s : S) (d : Option Tmp) (b : Bool) : S := { L := (match d with | some d => (d, s.n, .rd .bool b) :: s.L | none => s.L), M := D0 s.n s.M, n := s.n + 1, ep := s.n }
theorem Inv.yl (s : S) (d : Option Tmp) (b : Bool) : Inv s (s.yl d b) := by
 refine ⟨Nat.le_succ _, ?_, fun k e he hl => ?_⟩
 ·cases d with
  | none => exact yQ
  | some d => exact vO yQ
 ·rcases Z0 he with ⟨g1, _⟩ | ⟨g1, _⟩
  ·exact g1
  ·omega
abbrev Frm.reb (F : Frm) (O : zS) (w : World) : Frm := { F with O0 := O, w0 := w, A := Go.Lift.Fr w, x := { F.x with sO := O, sw := w, sb := w.heap.size } }
structure GenI (P : Program) (L : Nat) (a : D4 α) (xs : List α) (J : List α → zS → World → Prop) (Jx : zS → World → Prop) : Prop where
 ext : ∀ pre O1 w1 w2, J pre O1 w1 → Ext w1 w2 → J pre O1 w2
 extx : ∀ O1 w1 w2, Jx O1 w1 → Ext w1 w2 → Jx O1 w2
 ok : ∀ pre O1 w1, J pre O1 w1 → OkO O1 w1
 okx : ∀ O1 w1, Jx O1 w1 → OkO O1 w1
 y : ∀ pre d post O1 w1 vs, xs = pre ++ d :: post → J pre O1 w1 → a O1 w1 vs d → zCr P L vs.toArray w1 fun b w2 => ∃ O2, zj 0 O1 w1 O2 w2 ∧ match b with
  | true => J (pre ++ [d]) O2 w2
  | false => Jx O2 w2
structure GenF (F : Frm) : Prop where
 D : F.D = []
 Lh : ∀ t φ, ¬ F.Lh t φ
 bl : F.bl = []
 fe : F.fe = 0
 st : F.x.st ≠ 0
 sys : ∀ b o, ¬ F.x.sys b o
 kv : ∀ v φ, ¬ F.x.kv v φ
 rd : F.x.rd = none
 nr : F.x.nr = true
section
variable {F : Frm} {E : VE} {t : Ty} {xs : List t.D} {J : List t.D → zS → World → Prop} {Jx : zS → World → Prop}
theorem Iz (hF : GenF F) {O1 O2 : zS} {w1 w w2 : World} {s : S} {a : Act} (h : Rel (F.reb O1 w1) s a w) (hk : zj 0 O1 w O2 w2) (hO2 : OkO O2 w2) {d : Option Tmp} (hd : F.dst d) (b : Bool) : Rel (F.reb O2 w2) (s.yl d b) (a.put d (.bool b)) w2 := by
 obtain ⟨X, hX⟩ := h
 have hout := hX.tG
 let X2 : Cx := { X with O := O2, A := Go.Lift.Fr w2, F := Go.Lift.Fr w2, n := s.n + 1, ep := s.n }
 have hle2 : (X.out (F.reb O1 w1)).le w X2 w2 := ⟨rfl, hk, fun _ _ => rfl, by show X.n ≤ s.n + 1; rw [hX.n]; exact Nat.le_succ _, rfl⟩
 have old : ∀ t e, look s.L t = some e → e.2.zw = false → e.2.holds X2 w2 (a.get t) := fun t e he hf => e.2.le hf hle2 (e.2.le hf hout (hX.l t e he (by simp [fresh, hf])))
 have hfr : ∀ {e : Nat × AV}, fresh s.n e = true → e.1 < s.n → e.2.zw = false := fun {e} hf hl => by
  cases hfr : e.2.zw with
  | false => rfl
  | true =>
   simp only [fresh, hfr, Bool.not_true, Bool.false_or] at hf
   rw [kI] at hf
   have hf' : s.n ≤ e.1 := of_decide_eq_true hf
   omega
 have hMo := hX.EF
 have hcase : ∀ t e, look (s.yl d b).L t = some e → (d = some t ∧ e = (s.n, .rd .bool b)) ∨ (d ≠ some t ∧ look s.L t = some e) := fun t e he => by
  cases d with
  | none => exact .inr ⟨by simp, he⟩
  | some d =>
   rcases zH he with ⟨h1, h2⟩ | ⟨h1, h2⟩
   ·exact .inl ⟨by rw [h1], h2.symm⟩
   ·exact .inr ⟨by simpa using h1, h2⟩
 refine ⟨X2, hX.P, rfl, rfl, rfl, rfl, hO2, kh hX.fit _ _, Base.start hO2, fun t e he hf => ?_, fun k e he => ?_, fun t e he => ?_, fun k e he => ?_, fun k k' e e' he he' ho => ?_, fun k e he ho => ?_, Nat.le_succ _, by show F.fe < s.n + 1; rw [hF.fe]; exact Nat.succ_pos _, fun t φ hp => absurd hp (hF.Lh t φ), ⟨by show F.bl.length ≤ _; rw [hF.bl]; exact Nat.zero_le _, fun j b hj => by rw [show (F.reb O2 w2).bl = [] from hF.bl] at hj; cases hj⟩,
  ⟨hF.st, fun b o hs => absurd hs (hF.sys b o), fun v φ hv => absurd hv (hF.kv v φ), zj.refl _ _ _, hX.ex.L⟩⟩
 ·rcases hcase t e he with ⟨h1, h2⟩ | ⟨h1, h2⟩
  ·subst h2
   subst h1
   rw [vf hX.fit (hd t rfl).1]; exact kf.2 rfl
  ·rw [jE h1]
   exact old t e h2 (hfr hf (hX.ln t e h2))
 ·rcases Z0 he with ⟨_, g2, g3⟩ | ⟨_, g2, m', g3⟩
  ·obtain ⟨m, g4, _⟩ := Xj g3
   exact MV.zCQ hle2 (by show k < X.n; rw [hX.n]; exact (hX.mn k _ g4).2) _ g2 (hMo k e g3)
  ·obtain ⟨m, g4, _⟩ := Xj g3
   exact MV.zCQ hle2 (by show k < X.n; rw [hX.n]; exact (hX.mn k _ g4).2) e.2 g2 (hMo k (m', e.2) g3)
 ·rcases hcase t e he with ⟨_, h2⟩ | ⟨_, h2⟩
  ·rw [h2]; exact Nat.lt_succ_self _
  ·exact Nat.lt_succ_of_lt (hX.ln t e h2)
 ·rcases Z0 he with ⟨g1, _⟩ | ⟨g1, _, m', g3⟩
  ·have := hX.mn k e g1; exact ⟨Nat.lt_succ_of_lt this.1, Nat.lt_succ_of_lt this.2⟩
  ·obtain ⟨m, g4, _⟩ := Xj g3
   exact ⟨by rw [g1]; exact Nat.lt_succ_self _, Nat.lt_succ_of_lt (hX.mn k _ g4).2⟩
 ·rcases Z0 he with ⟨_, g2, _⟩ | ⟨_, g2, _⟩ <;> (rw [ho] at g2; cases g2)
 ·rcases Z0 he with ⟨_, g2, _⟩ | ⟨_, g2, _⟩ <;> (rw [ho] at g2; cases g2)
def I0 (s : S) (o : Oper) : Option (List AV) := match o.op with
 | .call c => match c.callee with
  | .value x => match rdO s.ep s.L [] [] x with
   | some .yl => ji (rdO s.ep s.L [] []) c.args.toList
   | _ => none
  | _ => none
 | _ => none
def rF (E : VE) (t : Ty) (wr : List Nat) (s : S) (o : Oper) (z : S → Comp Unit) (k : S → Comp (List t.D × β)) : Comp (List t.D × β) := match I0 s o with
 | some l => match Zv l, JB (l.map (fun φ => φ.asT E.G (frz s.M))) t with
  | true, some x => (z (s.yl o.dst false)).bind fun _ => tell [x] (k (s.yl o.dst true))
  | _, _ => Comp.fail
 | none => step E wr s o k
def Zn (E : VE) (t : Ty) (wr : List Nat) (all : List Oper) (z : S → Comp Unit) (k : S → Comp (List t.D × β)) : List Oper → S → Comp (List t.D × β)
 | [], s => k s
 | o :: os, s => match o.guard with
  | none => rF E t wr s o (Z9 E wr all z os) (Zn E t wr all z k os)
  | some g => match rM all g.1 with
   | none => Comp.fail
   | some u => match rdO s.ep s.L [] [] (.tmp u) with
    | none => Comp.fail
    | some φ => match exG φ with
     | some b => match rD b g.2 with
      | true => rF E t wr s o (Z9 E wr all z os) (Zn E t wr all z k os)
      | false => Zn E t wr all z k os (s.put o.dst (.ex undef))
     | none => match φ.bool? with
      | none => Comp.fail
      | some b => if gB b g.2 = true then rF E t wr (s.put (some u) (.ex (.bool g.2))) o (Z9 E wr all z os) (Zn E t wr all z k os) else Zn E t wr all z k os ((s.put (some u) (.ex (.bool (ntB g.2)))).put o.dst (.ex undef))
structure Stp where
 k : S → Comp Unit
 ex : Nat → S → Comp Unit
 rt : S → Comp Unit
def AV.cb : AV → Option Bool
 | .rd .bool b => some b
 | .ex (.bool b) => some b
 | _ => none
theorem Rh {X : Cx} {w : World} {v : Value} {o : Option AV} {b : Bool} (h : o.bind AV.cb = some b) (hv : ∀ φ, o = some φ → φ.holds X w v) : v = .bool b := by
 cases o with
 | none => cases h
 | some φ =>
  have k := hv φ rfl
  simp only [zFq] at h
  unfold AV.cb at h
  split at h
  ·cases h; exact kf.1 k
  ·cases h; exact k
  ·cases h
def Xp (E : VE) (t : Ty) : Code → (β : Type) → H → S → (S → Comp (List t.D × β)) → (Nat → S → Comp (List t.D × β)) → (S → Comp (List t.D × β)) → Stp → Comp (List t.D × β)
 | .skip, _, _, s, k, _, _, _ => k s
 | .label _, _, _, s, k, _, _, _ => k s
 | .region _ ops draw, _, h, s, k, _, _, z => match h with
  | .f l h' => match h' with
   | .y => match draw with
    | false => Zn E t (wrS ops.toList) ops.toList z.k k ops.toList (s.Zq E (tY s l))
    | true => Comp.fail
   | h' => G0 E ops draw h' (s.Zq E (tY s l)) k
  | .y => match draw with
   | false => Zn E t (wrS ops.toList) ops.toList z.k k ops.toList s
   | true => Comp.fail
  | h => G0 E ops draw h s k
 | .seq a b, β, h, s, k, ex, rt, z => Xp E t a β h.l1 s (fun s' => Xp E t b β h.l2 s' k ex rt z) ex rt ⟨fun s' => den E b Unit h.l2 s' z.k z.ex z.rt, z.ex, z.rt⟩
 | .cond c x y, β, h, s, k, ex, rt, z => match (rdO s.ep s.L [] [] c).bind AV.cb with
  | none => Comp.fail
  | some b => match h with
   | .j sh h1 h2 => jn (fun x => k (sh.put s x)) fun j => if b = true then Xp E t x β h1 s (fun s' => goJ E.G sh s s' j) ex rt z else Xp E t y β h2 s (fun s' => goJ E.G sh s s' j) ex rt z
   | h => if b = true then Xp E t x β h.l1 s k ex rt z else Xp E t y β h.l2 s k ex rt z
 | .block id c, β, h, s, k, ex, rt, z => match h with
  | .jb sh h1 => jn (fun x => k (sh.put s x)) fun j => Xp E t c β h1 s (fun s' => goJ E.G sh s s' j) (fun i s' => match Nat.beq i id with | true => goJ E.G sh s s' j | false => ex i s') rt ⟨z.k, fun i s' => match Nat.beq i id with | true => z.k s' | false => z.ex i s', z.rt⟩
  | h => Xp E t c β h.l1 s k (fun i s' => match Nat.beq i id with | true => k s' | false => ex i s') rt ⟨z.k, fun i s' => match Nat.beq i id with | true => z.k s' | false => z.ex i s', z.rt⟩
 | .loop c, β, h, s, k, ex, rt, z => match h with
  | .l sh l h1 => match sh.get E.G s s with
   | none => Comp.fail
   | some x0 => (Zh (fun x => Xp E t c (Comp.Step sh.D (ED l)) h1 (sh.put s x) (fun s' => (JU E.G sh s s').bind fun st => Comp.pure ([], st)) (fun i s' => (ku E.G s l (some i) s').bind fun st => Comp.pure ([], st)) (fun s' => (ku E.G s l none s').bind fun st => Comp.pure ([], st)) ⟨fun _ => Comp.fail, z.ex, z.rt⟩) x0).bind fun p => tell p.1 (Dx s ex rt l p.2)
  | _ => Comp.fail
 | .scope c, β, h, s, k, ex, rt, z => Xp E t c β h.l1 s k ex rt z
 | .exit i, _, _, s, _, ex, _, _ => ex i s
 | .ret, _, _, s, _, _, rt, _ => rt s
 | _, _, _, _, _, _, _, _ => Comp.fail
structure WaysY (F : Frm) (J : List t.D → zS → World → Prop) (T : List t.D) (s0 : S) (nf : Nat) {β : Type} (y : β) (k : S → Comp (List t.D × β)) (ex : Nat → S → Comp (List t.D × β)) (rt : S → Comp (List t.D × β)) (Q : Exit → Act → World → Prop) : Prop where
 k : ∀ O1 w1 acc s' a' w' ys, J acc O1 w1 → Rel (F.reb O1 w1) s' a' w' → Inv s0 s' → (k s').run nf = some (ys, y) → acc ++ ys = T → Q .normal a' w'
 ex : ∀ i O1 w1 acc s' a' w' ys, J acc O1 w1 → Rel (F.reb O1 w1) s' a' w' → Inv s0 s' → (ex i s').run nf = some (ys, y) → acc ++ ys = T → Q (.exit i) a' w'
 rt : ∀ O1 w1 acc s' a' w' ys, J acc O1 w1 → Rel (F.reb O1 w1) s' a' w' → Inv s0 s' → (rt s').run nf = some (ys, y) → acc ++ ys = T → Q .ret a' w'
structure WaysX (F : Frm) (Jx : zS → World → Prop) (s0 : S) (nf : Nat) (z : Stp) (Q : Exit → Act → World → Prop) : Prop where
 k : ∀ O1 w1 s' a' w', Jx O1 w1 → Rel (F.reb O1 w1) s' a' w' → Inv s0 s' → (z.k s').run nf = some () → Q .normal a' w'
 ex : ∀ i O1 w1 s' a' w', Jx O1 w1 → Rel (F.reb O1 w1) s' a' w' → Inv s0 s' → (z.ex i s').run nf = some () → Q (.exit i) a' w'
 rt : ∀ O1 w1 s' a' w', Jx O1 w1 → Rel (F.reb O1 w1) s' a' w' → Inv s0 s' → (z.rt s').run nf = some () → Q .ret a' w'
theorem WaysX.inv {F : Frm} {Jx : zS → World → Prop} {s0 s1 : S} {nf : Nat} {z : Stp} {Q : Exit → Act → World → Prop} (h : WaysX F Jx s0 nf z Q) (hi : Inv s0 s1) : WaysX F Jx s1 nf z Q :=
 ⟨fun O1 w1 s' a' w' h1 h2 h3 => h.k O1 w1 s' a' w' h1 h2 (hi.trans h3), fun i O1 w1 s' a' w' h1 h2 h3 => h.ex i O1 w1 s' a' w' h1 h2 (hi.trans h3), fun O1 w1 s' a' w' h1 h2 h3 => h.rt O1 w1 s' a' w' h1 h2 (hi.trans h3)⟩
theorem HT (hF : GenF F) (hE : E.ok F.P) (hG : GenI F.P F.x.Lp (t.args F.P) xs J Jx) (wr : List Nat) {o : Oper} (ho : (∀ c, o.op ≠ .defer c) ∧ F.dst o.dst) {nf : Nat} {y : β} {Q : Exit → Act → World → Prop} {s : S} {a : Act} {w : World} {O1 : zS} {w1 : World} {acc ys T rest : List t.D} (hT : T ++ rest = xs) {z : S → Comp Unit} {k : S → Comp (List t.D × β)} {K : Act → World → Prop}
  (hJ : J acc O1 w1) (h : Rel (F.reb O1 w1) s a w) (hr : (rF E t wr s o z k).run nf = some (ys, y)) (hxs : acc ++ ys = T)
  (hK : ∀ O2 w2 acc' s' v w' ys', J acc' O2 w2 → Rel (F.reb O2 w2) s' (a.put o.dst v) w' → Inv s s' → (k s').run nf = some (ys', y) → acc' ++ ys' = T → K (a.put o.dst v) w')
  (hZ : ∀ O2 w2 s' v w', Jx O2 w2 → Rel (F.reb O2 w2) s' (a.put o.dst v) w' → Inv s s' → (z s').run nf = some () → K (a.put o.dst v) w') : F.W Q o a w K := by
 unfold rF at hr
 split at hr
 ·rename_i l hl
  split at hr
  ·rename_i x hnf hx
   obtain ⟨u, hu, hr⟩ := run_bind hr
   obtain ⟨ys', hr', hys⟩ := mI hr
   obtain ⟨X, hX⟩ := h
   obtain ⟨d, op, T, pos, aft, g⟩ := o
   unfold I0 at hl
   split at hl
   case h_2 => cases hl
   rename_i c hop
   simp only at hop
   subst hop
   obtain ⟨cal, cx, ts⟩ := c
   split at hl
   case h_2 => cases hl
   rename_i f hcal
   simp only at hcal
   subst hcal
   split at hl
   case h_2 => cases hl
   rename_i hf
   rw [← hX.ep] at hf hl
   have hfv : a.eval f = .func (.yield F.x.Lp) #[] #[] := by
    have := hX.rd #[f] f _ (by simp) hf
    rw [show a.eval f = _ from this, hX.ex.L]
   have hlen := kL hl
   have hargs : t.args X.P O1 w (cx.toList.map a.eval) x := by
    refine ZZ (O := (X.out (F.reb O1 w1)).O) hx (by simp [hlen]) fun i f v hf hv t y hy => ?_
    rw [List.getElem?_map, Option.map_eq_some_iff] at hf hv
    obtain ⟨ψ, g1, rfl⟩ := hf
    obtain ⟨q, g2, rfl⟩ := hv
    obtain ⟨q', g3, g4⟩ := ZA hl i ψ g1
    rw [g2] at g3; cases g3
    have hψ := hX.rd #[q] q ψ (by simp) g4
    have hnfψ := Z5 hnf ψ (List.mem_of_getElem? g1)
    exact AV.YW (X := X.out (F.reb O1 w1)) (by show FOk X.P E.G; rw [hX.P]; exact hE.G) hX.EF hy (ψ.le hnfψ hX.tG hψ)
   have hP : X.P = F.P := hX.P
   rw [hP] at hargs
   have hJw := hG.ext acc O1 w1 w hJ hX.base.ext
   have hxs' : xs = acc ++ x :: (ys' ++ rest) := by rw [← hT, ← hxs, hys]; simp
   obtain ⟨fn, tm, asg, bd, q1, q2⟩ := hG.y acc x _ O1 w _ hxs' hJw hargs
   refine ⟨fun _ _ => trivial, ?_⟩
   rw [show (fw F.x.rd).round = none from hF.rd, Oper.semAt_none]
   have hrun : (execOp a.eval ⟨d, .call ⟨.value f, cx, ts⟩, T, pos, aft, g⟩).run F.P w = .ok (.round F.x.Lp fn tm asg bd) w := by
    have e : (cx.map a.eval) = (cx.toList.map a.eval).toArray := by rw [← Array.toList_map]
    simp [execOp, resolve, hfv, Deferred.ofValue, invoke, e, q1]
   rw [hrun]
   have hfw : fw F.x.rd = Fence.wide := by rw [hF.rd]; rfl
   rw [hfw]
   refine ⟨fun h => by simp [Fence.wide] at h, RoundIn.mono q2 fun e w2 he => ?_⟩
   obtain ⟨b, rfl, O2, hk, hb⟩ := he
   cases b with
   | true =>
    exact hK O2 w2 _ _ _ w2 ys' hb (Iz hF ⟨X, hX⟩ hk (hG.ok _ _ _ hb) ho.2 true) (Inv.yl _ _ _) hr' (by rw [← hxs, hys]; simp)
   | false =>
    exact hZ O2 w2 _ _ w2 hb (Iz hF ⟨X, hX⟩ hk (hG.okx _ _ hb) ho.2 false) (Inv.yl _ _ _) hu
  ·cases hr
 ·exact Y3 ho.1 (wL (F := F.reb O1 w1) hE h wr o ho.2 nf _ hr K Q fun s' v w' g1 g2 g3 => hK O1 w1 acc s' v w' ys hJ g1 g2 g3 hxs)
theorem KN (hF : GenF F) (hE : E.ok F.P) (hG : GenI F.P F.x.Lp (t.args F.P) xs J Jx) (wr : List Nat) {all : List Oper} {nf : Nat} {y : β} {T rest : List t.D} (hT : T ++ rest = xs) {Q : Exit → Act → World → Prop} {s0 : S} {z : S → Comp Unit} {k : S → Comp (List t.D × β)}
  (hK : ∀ O2 w2 acc s' a' w' ys, J acc O2 w2 → Rel (F.reb O2 w2) s' a' w' → Inv s0 s' → (k s').run nf = some (ys, y) → acc ++ ys = T → Q .normal a' w')
  (hZ : ∀ O2 w2 s' a' w', Jx O2 w2 → Rel (F.reb O2 w2) s' a' w' → Inv s0 s' → (z s').run nf = some () → Q .normal a' w') : ∀ {os : List Oper} {s : S} {a : Act} {w : World} {O1 : zS} {w1 : World} {acc ys : List t.D},
  J acc O1 w1 → Rel (F.reb O1 w1) s a w → Inv s0 s → (Zn E t wr all z k os s).run nf = some (ys, y) → acc ++ ys = T → (∀ o ∈ os, (∀ c, o.op ≠ .defer c) ∧ F.dst o.dst) → jz (F.W Q) all.toArray (Q .normal) os a w
 | [], s, a, w, O1, w1, acc, ys, hJ, h, hi, hr, hxs, _ => hK O1 w1 acc s a w ys hJ h hi hr hxs
 | o :: os, s, a, w, O1, w1, acc, ys, hJ, h, hi, hr, hxs, ho => by
  have h1 := ho o (by simp)
  have ho' : ∀ o ∈ os, (∀ c, o.op ≠ .defer c) ∧ F.dst o.dst := fun o' ho' => ho o' (by simp [ho'])
  have act : ∀ {s : S}, Rel (F.reb O1 w1) s a w → Inv s0 s → (rF E t wr s o (Z9 E wr all z os) (Zn E t wr all z k os)).run nf = some (ys, y) → Region.wanted o (yielded all.toArray a.tmps) = true → jz (F.W Q) all.toArray (Q .normal) (o :: os) a w := fun {s} h hi hr hw => by
   simp only [jz, hw, if_true]
   refine HT hF hE hG wr h1 hT hJ h hr hxs (fun O2 w2 acc' s' v w' ys' g1 g2 g3 g4 g5 => ?_) fun O2 w2 s' v w' g1 g2 g3 g4 => ?_
   ·exact KN hF hE hG wr hT hK hZ g1 g2 (hi.trans g3) g4 g5 ho'
   ·exact Jr (F := F.reb O2 w2) hE wr g2 (hi.trans g3) g4 ho' fun s2 a2 w3 e1 e2 e3 => hZ O2 w2 s2 a2 w3 g1 e1 e2 e3
  have off : ∀ {s : S}, Rel (F.reb O1 w1) s a w → Inv s0 s → (Zn E t wr all z k os (s.put o.dst (.ex undef))).run nf = some (ys, y) → Region.wanted o (yielded all.toArray a.tmps) = false → jz (F.W Q) all.toArray (Q .normal) (o :: os) a w := fun {s} h hi hr hw => by
   simp only [jz, hw, Bool.false_eq_true, if_false]
   exact KN hF hE hG wr hT hK hZ hJ (h.skip h1.2) (hi.trans (Inv.put _ _ _)) hr hxs ho'
  simp only [Zn] at hr
  split at hr
  ·rename_i hg
   exact act h hi hr (by simp [Region.wanted, hg])
  ·rename_i g hg
   have hwant : Region.wanted o (yielded all.toArray a.tmps) = (yielded all.toArray a.tmps g.1 == some g.2) := by simp [Region.wanted, hg]
   split at hr
   ·cases hr
   ·rename_i u ht
    split at hr
    ·cases hr
    ·rename_i φ hφ
     obtain ⟨X, hX⟩ := h
     rw [← hX.ep] at hφ
     have hv : φ.holds X w (a.get u) := hX.rd #[.tmp u] (.tmp u) φ (by simp) hφ
     split at hr
     ·rename_i b hb
      have hy : yielded all.toArray a.tmps g.1 = b := by
       cases b with
       | none => rw [lL hb] at hv; exact JE ht hv
       | some b => rw [lK hb] at hv; exact Zi ht hv
      rw [hy] at hwant
      split at hr
      ·rename_i hw
       refine act ⟨X, hX⟩ hi hr ?_
       rw [hwant]
       unfold rD at hw
       split at hw <;> first | simp_all | cases hw
      ·rename_i hw
       refine off ⟨X, hX⟩ hi hr ?_
       rw [hwant]
       cases b with
       | none => rfl
       | some b =>
        generalize g.2 = v at hw
        cases b <;> cases v <;> first | rfl | (simp [rD] at hw)
     ·split at hr
      ·cases hr
      ·rename_i b hb
       have hab : a.get u = .bool b := by rw [AV.Z8 hb] at hv; exact kf.1 hv
       have hy := Zi ht hab
       rw [hy] at hwant
       split at hr
       ·rename_i hgb
        have e := Mg.1 hgb
        refine act (Rel.XK hX (φ := .ex (.bool g.2)) fun X' _ => (by rw [hab, e]; exact rfl)) (hi.trans (Inv.put _ _ _)) hr ?_
        rw [hwant, e]; simp
       ·rename_i hgb
        have e := MX hgb
        refine off (Rel.XK hX (φ := .ex (.bool (ntB g.2))) fun X' _ => (by rw [hab, e]; exact rfl)) (hi.trans (Inv.put _ _ _)) hr ?_
        rw [hwant, e]; cases g.2 <;> rfl
theorem mK {c : Comp σ} {n : Nat} {ys : List τ} {y : σ} (h : (c.bind fun st => Comp.pure (([] : List τ), st)).run n = some (ys, y)) : ys = [] ∧ c.run n = some y := by
 obtain ⟨x, h1, h2⟩ := run_bind h
 have := run_pure h2
 cases this
 exact ⟨rfl, h1⟩
theorem RT (hF : GenF F) (hm : F.P.follows .mixedOrders = true) (hE : E.ok F.P) (hG : GenI F.P F.x.Lp (t.args F.P) xs J Jx) : ∀ (c : Code), okC F.N c = true → Yg c = true → ∀ {β : Type} {h : H} {s0 s : S} {a : Act} {w : World} {k : S → Comp (List t.D × β)} {ex : Nat → S → Comp (List t.D × β)} {rt : S → Comp (List t.D × β)} {z : Stp} {nf : Nat} {y : β} {Q : Exit → Act → World → Prop} {O1 : zS} {w1 : World} {acc ys T rest : List t.D}, T ++ rest = xs →
  J acc O1 w1 → Rel (F.reb O1 w1) s a w → Inv s0 s → (Xp E t c β h s k ex rt z).run nf = some (ys, y) → acc ++ ys = T → WaysY F J T s0 nf y k ex rt Q → WaysX F Jx s0 nf z Q → F.wp c Q a w := by
 have hLh : ∀ (O1 : zS) (w1 : World) t φ, ¬ (F.reb O1 w1).Lh t φ := fun _ _ => hF.Lh
 have hstop : ∀ {c : Code}, okC F.N c = true → Yg c = true → ∀ {h : H} {s0 s : S} {a : Act} {w : World} {z : Stp} {nf : Nat} {Q : Exit → Act → World → Prop} {O1 : zS} {w1 : World}, Jx O1 w1 → Rel (F.reb O1 w1) s a w → Inv s0 s → (den E c Unit h s z.k z.ex z.rt).run nf = some () → WaysX F Jx s0 nf z Q → F.wp c Q a w := by
  intro c hok hn h s0 s a w z nf Q O1 w1 hJ hR hi hr hW
  have hnr : (F.reb O1 w1).x.nr = true := hF.nr
  exact tK c (F := F.reb O1 w1) hm (hLh _ _) hE hok (.inr hn) rfl hR hi hr ⟨fun F' s' a' w' g0 g1 g2 g3 => (by rw [g0.nr hnr] at g1; exact hW.k O1 w1 s' a' w' hJ g1 g2 g3), fun i F' s' a' w' g0 g1 g2 g3 => (by rw [g0.nr hnr] at g1; exact hW.ex i O1 w1 s' a' w' hJ g1 g2 g3), fun F' s' a' w' g0 g1 g2 g3 => (by rw [g0.nr hnr] at g1; exact hW.rt O1 w1 s' a' w' hJ g1 g2 g3)⟩
 have hregY : ∀ {id : Nat} {ops : Array Oper}, XP F.N ops.toList = true → ∀ {β : Type} {s0 s : S} {a : Act} {w : World} {k : S → Comp (List t.D × β)} {zk : S → Comp Unit} {nf : Nat} {y : β} {Q : Exit → Act → World → Prop} {O1 : zS} {w1 : World} {acc ys T rest : List t.D}, T ++ rest = xs → J acc O1 w1 → Rel (F.reb O1 w1) s a w → Inv s0 s → (Zn E t (wrS ops.toList) ops.toList zk k ops.toList s).run nf = some (ys, y) → acc ++ ys = T →
   (∀ O2 w2 acc s' a' w' ys, J acc O2 w2 → Rel (F.reb O2 w2) s' a' w' → Inv s0 s' → (k s').run nf = some (ys, y) → acc ++ ys = T → Q .normal a' w') → (∀ O2 w2 s' a' w', Jx O2 w2 → Rel (F.reb O2 w2) s' a' w' → Inv s0 s' → (zk s').run nf = some () → Q .normal a' w') → F.wp (.region id ops false) Q a w := by
  intro id ops hok β s0 s a w k zk nf y Q O1 w1 acc ys T rest hT hJ hR hi hr hxs hK hZ
  have key : jz (F.W Q) ops.toList.toArray (Q .normal) ops.toList a w := KN hF hE hG (wrS ops.toList) hT hK hZ hJ hR hi hr hxs fun o ho => ⟨wT hok o ho, fun t ht => ?_⟩
  ·refine wX (fun h => nomatch h) ?_
   show XL (F.W Q) ops (Q .normal) (List.range ops.size) a w
   rw [List.range_eq_range', ← Array.length_toList, YX ops.toList 0 (by simp)]
   simpa using key
  ·obtain ⟨j, hj⟩ := List.mem_iff_getElem?.1 ho
   exact ⟨((zW (X7 hok) hj).2.1 t ht).1, fun φ => hF.Lh t φ⟩
 intro c
 induction c with
 | skip => intro _ _ β h s0 s a w k ex rt z nf y Q O1 w1 acc ys T rest hT hJ hR hi hr hxs hW hX; exact wpIn_skip (hW.k O1 w1 acc s a w ys hJ hR hi hr hxs)
 | label l => intro _ _ β h s0 s a w k ex rt z nf y Q O1 w1 acc ys T rest hT hJ hR hi hr hxs hW hX; exact wpIn_label (hW.k O1 w1 acc s a w ys hJ hR hi hr hxs)
 | exit i => intro _ _ β h s0 s a w k ex rt z nf y Q O1 w1 acc ys T rest hT hJ hR hi hr hxs hW hX; exact wpIn_exit (hW.ex i O1 w1 acc s a w ys hJ hR hi hr hxs)
 | ret => intro _ _ β h s0 s a w k ex rt z nf y Q O1 w1 acc ys T rest hT hJ hR hi hr hxs hW hX; exact wpIn_ret (hW.rt O1 w1 acc s a w ys hJ hR hi hr hxs)
 | region id ops draw =>
  intro hok _ β h s0 s a w k ex rt z nf y Q O1 w1 acc ys T rest hT hJ hR hi hr hxs hW hX
  simp only [Xp] at hr
  split at hr
  ·rename_i l h'
   have hR' := Rel.Zq (F := F.reb O1 w1) (E := E) hE hR (tY s l)
   have hi' := hi.trans (Inv.Zq (E := E) s (tY s l))
   split at hr
   ·split at hr
    ·exact hregY hok hT hJ hR' hi' hr hxs hW.k hX.k
    ·cases hr
   ·exact wP (F := F.reb O1 w1) (hLh _ _) hE hm (zFu _) hok hR' hi' hr fun s' a' w' g1 g2 g3 => hW.k O1 w1 acc s' a' w' ys hJ g1 g2 g3 hxs
  ·split at hr
   ·exact hregY hok hT hJ hR hi hr hxs hW.k hX.k
   ·cases hr
  ·exact wP (F := F.reb O1 w1) (hLh _ _) hE hm (zFu _) hok hR hi hr fun s' a' w' g1 g2 g3 => hW.k O1 w1 acc s' a' w' ys hJ g1 g2 g3 hxs
 | seq x v ihx ihv =>
  intro hok hn β h s0 s a w k ex rt z nf y Q O1 w1 acc ys T rest hT hJ hR hi hr hxs hW hX
  simp only [okC, zFs] at hok
  simp only [Yg, zFs] at hn
  simp only [Xp] at hr
  refine wpIn_seq (ihx hok.1 hn.1 hT hJ hR hi hr hxs ⟨fun O2 w2 acc' s' a' w' ys' g0 g1 g2 g3 g4 => ?_, hW.ex, hW.rt⟩ ⟨fun O2 w2 s' a' w' g0 g1 g2 g3 => ?_, hX.ex, hX.rt⟩)
  ·exact ihv hok.2 hn.2 hT g0 g1 g2 g3 g4 hW hX
  ·exact hstop hok.2 hn.2 g0 g1 g2 g3 hX
 | scope x ih =>
  intro hok hn β h s0 s a w k ex rt z nf y Q O1 w1 acc ys T rest hT hJ hR hi hr hxs hW hX
  simp only [Xp] at hr
  exact w7 (ih hok hn hT hJ hR hi hr hxs ⟨hW.k, hW.ex, hW.rt⟩ ⟨hX.k, hX.ex, hX.rt⟩)
 | cond c x e ihx ihe =>
  intro hok hn β h s0 s a w k ex rt z nf y Q O1 w1 acc ys T rest hT hJ hR hi hr hxs hW hX
  simp only [okC, zFs] at hok
  simp only [Yg, zFs] at hn
  simp only [Xp] at hr
  split at hr
  ·cases hr
  ·rename_i b hb
   have hc : a.eval c = .bool b := by
    obtain ⟨X, hX⟩ := hR
    rw [← hX.ep] at hb
    exact Rh hb fun φ h1 => hX.rd #[c] c φ (by simp) h1
   split at hr
   ·rename_i sh h1 h2
    dsimp only [jn] at hr
    have hW' : WaysY F J T s nf y (fun s' => goJ E.G sh s s' (fun x => k (sh.put s x))) ex rt Q := by
     refine ⟨fun O2 w2 acc' s' a' w' ys' g0 g1 g2 g3 g4 => ?_, fun i O2 w2 acc' s' a' w' ys' g0 g1 g2 g3 g4 => hW.ex i O2 w2 acc' s' a' w' ys' g0 g1 (hi.trans g2) g3 g4, fun O2 w2 acc' s' a' w' ys' g0 g1 g2 g3 g4 => hW.rt O2 w2 acc' s' a' w' ys' g0 g1 (hi.trans g2) g3 g4⟩
     obtain ⟨x, q1, q2, q3⟩ := tI (F := F.reb O2 w2) (F0 := F.reb O1 w1) (hLh _ _) hE ⟨rfl, rfl, rfl⟩ hR g1 g2 g3
     exact hW.k O2 w2 acc' _ _ _ ys' g0 q1 (hi.trans q2) q3 g4
    refine wpIn_cond_split hc (fun hbt => ?_) (fun hbf => ?_)
    ·rw [if_pos hbt] at hr; exact ihx hok.1 hn.1 hT hJ hR (Inv.refl s) hr hxs hW' (hX.inv hi)
    ·rw [if_neg (by rw [hbf]; simp)] at hr; exact ihe hok.2 hn.2 hT hJ hR (Inv.refl s) hr hxs hW' (hX.inv hi)
   ·refine wpIn_cond_split hc (fun hbt => ?_) (fun hbf => ?_)
    ·rw [if_pos hbt] at hr; exact ihx hok.1 hn.1 hT hJ hR hi hr hxs hW hX
    ·rw [if_neg (by rw [hbf]; simp)] at hr; exact ihe hok.2 hn.2 hT hJ hR hi hr hxs hW hX
 | block id x ih =>
  intro hok hn β h s0 s a w k ex rt z nf y Q O1 w1 acc ys T rest hT hJ hR hi hr hxs hW hX
  simp only [Xp] at hr
  refine wpIn_block ?_
  have hX' : WaysX F Jx s0 nf ⟨z.k, fun i s' => match Nat.beq i id with | true => z.k s' | false => z.ex i s', z.rt⟩ (Exit.inBlock id Q) := by
   refine ⟨hX.k, fun i O2 w2 s' a' w' g0 g1 g2 g3 => ?_, hX.rt⟩
   show (if i = id then Q .normal a' w' else Q (.exit i) a' w')
   cases hb : Nat.beq i id with
   | true => simp only [hb] at g3; rw [if_pos (zFr hb)]; exact hX.k O2 w2 s' a' w' g0 g1 g2 g3
   | false =>
    simp only [hb] at g3
    rw [zV] at hb
    rw [if_neg (by simpa using hb)]; exact hX.ex i O2 w2 s' a' w' g0 g1 g2 g3
  split at hr
  ·rename_i sh h1
   dsimp only [jn] at hr
   have hk : ∀ O2 w2 acc' s' a' w' ys', J acc' O2 w2 → Rel (F.reb O2 w2) s' a' w' → Inv s s' → (goJ E.G sh s s' (fun x => k (sh.put s x))).run nf = some (ys', y) → acc' ++ ys' = T → Q .normal a' w' := by
    intro O2 w2 acc' s' a' w' ys' g0 g1 g2 g3 g4
    obtain ⟨x, q1, q2, q3⟩ := tI (F := F.reb O2 w2) (F0 := F.reb O1 w1) (hLh _ _) hE ⟨rfl, rfl, rfl⟩ hR g1 g2 g3
    exact hW.k O2 w2 acc' _ _ _ ys' g0 q1 (hi.trans q2) q3 g4
   refine ih hok hn hT hJ hR (Inv.refl s) hr hxs ⟨hk, fun i O2 w2 acc' s' a' w' ys' g0 g1 g2 g3 g4 => ?_, fun O2 w2 acc' s' a' w' ys' g0 g1 g2 g3 g4 => hW.rt O2 w2 acc' s' a' w' ys' g0 g1 (hi.trans g2) g3 g4⟩ (hX'.inv hi)
   show (if i = id then Q .normal a' w' else Q (.exit i) a' w')
   cases hb : Nat.beq i id with
   | true => rw [hb] at g3; rw [if_pos (zFr hb)]; exact hk O2 w2 acc' s' a' w' ys' g0 g1 g2 g3 g4
   | false =>
    rw [hb] at g3
    rw [zV] at hb
    rw [if_neg (by simpa using hb)]; exact hW.ex i O2 w2 acc' s' a' w' ys' g0 g1 (hi.trans g2) g3 g4
  ·refine ih hok hn hT hJ hR hi hr hxs ⟨hW.k, fun i O2 w2 acc' s' a' w' ys' g0 g1 g2 g3 g4 => ?_, hW.rt⟩ hX'
   show (if i = id then Q .normal a' w' else Q (.exit i) a' w')
   cases hb : Nat.beq i id with
   | true => rw [hb] at g3; rw [if_pos (zFr hb)]; exact hW.k O2 w2 acc' s' a' w' ys' g0 g1 g2 g3 g4
   | false =>
    rw [hb] at g3
    rw [zV] at hb
    rw [if_neg (by simpa using hb)]; exact hW.ex i O2 w2 acc' s' a' w' ys' g0 g1 g2 g3 g4
 | loop c ih =>
  intro hok hn β h s0 s a w k ex rt z nf y Q O1 w1 acc ys T rest hT hJ hR hi hr hxs hW hX
  simp only [Xp] at hr
  split at hr
  ·rename_i sh l h1
   split at hr
   ·cases hr
   ·rename_i x0 hx0
    obtain ⟨p, hp, hr⟩ := run_bind hr
    obtain ⟨ys0, e⟩ := p
    obtain ⟨zs, hr, hys⟩ := mI hr
    simp only at hr hys
    obtain ⟨g1, g2⟩ := Zw (F := F.reb O1 w1) (hLh _ _) hE (Frm.Jw _) hR hR (Inv.refl s) hx0
    generalize hB : (fun x => Xp E t c (Comp.Step sh.D (ED l)) h1 (sh.put s x) (fun s' => (JU E.G sh s s').bind fun st => Comp.pure ([], st)) (fun i s' => (ku E.G s l (some i) s').bind fun st => Comp.pure ([], st)) (fun s' => (ku E.G s l none s').bind fun st => Comp.pure ([], st)) ⟨fun _ => Comp.fail, z.ex, z.rt⟩) = B at *
    refine qI (fun m a' w' => ∃ O2 w2 acc' x ys', J acc' O2 w2 ∧ Rel (F.reb O2 w2) (sh.put s x) a' w' ∧ Inv s (sh.put s x) ∧ kC B nf m x = some (ys', e) ∧ acc' ++ (ys' ++ zs) = T) (fun m a' w' hI => ?_) ⟨O1, w1, acc, x0, ys0, hJ, g1, g2, hp, by rw [← hxs, hys]⟩
    obtain ⟨O2, w2, acc', x, ys', q0, q1, q2, q3, q4⟩ := hI
    obtain ⟨m', hlt, us, st, hst, hnx, hdn⟩ := nT q3
    rw [← hB] at hst
    have hend : ∀ (o : Option Nat) O3 w3 acc3 s' a3 w' vs, J acc3 O3 w3 → Rel (F.reb O3 w3) s' a3 w' → Inv s s' → ((ku (σ := sh.D) E.G s l o s').bind fun st => Comp.pure (([] : List t.D), st)).run nf = some (vs, st) → acc3 ++ vs = acc' ++ us → ∃ s2, Rel (F.reb O3 w3) s2 a3 w' ∧ Inv s s2 ∧ (match o with | some i => ex i s2 | none => rt s2).run nf = some (zs, y) ∧ acc3 ++ zs = T := by
     intro o O3 w3 acc3 s' a3 w' vs f0 f1 f2 f3 f4
     obtain ⟨rfl, f5⟩ := mK (c := ku (σ := sh.D) E.G s l o s') f3
     unfold ku at f5
     split at f5
     ·rename_i v hv
      have hst := run_pure f5
      obtain ⟨he, hus⟩ := hdn v hst.symm
      subst he
      obtain ⟨s2, r1, r2, r3⟩ := wW (F := F.reb O3 w3) (F0 := F.reb O1 w1) (hLh _ _) hE ⟨rfl, rfl, rfl⟩ hR f1 f2 hv hr
      refine ⟨s2, r1, r2, r3, ?_⟩
      rw [List.append_nil] at f4
      rw [f4, ← q4, hus, List.append_assoc]
     ·cases f5
    have hT' : ∃ rest', (acc' ++ us) ++ rest' = xs := by
     cases st with
     | next s' =>
      obtain ⟨zs', _, h2⟩ := hnx s' rfl
      exact ⟨zs' ++ zs ++ rest, by rw [← hT, ← q4, h2]; simp⟩
     | done e' =>
      obtain ⟨_, h2⟩ := hdn e' rfl
      exact ⟨zs ++ rest, by rw [← hT, ← q4, h2]; simp⟩
    obtain ⟨rest', hT'⟩ := hT'
    refine ih hok hn hT' q0 q1 q2 hst rfl ⟨fun O3 w3 acc3 s' a3 w' vs f0 f1 f2 f3 f4 => ?_, fun i O3 w3 acc3 s' a3 w' vs f0 f1 f2 f3 f4 => ?_, fun O3 w3 acc3 s' a3 w' vs f0 f1 f2 f3 f4 => ?_⟩ ⟨fun _ _ _ _ _ _ _ _ f => (nomatch f), (hX.inv hi).ex, (hX.inv hi).rt⟩
    ·obtain ⟨rfl, f5⟩ := mK (c := JU E.G sh s s') f3
     unfold JU at f5
     split at f5
     ·rename_i v hv
      have hst := run_pure f5
      obtain ⟨zs', k1, k2⟩ := hnx v hst.symm
      obtain ⟨r1, r2⟩ := Zw (F := F.reb O3 w3) (F0 := F.reb O1 w1) (hLh _ _) hE ⟨rfl, rfl, rfl⟩ hR f1 f2 hv
      refine ⟨m', hlt, O3, w3, acc3, v, zs', f0, r1, r2, k1, ?_⟩
      rw [List.append_nil] at f4
      rw [f4, ← q4, k2]; simp
     ·cases f5
    ·obtain ⟨s2, r1, r2, r3, r4⟩ := hend (some i) O3 w3 acc3 s' a3 w' vs f0 f1 f2 f3 f4
     exact hW.ex i O3 w3 acc3 s2 a3 w' zs f0 r1 (hi.trans r2) r3 r4
    ·obtain ⟨s2, r1, r2, r3, r4⟩ := hend none O3 w3 acc3 s' a3 w' vs f0 f1 f2 f3 f4
     exact hW.rt O3 w3 acc3 s2 a3 w' zs f0 r1 (hi.trans r2) r3 r4
  ·cases hr
 | goto l => intro _ _ β h s0 s a w k ex rt z nf y Q O1 w1 acc ys T rest hT hJ hR hi hr; cases hr
 | refuse l => intro _ _ β h s0 s a w k ex rt z nf y Q O1 w1 acc ys T rest hT hJ hR hi hr; cases hr
 | rangeFunc f ps pa bd _ _ => intro _ hn; cases hn
end
def Mh (E : VE) (c : Code) (h : H) (ps t : Ty) (x : ps.D) : Comp (List t.D) :=
 (Xp E t c Unit h ⟨(0, 0, .yl) :: JW ps x 1, [], 1, 0⟩ (fun _ => Comp.pure ([], ())) (fun _ _ => Comp.fail) (fun _ => Comp.pure ([], ())) ⟨fun _ => Comp.pure (), fun _ _ => Comp.fail, fun _ => Comp.pure ()⟩).bind fun p => Comp.pure p.1
theorem WL {P : Program} {E : VE} (hE : E.ok P) (hm : P.follows .mixedOrders = true) {f : FuncId} {fn : Func} {c : Code} {h : H} {fs : GS} (hF : FnOk P f) (hf : P.funcs[f]? = some fn) (hb : fn.body = some c) (hc : (okC fn.ntmps c && Yg c) = true) (hres : fn.results.size = 0) (hl : Nat.ble (fs.ps.len + 1) fn.ntmps = true)
  (hs : ∀ x, Mh E c h fs.ps fs.t x = fs.sem x) : fs.ok P f := by
 rw [zFs] at hc
 refine ⟨hF, fun O w hO us x ha n xs hy L J Jx hR => ?_⟩
 rw [← hs x] at hy
 obtain ⟨⟨ys, u⟩, hy2, hp⟩ := run_bind hy
 have := run_pure hp
 simp only at this
 subst this
 have hvs := Xn ha
 refine calls_of_wp hf hb ?_
 have hfit := Ys (Value.func (.yield L) #[] #[] :: us).toArray fn.ntmps (by simp only [List.size_toArray, List.length_cons]; rw [hvs]; exact Nat.le_of_ble_eq_true hl)
 have hget : ∀ (j : Nat) v, (Value.func (.yield L) #[] #[] :: us)[j]? = some v → Act.get { tmps := (Value.func (.yield L) #[] #[] :: us).toArray ++ Array.replicate (fn.ntmps - (Value.func (.yield L) #[] #[] :: us).toArray.size) undef, defers := [] } j = v := fun j v hj => Yr (by simpa using hj)
 generalize ({ tmps := (Value.func (.yield L) #[] #[] :: us).toArray ++ Array.replicate (fn.ntmps - (Value.func (.yield L) #[] #[] :: us).toArray.size) undef, defers := [] } : Act) = a at hfit hget ⊢
 let F : Frm := ⟨P, fn.ntmps, [], Go.Lift.Fr w, O, w, fun _ _ => False, 0, [], { FrX.no 1 O w with Lp := L, nr := true }⟩
 let X : Cx := ⟨P, O, fun _ => .nilIface, 1, fun k => k, Go.Lift.Fr w, Go.Lift.Fr w, 0, L⟩
 have hGF : GenF F := ⟨rfl, fun _ _ h => h, rfl, rfl, Nat.one_ne_zero, fun _ _ h => h, fun _ _ h => h, rfl, rfl⟩
 have hG : GenI P L (fs.t.args P) ys J Jx := ⟨hR.ext, hR.extx, hR.ok, hR.okx, hR.y⟩
 have hRel : Rel (F.reb O w) ⟨(0, 0, .yl) :: JW fs.ps x 1, [], 1, 0⟩ a w := by
  have hin := fun {t e} => Xi (X := X) (a := a) (i := 1) rfl rfl ha (fun j v hj => by rw [Nat.add_comm]; exact hget (j + 1) v (by simpa using hj)) (u := t) (e := e)
  refine ⟨X, rfl, rfl, rfl, rfl, rfl, hO, hfit, Base.start hO, fun t e he _ => (by
   rcases zH he with ⟨rfl, rfl⟩ | ⟨_, he⟩
   ·exact hget 0 _ rfl
   ·exact (hin he).2), fun k e he => (nomatch he), fun t e he => (by
   rcases zH he with ⟨rfl, rfl⟩ | ⟨_, he⟩
   ·exact Nat.zero_lt_one
   ·rw [(hin he).1]; exact Nat.zero_lt_one), fun k e he => (nomatch he), fun k k' e e' he => (nomatch he), fun k e he => (nomatch he), Nat.zero_le _, Nat.zero_lt_one, fun _ _ h => h.elim, ⟨Nat.zero_le _, fun j b hj => (nomatch hj)⟩, ⟨Nat.one_ne_zero, fun _ _ h => h.elim, fun _ _ h => h.elim, zj.refl _ _ _, rfl⟩⟩
 have hret : ∀ (a' : Act) (w' : World), a'.defers = [] → ((∃ O'', J ys O'' w') ∨ ∃ O'', Jx O'' w') → bodyPost P fn (fun e w'' => e = .returned (.tuple #[]) ∧ ((∃ O'', J ys O'' w'') ∨ ∃ O'', Jx O'' w'')) .normal a' w' := fun a' w' hd h => by
  have hr : fn.results = #[] := Array.eq_empty_of_size_eq_zero hres
  exact ⟨hd, .tuple #[], by simp [results, hr], rfl, h⟩
 refine (wpIn_wide (n := 0)).1 ?_
 refine RT (F := F) (xs := ys) (T := ys) (rest := []) (acc := []) hGF hm hE hG c hc.1 hc.2 (by simp) hR.z hRel (Inv.refl _) hy2 rfl ⟨fun O1 w1 acc s' a' w' zs h1 h2 h3 h4 h5 => ?_, fun i O1 w1 acc s' a' w' zs h1 h2 h3 h4 => (nomatch h4), fun O1 w1 acc s' a' w' zs h1 h2 h3 h4 h5 => ?_⟩ ⟨fun O1 w1 s' a' w' h1 h2 h3 h4 => ?_, fun i O1 w1 s' a' w' h1 h2 h3 h4 => (nomatch h4), fun O1 w1 s' a' w' h1 h2 h3 h4 => ?_⟩
 ·have := run_pure h4
  cases this
  obtain ⟨X', hX'⟩ := h2
  rw [List.append_nil] at h5
  subst h5
  exact hret a' w' hX'.fit.defers (.inl ⟨O1, hR.ext _ _ _ _ h1 hX'.base.ext⟩)
 ·have := run_pure h4
  cases this
  obtain ⟨X', hX'⟩ := h2
  rw [List.append_nil] at h5
  subst h5
  exact hret a' w' hX'.fit.defers (.inl ⟨O1, hR.ext _ _ _ _ h1 hX'.base.ext⟩)
 ·obtain ⟨X', hX'⟩ := h2
  exact hret a' w' hX'.fit.defers (.inr ⟨O1, hR.extx _ _ _ h1 hX'.base.ext⟩)
 ·obtain ⟨X', hX'⟩ := h2
  exact hret a' w' hX'.fit.defers (.inr ⟨O1, hR.extx _ _ _ h1 hX'.base.ext⟩)
end Go.Den
end
section
namespace Go.Den
open Go Go.RowKit Go.Eng Go.Lift
def Nc (P : Program) (X : TypeId) : Nat → List (Nat × Nat × Nat) → Prop
 | _, [] => True
 | k, e :: l => Fld P X k e.1 e.2.1 e.2.2 ∧ Nc P X (k + 1) l
theorem Sw {P : Program} {X : TypeId} : ∀ {l : List (Nat × Nat × Nat)} {k : Nat}, Nc P X k l → ∀ (f : Nat) e, l[f]? = some e → Fld P X (k + f) e.1 e.2.1 e.2.2
 | [], _, _, f, e, h => by simp at h
 | e0 :: l, k, h, f, e, he => by
  cases f with
  | zero => simp at he; subst he; exact h.1
  | succ f => have := Sw h.2 f e (by simpa using he); rwa [Nat.add_right_comm, Nat.add_assoc] at this
theorem yb {P : Program} {X : TypeId} {i : TI} (h : i.kq = false) : i.kq = true → KeyB P X i.τ := fun h' => by rw [h] at h'; cases h'
def TI.zAC (P : Program) (X : TypeId) (i : TI) : Prop := i.eq ≠ 0 → EqT P X i.τ i.eq ∧ i.eq ≤ 10000 ∧ (i.τ.agg = true → P.eqGuardType P.depth X = false)
theorem kc {P : Program} {X : TypeId} {i : TI} (h : i.eq = 0) : i.zAC P X := fun h' => absurd h h'
theorem yV {P : Program} {X : TypeId} {i : TI} (h : Eng.Ty P X i.dd i.z i.sz i.by_) (hf : i.fl = []) (he : i.zAC P X) (hk : i.kq = true → KeyB P X i.τ) : i.ok P X := ⟨h, fun f e he => (by rw [hf] at he; simp at he), .inl hf, he, hk⟩
theorem vm {P : Program} {X : TypeId} {i : TI} (h : Eng.Ty P X i.dd i.z i.sz i.by_) (hf : Nc P X 0 i.fl) (hp : Plc P X (i.fl.map (fun e => (e.2.1, e.2.2 + 1))).toArray) (he : i.zAC P X) (hk : i.kq = true → KeyB P X i.τ) : i.ok P X :=
 ⟨h, fun f e he => (by have := Sw hf f e he; rwa [Nat.zero_add] at this), .inr hp, he, hk⟩
def iS (e : TypeId) (t : Ty) : TI := ⟨.slice e, .slice none 0 0, 1, 24, [], t, 0, false⟩
theorem Yk {P : Program} {X e : TypeId} {t : Ty} (h : Eng.Ty P X (.slice e) (.slice none 0 0) 1 24) : (iS e t).ok P X := yV (i := iS e t) h rfl (kc rfl) (yb rfl)
theorem QG (P : Program) : TOk P [] := fun X i h => nomatch h
theorem zU {P : Program} {X : TypeId} {i : TI} {l : TE} (h : i.ok P X) (hl : TOk P l) : TOk P ((X, i) :: l) := fun Y j hj => by
 rcases zH hj with ⟨h1, h2⟩ | ⟨_, h2⟩
 ·subst h1 h2; exact h
 ·exact hl Y j h2
def Af (l : List (Nat × Ty × Nat)) (D : Nat) : List Field → Ty → Nat → Bool
 | [], .nil, _ => true
 | f :: fs, .cons a b, off => !(f.name == "_") && (Nat.beq f.offset off && ((match look l f.type with
  | some e => a.beq e.1 && Nat.ble e.2 D
  | none => false) && Af l D fs b (off + a.sz)))
 | _, _, _ => false
def Ei (P : Program) (l : List (Nat × Ty × Nat)) : Prop := ∀ X e, look l X = some e → EqT P X e.1 e.2
theorem Xy (P : Program) : Ei P [] := fun X i h => nomatch h
theorem Z6 {P : Program} {X : TypeId} {t : Ty} {D : Nat} {l : List (Nat × Ty × Nat)} (h : EqT P X t D) (hl : Ei P l) : Ei P ((X, t, D) :: l) := fun Y j hj => by
 rcases zH hj with ⟨h1, h2⟩ | ⟨_, h2⟩
 ·subst h1 h2; exact h
 ·exact hl Y j h2
theorem KB {P : Program} {l : List (Nat × Ty × Nat)} (hl : Ei P l) {D : Nat} : ∀ {fs : List Field} {t : Ty} {off : Nat}, Af l D fs t off = true → EqTs P D fs t off
 | [], .nil, _, _ => .nil
 | f :: fs, .cons a b, off, h => by
  simp only [Af, zFs] at h
  obtain ⟨h1, h2, h3, h4⟩ := h
  split at h3
  ·rename_i e he
   rw [zFs] at h3
   have := hl _ _ he
   rw [← Ty.JZ h3.1] at this
   exact .cons (by simpa using h1) (zFr h2) this (Nat.le_of_ble_eq_true h3.2) (KB hl h4)
  ·cases h3
 | [], .int _, _, h | [], .bool, _, h | [], .str, _, h | [], .sl _, _, h | [], .cons .., _, h | [], .arr .., _, h | [], .box _, _, h | [], .fn .., _, h | [], .seq .., _, h | [], .slo .., _, h | [], .mp .., _, h => by simp [Af] at h
 | _ :: _, .int _, _, h | _ :: _, .bool, _, h | _ :: _, .str, _, h | _ :: _, .sl _, _, h | _ :: _, .nil, _, h | _ :: _, .arr .., _, h | _ :: _, .box _, _, h | _ :: _, .fn .., _, h | _ :: _, .seq .., _, h | _ :: _, .slo .., _, h | _ :: _, .mp .., _, h => by simp [Af] at h
theorem Xf {κ : Type} {P : Nat → κ → Prop} {f : Nat} {s : κ} {l : List (Nat × κ)} (h : P f s) (hl : ∀ g t, look l g = some t → P g t) : ∀ g t, look ((f, s) :: l) g = some t → P g t := fun Y j hj => by
 rcases zH hj with ⟨h1, h2⟩ | ⟨_, h2⟩
 ·subst h1 h2; exact h
 ·exact hl Y j h2
section short
variable {P : Program} {T : TE} {lG : List (Nat × FS)} {lM : List (Nat × FM)} {lO : List (Nat × FO)} {lN : List (Nat × FS)} {lQ : List (Nat × GS)}
abbrev ve (T : TE) (lG : List (Nat × FS)) (lM : List (Nat × FM)) (lO : List (Nat × FO)) (lN : List (Nat × FS)) (lQ : List (Nat × GS)) : VE := ⟨T, look lG, look lM, look lO, look lN, look lQ⟩
structure EK (P : Program) (T : TE) (lG : List (Nat × FS)) (lM : List (Nat × FM)) (lO : List (Nat × FO)) (lN : List (Nat × FS)) (lQ : List (Nat × GS)) : Prop where
 e : (ve T lG lM lO lN lQ).ok P
 m : P.follows .mixedOrders = true
theorem e0 (h : TOk P T) (hm : P.follows .mixedOrders = true) : EK P T [] [] [] [] [] := ⟨⟨h, (fun X i h => nomatch h), (fun X i h => nomatch h), (fun X i h => nomatch h), (fun X i h => nomatch h), (fun X i h => nomatch h)⟩, hm⟩
theorem EK.S {f s} (h : EK P T lG lM lO lN lQ) (hs : FS.ok P f s) : EK P T ((f, s) :: lG) lM lO lN lQ := ⟨{ h.e with G := Xf hs h.e.G }, h.m⟩
theorem EK.M {f s} (h : EK P T lG lM lO lN lQ) (hs : FM.ok P f s) : EK P T lG ((f, s) :: lM) lO lN lQ := ⟨{ h.e with H := Xf hs h.e.H }, h.m⟩
theorem EK.O {f s} (h : EK P T lG lM lO lN lQ) (hs : FO.ok P f s) : EK P T lG lM ((f, s) :: lO) lN lQ := ⟨{ h.e with O := Xf hs h.e.O }, h.m⟩
theorem EK.N {f s} (h : EK P T lG lM lO lN lQ) (hs : FS.okN P f s) : EK P T lG lM lO ((f, s) :: lN) lQ := ⟨{ h.e with N := Xf hs h.e.N }, h.m⟩
theorem EK.Q {f s} (h : EK P T lG lM lO lN lQ) (hs : GS.ok P f s) : EK P T lG lM lO lN ((f, s) :: lQ) := ⟨{ h.e with Q := Xf hs h.e.Q }, h.m⟩
def okA (fn : Func) (c : Code) (n : Nat) : Bool := !fn.body.isNone && (!(fn.name == "runtime.NumGoroutine") && (okC fn.ntmps c && Nat.ble n fn.ntmps))
theorem jo {fn : Func} {c : Code} {n : Nat} (h : okA fn c n = true) : fn.body.isNone = false ∧ (fn.name == "runtime.NumGoroutine") = false ∧ okC fn.ntmps c = true ∧ Nat.ble n fn.ntmps = true := by
 unfold okA at h; simp only [zFs, Bool.not_eq_true'] at h; exact h
variable {f : FuncId} {fn : Func} {c : Code}
theorem fS (hE : EK P T lG lM lO lN lQ) (h : H) {fs : FS} (hf : P.funcs[f]? = some fn) (hb : fn.body = some c := by rfl) (hk : okA fn c fs.ps.len = true := by kernel_rfl) (hs : ∀ x, Sv (ve T lG lM lO lN lQ) c h fn.results.toList fs.ps fs.rs fs.rk x = fs.sem x := by intro x; kernel_rfl) : fs.ok P f :=
 zBv hE.e hE.m ⟨_, hf, (jo hk).1, (jo hk).2.1⟩ hf hb (jo hk).2.2.1 (jo hk).2.2.2 hs
theorem fM (hE : EK P T lG lM lO lN lQ) (h : H) {fs : FM} (hf : P.funcs[f]? = some fn) (hb : fn.body = some c := by rfl) (hk : okA fn c fs.ps.len = true := by kernel_rfl) (hs : ∀ x, Mk (ve T lG lM lO lN lQ) c h fn.results.toList fs.ps fs.io fs.rs x = fs.sem x := by intro x; kernel_rfl) : fs.ok P f :=
 WO hE.e hE.m ⟨_, hf, (jo hk).1, (jo hk).2.1⟩ hf hb (jo hk).2.2.1 (jo hk).2.2.2 hs
theorem fO (hE : EK P T lG lM lO lN lQ) (h : H) {fs : FO} (hf : P.funcs[f]? = some fn) (hb : fn.body = some c := by rfl) (hk : (fs.ret && okA fn c (fs.ps.len + 1)) = true := by kernel_rfl) (hs : ∀ xs z, Mi (ve T lG lM lO lN lQ) c h fn.results.toList fs.e fs.T fs.ps xs z = fs.sem xs z := by intro xs z; kernel_rfl) : fs.ok P f := by
 rw [zFs] at hk
 exact WM hE.e hE.m ⟨_, hf, (jo hk.2).1, (jo hk.2).2.1⟩ hf hb (jo hk.2).2.2.1 (jo hk.2).2.2.2 hk.1 hs
theorem fN (hE : EK P T lG lM lO lN lQ) (h : H) {fs : FS} (hf : P.funcs[f]? = some fn) (hb : fn.body = some c := by rfl) (hk : okA fn c (fs.ps.len + 1) = true := by kernel_rfl) (hs : ∀ x, Mj (ve T lG lM lO lN lQ) c h fn.results.toList fs.ps fs.rs fs.rk x = fs.sem x := by intro x; kernel_rfl) : fs.okN P f :=
 WN hE.e hE.m ⟨_, hf, (jo hk).1, (jo hk).2.1⟩ hf hb (jo hk).2.2.1 (jo hk).2.2.2 hs
theorem fQ (hE : EK P T lG lM lO lN lQ) (h : H) {fs : GS} (hf : P.funcs[f]? = some fn) (hb : fn.body = some c := by rfl) (hk : (Nat.beq fn.results.size 0 && (Yg c && okA fn c (fs.ps.len + 1))) = true := by kernel_rfl) (hs : ∀ x, Mh (ve T lG lM lO lN lQ) c h fs.ps fs.t x = fs.sem x := by intro x; kernel_rfl) : fs.ok P f := by
 simp only [zFs] at hk
 have ho := jo hk.2.2
 exact WL hE.e hE.m ⟨_, hf, ho.1, ho.2.1⟩ hf hb (by rw [ho.2.2.1, hk.2.1]; rfl) (zFr hk.1) ho.2.2.2 hs
end short
end Go.Den
end
section
namespace Go.Lift
open Go Go.Eng
variable {α β γ δ ε σ τ : Type}
namespace Comp
def kN (f : σ → α → Step σ ε) (fin : σ → ε) : σ → List α → ε
 | s, [] => fin s
 | s, x :: xs => match f s x with
  | .next s' => kN f fin s' xs
  | .done e => e
def Step.map (g : σ → τ) : Step σ ε → Step τ ε
 | .next s => .next (g s)
 | .done e => .done e
theorem kz {body : τ → Comp (Step τ ε)} (st : σ → Nat → τ) (xs : List α) (f : σ → α → Step σ ε) (fin : σ → ε) (I : σ → Nat → Prop)
  (hb : ∀ s i x, xs[i]? = some x → I s i → (body (st s i)).val = some ((f s x).map fun s' => st s' (i + 1)))
  (hI : ∀ s i x s', xs[i]? = some x → I s i → f s x = .next s' → I s' (i + 1))
  (he : ∀ s, I s xs.length → (body (st s xs.length)).val = some (.done (fin s))) (s : σ) (h0 : I s 0) : (loop body (st s 0)).val = some (kN f fin s xs) := by
 have key : ∀ (ys zs : List α) (s : σ), xs = zs ++ ys → I s zs.length → (loop body (st s zs.length)).val = some (kN f fin s ys) := by
  intro ys
  induction ys with
  | nil =>
   intro zs s hx hs
   rw [List.append_nil] at hx; subst hx
   rw [zL, he s hs]; rfl
  | cons y ys ih =>
   intro zs s hx hs
   have hy : xs[zs.length]? = some y := by rw [hx]; simp
   rw [zL, hb s _ y hy hs]
   simp only [kN, zFq]
   cases hf : f s y with
   | next s' =>
    simp only [Step.map]
    have := ih (zs ++ [y]) s' (by rw [hx]; simp) (by have := hI s _ y s' hy hs hf; simpa using this)
    simpa using this
   | done e => rfl
 exact key xs [] s rfl h0
theorem Y6 {f : σ → α → σ} {fin : σ → ε} : ∀ (xs : List α) (s : σ), kN (fun s x => .next (f s x)) fin s xs = fin (xs.foldl f s)
 | [], _ => rfl
 | x :: xs, s => by simp only [kN, List.foldl_cons]; exact Y6 xs (f s x)
end Comp
theorem zG {xs : List α} {i : Nat} {x : α} (h : xs[i]? = some x) : (idx xs (i : Int)).val = some x := by
 unfold idx; rw [if_pos (by omega)]; simp [h]
theorem Jz {xs : List α} {i : Int} {x : α} (h0 : 0 ≤ i) (h : xs[i.toNat]? = some x) : (idx xs i).val = some x := by
 unfold idx; rw [if_pos h0]; simp [h]
theorem zo {xs ys : List α} (h : xs.length + ys.length ≤ LIM) : (app xs ys).val = some (xs ++ ys) := by
 unfold app; rw [if_pos h]; simp
theorem Zs {xs : List α} {l h : Int} (hr : 0 ≤ l ∧ l ≤ h ∧ h ≤ xs.length) : (sub xs l h).val = some ((xs.take h.toNat).drop l.toNat) := by
 unfold sub; rw [if_pos hr]; simp
theorem mk_val {n : Int} {z : α} (h : 0 ≤ n ∧ n ≤ LIM) : (mk n z).val = some (List.replicate n.toNat z) := by
 unfold mk; rw [if_pos h]; simp
theorem QC {xs : List α} {i : Int} {x : α} (h : 0 ≤ i ∧ i < xs.length) : (upd xs i x).val = some (xs.set i.toNat x) := by
 unfold upd; rw [if_pos h]; simp
theorem ZS {a b : Int} (h : b ≠ 0) : (rem a b).val = some (a.tmod b) := by
 unfold rem; rw [if_neg h]; simp
theorem zK {xs : List α} {i : Nat} {x : α} (h : xs[i]? = some x) : i < xs.length := (List.getElem?_eq_some_iff.1 h).1
def Ok (c : Comp α) (P : α → Prop) : Prop := ∃ a, c.val = some a ∧ P a
namespace Ok
theorem kP {c : Comp α} {a : α} {P : α → Prop} (h : c.val = some a) : Ok c P ↔ P a := by
 constructor
 ·rintro ⟨b, h1, h2⟩; rw [h] at h1; cases h1; exact h2
 ·exact fun hp => ⟨a, h, hp⟩
theorem val {c : Comp α} {a : α} (h : Ok c (fun x => x = a)) : c.val = some a := by
 obtain ⟨b, h1, h2⟩ := h; rw [h1, h2]
theorem mono {c : Comp α} {P Q : α → Prop} (h : Ok c P) (i : ∀ a, P a → Q a) : Ok c Q := by
 obtain ⟨a, h1, h2⟩ := h; exact ⟨a, h1, i a h2⟩
theorem pure {a : α} {P : α → Prop} : Ok (Comp.pure a) P ↔ P a := kP (Comp.zB a)
theorem bind {c : Comp α} {f : α → Comp β} {P : β → Prop} : Ok (c.bind f) P ↔ Ok c fun a => Ok (f a) P := by
 unfold Ok
 rw [zA]
 cases hc : c.val with
 | none => simp
 | some a => simp
theorem zl {c : Comp α} {a : α} (h : c.val = some a) {f : α → Comp β} {P : β → Prop} : Ok (c.bind f) P ↔ Ok (f a) P := by rw [bind, kP h]
theorem gd {g : Bool} {c : Comp α} {d : α} {P : α → Prop} : Ok (Comp.gd g c d) P ↔ if g = true then Ok c P else P d := by
 cases g with
 | true => exact Iff.rfl
 | false => exact pure
theorem zAB {g : Bool} {c : Comp α} {d : α} {P : α → Prop} (h1 : g = true → Ok c P) (h2 : g = false → P d) : Ok (Comp.gd g c d) P := by
 cases g with
 | true => exact h1 rfl
 | false => exact pure.2 (h2 rfl)
theorem idx {xs : List α} {i : Int} {P : α → Prop} {x : α} (h0 : 0 ≤ i) (h : xs[i.toNat]? = some x) : Ok (Lift.idx xs i) P ↔ P x := kP (Jz h0 h)
theorem W8 {xs : List α} {i : Nat} {P : α → Prop} {x : α} (h : xs[i]? = some x) : Ok (Lift.idx xs (i : Int)) P ↔ P x := kP (zG h)
theorem app {xs ys : List α} {P : List α → Prop} (h : xs.length + ys.length ≤ LIM) : Ok (Lift.app xs ys) P ↔ P (xs ++ ys) := kP (zo h)
theorem sub {xs : List α} {l h : Int} {P : List α → Prop} (hr : 0 ≤ l ∧ l ≤ h ∧ h ≤ xs.length) : Ok (Lift.sub xs l h) P ↔ P ((xs.take h.toNat).drop l.toNat) := kP (Zs hr)
theorem rem {a b : Int} {P : Int → Prop} (h : b ≠ 0) : Ok (Lift.rem a b) P ↔ P (a.tmod b) := kP (ZS h)
theorem upd {xs : List α} {i : Int} {x : α} {P : List α → Prop} (h : 0 ≤ i ∧ i < xs.length) : Ok (Lift.upd xs i x) P ↔ P (xs.set i.toNat x) := kP (QC h)
theorem mk {n : Int} {z : α} {P : List α → Prop} (h : 0 ≤ n ∧ n ≤ LIM) : Ok (Lift.mk n z) P ↔ P (List.replicate n.toNat z) := kP (mk_val h)
theorem loop {body : σ → Comp (Comp.Step σ ε)} (I : σ → Prop) (m : σ → Nat) {P : ε → Prop} {s : σ} (h0 : I s)
  (hb : ∀ s, I s → Ok (body s) fun t => match t with | .next s' => I s' ∧ m s' < m s | .done e => P e) : Ok (Comp.loop body s) P := by
 have key : ∀ k s, m s = k → I s → Ok (Comp.loop body s) P := by
  intro k
  induction k using Nat.strongRecOn with
  | _ k ih =>
   intro s hk hI
   obtain ⟨t, h1, h2⟩ := hb s hI
   cases t with
   | next s' =>
    obtain ⟨e, h3, h4⟩ := ih (m s') (by have := h2.2; omega) s' rfl h2.1
    exact ⟨e, by rw [zL, h1]; exact h3, h4⟩
   | done e => exact ⟨e, by rw [zL, h1]; rfl, h2⟩
 exact key _ s rfl h0
end Ok
end Go.Lift
end
section
namespace Go.Geo
open Go Go.Eng Go.Lift Go.Den
variable {α β γ δ ε σ τ : Type}
theorem zF {m n : Int} : (ltI m n = true) = (m < n) := by simp [ltI]
theorem z8 {m n : Int} : (gtI m n = true) = (n < m) := by simp [gtI]
theorem NU {m n : Int} : (leI m n = true) = (m ≤ n) := by simp [leI]
theorem K8 {m n : Int} : (geI m n = true) = (n ≤ m) := by simp [geI]
theorem yd {m n : Int} : (eqI m n = true) = (m = n) := by simp [eqI]
theorem zX {m n : Int} : (neI m n = true) = (m ≠ n) := by simp [neI]
theorem vb (f : α → Comp β) (g : (α → Comp β) → Comp β) : jn f g = g f := rfl
theorem ya (b : Bool) : ntB b = !b := rfl
theorem vk (a b : Bool) : sel a true b = (a || b) := by cases a <;> rfl
theorem YD (a b : Bool) : sel a b false = (a && b) := by cases a <;> rfl
theorem zC (xs : List α) : zD xs = (xs.length : Int) := rfl
def W (n : Int) : Int := IntKind.wrap .i64 n
theorem Eg (n : Int) : W n = (n + 9223372036854775808) % 18446744073709551616 - 9223372036854775808 := by
 unfold W
 simp [IntKind.wrap, IntKind.bits, IntKind.signed]
 split <;> omega
theorem HC {n : Int} (h : -9223372036854775808 ≤ n ∧ n < 9223372036854775808) : W n = n := by rw [Eg]; omega
theorem SK {m n : Int} (k : Int) (h : m = n + 18446744073709551616 * k) : W m = W n := by rw [Eg, Eg]; omega
theorem Ef (n : Int) : ∃ k, W n = n + 18446744073709551616 * k := ⟨- ((n + 9223372036854775808) / 18446744073709551616), by rw [Eg]; omega⟩
theorem Rt (m n : Int) : W (W m + n) = W (m + n) := by
 obtain ⟨k, h⟩ := Ef m
 exact SK k (by rw [h]; omega)
theorem Rs (m n : Int) : W (m + W n) = W (m + n) := by
 obtain ⟨k, h⟩ := Ef n
 exact SK k (by rw [h]; omega)
theorem Ds (m n : Int) : W (W m - n) = W (m - n) := by
 obtain ⟨k, h⟩ := Ef m
 exact SK k (by rw [h]; omega)
theorem Dr (m n : Int) : W (m - W n) = W (m - n) := by
 obtain ⟨k, h⟩ := Ef n
 exact SK (-k) (by rw [h]; omega)
theorem Wh (m n : Int) : zI .i64 m n = W (m + n) := rfl
theorem I4 (m n : Int) : gM .i64 m n = W (m - n) := rfl
theorem MZ (m n : Int) : jw .i64 m n = W (m * n) := rfl
theorem V5 (m : Int) : Ya .i64 m = W (-m) := by unfold Ya; rw [Int.zero_sub]; rfl
theorem yC {m n : Int} (h : -9223372036854775808 ≤ m + n ∧ m + n < 9223372036854775808) : zI .i64 m n = m + n := HC h
theorem Zm {m n : Int} (h : -9223372036854775808 ≤ m - n ∧ m - n < 9223372036854775808) : gM .i64 m n = m - n := HC h
theorem Zp {m n : Int} (h : -9223372036854775808 ≤ m * n ∧ m * n < 9223372036854775808) : jw .i64 m n = m * n := HC h
theorem K0 {m : Int} (h : -9223372036854775808 < m ∧ m < 9223372036854775808) : Ya .i64 m = -m := by rw [V5]; exact HC (by omega)
theorem zM {i : Nat} (h : i < 9223372036854775807) : zI .i64 (i : Int) 1 = ((i + 1 : Nat) : Int) := by rw [yC (by omega)]; omega
theorem Zx : LIM < 9223372036854775807 := by decide
theorem Yc {n : Nat} {m : Int} (h : 0 ≤ m ∧ m < n) : (inb n m).val = some () := by unfold inb; rw [if_pos h]; exact Comp.zB _
theorem Rn {e : Bool} {c : Comp β} {y : β} (h1 : e = true → c.val = some y) {d : Comp β} (h2 : d.val = some y) : (amb e c d).val = some y := by
 cases e with
 | false => exact h2
 | true =>
  obtain ⟨n, hn⟩ := y7.1 (h1 rfl)
  obtain ⟨m, hm⟩ := y7.1 h2
  have a1 := c.mono (Nat.le_max_left n m) hn
  have a2 := d.mono (Nat.le_max_right n m) hm
  refine y7.2 ⟨max n m, ?_⟩
  show (match c.run (max n m), d.run (max n m) with
  | some x, some y => match Classical.propDecidable (x = y) with
   | .isTrue _ => some x
   | .isFalse _ => none
  | _, _ => none) = some y
  rw [a1, a2]
  simp only
  split
  ·rfl
  ·rename_i h _; exact absurd rfl h
theorem KA {xs : List α} {i : Int} {x : α} (h : (if 0 ≤ i then xs[i.toNat]? else none) = some x) : (idx xs i).val = some x := by
 split at h
 ·rename_i h0; exact Jz h0 h
 ·cases h
theorem Xu {body : τ → Comp (Comp.Step τ ε)} (st : σ → Nat → τ) (xs : List α) (f : σ → α → Comp.Step σ ε) (fin : σ → ε) (s : σ)
  (hb : ∀ s i x, xs[i]? = some x → (body (st s i)).val = some ((f s x).map fun s' => st s' (i + 1)))
  (he : ∀ s, (body (st s xs.length)).val = some (.done (fin s))) : (Comp.loop body (st s 0)).val = some (Comp.kN f fin s xs) :=
 Comp.kz st xs f fin (fun _ _ => True) (fun s i x hx _ => hb s i x hx) (fun _ _ _ _ _ _ _ => trivial) (fun s _ => he s) s trivial
theorem KY {p : α → Bool} {c d : ε} : ∀ (xs : List α), Comp.kN (fun (_ : Unit) x => if p x = true then .next () else .done c) (fun _ => d) () xs = bif xs.all p then d else c
 | [] => rfl
 | x :: xs => by
  have ih := KY (p := p) (c := c) (d := d) xs
  rw [Comp.kN, List.all_cons]
  generalize p x = b
  cases b with
  | true => exact ih
  | false => rfl
theorem jC {body : Int → Comp (Comp.Step Int ε)} (xs : List α) (p : α → Bool) {c d : ε} (hb : ∀ (i : Nat) x, xs[i]? = some x → (body (i : Int)).val = some (if p x = true then .next ((i + 1 : Nat) : Int) else .done c)) (he : (body (xs.length : Int)).val = some (.done d)) :
  (Comp.loop body 0).val = some (bif xs.all p then d else c) := by
 have h1 := Xu (fun (_ : Unit) i => ((i : Nat) : Int)) xs (fun (_ : Unit) x => if p x = true then .next () else .done c) (fun _ => d) () (body := body)
  (fun s i x hx => by rw [hb i x hx]; cases p x <;> rfl) (fun s => he)
 rw [KY] at h1
 exact h1
def fnd (p : α → Bool) : List α → Nat → Option Nat
 | [], _ => none
 | x :: xs, i => if p x = true then some i else fnd p xs (i + 1)
theorem wb {p : α → Bool} : ∀ {xs : List α} {i : Nat}, (fnd p xs i).isSome = xs.any p
 | [], _ => rfl
 | x :: xs, i => by
  simp only [fnd, List.any_cons]
  cases hp : p x with
  | true => rfl
  | false => simp [wb (xs := xs)]
theorem J0 {p : α → Bool} : ∀ {xs : List α} {i j : Nat}, fnd p xs i = some j → i ≤ j ∧ ∃ x, xs[j - i]? = some x ∧ p x = true ∧ ∀ k y, k < j - i → xs[k]? = some y → p y = false
 | [], _, _, h => by cases h
 | x :: xs, i, j, h => by
  unfold fnd at h
  split at h
  ·rename_i hp
   cases h
   exact ⟨zFu _, x, by simp, hp, fun k y hk _ => by omega⟩
  ·rename_i hp
   obtain ⟨h1, y, h2, h3, h4⟩ := J0 h
   refine ⟨by omega, y, by rw [show j - i = (j - (i + 1)) + 1 by omega, List.getElem?_cons_succ]; exact h2, h3, fun k z hk hz => ?_⟩
   cases k with
   | zero => simp at hz; subst hz; simpa using hp
   | succ k => exact h4 k z (by omega) (by simpa using hz)
def EX (x0 : List α) (x1 : α × Unit → Comp (Bool × Unit)) : Comp (Int × Unit) :=
 (Comp.loop
   (fun (x : Int) => if ltI x (zD x0) = true then
     (idx x0 x).bind fun x_1 => (x1 (x_1, ())).bind fun x_2 => if x_2.1 = true then Comp.pure (.done (Sum.inr x)) else Comp.pure (.next (zI .i64 x 1))
    else Comp.pure (.done (Sum.inl ())))
   0).bind fun (x : Unit ⊕ Int) => match x with
  | Sum.inl x => Comp.pure (-1, ())
  | Sum.inr x => Comp.pure (x, ())
def Nm : Option Nat → Int
 | some i => i
 | none => -1
theorem my {xs : List α} {f : α × Unit → Comp (Bool × Unit)} {p : α → Bool} (hl : xs.length < 9223372036854775807) (hf : ∀ x ∈ xs, (f (x, ())).val = some (p x, ())) : (EX xs f).val = some (Nm (fnd p xs 0), ()) := by
 unfold EX
 have key : ∀ (ys : List α) (i : Nat), Comp.kN (fun (s : Nat) x => if p x = true then .done (Sum.inr ((s : Nat) : Int)) else .next (s + 1)) (fun _ => (Sum.inl () : Unit ⊕ Int)) i ys = match fnd p ys i with | some j => Sum.inr ((j : Nat) : Int) | none => Sum.inl () := by
  intro ys
  induction ys with
  | nil => intro i; rfl
  | cons y ys ih =>
   intro i
   simp only [Comp.kN, fnd]
   cases hp : p y with
   | true => rfl
   | false => exact ih (i + 1)
 have h := Comp.kz (fun (s : Nat) i => ((i : Nat) : Int)) xs (fun (s : Nat) x => if p x = true then .done (Sum.inr ((s : Nat) : Int)) else .next (s + 1)) (fun _ => (Sum.inl () : Unit ⊕ Int)) (fun s i => s = i)
  (body := fun (x : Int) => if ltI x (zD xs) = true then
     (idx xs x).bind fun x_1 => (f (x_1, ())).bind fun x_2 => if x_2.1 = true then Comp.pure (.done (Sum.inr x)) else Comp.pure (.next (zI .i64 x 1))
    else Comp.pure (.done (Sum.inl ())))
  (fun s i x hx hs => by
   subst hs
   have hlt := zK hx
   have h1 : (s : Int) < zD xs := by rw [zC]; omega
   simp only [zF, h1, if_true, zA, zG hx, zFq, hf x (List.mem_of_getElem? hx), zM (show s < 9223372036854775807 by omega)]
   cases hp : p x <;> simp [Comp.Step.map])
  (fun s i x s' hx hs he => by
   subst hs
   cases hp : p x with
   | true => rw [hp] at he; cases he
   | false => rw [hp] at he; cases he; rfl)
  (fun s hs => by
   have h1 : ¬ ((xs.length : Int) < zD xs) := by rw [zC]; omega
   simp only [zF, h1, if_false, Comp.zB]) 0 rfl
 rw [key xs 0] at h
 rw [zA]
 refine (congrArg (fun o => Option.bind o _) h).trans ?_
 rw [zFq]
 cases fnd p xs 0 <;> exact Comp.zB _
def zCl (x0 : List α) (x1 : α × Unit → Comp (Bool × Unit)) : Comp (Bool × Unit) := (EX x0 x1).bind fun x => Comp.pure (geI x.1 0, ())
theorem ki {xs : List α} {f : α × Unit → Comp (Bool × Unit)} {p : α → Bool} (hl : xs.length < 9223372036854775807) (hf : ∀ x ∈ xs, (f (x, ())).val = some (p x, ())) : (zCl xs f).val = some (xs.any p, ()) := by
 unfold zCl
 rw [zA, my hl hf, zFq, Comp.zB, ← wb (i := 0)]
 cases fnd p xs 0 <;> simp [Nm, geI]
end Go.Geo
end
noncomputable section
namespace Go.Geo
open Go Go.Eng Go.Lift Go.Den
variable {α β γ δ ε σ τ : Type}
def NX (z : α) (x0 : Int) : Comp (List α × Unit) :=
 jn
  (fun (x : Unit) => jn (fun (x : List α) => Comp.pure (x, ()))
    fun (j : List α → Comp (List α × Unit)) => if gtI (gM .i64 x0 0) 0 = true then
     jn (fun (x : List α) => j x)
      fun (j : List α → Comp (List α × Unit)) => ((sub [] 0 0).bind fun (x : List Unit) => Comp.pure ()).bind fun x => (mk (gM .i64 x0 0) z).bind fun zs => (sub zs 0 0).bind fun ys => j ys
    else j [])
  fun (j : Unit → Comp (List α × Unit)) => if ltI x0 0 = true then Comp.fail else j ()
theorem IU {z : α} {n : Nat} (h : n ≤ LIM) : (NX z n).val = some ([], ()) := by
 have hL := Zx
 unfold NX
 simp only [vb, zF, z8, Zm (show -9223372036854775808 ≤ (n : Int) - 0 ∧ (n : Int) - 0 < 9223372036854775808 by omega)]
 rw [if_neg (by omega)]
 rw [XF]
 split
 ·have h1 : (sub ([] : List Unit) 0 0).val = some [] := by rw [Zs (by simp)]; rfl
  have h2 : (mk ((n : Int) - 0) z).val = some (List.replicate n z) := by rw [mk_val (by omega)]; simp
  have h3 : (sub (List.replicate n z) 0 0).val = some [] := by rw [Zs (by simp)]; simp
  simp only [zA, h1, h2, h3, zFq, Comp.zB]
 ·exact Comp.zB _
def zCn (z : α) (x0 : List (List α)) : Comp (List α × Unit) :=
 (Comp.loop
   (fun (x : Int × Int) => if ltI x.2 (zD x0) = true then
     (idx x0 x.2).bind fun x_1 => jn (fun (x_2 : Unit) => Comp.pure (.next (zI .i64 x.1 (zD x_1), zI .i64 x.2 1)))
       fun (j : Unit → Comp (Comp.Step (Int × Int) Int)) => if ltI (zI .i64 x.1 (zD x_1)) 0 = true then Comp.fail else j ()
    else Comp.pure (.done x.1))
   (0, 0)).bind fun x => (NX z x).bind fun y => (Comp.loop
     (fun (x : List α × Int) => if ltI x.2 (zD x0) = true then
       (idx x0 x.2).bind fun x_1 => (app x.1 x_1).bind fun zs => Comp.pure (.next (zs, zI .i64 x.2 1))
      else Comp.pure (.done x.1))
     (y.1, 0)).bind fun x => Comp.pure (x, ())
theorem Zk {xs : List (List α)} {i : Nat} {x : List α} (h : xs[i]? = some x) : (xs.take (i + 1)).flatten = (xs.take i).flatten ++ x := by
 rw [List.take_add_one, h]; simp
theorem uM {xs : List (List α)} (i : Nat) : (xs.take i).flatten.length ≤ xs.flatten.length := by
 conv => rhs; rw [← List.take_append_drop i xs, List.flatten_append, zFt]
 omega
theorem KF {z : α} {xs : List (List α)} (h : xs.flatten.length ≤ LIM) (hn : xs.length < 9223372036854775807) : (zCn z xs).val = some (xs.flatten, ()) := by
 have hL := Zx
 unfold zCn
 have h1 := Comp.kz (fun (s : Nat) i => (((s : Nat) : Int), ((i : Nat) : Int))) xs (fun (s : Nat) x => .next (s + x.length)) (fun s => ((s : Nat) : Int)) (fun s i => s = (xs.take i).flatten.length)
  (body := fun (x : Int × Int) => if ltI x.2 (zD xs) = true then
     (idx xs x.2).bind fun x_1 => jn (fun (x_2 : Unit) => Comp.pure (.next (zI .i64 x.1 (zD x_1), zI .i64 x.2 1)))
       fun (j : Unit → Comp (Comp.Step (Int × Int) Int)) => if ltI (zI .i64 x.1 (zD x_1)) 0 = true then Comp.fail else j ()
    else Comp.pure (.done x.1))
  (fun s i x hx hs => by
   have hlt := zK hx
   have h1 : (i : Int) < zD xs := by rw [zC]; omega
   have h2 : s + x.length ≤ LIM := by
    have := uM (xs := xs) (i + 1)
    rw [Zk hx, zFt] at this; omega
   have h3 : zI .i64 (s : Int) (zD x) = ((s + x.length : Nat) : Int) := by rw [zC, yC (by omega)]; omega
   simp only [vb, zF, h1, if_true, zA, zG hx, zFq, h3]
   rw [if_neg (by omega), Comp.zB, zM (show i < 9223372036854775807 by omega)]
   rfl)
  (fun s i x s' hx hs he => by cases he; rw [Zk hx, zFt, ← hs])
  (fun s hs => by
   have h1 : ¬ ((xs.length : Int) < zD xs) := by rw [zC]; omega
   simp only [zF, h1, if_false, Comp.zB]) 0 (by simp)
 have hsum : Comp.kN (fun (s : Nat) (x : List α) => (.next (s + x.length) : Comp.Step Nat Int)) (fun s => ((s : Nat) : Int)) 0 xs = ((xs.flatten.length : Nat) : Int) := by
  have key : ∀ (ys : List (List α)) (s : Nat), Comp.kN (fun (s : Nat) (x : List α) => (.next (s + x.length) : Comp.Step Nat Int)) (fun s => ((s : Nat) : Int)) s ys = ((s + ys.flatten.length : Nat) : Int) := by
   intro ys
   induction ys with
   | nil => intro s; simp [Comp.kN]
   | cons y ys ih => intro s; simp only [Comp.kN]; rw [ih]; simp; omega
  rw [key]; simp
 rw [hsum] at h1
 have h2 := Comp.kz (fun (s : List α) i => (s, ((i : Nat) : Int))) xs (fun (s : List α) x => .next (s ++ x)) (fun s => s) (fun s i => s = (xs.take i).flatten)
  (body := fun (x : List α × Int) => if ltI x.2 (zD xs) = true then
       (idx xs x.2).bind fun x_1 => (app x.1 x_1).bind fun zs => Comp.pure (.next (zs, zI .i64 x.2 1))
      else Comp.pure (.done x.1))
  (fun s i x hx hs => by
   have hlt := zK hx
   have h1 : (i : Int) < zD xs := by rw [zC]; omega
   have h2 : s.length + x.length ≤ LIM := by
    have := uM (xs := xs) (i + 1)
    rw [Zk hx, zFt] at this; rw [hs]; omega
   simp only [zF, h1, if_true, zA, zG hx, zFq, zo h2, Comp.zB, zM (show i < 9223372036854775807 by omega)]
   rfl)
  (fun s i x s' hx hs he => by cases he; rw [Zk hx, ← hs])
  (fun s hs => by
   have h1 : ¬ ((xs.length : Int) < zD xs) := by rw [zC]; omega
   simp only [zF, h1, if_false, Comp.zB]) [] (by simp)
 have hcat : Comp.kN (fun (s : List α) (x : List α) => (.next (s ++ x) : Comp.Step (List α) (List α))) (fun s => s) [] xs = xs.flatten := by
  have key : ∀ (ys : List (List α)) (s : List α), Comp.kN (fun (s : List α) (x : List α) => (.next (s ++ x) : Comp.Step (List α) (List α))) (fun s => s) s ys = s ++ ys.flatten := by
   intro ys
   induction ys with
   | nil => intro s; simp [Comp.kN]
   | cons y ys ih => intro s; simp only [Comp.kN]; rw [ih]; simp
  rw [key]; simp
 rw [hcat] at h2
 rw [zA]
 refine (congrArg (fun o => Option.bind o _) h1).trans ?_
 rw [zFq, zA, IU h, zFq, zA]
 refine (congrArg (fun o => Option.bind o _) h2).trans ?_
 rw [zFq, Comp.zB]
def zCm (x0 : List α) : Comp (List α × Unit) := amb (K3 x0) (Comp.pure ([], ())) ((app [] x0).bind fun zs => Comp.pure (zs, ()))
theorem KD {xs : List α} (h : xs.length ≤ LIM) : (zCm xs).val = some (xs, ()) := by
 unfold zCm
 refine Rn (fun he => ?_) ?_
 ·cases xs with
  | nil => exact Comp.zB _
  | cons => cases he
 ·rw [zA, zo (by simpa using h), zFq]; simp
def zCk (z : α) (xs : List α) (x0 : α × Unit → Comp (Bool × Unit)) : Comp (List α) :=
 (EX xs x0).bind fun x => if eqI x.1 (-1) = true then Comp.pure xs
  else
   (Comp.loop
      (fun (x : List α × Int × Int) => if ltI x.2.2 (zD x.1) = true then
        (idx x.1 x.2.2).bind fun x_1 => (x0 (x_1, ())).bind fun x_2 => jn (fun (x_3 : List α × Int) => Comp.pure (.next (x_3.1, x_3.2, zI .i64 x.2.2 1)))
           fun (j : List α × Int → Comp (Comp.Step (List α × Int × Int) (List α × Int))) => if ntB x_2.1 = true then (inb x.1.length x.2.1).bind fun x_3 => j (jv x.1 x.2.1 x_1, zI .i64 x.2.1 1)
           else j (x.1, x.2.1)
       else Comp.pure (.done (x.1, x.2.1)))
      (xs, x.1, zI .i64 x.1 1)).bind fun x => ((sub x.1 x.2 (zD x.1)).bind fun x => Comp.pure ()).bind fun x_1 => (sub x.1 (Int.ofNat x.2.toNat) (zD x.1)).bind fun x_2 => jn (fun (x : List α) => Comp.pure x)
       fun (j : List α → Comp (List α)) => (sub (List.take x.2.toNat x.1 ++ List.replicate (x.1.length.sub x.2.toNat) z) 0 x.2).bind fun ys => j ys
theorem Dh {z : α} {l : List α} {k : Nat} (h : k ≤ l.length) : (((sub l (k : Int) (zD l)).bind fun x => Comp.pure ()).bind fun x_1 => (sub l (Int.ofNat (k : Int).toNat) (zD l)).bind fun x_2 => jn (fun (x : List α) => Comp.pure x)
       fun (j : List α → Comp (List α)) => (sub (List.take (k : Int).toNat l ++ List.replicate (l.length.sub (k : Int).toNat) z) 0 (k : Int)).bind fun ys => j ys).val = some (l.take k) := by
 have e : Int.ofNat (k : Int).toNat = (k : Int) := by simp
 have e2 : (k : Int).toNat = k := by simp
 rw [e, e2]
 have h1 : (sub l (k : Int) (zD l)).val = some (l.drop k) := by rw [Zs (by rw [zC]; omega)]; simp [zC]
 have h2 : (sub (List.take k l ++ List.replicate (l.length.sub k) z) 0 (k : Int)).val = some (l.take k) := by
  rw [Zs (by simp only [zFt, List.length_take, List.length_replicate]; omega)]
  simp [List.take_append_of_le_length, h, Nat.min_eq_left h]
 simp only [zA, h1, zFq, Comp.zB, vb, h2]
theorem Dg {z : α} {xs : List α} {f : α × Unit → Comp (Bool × Unit)} {p : α → Bool} (hl : xs.length < 9223372036854775807) (hf : ∀ x ∈ xs, (f (x, ())).val = some (p x, ())) : (zCk z xs f).val = some (xs.filter fun x => !p x) := by
 unfold zCk
 rw [zA, my hl hf, zFq]
 cases hfn : fnd p xs 0 with
 | none =>
  have hno : xs.any p = false := by rw [← wb (i := 0), hfn]; rfl
  simp only [Nm, eqI, decide_true, if_true, Comp.zB]
  rw [List.filter_eq_self.2]
  intro x hx
  rw [List.any_eq_false] at hno
  simpa using hno x hx
 | some i =>
  obtain ⟨_, x, hx, hp, hbef⟩ := J0 hfn
  rw [Nat.sub_zero] at hx hbef
  have hlt := zK hx
  have hne : ¬ ((i : Int) = -1) := by omega
  simp only [Nm, yd, hne, if_false]
  have hpre : (xs.take (i + 1)).filter (fun x => !p x) = xs.take i := by
   rw [List.take_add_one, hx, List.filter_append]
   simp only [Option.toList_some, List.filter_cons, hp, Bool.not_true, Bool.false_eq_true, if_false, List.filter_nil, List.append_nil]
   rw [List.filter_eq_self]
   intro y hy
   obtain ⟨k, hk⟩ := List.mem_iff_getElem?.1 hy
   have hkl := zK hk
   rw [List.length_take] at hkl
   rw [List.getElem?_take_of_lt (by omega)] at hk
   simp [hbef k y (by omega) hk]
  -- the state: what is kept, then what was not walked over yet
  let st : List α → Nat → List α × Int × Int := fun l k => (l, (((xs.take k).filter fun x => !p x).length : Int), (k : Int))
  have inv : ∀ (m k : Nat) (l : List α), k + m = xs.length → i + 1 ≤ k → l.length = xs.length → l.take ((xs.take k).filter fun x => !p x).length = (xs.take k).filter (fun x => !p x) → l.drop k = xs.drop k → ∃ l', l'.length = xs.length ∧ l'.take (xs.filter fun x => !p x).length = xs.filter (fun x => !p x) ∧ (Comp.loop
      (fun (x : List α × Int × Int) => if ltI x.2.2 (zD x.1) = true then
        (idx x.1 x.2.2).bind fun x_1 => (f (x_1, ())).bind fun x_2 => jn (fun (x_3 : List α × Int) => Comp.pure (.next (x_3.1, x_3.2, zI .i64 x.2.2 1)))
           fun (j : List α × Int → Comp (Comp.Step (List α × Int × Int) (List α × Int))) => if ntB x_2.1 = true then (inb x.1.length x.2.1).bind fun x_3 => j (jv x.1 x.2.1 x_1, zI .i64 x.2.1 1)
           else j (x.1, x.2.1)
       else Comp.pure (.done (x.1, x.2.1)))
      (st l k)).val = some (l', ((xs.filter fun x => !p x).length : Int)) := by
   intro m
   induction m with
   | zero =>
    intro k l hk hik hll ht hd
    have hk' : k = xs.length := by omega
    subst hk'
    rw [List.take_length] at ht
    refine ⟨l, hll, ht, ?_⟩
    rw [zL]
    have h1 : ¬ ((xs.length : Int) < zD l) := by rw [zC, hll]; omega
    simp only [st, zF, h1, if_false, Comp.zB, zFq, List.take_length]
   | succ m ih =>
    intro k l hk hik hll ht hd
    have hkl : k < xs.length := by omega
    obtain ⟨y, hy⟩ : ∃ y, xs[k]? = some y := ⟨xs[k], by simp [hkl]⟩
    have hly : l[k]? = some y := by
     have h1 : (l.drop k)[0]? = some y := by rw [hd]; simpa using hy
     simpa using h1
    have h1 : (k : Int) < zD l := by rw [zC, hll]; omega
    have hcnt : ((xs.take k).filter fun x => !p x).length ≤ k := by
     have := List.length_filter_le (fun x => !p x) (xs.take k)
     rw [List.length_take] at this; omega
    -- at least one was dropped
    have hcnt' : ((xs.take k).filter fun x => !p x).length < k := by
     have : xs.take k = xs.take (i + 1) ++ (xs.take k).drop (i + 1) := by
      conv => lhs; rw [← List.take_append_drop (i + 1) (xs.take k)]
      rw [List.take_take, Nat.min_eq_left hik]
     rw [this, List.filter_append, hpre, zFt]
     have h2 := List.length_filter_le (fun x => !p x) ((xs.take k).drop (i + 1))
     rw [List.length_drop, List.length_take] at h2
     rw [List.length_take]; omega
    have hstep : xs.take (k + 1) = xs.take k ++ [y] := by rw [List.take_add_one, hy]; rfl
    have hd' : l.drop (k + 1) = xs.drop (k + 1) := by rw [← List.drop_drop, hd, List.drop_drop]
    rw [zL]
    have e1 : (idx l (k : Int)).val = some y := zG hly
    have e2 := hf y (List.mem_of_getElem? hy)
    cases hpy : p y with
    | true =>
     obtain ⟨l', g1, g2, g3⟩ := ih (k + 1) l (by omega) (by omega) hll (by rw [hstep, List.filter_append]; simpa [hpy] using ht) hd'
     refine ⟨l', g1, g2, ?_⟩
     rw [← g3]
     simp only [st, zF, h1, if_true, zA, e1, zFq, e2, hpy, vb, ya, Bool.not_true, Bool.false_eq_true, if_false, Comp.zB, zM (show k < 9223372036854775807 by omega)]
     rw [hstep, List.filter_append]
     simp [hpy]
    | false =>
     have hc : ((xs.take k).filter fun x => !p x).length < l.length := by omega
     obtain ⟨l', g1, g2, g3⟩ := ih (k + 1) (l.set ((xs.take k).filter fun x => !p x).length y) (by omega) (by omega) (by simpa using hll)
      (by
       rw [hstep, List.filter_append]
       simp only [List.filter_cons, hpy, Bool.not_false, if_true, List.filter_nil, zFt, zFv]
       rw [List.take_add_one, List.take_set_of_le (zFu _), ht]
       simp [hc])
      (by rw [List.drop_set_of_lt (by omega)]; exact hd')
     refine ⟨l', g1, g2, ?_⟩
     rw [← g3]
     have e3 : (inb l.length (((xs.take k).filter fun x => !p x).length : Int)).val = some () := Yc (by omega)
     simp only [st, zF, h1, if_true, zA, e1, zFq, e2, hpy, vb, ya, Bool.not_false, Comp.zB, zM (show k < 9223372036854775807 by omega), e3, jv, Int.toNat_natCast, zM (show ((xs.take k).filter fun x => !p x).length < 9223372036854775807 by omega)]
     rw [hstep, List.filter_append]
     simp [hpy]
  obtain ⟨l', g1, g2, g3⟩ := inv (xs.length - (i + 1)) (i + 1) xs (by omega) (zFu _) rfl (by rw [hpre]; rw [List.length_take, Nat.min_eq_left (by omega)]) rfl
  have hst : st xs (i + 1) = (xs, (i : Int), zI .i64 (i : Int) 1) := by
   show (xs, _, _) = _
   rw [hpre, List.length_take, Nat.min_eq_left (by omega), zM (by omega)]
  rw [hst] at g3
  rw [zA]
  refine (congrArg (fun o => Option.bind o _) g3).trans ?_
  rw [zFq]
  refine (Dh (z := z) ?_).trans ?_
  ·have := List.length_filter_le (fun x => !p x) xs; show _ ≤ l'.length; omega
  ·rw [g2]
def JQ [DecidableEq α] : α → List α → List α
 | _, [] => []
 | x, y :: l => if y = x then JQ y l else y :: JQ y l
def cpc [DecidableEq α] : List α → List α
 | [] => []
 | x :: l => x :: JQ x l
theorem Kc [DecidableEq α] {a b : α} : ∀ {l : List α} {x : α}, JQ x (l ++ [a, b]) = JQ x (l ++ [a]) ++ if b = a then [] else [b]
 | [], x => by
  simp only [List.nil_append, JQ]
  by_cases h1 : a = x <;> by_cases h2 : b = a <;> simp [h1, h2]
 | y :: l, x => by
  simp only [List.cons_append, JQ]
  split
  ·exact Kc
  ·rw [Kc]; rfl
theorem Ii [DecidableEq α] {a b : α} {l : List α} : cpc (l ++ [a, b]) = cpc (l ++ [a]) ++ if b = a then [] else [b] := by
 cases l with
 | nil => simp only [List.nil_append, cpc, JQ]; split <;> simp
 | cons x l => simp only [List.cons_append, cpc]; rw [Kc]
theorem Xk [DecidableEq α] {xs : List α} {k : Nat} {a b : α} (ha : xs[k]? = some a) (hb : xs[k + 1]? = some b) : cpc (xs.take (k + 1 + 1)) = cpc (xs.take (k + 1)) ++ if b = a then [] else [b] := by
 rw [List.take_add_one (i := k + 1), hb, List.take_add_one, ha]
 simp only [Option.toList_some, List.append_assoc, List.cons_append, List.nil_append]
 exact Ii
theorem lf [DecidableEq α] : ∀ {l : List α} {x : α}, (JQ x l).length ≤ l.length
 | [], _ => zFu _
 | y :: l, x => by
  have := lf (l := l) (x := y)
  simp only [JQ]
  split <;> simp only [List.length_cons] <;> omega
theorem Dj [DecidableEq α] : ∀ {l : List α}, (cpc l).length ≤ l.length
 | [] => zFu _
 | x :: l => by have := lf (l := l) (x := x); simp only [cpc, List.length_cons]; omega
end Go.Geo
end
section
namespace Go.Geo
open Go Go.Eng Go.Lift Go.Den
variable {α β γ δ ε σ τ : Type}
def zAF (eq : α → α → Bool) (x2 : Int) (x1 : List α) : Comp (List α × Int) :=
 Comp.loop
  (fun (x_4 : List α × Int × Int) => if ltI x_4.2.2 (zD (List.drop x2.toNat x_4.1)) = true then
    (idx (List.drop x2.toNat x_4.1) x_4.2.2).bind fun x_5 => (idx (List.drop x2.toNat x_4.1) (gM .i64 x_4.2.2 1)).bind fun x_6 => jn
       (fun (x : List α × Int) => Comp.pure (.next (x.1, x.2, zI .i64 x_4.2.2 1)))
       fun (j : List α × Int → Comp (Comp.Step (List α × Int × Int) (List α × Int))) => if ntB (eq x_5 x_6) = true then
        (idx (List.drop x2.toNat x_4.1) x_4.2.2).bind fun x => (inb x_4.1.length x_4.2.1).bind fun x_7 => j (jv x_4.1 x_4.2.1 x, zI .i64 x_4.2.1 1)
       else j (x_4.1, x_4.2.1)
   else Comp.pure (.done (x_4.1, x_4.2.1)))
  (x1, x2, 1)
def zAE (eq : α → α → Bool) (z : α) (xs : List α) : Comp (List α) :=
 if ltI (zD xs) 2 = true then Comp.pure xs
 else
  (Comp.loop
     (fun (x : List α × Int) => if ltI x.2 (zD x.1) = true then
       (idx x.1 x.2).bind fun x_1 => (idx x.1 (gM .i64 x.2 1)).bind fun x_2 => if eq x_1 x_2 = true then
          ((sub x.1 x.2 (zD x.1)).bind fun x => Comp.pure ()).bind fun x_3 => (zAF eq x.2 x.1).bind fun x => ((sub x.1 x.2 (zD x.1)).bind fun x => Comp.pure ()).bind fun x_4 => (sub x.1 (Int.ofNat x.2.toNat) (zD x.1)).bind fun x_5 => jn (fun (x : List α) => Comp.pure (.done (Sum.inr x)))
               fun (j : List α → Comp (Comp.Step (List α × Int) (List α ⊕ List α))) => (sub (List.take x.2.toNat x.1 ++ List.replicate (x.1.length.sub x.2.toNat) z) 0 x.2).bind fun ys => j ys
         else Comp.pure (.next (x.1, zI .i64 x.2 1))
      else Comp.pure (.done (Sum.inl x.1)))
     (xs, 1)).bind fun (x : List α ⊕ List α) => match x with
   | Sum.inl x => Comp.pure x
   | Sum.inr x => Comp.pure x
theorem zN {xs : List α} {k : Nat} (h : k < xs.length) : ∃ y, xs[k]? = some y := ⟨xs[k], by simp [h]⟩
theorem Ks {l xs : List α} {i k : Nat} (h : l.drop i = xs.drop i) (hi : i ≤ k) : l[k]? = xs[k]? := by
 have : (l.drop i)[k - i]? = (xs.drop i)[k - i]? := by rw [h]
 rw [List.getElem?_drop, List.getElem?_drop, show i + (k - i) = k by omega] at this
 exact this
theorem Ij [DecidableEq α] {eq : α → α → Bool} (heq : ∀ x y, eq x y = decide (x = y)) {xs : List α} (hl : xs.length < 9223372036854775807) {i0 : Nat} (h0 : 1 ≤ i0) (hi : i0 < xs.length) (hpre : cpc (xs.take i0) = xs.take i0) (hdup : xs[i0]? = xs[i0 - 1]?) :
  ∃ l', l'.length = xs.length ∧ l'.take (cpc xs).length = cpc xs ∧ (zAF eq (i0 : Int) xs).val = some (l', ((cpc xs).length : Int)) := by
 have inv : ∀ (m k : Nat) (l : List α), i0 + k + m = xs.length → 1 ≤ k → l.length = xs.length → l.take (cpc (xs.take (i0 + k))).length = cpc (xs.take (i0 + k)) → l.drop (i0 + k - 1) = xs.drop (i0 + k - 1) → ∃ l', l'.length = xs.length ∧ l'.take (cpc xs).length = cpc xs ∧ (Comp.loop
  (fun (x_4 : List α × Int × Int) => if ltI x_4.2.2 (zD (List.drop (i0 : Int).toNat x_4.1)) = true then
    (idx (List.drop (i0 : Int).toNat x_4.1) x_4.2.2).bind fun x_5 => (idx (List.drop (i0 : Int).toNat x_4.1) (gM .i64 x_4.2.2 1)).bind fun x_6 => jn
       (fun (x : List α × Int) => Comp.pure (.next (x.1, x.2, zI .i64 x_4.2.2 1)))
       fun (j : List α × Int → Comp (Comp.Step (List α × Int × Int) (List α × Int))) => if ntB (eq x_5 x_6) = true then
        (idx (List.drop (i0 : Int).toNat x_4.1) x_4.2.2).bind fun x => (inb x_4.1.length x_4.2.1).bind fun x_7 => j (jv x_4.1 x_4.2.1 x, zI .i64 x_4.2.1 1)
       else j (x_4.1, x_4.2.1)
   else Comp.pure (.done (x_4.1, x_4.2.1)))
  (l, ((cpc (xs.take (i0 + k))).length : Int), (k : Int))).val = some (l', ((cpc xs).length : Int)) := by
  intro m
  induction m with
  | zero =>
   intro k l hk h1 hll ht hd
   rw [show i0 + k = xs.length by omega, List.take_length] at ht ⊢
   refine ⟨l, hll, ht, ?_⟩
   rw [zL]
   have h1 : ¬ ((k : Int) < zD (List.drop (i0 : Int).toNat l)) := by rw [zC, List.length_drop, hll, Int.toNat_natCast]; omega
   simp only [zF, h1, if_false, Comp.zB, zFq]
  | succ m ih =>
   intro k l hk h1 hll ht hd
   obtain ⟨b, hb⟩ := zN (xs := xs) (k := i0 + k) (by omega)
   obtain ⟨a, ha⟩ := zN (xs := xs) (k := i0 + k - 1) (by omega)
   have hlb : l[i0 + k]? = some b := by rw [Ks hd (by omega)]; exact hb
   have hla : l[i0 + k - 1]? = some a := by rw [Ks hd (by omega)]; exact ha
   have hlt : (k : Int) < zD (List.drop (i0 : Int).toNat l) := by rw [zC, List.length_drop, hll, Int.toNat_natCast]; omega
   have e1 : (idx (List.drop (i0 : Int).toNat l) (k : Int)).val = some b := zG (by rw [Int.toNat_natCast, List.getElem?_drop]; exact hlb)
   have e2 : (idx (List.drop (i0 : Int).toNat l) (gM .i64 (k : Int) 1)).val = some a := by
    rw [Zm (by omega), show (k : Int) - 1 = ((k - 1 : Nat) : Int) by omega]
    exact zG (by rw [Int.toNat_natCast, List.getElem?_drop, show i0 + (k - 1) = i0 + k - 1 by omega]; exact hla)
   have hstep := Xk (xs := xs) (k := i0 + k - 1) ha (by rw [show i0 + k - 1 + 1 = i0 + k by omega]; exact hb)
   rw [show i0 + k - 1 + 1 = i0 + k by omega] at hstep
   -- fewer are kept than were seen
   have hcnt : (cpc (xs.take (i0 + k))).length < i0 + k := by
    have base : (cpc (xs.take (i0 + 1))).length = i0 := by
     obtain ⟨c, hc⟩ := zN (xs := xs) (k := i0) hi
     have h2 := Xk (xs := xs) (k := i0 - 1) (a := c) (b := c) (by rw [← hdup]; exact hc) (by rw [show i0 - 1 + 1 = i0 by omega]; exact hc)
     rw [show i0 - 1 + 1 = i0 by omega, if_pos rfl, List.append_nil] at h2
     rw [h2, hpre, List.length_take]; omega
    have mono : ∀ j, (cpc (xs.take (i0 + 1 + j))).length ≤ i0 + j := by
     intro j
     induction j with
     | zero => rw [Nat.add_zero, base]; omega
     | succ j ihj =>
      by_cases hj : i0 + 1 + j < xs.length
      ·obtain ⟨b', hb'⟩ := zN (xs := xs) (k := i0 + j + 1) (by omega)
       obtain ⟨a', ha'⟩ := zN (xs := xs) (k := i0 + j) (by omega)
       have h3 := Xk ha' hb'
       rw [show i0 + 1 + (j + 1) = i0 + j + 1 + 1 by omega, h3, zFt]
       rw [show i0 + 1 + j = i0 + j + 1 by omega] at ihj
       split <;> simp <;> omega
      ·rw [List.take_of_length_le (by omega)] at ihj ⊢; omega
    have := mono (k - 1)
    rw [show i0 + 1 + (k - 1) = i0 + k by omega] at this; omega
   have hd1 : l.drop (i0 + (k + 1) - 1) = xs.drop (i0 + (k + 1) - 1) := by
    have : (l.drop (i0 + k - 1)).drop 1 = (xs.drop (i0 + k - 1)).drop 1 := by rw [hd]
    rw [List.drop_drop, List.drop_drop, show i0 + k - 1 + 1 = i0 + (k + 1) - 1 by omega] at this
    exact this
   by_cases hba : b = a
   ·rw [if_pos hba, List.append_nil] at hstep
    rw [show i0 + k + 1 = i0 + (k + 1) by omega] at hstep
    obtain ⟨l', g1, g2, g3⟩ := ih (k + 1) l (by omega) (by omega) hll (by rw [hstep]; exact ht) hd1
    refine ⟨l', g1, g2, ?_⟩
    rw [hstep] at g3
    rw [← g3]
    conv => lhs; rw [zL]
    simp only [zF, hlt, if_true, zA, e1, e2, zFq, vb, heq, hba, decide_true, ya, Bool.not_true, Bool.false_eq_true, if_false, Comp.zB, zM (show k < 9223372036854775807 by omega)]
   ·rw [if_neg hba] at hstep
    rw [show i0 + k + 1 = i0 + (k + 1) by omega] at hstep
    have hc : (cpc (xs.take (i0 + k))).length < l.length := by omega
    obtain ⟨l', g1, g2, g3⟩ := ih (k + 1) (l.set (cpc (xs.take (i0 + k))).length b) (by omega) (by omega) (by simpa using hll)
     (by
      rw [hstep, zFt, zFv, List.take_add_one, List.take_set_of_le (zFu _), ht]
      simp [hc])
     (by rw [List.drop_set_of_lt (by omega)]; exact hd1)
    refine ⟨l', g1, g2, ?_⟩
    rw [hstep] at g3
    rw [← g3]
    have e3 : (inb l.length ((cpc (xs.take (i0 + k))).length : Int)).val = some () := Yc (by omega)
    simp only [Int.toNat_natCast] at hlt e1 e2
    conv => lhs; rw [zL]
    simp only [zF, hlt, if_true, zA, e1, e2, e3, zFq, vb, heq, hba, decide_false, ya, Bool.not_false, Comp.zB, zM (show k < 9223372036854775807 by omega), jv, Int.toNat_natCast, zM (show (cpc (xs.take (i0 + k))).length < 9223372036854775807 by omega), zFt, zFv]
 have hbase : cpc (xs.take (i0 + 1)) = xs.take i0 := by
  obtain ⟨c, hc⟩ := zN (xs := xs) (k := i0) hi
  have h2 := Xk (xs := xs) (k := i0 - 1) (a := c) (b := c) (by rw [← hdup]; exact hc) (by rw [show i0 - 1 + 1 = i0 by omega]; exact hc)
  rw [show i0 - 1 + 1 = i0 by omega, if_pos rfl, List.append_nil] at h2
  rw [h2, hpre]
 obtain ⟨l', g1, g2, g3⟩ := inv (xs.length - (i0 + 1)) 1 xs (by omega) (zFu _) rfl (by rw [hbase, List.length_take, Nat.min_eq_left (by omega)]) rfl
 refine ⟨l', g1, g2, ?_⟩
 rw [← g3, hbase, List.length_take, Nat.min_eq_left (by omega)]
 rfl
theorem Ra [DecidableEq α] {eq : α → α → Bool} (heq : ∀ x y, eq x y = decide (x = y)) {z : α} {xs : List α} (hl : xs.length < 9223372036854775807) : (zAE eq z xs).val = some (cpc xs) := by
 unfold zAE
 rw [XF]
 split
 ·rename_i h
  rw [zF, zC] at h
  rw [Comp.zB]
  match xs, h with
  | [], _ => rfl
  | [x], _ => rfl
  | x :: y :: l, h => simp only [List.length_cons] at h; omega
 ·rename_i h
  rw [zF, zC] at h
  have inv : ∀ (m k : Nat), k + m = xs.length → 1 ≤ k → cpc (xs.take k) = xs.take k → ∃ r : List α ⊕ List α, (r = .inl (cpc xs) ∨ r = .inr (cpc xs)) ∧ (Comp.loop
     (fun (x : List α × Int) => if ltI x.2 (zD x.1) = true then
       (idx x.1 x.2).bind fun x_1 => (idx x.1 (gM .i64 x.2 1)).bind fun x_2 => if eq x_1 x_2 = true then
          ((sub x.1 x.2 (zD x.1)).bind fun x => Comp.pure ()).bind fun x_3 => (zAF eq x.2 x.1).bind fun x => ((sub x.1 x.2 (zD x.1)).bind fun x => Comp.pure ()).bind fun x_4 => (sub x.1 (Int.ofNat x.2.toNat) (zD x.1)).bind fun x_5 => jn (fun (x : List α) => Comp.pure (.done (Sum.inr x)))
               fun (j : List α → Comp (Comp.Step (List α × Int) (List α ⊕ List α))) => (sub (List.take x.2.toNat x.1 ++ List.replicate (x.1.length.sub x.2.toNat) z) 0 x.2).bind fun ys => j ys
         else Comp.pure (.next (x.1, zI .i64 x.2 1))
      else Comp.pure (.done (Sum.inl x.1)))
     (xs, (k : Int))).val = some r := by
   intro m
   induction m with
   | zero =>
    intro k hk h1 hp
    rw [show k = xs.length by omega, List.take_length] at hp
    refine ⟨.inl (cpc xs), .inl rfl, ?_⟩
    rw [zL]
    have h1 : ¬ ((k : Int) < zD xs) := by rw [zC]; omega
    simp only [zF, h1, if_false, Comp.zB, zFq, hp]
   | succ m ih =>
    intro k hk h1 hp
    obtain ⟨b, hb⟩ := zN (xs := xs) (k := k) (by omega)
    obtain ⟨a, ha⟩ := zN (xs := xs) (k := k - 1) (by omega)
    have hlt : (k : Int) < zD xs := by rw [zC]; omega
    have e1 : (idx xs (k : Int)).val = some b := zG hb
    have e2 : (idx xs (gM .i64 (k : Int) 1)).val = some a := by
     rw [Zm (by omega), show (k : Int) - 1 = ((k - 1 : Nat) : Int) by omega]
     exact zG ha
    by_cases hba : b = a
    ·subst hba
     obtain ⟨l', g1, g2, g3⟩ := Ij heq hl h1 (by omega) hp (by rw [ha, hb])
     refine ⟨.inr (cpc xs), .inr rfl, ?_⟩
     have e4 : (sub xs (k : Int) (zD xs)).val = some (xs.drop k) := by rw [Zs (by rw [zC]; omega)]; simp [zC]
     have e5 := Dh (z := z) (l := l') (k := (cpc xs).length) (by rw [g1]; exact Dj)
     rw [g2] at e5
     simp only [zA, vb, Comp.zB] at e5
     rw [zL]
     simp only [zF, hlt, if_true, zA, e1, e2, zFq, heq, decide_true, e4, Comp.zB, g3, vb]
     revert e5
     generalize (sub l' ((cpc xs).length : Int) (zD l')).val = o1
     generalize (sub l' (Int.ofNat ((cpc xs).length : Int).toNat) (zD l')).val = o2
     generalize (sub (List.take ((cpc xs).length : Int).toNat l' ++ List.replicate (l'.length.sub ((cpc xs).length : Int).toNat) z) 0 ((cpc xs).length : Int)).val = o3
     intro e5
     cases o1 <;> cases o2 <;> cases o3 <;> simp_all
    ·obtain ⟨r, g1, g2⟩ := ih (k + 1) (by omega) (by omega) (by
      have hstep := Xk (xs := xs) (k := k - 1) ha (by rw [show k - 1 + 1 = k by omega]; exact hb)
      rw [show k - 1 + 1 = k by omega, if_neg hba, hp] at hstep
      rw [hstep, List.take_add_one, hb]; rfl)
     refine ⟨r, g1, ?_⟩
     rw [← g2]
     conv => lhs; rw [zL]
     simp only [zF, hlt, if_true, zA, e1, e2, zFq, heq, hba, decide_false, Bool.false_eq_true, if_false, Comp.zB, zM (show k < 9223372036854775807 by omega)]
  obtain ⟨r, g1, g2⟩ := inv (xs.length - 1) 1 (by omega) (zFu _) (by
   match xs with
   | [] => rfl
   | x :: l => rfl)
  rw [zA]
  refine (congrArg (fun o => Option.bind o _) g2).trans ?_
  rw [zFq]
  rcases g1 with rfl | rfl <;> exact Comp.zB _
end Go.Geo
end
noncomputable section
namespace Go.Den
open Go Go.Lift
abbrev Pln := (Int × Int × Int × Unit) × Int × Unit
def YI (p q : Pln) : Int :=
 if p.1.1 < q.1.1 then -1 else if q.1.1 < p.1.1 then 1 else
 if p.1.2.1 < q.1.2.1 then -1 else if q.1.2.1 < p.1.2.1 then 1 else
 if p.1.2.2.1 < q.1.2.2.1 then -1 else if q.1.2.2.1 < p.1.2.2.1 then 1 else
 if p.2.1 < q.2.1 then -1 else if q.2.1 < p.2.1 then 1 else 0
def KH (p : Pln) : List Pln → List Pln
 | [] => [p]
 | q :: l => if YI q p < 0 then q :: KH p l else p :: q :: l
def JC : List Pln → List Pln
 | [] => []
 | p :: l => KH p (JC l)
open Classical in
def AJ (xs : List Pln) (c : Pln × Pln × Unit → Comp (Int × Unit)) : Comp (List Pln) :=
 if xs.length ≤ LIM ∧ ∀ x y, ∃ n, (c (x, y, ())).run n = some (YI x y, ()) then Comp.pure (JC xs) else Comp.fail
def LtP (p q : Pln) : Prop := p.1.1 < q.1.1 ∨ (p.1.1 = q.1.1 ∧ (p.1.2.1 < q.1.2.1 ∨ (p.1.2.1 = q.1.2.1 ∧ (p.1.2.2.1 < q.1.2.2.1 ∨ (p.1.2.2.1 = q.1.2.2.1 ∧ p.2.1 < q.2.1)))))
theorem qj (p q : Pln) : (YI p q = -1 ∧ LtP p q) ∨ (YI p q = 0 ∧ p = q) ∨ (YI p q = 1 ∧ LtP q p) := by
 obtain ⟨⟨a, b, c, u⟩, d, v⟩ := p
 obtain ⟨⟨a', b', c', u'⟩, d', v'⟩ := q
 unfold YI LtP
 simp only
 split
 ·exact .inl ⟨rfl, by omega⟩
 split
 ·exact .inr (.inr ⟨rfl, by omega⟩)
 split
 ·exact .inl ⟨rfl, by omega⟩
 split
 ·exact .inr (.inr ⟨rfl, by omega⟩)
 split
 ·exact .inl ⟨rfl, by omega⟩
 split
 ·exact .inr (.inr ⟨rfl, by omega⟩)
 split
 ·exact .inl ⟨rfl, by omega⟩
 split
 ·exact .inr (.inr ⟨rfl, by omega⟩)
 ·refine .inr (.inl ⟨rfl, ?_⟩)
  have h1 : a = a' := by omega
  have h2 : b = b' := by omega
  have h3 : c = c' := by omega
  have h4 : d = d' := by omega
  subst h1 h2 h3 h4
  rfl
theorem LtP.irr {p : Pln} (h : LtP p p) : False := by unfold LtP at h; omega
theorem LtP.trans {p q r : Pln} (h : LtP p q) (k : LtP q r) : LtP p r := by unfold LtP at *; omega
theorem LtP.asym {p q : Pln} (h : LtP p q) (k : LtP q p) : False := (h.trans k).irr
theorem Je {p q : Pln} : YI p q < 0 ↔ LtP p q := by
 rcases qj p q with ⟨h1, h2⟩ | ⟨h1, h2⟩ | ⟨h1, h2⟩
 ·simp [h1, h2]
 ·subst h2; rw [h1]; simp; exact fun h => h.irr
 ·rw [h1]; simp; exact fun h => h.asym h2
theorem LtP.tri (p q : Pln) : LtP p q ∨ p = q ∨ LtP q p := by
 rcases qj p q with ⟨_, h⟩ | ⟨_, h⟩ | ⟨_, h⟩
 ·exact .inl h
 ·exact .inr (.inl h)
 ·exact .inr (.inr h)
theorem KV (p : Pln) : ∀ l, (KH p l).Perm (p :: l)
 | [] => .refl _
 | q :: l => by
  unfold KH
  split
  ·exact ((KV p l).cons q).trans (.swap p q l)
  ·exact .refl _
theorem qJ : ∀ l, (JC l).Perm l
 | [] => .refl _
 | p :: l => (KV p _).trans ((qJ l).cons p)
theorem mr (p : Pln) : ∀ {l : List Pln}, l.Pairwise (fun p q => ¬ LtP q p) → (KH p l).Pairwise (fun p q => ¬ LtP q p)
 | [], _ => by simp [KH]
 | q :: l, h => by
  rw [List.pairwise_cons] at h
  unfold KH
  split
  ·rename_i h1
   rw [List.pairwise_cons]
   refine ⟨fun a ha => ?_, mr p h.2⟩
   rcases List.mem_cons.1 ((KV p l).mem_iff.1 ha) with rfl | ha
   ·exact fun k => (Je.1 h1).asym k
   ·exact h.1 a ha
  ·rename_i h1
   rw [List.pairwise_cons]
   refine ⟨fun a ha => ?_, List.pairwise_cons.2 h⟩
   have h2 : ¬ LtP q p := fun k => h1 (Je.2 k)
   rcases List.mem_cons.1 ha with rfl | ha
   ·exact h2
   ·intro k
    rcases LtP.tri p q with h3 | h3 | h3
    ·exact h.1 a ha (k.trans h3)
    ·rw [h3] at k; exact h.1 a ha k
    ·exact h2 h3
theorem mF : ∀ l : List Pln, (JC l).Pairwise (fun p q => ¬ LtP q p)
 | [] => .nil
 | p :: l => mr p (mF l)
end Go.Den
end
noncomputable section
set_option maxRecDepth 20000
namespace Go.F
open Go Go.Lift Go.Den
abbrev A1 := Int × Int × Int × Unit
abbrev A2 := A1 × Int × Unit
abbrev A3 := List A2
abbrev A4 := List Bool × List Bool × List A3 × Unit
abbrev A5 := List A3 × List A3 × Int × List Int × Unit
abbrev A6 := List UInt8 × List A3 × List Int × Unit
abbrev A7 := Int × Int × Int × Int × Unit
abbrev A8 := Bool × Unit
abbrev A9 := yO × List A3 × List Int × Unit
abbrev A10 := Int × Unit
abbrev A11 := List A2 × Unit
abbrev A12 := List Int × Int × Unit
abbrev A13 := List Int
abbrev A14 := List A3
abbrev A15 := A6 × A4 × List A5 × Unit
abbrev A16 := List A3 × Unit
abbrev A17 := List A3 × Int
abbrev A18 := List A3 × Int × Unit
abbrev A19 := A12 × Unit
abbrev A20 := A19 × Int × Unit
abbrev A21 := List Int × List Int × List Int × Unit
abbrev A22 := Unit ⊕ Int
abbrev A23 := Int × Int
abbrev A24 := Unit ⊕ Bool
abbrev A25 := List Int × Unit
abbrev A26 := A2 × Unit → Comp A8
abbrev A27 := A1 × Unit
abbrev A28 := List Int × Int
abbrev A29 := List A2 × Int
abbrev A30 := List A1 × Int × Unit
abbrev A32 := List A2 × Unit → Comp A8
abbrev A33 := List A13 × List Int × List Int × Unit
abbrev A34 := Int × Unit → Comp A8
abbrev A35 := List A3 ⊕ List A3 × Int
abbrev A36 := Bool × List Int × Int × Unit
abbrev A37 := List A7 × Unit
abbrev A38 := Bool × Int × Unit
abbrev A39 := List Bool
abbrev A40 := A2 × Unit
abbrev A42 := List A2 → Comp A11
abbrev A43 := A4 × List Bool × List Bool × List A3 × Unit ⊕ Int × List Bool × List Bool × List A3 × Unit
abbrev A44 := A9 × A4 × List A5 × Unit
abbrev A45 := A4 × Int × Unit
abbrev A46 := Option A3 × Unit
def z7 : Int × Int × Int × Unit → Int × Int × Int × Unit → Comp A11 := fun x0 x1 => .pure ([((1, 0, 0, ()), x1.1, ()), ((-1, 0, 0, ()), Ya .i64 x0.1, ()), ((0, 1, 0, ()), x1.2.1, ()), ((0, -1, 0, ()), Ya .i64 x0.2.1, ()), ((0, 0, 1, ()), x1.2.2.1, ()), ((0, 0, -1, ()), Ya .i64 x0.2.2.1, ())], ())
def gQ : Comp (A44 × Unit) := (mk 3 false).bind fun x => (mk 3 false).bind fun a => (Comp.loop (fun (x : Int × A6 × A4 × List A5 × Unit) => if ltI x.1 3 = true then (z7 (jw .i64 2 x.1, 0, 0, ()) (zI .i64 (jw .i64 2 x.1) 2, 2, 2, ())).bind fun b => (app x.2.1.2.1 [b.1]).bind fun zs => .pure (.next (zI .i64 x.1 1, (x.2.1.1, zs, x.2.1.2.2.1, ()), (x.2.2.1.1, x.2.2.1.2.1, x.2.2.1.2.2.1, ()), x.2.2.2.1, ())) else .pure (.done ((x.2.1.1, x.2.1.2.1, x.2.1.2.2.1, ()), (x.2.2.1.1, x.2.2.1.2.1, x.2.2.1.2.2.1, ()), x.2.2.2.1, ()))) (0, ([], [], [1, 2, 3], ()), (x, a, [], ()), [], ())).bind fun x => (sub x.1.2.1 1 2).bind fun b => (sub x.1.2.1 2 (zD x.1.2.1)).bind fun c => (sub x.1.2.1 1 (zD x.1.2.1)).bind fun d => .pure (((x.1.1, x.1.2.1, x.1.2.2.1, ()), (x.2.1.1, x.2.1.2.1, x.2.1.2.2.1, ()), [(b, [], 3, [], ()), (c, [], 4, [], ()), (d, [], 5, [], ())], ()), ())
def vn : Int → Comp A8 := fun x0 => .pure (sel (ltI x0 1) true (gtI x0 3), ())
def gL : List Int → A34 → Comp A10 := fun x0 x1 => (Comp.loop (fun (x : Int) => if ltI x (zD x0) = true then (idx x0 x).bind fun a => (x1 (a, ())).bind fun b => if b.1 = true then .pure (.done (Sum.inr x)) else .pure (.next (zI .i64 x 1)) else .pure (.done (Sum.inl ()))) 0).bind fun (x : A22) => match x with
   | .inl x => .pure (-1, ())
   | .inr x => .pure (x, ())
def zR : List Int → A34 → Comp A8 := fun x0 x1 => (gL x0 x1).bind fun x => .pure (geI x.1 0, ())
def yu : List A3 → A32 → Comp A10 := fun x0 x1 => (Comp.loop (fun (x : Int) => if ltI x (zD x0) = true then (idx x0 x).bind fun a => (x1 (a, ())).bind fun b => if b.1 = true then .pure (.done (Sum.inr x)) else .pure (.next (zI .i64 x 1)) else .pure (.done (Sum.inl ()))) 0).bind fun (x : A22) => match x with
   | .inl x => .pure (-1, ())
   | .inr x => .pure (x, ())
def zQ : List A3 → A32 → Comp A8 := fun x0 x1 => (yu x0 x1).bind fun x => .pure (geI x.1 0, ())
def yA : List A2 → A26 → Comp A10 := fun x0 x1 => (Comp.loop (fun (x : Int) => if ltI x (zD x0) = true then (idx x0 x).bind fun a => (x1 (a, ())).bind fun b => if b.1 = true then .pure (.done (Sum.inr x)) else .pure (.next (zI .i64 x 1)) else .pure (.done (Sum.inl ()))) 0).bind fun (x : A22) => match x with
   | .inl x => .pure (-1, ())
   | .inr x => .pure (x, ())
def zY : List A2 → A26 → Comp A8 := fun x0 x1 => (yA x0 x1).bind fun x => .pure (geI x.1 0, ())
def gy : Int → List Int → Comp A8 := fun x0 x1 => (Comp.loop (fun (x : Int) => if ltI x (zD x1) = true then (idx x1 x).bind fun a => if sel (ltI a (Ya .i64 x0)) true (gtI a x0) = true then .pure (.done (Sum.inr false)) else .pure (.next (zI .i64 x 1)) else .pure (.done (Sum.inl ()))) 0).bind fun (x : A24) => match x with
   | .inl x => .pure (true, ())
   | .inr x => .pure (x, ())
def jT : Int → Comp A10 := fun x0 => .pure (qF x0 (Ya .i64 x0), ())
def ZF : List Int → Comp A10 := fun x0 => (Comp.loop (fun (x : A23) => if ltI x.2 (zD x0) = true then (idx x0 x.2).bind fun a => if eqI a (-9223372036854775808) = true then .pure (.done (Sum.inr 0)) else (jT a).bind fun b => (Comp.loop (fun (x : A23) => if gtI x.2 0 = true then (rem x.1 x.2).bind fun c => .pure (.next (x.2, c)) else .pure (.done x.1)) (x.1, b.1)).bind fun c => .pure (.next (c, zI .i64 x.2 1)) else .pure (.done (Sum.inl x.1))) (0, 0)).bind fun (x : Int ⊕ Int) => match x with
   | .inl x => .pure (x, ())
   | .inr x => .pure (x, ())
def YQ : A1 × Int × Unit → Comp A8 := fun x0 => jn (fun (x : Bool) => .pure (x, ())) fun (j : Bool → Comp A8) => (gy (Int.ofNat 4608) [x0.1.1, x0.1.2.1, x0.1.2.2.1]).bind fun x => if x.1 = true then (ZF [x0.1.1, x0.1.2.1, x0.1.2.2.1]).bind fun x => if eqI x.1 1 = true then (gy (Int.ofNat 2097152) [x0.2.1]).bind fun x => j x.1 else j false else j false
def jG : A1 × Int × Unit → Comp A8 := fun x0 => (YQ x0).bind fun x => .pure (ntB x.1, ())
def vV : List A2 → Comp A10 := fun x0 => if gtI (zD x0) 48 = true then .pure (2, ()) else (zY x0 fun (z : A40) => jG z.1).bind fun x => if x.1 = true then .pure (12, ()) else .pure (0, ())
def jF : List A2 → Comp A8 := fun x0 => (vV x0).bind fun x => .pure (neI x.1 0, ())
def k9 : List A3 → Comp A8 := fun x0 => (zQ x0 fun (z : A11) => jF z.1).bind fun x => .pure (ntB x.1, ())
def vY : Int → Comp A11 := fun x0 => jn (fun (x : Unit) => jn (fun (x : A3) => .pure (x, ())) fun (j : A42) => if gtI (gM .i64 x0 0) 0 = true then jn (fun (x : A3) => j x) fun (j : A42) => ((sub [] 0 0).bind fun (x : List Unit) => .pure ()).bind fun x => (mk (gM .i64 x0 0) ((0, 0, 0, ()), 0, ())).bind fun zs => (sub zs 0 0).bind fun ys => j ys else j []) fun (j : Unit → Comp A11) => if ltI x0 0 = true then Comp.fail else j ()
def zO : List A3 → Comp A11 := fun x0 => (Comp.loop (fun (x : A23) => if ltI x.2 (zD x0) = true then (idx x0 x.2).bind fun a => jn (fun (b : Unit) => .pure (.next (zI .i64 x.1 (zD a), zI .i64 x.2 1))) fun (j : Unit → Comp (Comp.Step A23 Int)) => if ltI (zI .i64 x.1 (zD a)) 0 = true then Comp.fail else j () else .pure (.done x.1)) (0, 0)).bind fun x => (vY x).bind fun y => (Comp.loop (fun (x : A29) => if ltI x.2 (zD x0) = true then (idx x0 x.2).bind fun a => (app x.1 a).bind fun zs => .pure (.next (zs, zI .i64 x.2 1)) else .pure (.done x.1)) (y.1, 0)).bind fun x => .pure (x, ())
def cell_of : List A3 → Comp A11 := fun x0 => (zO x0).bind fun y => (Comp.loop (fun (x : A29) => if ltI x.2 (zD [(1, 0, 0, ()), (-1, 0, 0, ()), (0, 1, 0, ()), (0, -1, 0, ()), (0, 0, 1, ()), (0, 0, -1, ())]) = true then (idx [(1, 0, 0, ()), (-1, 0, 0, ()), (0, 1, 0, ()), (0, -1, 0, ()), (0, 0, 1, ()), (0, 0, -1, ())] x.2).bind fun a => (app x.1 [(a, 24, ())]).bind fun zs => .pure (.next (zs, zI .i64 x.2 1)) else .pure (.done x.1)) (y.1, 0)).bind fun x => .pure (x, ())
def vX : List A2 → Comp (List A11) := fun x0 => ((Zh (fun (x : Int) => if ltI x (zD x0) = true then (idx x0 x).bind fun a => (sub x0 (zI .i64 x 1) (zD x0)).bind fun b => (Zh (fun (c : Int) => if ltI c (zD b) = true then (idx b c).bind fun d => (sub x0 (zI .i64 (zI .i64 x c) 2) (zD x0)).bind fun x => (Zh (fun (e : Int) => if ltI e (zD x) = true then (idx x e).bind fun x => tell [([a, d, x], ())] (Comp.pure ([], .next (zI .i64 e 1))) else .pure ([], .done (Sum.inl ()))) 0).bind fun (p : List A11 × (Unit ⊕ Unit)) => tell p.1 (match p.2 with
              | .inl x => .pure ([], .next (zI .i64 c 1))
              | .inr x => .pure ([], .done (Sum.inr ()))) else .pure ([], .done (Sum.inl ()))) 0).bind fun (p : List A11 × (Unit ⊕ Unit)) => tell p.1 (match p.2 with
         | .inl c => .pure ([], .next (zI .i64 x 1))
         | .inr x => .pure ([], .done (Sum.inr ()))) else .pure ([], .done (Sum.inl ()))) 0).bind fun (p : List A11 × (Unit ⊕ Unit)) => tell p.1 (match p.2 with
    | .inl x => .pure ([], ())
    | .inr x => .pure ([], ()))).bind fun (p : List A11 × Unit) => .pure p.1
def jm : List A2 → Comp (Comp (List A11) × Unit) := fun x0 => .pure (vX x0, ())
def ZL : Int × Int × Int × Unit → Int × Int × Int × Unit → Comp A27 := fun x0 x1 => .pure ((gM .i64 (jw .i64 x0.2.1 x1.2.2.1) (jw .i64 x0.2.2.1 x1.2.1), gM .i64 (jw .i64 x0.2.2.1 x1.1) (jw .i64 x0.1 x1.2.2.1), gM .i64 (jw .i64 x0.1 x1.2.1) (jw .i64 x0.2.1 x1.1), ()), ())
def ZB : Int × Int × Int × Unit → Int × Int × Int × Unit → Comp A10 := fun x0 x1 => .pure (zI .i64 (zI .i64 (jw .i64 x0.1 x1.1) (jw .i64 x0.2.1 x1.2.1)) (jw .i64 x0.2.2.1 x1.2.2.1), ())
def Z7 : Int × Int × Int × Unit → Int → Comp A27 := fun x0 x1 => .pure ((jw .i64 x0.1 x1, jw .i64 x0.2.1 x1, jw .i64 x0.2.2.1 x1, ()), ())
def Yp : Int × Int × Int × Unit → Int × Int × Int × Unit → Comp A27 := fun x0 x1 => .pure ((zI .i64 x0.1 x1.1, zI .i64 x0.2.1 x1.2.1, zI .i64 x0.2.2.1 x1.2.2.1, ()), ())
def J2 : List Int → Comp A10 := fun x0 => (Comp.loop (fun (x : A23) => if ltI x.2 (zD x0) = true then (idx x0 x.2).bind fun a => (Comp.loop (fun (x : A23) => if neI x.2 0 = true then (rem x.1 x.2).bind fun b => .pure (.next (x.2, b)) else .pure (.done x.1)) (x.1, a)).bind fun b => .pure (.next (b, zI .i64 x.2 1)) else .pure (.done x.1)) (0, 0)).bind fun x => .pure (qF x (Ya .i64 x), ())
def Yu : List A2 → Comp (A7 × Bool × Unit) := fun x0 => (Comp.loop (fun (x : Int × Int × Int × Int × Int × Unit) => if ltI x.2.1 3 = true then (idx x0 x.2.1).bind fun a => (rem (zI .i64 x.2.1 1) 3).bind fun b => (idx x0 b).bind fun c => (rem (zI .i64 x.2.1 2) 3).bind fun d => (idx x0 d).bind fun e => (ZL c.1 e.1).bind fun f => (ZB a.1 f.1).bind fun g => (Z7 f.1 a.2.1).bind fun h => (Yp x.2.2 h.1).bind fun i => .pure (.next (g.1, zI .i64 x.2.1 1, i.1)) else .pure (.done (x.1, x.2.2))) (0, 0, 0, 0, 0, ())).bind fun x => if eqI x.1 0 = true then .pure ((0, 0, 0, 0, ()), false, ()) else (J2 [x.2.1, x.2.2.1, x.2.2.2.1, x.1]).bind fun a => jn (fun (b : Int) => (quo .i64 x.2.1 b).bind fun c => (quo .i64 x.2.2.1 b).bind fun d => (quo .i64 x.2.2.2.1 b).bind fun e => (quo .i64 x.1 b).bind fun x => .pure ((c, d, e, x, ()), true, ())) fun (j : Int → Comp (A7 × Bool × Unit)) => if ltI x.1 0 = true then j (Ya .i64 a.1) else j a.1
def ZD : A1 × Int × Unit → Int × Int × Int × Int × Unit → Comp A10 := fun x0 x1 => (ZB x0.1 (x1.1, x1.2.1, x1.2.2.1, ())).bind fun x => .pure (gM .i64 (jw .i64 x0.2.1 x1.2.2.2.1) x.1, ())
def ga : A1 × Int × Unit → Int × Int × Int × Int × Unit → Comp A8 := fun x0 x1 => (ZD x0 x1).bind fun x => .pure (ltI x.1 0, ())
def ZO : List A2 → Int × Int × Int × Int × Unit → Comp A8 := fun x0 x1 => (zY x0 fun (z : A40) => ga z.1 x1).bind fun x => .pure (ntB x.1, ())
def vU : List A2 → Comp A37 := fun x0 => (jm x0).bind fun (x : Comp (List A11) × Unit) => x.1.bind fun xs => (KM (fun (x : List A7 × List (A7 × Bool)) (d : A11) => (Yu d.1).bind fun a => (Comp.gd (sel a.2.1 (ntB (match mgB (fun (x b : A7) => adB (eqI x.1 b.1) (adB (eqI x.2.1 b.2.1) (adB (eqI x.2.2.1 b.2.2.1) (eqI x.2.2.2.1 b.2.2.2.1)))) x.2 a.1 with
          | some x => x
          | none => false)) false) (ZO x0 a.1) (false, ())).bind fun b => jn (fun (x : List A7 × List (A7 × Bool)) => .pure (.next (x.1, x.2))) fun (j : List A7 × List (A7 × Bool) → Comp (Comp.Step (List A7 × List (A7 × Bool)) Empty)) => if sel (sel a.2.1 (ntB (match mgB (fun (x c : A7) => adB (eqI x.1 c.1) (adB (eqI x.2.1 c.2.1) (adB (eqI x.2.2.1 c.2.2.1) (eqI x.2.2.2.1 c.2.2.2.1)))) x.2 a.1 with
             | some x => x
             | none => false)) false) b.1 false = true then (app x.1 [a.1]).bind fun zs => j (zs, mpB (fun (x c : A7) => adB (eqI x.1 c.1) (adB (eqI x.2.1 c.2.1) (adB (eqI x.2.2.1 c.2.2.1) (eqI x.2.2.2.1 c.2.2.2.1)))) x.2 a.1 true) else j (x.1, x.2)) xs ([], [])).bind fun (r : Comp.Step (List A7 × List (A7 × Bool)) Empty) => match r with
     | .next x => .pure (x.1, ())
     | .done e => nomatch e
def yM : Int × Int × Int × Int × Unit → A1 × Int × Unit → Comp A8 := fun x0 x1 => (ZD x1 x0).bind fun x => .pure (gtI x.1 0, ())
def vQ : List A7 → (A7 × Unit → Comp A8) → Comp A10 := fun x0 x1 => (Comp.loop (fun (x : Int) => if ltI x (zD x0) = true then (idx x0 x).bind fun a => (x1 (a, ())).bind fun b => if b.1 = true then .pure (.done (Sum.inr x)) else .pure (.next (zI .i64 x 1)) else .pure (.done (Sum.inl ()))) 0).bind fun (x : A22) => match x with
   | .inl x => .pure (-1, ())
   | .inr x => .pure (x, ())
def yE : List A7 → (A7 × Unit → Comp A8) → Comp A8 := fun x0 x1 => (vQ x0 x1).bind fun x => .pure (geI x.1 0, ())
def yk : A1 × Int × Unit → List A7 → Comp A8 := fun x0 x1 => (yE x1 fun (z : A7 × Unit) => yM z.1 x0).bind fun x => .pure (ntB x.1, ())
def vD : List A2 → A26 → Comp A10 := fun x0 x1 => (Comp.loop (fun (x : Int) => if ltI x (zD x0) = true then (idx x0 x).bind fun a => (x1 (a, ())).bind fun b => if b.1 = true then .pure (.done (Sum.inr x)) else .pure (.next (zI .i64 x 1)) else .pure (.done (Sum.inl ()))) 0).bind fun (x : A22) => match x with
   | .inl x => .pure (-1, ())
   | .inr x => .pure (x, ())
def zz : List A2 → A26 → Comp A8 := fun x0 x1 => (vD x0 x1).bind fun x => .pure (geI x.1 0, ())
def gY : List A2 → Comp A8 := fun x0 => (vU x0).bind fun y => (zz x0 fun (z : A40) => yk z.1 y.1).bind fun x => .pure (ntB x.1, ())
def jl : List A2 → Comp A8 := fun x0 => jn (fun (x : Bool) => .pure (x, ())) fun (j : Bool → Comp A8) => (k9 [x0]).bind fun x => if x.1 = true then (cell_of [x0]).bind fun y => (gY y.1).bind fun x => j x.1 else j false
def kF : List A2 → List A2 → Comp A8 := fun x0 x1 => jn (fun (x : Bool) => .pure (x, ())) fun (j : Bool → Comp A8) => (k9 [x0, x1]).bind fun x => if ntB (ntB x.1) = true then (cell_of [x0, x1]).bind fun y => (gY y.1).bind fun x => j (ntB x.1) else j true
def gZ : List A2 → List A2 → Comp A8 := fun x0 x1 => (kF x1 x0).bind fun x => .pure (ntB x.1, ())
def yD : List A2 → List A3 → Comp A8 := fun x0 x1 => (zQ x1 fun (z : A11) => gZ z.1 x0).bind fun x => .pure (ntB x.1, ())
def kJ : yO × List A3 × List Int × Unit → Comp A10 := fun x0 => if sel (eqI (zD x0.2.1) 0) true (gtI (zD x0.2.1) 16) = true then .pure (2, ()) else (Comp.gd (ntB (neI (zD x0.2.2.1) (zD x0.2.1))) (zR x0.2.2.1 fun (z : A10) => vn z.1) (false, ())).bind fun x => if sel (neI (zD x0.2.2.1) (zD x0.2.1)) true x.1 = true then .pure (1, ()) else (Comp.loop (fun (x : Int) => if ltI x (zD x0.2.1) = true then (idx x0.2.1 x).bind fun a => (jl a).bind fun b => (Comp.gd (ntB (ntB b.1)) (sub x0.2.1 0 x) []).bind fun c => (Comp.gd (ntB (ntB b.1)) (yD a c) (false, ())).bind fun d => if sel (ntB b.1) true (ntB d.1) = true then .pure (.done (Sum.inr 13)) else .pure (.next (zI .i64 x 1)) else .pure (.done (Sum.inl ()))) 0).bind fun (x : A22) => match x with
      | .inl x => .pure (0, ())
      | .inr x => .pure (x, ())
def gz : List A2 → Comp A8 := fun x0 => (vV x0).bind fun x => .pure (neI x.1 0, ())
def Xv : yO × List A3 × List Int × Unit → List Bool × List Bool × List A3 × Unit → Comp A8 := fun x0 x1 => (Comp.gd (sel (sel (eqI (zD x1.1) (zD x0.2.1)) (eqI (zD x1.2.1) (zD x0.2.1)) false) (leI (zD x1.2.2.1) 24) false) (zQ x1.2.2.1 fun (z : A11) => gz z.1) (false, ())).bind fun x => .pure (sel (sel (sel (eqI (zD x1.1) (zD x0.2.1)) (eqI (zD x1.2.1) (zD x0.2.1)) false) (leI (zD x1.2.2.1) 24) false) (ntB x.1) false, ())
def vZ : Int → Comp A16 := fun x0 => jn (fun (x : Unit) => jn (fun (x : A14) => .pure (x, ())) fun (j : List A3 → Comp A16) => if gtI (gM .i64 x0 0) 0 = true then jn (fun (x : A14) => j x) fun (j : List A3 → Comp A16) => ((sub [] 0 0).bind fun (x : List Unit) => .pure ()).bind fun x => (mk (gM .i64 x0 0) []).bind fun zs => (sub zs 0 0).bind fun ys => j ys else j []) fun (j : Unit → Comp A16) => if ltI x0 0 = true then Comp.fail else j ()
def zT : List A14 → Comp A16 := fun x0 => (Comp.loop (fun (x : A23) => if ltI x.2 (zD x0) = true then (idx x0 x.2).bind fun a => jn (fun (b : Unit) => .pure (.next (zI .i64 x.1 (zD a), zI .i64 x.2 1))) fun (j : Unit → Comp (Comp.Step A23 Int)) => if ltI (zI .i64 x.1 (zD a)) 0 = true then Comp.fail else j () else .pure (.done x.1)) (0, 0)).bind fun x => (vZ x).bind fun y => (Comp.loop (fun (x : A17) => if ltI x.2 (zD x0) = true then (idx x0 x.2).bind fun a => (app x.1 a).bind fun zs => .pure (.next (zs, zI .i64 x.2 1)) else .pure (.done x.1)) (y.1, 0)).bind fun x => .pure (x, ())
def kQ : List Int → Comp A8 := fun x0 => (Comp.loop (fun (x : Int) => if ltI x (zD x0) = true then (idx x0 x).bind fun a => (idx x0 (gM .i64 x 1)).bind fun b => if leI a b = true then .pure (.done (Sum.inr false)) else .pure (.next (zI .i64 x 1)) else .pure (.done (Sum.inl ()))) 1).bind fun (x : A24) => match x with
   | .inl x => .pure (true, ())
   | .inr x => .pure (x, ())
def ZM : List A5 → Int → Comp A10 := fun x0 x1 => (idx x0 x1).bind fun x => (zT [x.1, x.2.1]).bind fun y => (Comp.loop (fun (a : Int) => if ltI a (zD y.1) = true then (idx y.1 a).bind fun x => (vV x).bind fun x => if neI x.1 0 = true then .pure (.done (Sum.inr x.1)) else .pure (.next (zI .i64 a 1)) else .pure (.done (Sum.inl ()))) 0).bind fun (a : A22) => match a with
     | .inl b => if sel (ltI x.2.2.1 1) true (gtI x.2.2.1 1048576) = true then .pure (3, ()) else (Comp.loop (fun (c : Int) => if ltI c (zD x.2.2.2.1) = true then (idx x.2.2.2.1 c).bind fun d => if sel (sel (ltI d 0) true (geI d (zD x0))) true (eqI d x1) = true then .pure (.done (Sum.inr 3)) else .pure (.next (zI .i64 c 1)) else .pure (.done (Sum.inl ()))) 0).bind fun (c : A22) => match c with
        | .inl d => (kQ x.2.2.2.1).bind fun x => if ntB x.1 = true then .pure (7, ()) else .pure (0, ())
        | .inr x => .pure (x, ())
     | .inr x => .pure (x, ())
def Y5 : A9 × A4 × List A5 × Unit → Comp A10 := fun x0 => (kJ x0.1).bind fun x => if neI x.1 0 = true then .pure (x.1, ()) else (Xv x0.1 x0.2.1).bind fun x => if ntB x.1 = true then .pure (4, ()) else if gtI (zD x0.2.2.1) 8 = true then .pure (2, ()) else (Comp.loop (fun (x : A23) => if ltI x.2 (zD x0.2.2.1) = true then (idx x0.2.2.1 x.2).bind fun a => (ZM x0.2.2.1 x.2).bind fun b => if neI b.1 0 = true then .pure (.done (Sum.inr b.1)) else .pure (.next (zI .i64 x.1 (zD a.1), zI .i64 x.2 1)) else .pure (.done (Sum.inl x.1))) (zD x0.2.1.2.2.1, 0)).bind fun (x : Int ⊕ Int) => match x with
        | .inl x => if gtI x 24 = true then .pure (2, ()) else .pure (0, ())
        | .inr x => .pure (x, ())
def kX : A9 × A4 × List A5 × Unit → Comp A10 := fun x0 => (Y5 x0).bind fun x => .pure (x.1, ())
def kW : yO × List A3 × List Int × Unit → Comp A10 := fun x0 => (kJ x0).bind fun x => .pure (x.1, ())
def gh : Int → Int → Comp A8 := fun x0 x1 => .pure (sel (ltI x0 0) true (geI x0 x1), ())
def YU : Int → List Int → Comp A10 := fun x0 x1 => (zR x1 fun (z : A10) => gh z.1 x0).bind fun x => if x.1 = true then .pure (5, ()) else (Comp.loop (fun (x : A23) => if ltI x.2 (zD x1) = true then (idx x1 x.2).bind fun a => (sub x1 0 x.2).bind fun b => (Comp.loop (fun (x : A23) => if ltI x.2 (zD b) = true then (idx b x.2).bind fun c => if eqI a c = true then .pure (.done (Sum.inl 6)) else .pure (.next (x.1, zI .i64 x.2 1)) else .pure (.done (Sum.inr x.1))) (x.1, 0)).bind fun (c : Int ⊕ Int) => match c with
          | .inl x => .pure (.done x)
          | .inr d => .pure (.next (d, zI .i64 x.2 1)) else .pure (.done x.1)) (0, 0)).bind fun x => .pure (x, ())
def kV : A9 × A4 × List A5 × Unit → List Int → Comp A10 := fun x0 x1 => (YU (zD x0.2.2.1) x1).bind fun x => .pure (x.1, ())
def jD : List A3 → Comp A10 := fun x0 => (Comp.loop (fun (x : Int) => if ltI x (zD x0) = true then (idx x0 x).bind fun a => (vV a).bind fun b => if neI b.1 0 = true then .pure (.done (Sum.inr b.1)) else .pure (.next (zI .i64 x 1)) else .pure (.done (Sum.inl ()))) 0).bind fun (x : A22) => match x with
   | .inl x => .pure (0, ())
   | .inr x => .pure (x, ())
def kS : yO × List A3 × List Int × Unit → List Bool × List Bool × List A3 × Unit → Comp A10 := fun x0 x1 => (kJ x0).bind fun x => if neI x.1 0 = true then .pure (x.1, ()) else (Comp.gd (ntB (sel (sel (neI (zD x1.1) (zD x0.2.1)) true (neI (zD x1.2.1) (zD x0.2.1))) true (gtI (zD x1.2.2.1) 24))) (jD x1.2.2.1) (0, ())).bind fun x => if sel (sel (sel (neI (zD x1.1) (zD x0.2.1)) true (neI (zD x1.2.1) (zD x0.2.1))) true (gtI (zD x1.2.2.1) 24)) true (neI x.1 0) = true then .pure (4, ()) else .pure (0, ())
def yf : List Bool → Comp (List Bool × Unit) := fun x0 => amb (K3 x0) (Comp.pure ([], ())) ((app [] x0).bind fun zs => .pure (zs, ()))
def zZ : List A2 → Comp A11 := fun x0 => amb (K3 x0) (Comp.pure ([], ())) ((app [] x0).bind fun zs => .pure (zs, ()))
def Zj : List A3 → Comp A16 := fun x0 => (Comp.loop (fun (x : A17) => if ltI x.2 (zD x0) = true then (idx x0 x.2).bind fun a => (zZ a).bind fun y => (app x.1 [y.1]).bind fun zs => .pure (.next (zs, zI .i64 x.2 1)) else .pure (.done x.1)) ([], 0)).bind fun x => .pure (x, ())
def vH : Int → List A2 → List A2 → Comp A8 := fun x0 x1 x2 => (kF x1 x2).bind fun x => .pure (ntB x.1, ())
def yW : List A3 → (Int × List A2 × Unit → Comp A8) → Comp A16 := fun x0 x1 => (Comp.loop (fun (x : A17) => if ltI x.2 (zD x0) = true then (idx x0 x.2).bind fun a => (x1 (x.2, a, ())).bind fun b => jn (fun (c : A14) => .pure (.next (c, zI .i64 x.2 1))) fun (j : List A3 → Comp (Comp.Step A17 A14)) => if b.1 = true then (app x.1 [a]).bind fun zs => j zs else j x.1 else .pure (.done x.1)) ([], 0)).bind fun x => .pure (x, ())
def YM : List A3 → Comp A10 := fun x0 => if gtI (zD x0) 16 = true then .pure (2, ()) else (Comp.loop (fun (x : Int) => if ltI x (zD x0) = true then (idx x0 x).bind fun a => (vV a).bind fun b => if neI b.1 0 = true then .pure (.done (Sum.inr b.1)) else .pure (.next (zI .i64 x 1)) else .pure (.done (Sum.inl ()))) 0).bind fun (x : A22) => match x with
    | .inl x => .pure (0, ())
    | .inr x => .pure (x, ())
def YT : List A2 → Comp A37 := fun x0 => (k9 [x0]).bind fun x => if ntB x.1 = true then .pure ([], ()) else (cell_of [x0]).bind fun y => (vU y.1).bind fun y => .pure (y.1, ())
def jf : A1 × Int × Unit → List A7 → Comp A8 := fun x0 x1 => (Comp.loop (fun (x : A23) => if ltI x.2 (zD x1) = true then (idx x1 x.2).bind fun a => (ZD x0 a).bind fun b => jn (fun (c : Int) => .pure (.next (c, zI .i64 x.2 1))) fun (j : Int → Comp (Comp.Step A23 Int)) => if eqI b.1 0 = true then j (zI .i64 x.1 1) else j x.1 else .pure (.done x.1)) (0, 0)).bind fun x => .pure (ltI x 3, ())
def zy : List A2 → A26 → Comp A3 := fun xs x0 => (yA xs x0).bind fun x => if eqI x.1 (-1) = true then .pure xs else (Comp.loop (fun (x : List A2 × Int × Int) => if ltI x.2.2 (zD x.1) = true then (idx x.1 x.2.2).bind fun a => (x0 (a, ())).bind fun b => jn (fun (c : A29) => .pure (.next (c.1, c.2, zI .i64 x.2.2 1))) fun (j : List A2 × Int → Comp (Comp.Step (List A2 × Int × Int) A29)) => if ntB b.1 = true then (inb x.1.length x.2.1).bind fun c => j (jv x.1 x.2.1 a, zI .i64 x.2.1 1) else j (x.1, x.2.1) else .pure (.done (x.1, x.2.1))) (xs, x.1, zI .i64 x.1 1)).bind fun x => ((sub x.1 x.2 (zD x.1)).bind fun x => .pure ()).bind fun a => (sub x.1 (Int.ofNat x.2.toNat) (zD x.1)).bind fun b => jn (fun (x : A3) => .pure x) fun (j : List A2 → Comp A3) => (sub (List.take x.2.toNat x.1 ++ List.replicate (x.1.length.sub x.2.toNat) ((0, 0, 0, ()), 0, ())) 0 x.2).bind fun ys => j ys
def zq : List A2 → (A2 × A2 × Unit → Comp A10) → Comp A3 := AJ
def ZK : Int → Int → Comp A10 := fun x0 x1 => if ltI x0 x1 = true then .pure (-1, ()) else if gtI x0 x1 = true then .pure (1, ()) else .pure (0, ())
def j7 : A1 × Int × Unit → A1 × Int × Unit → Comp A10 := fun x0 x1 => (Comp.loop (fun (x : A23) => if ltI x.2 (zD [[x0.1.1, x1.1.1], [x0.1.2.1, x1.1.2.1], [x0.1.2.2.1, x1.1.2.2.1], [x0.2.1, x1.2.1]]) = true then (idx [[x0.1.1, x1.1.1], [x0.1.2.1, x1.1.2.1], [x0.1.2.2.1, x1.1.2.2.1], [x0.2.1, x1.2.1]] x.2).bind fun a => (idx a 0).bind fun b => (idx a 1).bind fun c => (ZK b c).bind fun d => if eqI d.1 0 = true then .pure (.next (d.1, zI .i64 x.2 1)) else .pure (.done d.1) else .pure (.done x.1)) (0, 0)).bind fun x => .pure (x, ())
def zt : List A2 → Comp A3 := fun xs => if ltI (zD xs) 2 = true then .pure xs else (Comp.loop (fun (x : A29) => if ltI x.2 (zD x.1) = true then (idx x.1 x.2).bind fun a => (idx x.1 (gM .i64 x.2 1)).bind fun b => if adB (adB (eqI a.1.1 b.1.1) (adB (eqI a.1.2.1 b.1.2.1) (eqI a.1.2.2.1 b.1.2.2.1))) (eqI a.2.1 b.2.1) = true then ((sub x.1 x.2 (zD x.1)).bind fun x => .pure ()).bind fun c => (Comp.loop (fun (d : List A2 × Int × Int) => if ltI d.2.2 (zD (List.drop x.2.toNat d.1)) = true then (idx (List.drop x.2.toNat d.1) d.2.2).bind fun e => (idx (List.drop x.2.toNat d.1) (gM .i64 d.2.2 1)).bind fun f => jn (fun (x : A29) => .pure (.next (x.1, x.2, zI .i64 d.2.2 1))) fun (j : List A2 × Int → Comp (Comp.Step (List A2 × Int × Int) A29)) => if ntB (adB (adB (eqI e.1.1 f.1.1) (adB (eqI e.1.2.1 f.1.2.1) (eqI e.1.2.2.1 f.1.2.2.1))) (eqI e.2.1 f.2.1)) = true then (idx (List.drop x.2.toNat d.1) d.2.2).bind fun x => (inb d.1.length d.2.1).bind fun g => j (jv d.1 d.2.1 x, zI .i64 d.2.1 1) else j (d.1, d.2.1) else .pure (.done (d.1, d.2.1))) (x.1, x.2, 1)).bind fun x => ((sub x.1 x.2 (zD x.1)).bind fun x => .pure ()).bind fun d => (sub x.1 (Int.ofNat x.2.toNat) (zD x.1)).bind fun e => jn (fun (x : A3) => .pure (.done (Sum.inr x))) fun (j : List A2 → Comp (Comp.Step A29 (List A2 ⊕ List A2))) => (sub (List.take x.2.toNat x.1 ++ List.replicate (x.1.length.sub x.2.toNat) ((0, 0, 0, ()), 0, ())) 0 x.2).bind fun ys => j ys else .pure (.next (x.1, zI .i64 x.2 1)) else .pure (.done (Sum.inl x.1))) (xs, 1)).bind fun (x : List A2 ⊕ List A2) => match x with
    | .inl x => .pure x
    | .inr x => .pure x
def gJ : List A2 → Comp A11 := fun x0 => (jl x0).bind fun x => if ntB x.1 = true then .pure ([], ()) else (YT x0).bind fun y => (zZ x0).bind fun y_1 => (zy y_1.1 fun (z : A40) => jf z.1 y.1).bind fun ys => (zq ys fun (z : A2 × A2 × Unit) => j7 z.1 z.2.1).bind fun ys => (zt ys).bind fun ys => .pure (ys, ())
def KS : Int × Int × Int × Unit → Int × Int × Int × Unit → Comp A27 := fun x0 x1 => .pure ((gM .i64 x0.1 x1.1, gM .i64 x0.2.1 x1.2.1, gM .i64 x0.2.2.1 x1.2.2.1, ()), ())
def Z4 : A1 × Int × Unit → Comp A40 := fun x0 => (KS (0, 0, 0, ()) x0.1).bind fun x => .pure ((x.1, Ya .i64 x0.2.1, ()), ())
def jS : List A2 → List A2 → Comp (List A46) := fun x0 x1 => ((Zh (fun (x : A29) => if ltI x.2 (zD x1) = true then (idx x1 x.2).bind fun a => if geI (zD x.1) 48 = true then tell [(none, ())] (Comp.pure ([], .done (Sum.inr ()))) else (Z4 a).bind fun b => (zO [x.1, [b.1]]).bind fun y => (gJ y.1).bind fun y_1 => if gtI (zD y_1.1) 0 = true then tell [(some y_1.1, ())] ((zO [x.1, [a]]).bind fun y => (gJ y.1).bind fun y => .pure ([], .next (y.1, zI .i64 x.2 1))) else (zO [x.1, [a]]).bind fun y => (gJ y.1).bind fun y => .pure ([], .next (y.1, zI .i64 x.2 1)) else .pure ([], .done (Sum.inl ()))) (x0, 0)).bind fun (p : List A46 × (Unit ⊕ Unit)) => tell p.1 (match p.2 with
    | .inl x => .pure ([], ())
    | .inr x => .pure ([], ()))).bind fun (p : List A46 × Unit) => .pure p.1
def ZI : List A2 → List A2 → Comp (Comp (List A46) × Unit) := fun x0 x1 => .pure (jS x0 x1, ())
def j0 : List A3 → List A2 → Comp A18 := fun x0 x1 => (jl x1).bind fun x => if ntB x.1 = true then .pure (x0, 0, ()) else (gJ x1).bind fun y => (Comp.loop (fun (x : Int × List A3 × Int × List A3) => if ltI x.1 (zD x0) = true then jn (fun (a : List A3 × Int × List A3) => .pure (.next (zI .i64 x.1 1, a.1, a.2.1, a.2.2))) fun (j : List A3 × Int × List A3 → Comp (Comp.Step (Int × List A3 × Int × List A3) (List A3 × Int × List A3 ⊕ List A3 × Int))) => (idx x0 x.1).bind fun a => (kF a x1).bind fun b => if b.1 = true then (app x.2.2.2 [a]).bind fun zs => j (x.2.1, x.2.2.1, zs) else (ZI a y.1).bind fun (c : Comp (List A46) × Unit) => c.1.bind fun xs => (KM (fun (x : List A3 × Int × List A3) (d : A46) => match d.1 with
                | none => .pure (.done ([], Int.ofNat 9))
                | some xs => amb (K3 xs) (Comp.pure (.done ([], Int.ofNat 9))) ((app x.2.2 [xs]).bind fun zs => .pure (.next (x.1, x.2.1, zs)))) xs (x.2.1, x.2.2.1, x.2.2.2)).bind fun (r : Comp.Step (List A3 × Int × List A3) A17) => match r with
               | .next x => j (x.1, x.2.1, x.2.2)
               | .done e => .pure (.done (Sum.inr (e.1, e.2))) else .pure (.done (Sum.inl (x.2.1, x.2.2.1, x.2.2.2)))) (0, [], 0, [])).bind fun (a : List A3 × Int × List A3 ⊕ List A3 × Int) => match a with
      | .inl b => if gtI (zD b.2.2) 200 = true then .pure ([], 9, ()) else .pure (b.2.2, 0, ())
      | .inr x => .pure (x.1, x.2, ())
def YL : List A2 → List A3 → Comp A18 := fun x0 x1 => (vV x0).bind fun x => if neI x.1 0 = true then .pure ([], x.1, ()) else (YM x1).bind fun x => if neI x.1 0 = true then .pure ([], x.1, ()) else (jl x0).bind fun x => if ntB x.1 = true then .pure ([], 0, ()) else (gJ x0).bind fun y => (Comp.loop (fun (x : A17) => if ltI x.2 (zD x1) = true then (idx x1 x.2).bind fun a => (j0 x.1 a).bind fun b => if neI b.2.1 0 = true then .pure (.done (Sum.inr ([], b.2.1))) else .pure (.next (b.1, zI .i64 x.2 1)) else .pure (.done (Sum.inl x.1))) ([y.1], 0)).bind fun (x : A35) => match x with
          | .inl x => .pure (x, 0, ())
          | .inr x => .pure (x.1, x.2, ())
def je : List A3 → List A2 → Comp A38 := fun x0 x1 => (YL x1 x0).bind fun x => .pure (sel (eqI x.2.1 0) (eqI (zD x.1) 0) false, x.2.1, ())
def YK : yO × List A3 × List Int × Unit → List Bool × List Bool × List A3 × Unit → List A3 → List A3 → Comp A45 := fun x0 x1 x2 x3 => (kS x0 x1).bind fun x => if neI x.1 0 = true then .pure (([], [], [], ()), x.1, ()) else (zT [x2, x3]).bind fun y => (jD y.1).bind fun a => if neI a.1 0 = true then .pure (([], [], [], ()), a.1, ()) else if gtI (zI .i64 (zD x1.2.2.1) (zD x2)) 24 = true then .pure (([], [], [], ()), 2, ()) else (yf x1.1).bind fun y_1 => (yf x1.2.1).bind fun y_2 => (zT [x1.2.2.1, x2]).bind fun b => (Zj b.1).bind fun y_3 => (Comp.loop (fun (c : Int × A4 × List Bool × List Bool × List A3 × Unit) => if ltI c.1 (zD x0.2.1) = true then jn (fun (x : A4 × List Bool × List Bool × List A3 × Unit) => .pure (.next (zI .i64 c.1 1, x.1, x.2.1, x.2.2.1, x.2.2.2.1, ()))) fun (j : A4 × List Bool × List Bool × List A3 × Unit → Comp (Comp.Step (Int × A4 × List Bool × List Bool × List A3 × Unit) A43)) => (idx x0.2.1 c.1).bind fun d => (idx c.2.2.2.1 c.1).bind fun e => (Comp.gd (ntB e) (yD d x2) (false, ())).bind fun f => (Comp.gd (ntB (sel e true (ntB f.1))) (yD d x3) (false, ())).bind fun g => (inb c.2.2.2.1.length c.1).bind fun h => (idx c.2.2.1 c.1).bind fun i => if i = true then j (c.2.1, c.2.2.1, jv c.2.2.2.1 c.1 (sel (sel e true (ntB f.1)) true (ntB g.1)), c.2.2.2.2.1, ()) else (yW c.2.2.2.2.1 fun (z : Int × List A2 × Unit) => vH z.1 z.2.1 d).bind fun y => (je y.1 d).bind fun x => if neI x.2.1 0 = true then .pure (.done (Sum.inr (x.2.1, [], [], [], ()))) else (inb c.2.2.1.length c.1).bind fun k => j (c.2.1, jv c.2.2.1 c.1 x.1, jv c.2.2.2.1 c.1 (sel (sel e true (ntB f.1)) true (ntB g.1)), c.2.2.2.2.1, ()) else .pure (.done (Sum.inl (c.2.1, c.2.2.1, c.2.2.2.1, c.2.2.2.2.1, ())))) (0, ([], [], [], ()), y_1.1, y_2.1, y_3.1, ())).bind fun (x : A4 × List Bool × List Bool × List A3 × Unit ⊕ Int × List Bool × List Bool × List A3 × Unit) => match x with
             | .inl x => .pure ((x.2.1, x.2.2.1, x.2.2.2.1, ()), 0, ())
             | .inr x => .pure (x.2, x.1, ())
def yJ : A9 × A4 × Unit → Int → Comp A8 := fun x0 x1 => (idx x0.1.2.2.1 x1).bind fun x => (Comp.gd (eqI x 1) (idx x0.1.2.1 x1) []).bind fun a => (Comp.gd (eqI x 1) (yD a x0.2.1.2.2.1) (false, ())).bind fun b => .pure (sel (eqI x 1) (ntB b.1) false, ())
def yK : A9 × A4 × Unit → Int → Comp A8 := fun x0 x1 => (idx x0.1.2.2.1 x1).bind fun x => (Comp.gd (eqI x 1) (idx x0.2.1.2.1 x1) false).bind fun a => .pure (sel (eqI x 1) a false, ())
def yY : A9 × A4 × Unit → Int → Comp A8 := fun x0 x1 => (idx x0.1.2.2.1 x1).bind fun x => (Comp.gd (eqI x 2) (idx x0.2.1.1 x1) false).bind fun a => .pure (sel (eqI x 2) (ntB a) false, ())
def ZE : yO × List A3 × List Int × Unit → List Bool × List Bool × List A3 × Unit → Comp A10 := fun x0 x1 => (kS x0 x1).bind fun x => if neI x.1 0 = true then .pure (x.1, ()) else (Comp.loop (fun (a : Int) => if ltI a (zD [(fun (z : A10) => yJ (x0, x1, ()) z.1, 35, ()), (fun (z : A10) => yK (x0, x1, ()) z.1, 30, ()), (fun (z : A10) => yY (x0, x1, ()) z.1, 34, ())]) = true then (idx [(fun (z : A10) => yJ (x0, x1, ()) z.1, 35, ()), (fun (z : A10) => yK (x0, x1, ()) z.1, 30, ()), (fun (z : A10) => yY (x0, x1, ()) z.1, 34, ())] a).bind fun x => (Comp.loop (fun (b : Int) => if ltI b (zD x0.2.1) = true then (x.1 (b, ())).bind fun c => if c.1 = true then .pure (.done (Sum.inr x.2.1)) else .pure (.next (zI .i64 b 1)) else .pure (.done (Sum.inl ()))) 0).bind fun (x : A22) => match x with
         | .inl x => .pure (.next (zI .i64 a 1))
         | .inr x => .pure (.done (Sum.inr x)) else .pure (.done (Sum.inl ()))) 0).bind fun (x : A22) => match x with
     | .inl x => .pure (0, ())
     | .inr x => .pure (x, ())
def gD : List Int → Comp A25 := fun x0 => amb (K3 x0) (Comp.pure ([], ())) ((app [] x0).bind fun zs => .pure (zs, ()))
def Zl : yO × List A3 × List Int × Unit → List A3 × List A3 × Int × List Int × Unit → Comp A8 := fun x0 x1 => (Comp.loop (fun (x : Int) => if ltI x (zD x0.2.1) = true then (idx x0.2.1 x).bind fun a => (idx x0.2.2.1 x).bind fun b => (Comp.gd (eqI b 2) (yD a x1.1) (false, ())).bind fun c => if sel (eqI b 2) (ntB c.1) false = true then .pure (.done (Sum.inr false)) else .pure (.next (zI .i64 x 1)) else .pure (.done (Sum.inl ()))) 0).bind fun (x : A24) => match x with
   | .inl x => .pure (true, ())
   | .inr x => .pure (x, ())
def jg : Int → yO × List A3 × List Int × Unit → A9 × A4 × List A5 × Unit → Comp A8 := fun x0 x1 x2 => (idx x2.2.2.1 x0).bind fun x => (Zl x1 x).bind fun x => .pure (ntB x.1, ())
def vv : List Int → A34 → Comp A13 := fun xs x0 => (gL xs x0).bind fun x => if eqI x.1 (-1) = true then .pure xs else (Comp.loop (fun (x : List Int × Int × Int) => if ltI x.2.2 (zD x.1) = true then (idx x.1 x.2.2).bind fun a => (x0 (a, ())).bind fun b => jn (fun (c : A28) => .pure (.next (c.1, c.2, zI .i64 x.2.2 1))) fun (j : List Int × Int → Comp (Comp.Step (List Int × Int × Int) A28)) => if ntB b.1 = true then (inb x.1.length x.2.1).bind fun c => j (jv x.1 x.2.1 a, zI .i64 x.2.1 1) else j (x.1, x.2.1) else .pure (.done (x.1, x.2.1))) (xs, x.1, zI .i64 x.1 1)).bind fun x => ((sub x.1 x.2 (zD x.1)).bind fun x => .pure ()).bind fun a => (sub x.1 (Int.ofNat x.2.toNat) (zD x.1)).bind fun b => jn (fun (x : A13) => .pure x) fun (j : List Int → Comp A13) => (sub (List.take x.2.toNat x.1 ++ List.replicate (x.1.length.sub x.2.toNat) 0) 0 x.2).bind fun ys => j ys
def Z1 : A9 × A4 × List A5 × Unit → List Int → List Int → Comp A12 := fun x0 x1 x2 => (Comp.loop (fun (x : Int) => if ltI x (zD [fun (z : Unit) => kX x0, fun (z : Unit) => kW (x0.1.1, x0.1.2.1, x1, ()), fun (z : Unit) => kV x0 x2]) = true then (idx [fun (z : Unit) => kX x0, fun (z : Unit) => kW (x0.1.1, x0.1.2.1, x1, ()), fun (z : Unit) => kV x0 x2] x).bind fun a => (a ()).bind fun b => if neI b.1 0 = true then .pure (.done (Sum.inr ([], b.1))) else .pure (.next (zI .i64 x 1)) else .pure (.done (Sum.inl ()))) 0).bind fun (x : Unit ⊕ List Int × Int) => match x with
   | .inl x => (Comp.loop (fun (x : List A3 × List A3 × Int) => if ltI x.2.2 (zD x2) = true then (idx x2 x.2.2).bind fun a => (idx x0.2.2.1 a).bind fun b => (idx x0.2.2.1 a).bind fun c => (app x.1 b.1).bind fun zs => (app x.2.1 c.2.1).bind fun zs_1 => .pure (.next (zs, zs_1, zI .i64 x.2.2 1)) else .pure (.done (x.1, x.2.1))) ([], [], 0)).bind fun x => (YK (x0.1.1, x0.1.2.1, x1, ()) x0.2.1 x.1 x.2).bind fun x => if neI x.2.1 0 = true then .pure ([], x.2.1, ()) else (ZE (x0.1.1, x0.1.2.1, x1, ()) x.1).bind fun x => if eqI x.1 35 = true then (gD x2).bind fun y => .pure (y.1, 0, ()) else (gD x2).bind fun y => (vv y.1 fun (z : A10) => jg z.1 (x0.1.1, x0.1.2.1, x1, ()) x0).bind fun ys => .pure (ys, 0, ())
   | .inr x => .pure (x.1, x.2, ())
def vG : List Int → List Int → Comp A8 := fun x0 x1 => if neI (zD x0) (zD x1) = true then .pure (false, ()) else (Comp.loop (fun (x : Int) => if ltI x (zD x0) = true then (idx x0 x).bind fun a => (idx x1 x).bind fun b => if neI a b = true then .pure (.done (Sum.inr false)) else .pure (.next (zI .i64 x 1)) else .pure (.done (Sum.inl ()))) 0).bind fun (x : A24) => match x with
    | .inl x => .pure (true, ())
    | .inr x => .pure (x, ())
def vp : A9 × A4 × List A5 × Unit → List Int → List Int → List Int → Comp A8 := fun x0 x1 x2 x3 => (Z1 x0 x1 x2).bind fun y => (Comp.gd (eqI y.2.1 0) (vG y.1 x3) (false, ())).bind fun x => .pure (sel (eqI y.2.1 0) x.1 false, ())
def vN : A9 × A4 × List A5 × Unit → List Int → List Int → Int → Comp A8 := fun x0 x1 x2 x3 => (Z1 x0 x1 x2).bind fun y => .pure (sel (eqI y.2.1 x3) (eqI (zD y.1) 0) false, ())
def yr : Int → Comp A8 := fun x0 => .pure (sel (ltI x0 0) true (gtI x0 100000), ())
def gA : Int → List Int → Comp A8 := fun x0 x1 => .pure (sel (ltI x0 0) true (geI x0 (zD x1)), ())
def yX : List Int → Int → Comp A10 := fun x0 x1 => (Comp.loop (fun (x : Int) => if ltI x (zD x0) = true then (idx x0 x).bind fun a => if eqI x1 a = true then .pure (.done (Sum.inr x)) else .pure (.next (zI .i64 x 1)) else .pure (.done (Sum.inl ()))) 0).bind fun (x : A22) => match x with
   | .inl x => .pure (-1, ())
   | .inr x => .pure (x, ())
def jh : A9 × A4 × List A5 × Unit → List Int → List Int → List Int → List Int → List Int → Comp A30 := fun x0 x1 x2 x3 x4 x5 => (Z1 x0 x1 x2).bind fun y => if neI y.2.1 0 = true then .pure ([], y.2.1, ()) else if sel (neI (zD x3) (zD x2)) true (neI (zD x4) (zD x2)) = true then .pure ([], 4, ()) else if gtI (zD x5) 6 = true then .pure ([], 2, ()) else (zR x3 fun (z : A10) => gA z.1 x5).bind fun x => if x.1 = true then .pure ([], 55, ()) else (zR x4 fun (z : A10) => yr z.1).bind fun x => (Comp.gd (ntB x.1) (zR x5 fun (z : A10) => yr z.1) (false, ())).bind fun a => if sel x.1 true a.1 = true then .pure ([], 3, ()) else (Comp.loop (fun (x : List A1 × Int) => if ltI x.2 (zD y.1) = true then (idx y.1 x.2).bind fun b => (yX x2 b).bind fun c => (idx x3 c.1).bind fun d => (idx x4 c.1).bind fun e => (idx x5 d).bind fun f => jn (fun (g : Int) => (idx x0.2.2.1 b).bind fun h => (app x.1 [(b, g, h.2.2.1, ())]).bind fun zs => .pure (.next (zs, zI .i64 x.2 1))) fun (j : Int → Comp (Comp.Step (List A1 × Int) (List A1))) => if gtI e f = true then j d else j (-1) else .pure (.done x.1)) ([], 0)).bind fun x => .pure (x, 0, ())
def yy : List A1 → List A1 → Comp A8 := fun x0 x1 => if neI (zD x0) (zD x1) = true then .pure (false, ()) else (Comp.loop (fun (x : Int) => if ltI x (zD x0) = true then (idx x0 x).bind fun a => (idx x1 x).bind fun b => if ntB (adB (eqI a.1 b.1) (adB (eqI a.2.1 b.2.1) (eqI a.2.2.1 b.2.2.1))) = true then .pure (.done (Sum.inr false)) else .pure (.next (zI .i64 x 1)) else .pure (.done (Sum.inl ()))) 0).bind fun (x : A24) => match x with
    | .inl x => .pure (true, ())
    | .inr x => .pure (x, ())
def ZY : List A1 → Int → Comp A10 := fun x0 x1 => (Comp.loop (fun (x : List A23 × Int) => if ltI x.2 (zD x0) = true then (idx x0 x.2).bind fun a => .pure (.next (mpB (fun (x b : Int) => eqI x b) x.1 a.2.1 (zI .i64 (match mgB (fun (x b : Int) => eqI x b) x.1 a.2.1 with
          | some x => x
          | none => 0) a.2.2.1), zI .i64 x.2 1)) else .pure (.done x.1)) ([], 0)).bind fun x => .pure (match mgB (fun (x a : Int) => eqI x a) x x1 with
     | some x => x
     | none => 0, ())
def gv : Comp A8 := gQ.bind fun x => jn (fun (a : Bool) => jn (fun (b : Bool) => (jh x.1 [1, 3, 2] [0, 1] [1, 0] [5, 6] [9, 4]).bind fun y => (jh x.1 [1, 3, 2] [0, 1] [1, 0] [4, 6] [9, 4]).bind fun y_1 => jn (fun (x : Bool) => .pure (x, ())) fun (j : Bool → Comp A8) => if a = true then if b = true then if eqI y.2.1 0 = true then if eqI y_1.2.1 0 = true then (yy y.1 [(0, 1, 3, ())]).bind fun x => if x.1 = true then (yy y_1.1 [(0, -1, 3, ())]).bind fun x => if x.1 = true then (ZY y.1 (Int.ofNat 1)).bind fun x => if eqI x.1 3 = true then (ZY y.1 (Int.negSucc 0)).bind fun x => j (eqI x.1 0) else j false else j false else j false else j false else j false else j false else j false) fun (j : Bool → Comp A8) => (vN x.1 [1, 2, 3] [0, 3] (Int.ofNat 5)).bind fun b => if b.1 = true then (vN x.1 [1, 2, 3] [0, 0] (Int.ofNat 6)).bind fun c => if c.1 = true then (vN x.1 [1, 2] [0, 1] (Int.ofNat 1)).bind fun x => j x.1 else j false else j false) fun (j : Bool → Comp A8) => (vp x.1 [1, 2, 3] [0, 1] [1]).bind fun a => if a.1 = true then (vp x.1 [1, 3, 2] [0, 1] [0]).bind fun b => if b.1 = true then (vp x.1 [3, 3, 3] [0, 1] [0, 1]).bind fun c => if c.1 = true then (vp x.1 [1, 2, 1] [0, 1] [0, 1]).bind fun x => j x.1 else j false else j false else j false
def yR : Int → Int → Comp A10 := fun x0 x1 => if ltI x1 1 = true then .pure (0, ()) else (rem x0 x1).bind fun x => (rem (zI .i64 x x1) x1).bind fun x => .pure (x, ())
def zJ : List Int × Int × Unit → Int → Comp A20 := fun x0 x1 => if geI x0.2.1 (zD x0.1) = true then .pure ((x0, ()), 0, ()) else (idx x0.1 (gM .i64 (zI .i64 x0.2.1 1) 1)).bind fun x => (yR x x1).bind fun x => .pure (((x0.1, zI .i64 x0.2.1 1, ()), ()), x.1, ())
def Ze : Int × Int × Int × Unit → Int × Int × Int × Unit → Comp A27 := fun x0 x1 => .pure ((gM .i64 x0.1 x1.1, gM .i64 x0.2.1 x1.2.1, gM .i64 x0.2.2.1 x1.2.2.1, ()), ())
def y6 : A1 × Int × Unit → Comp A40 := fun x0 => (Ze (0, 0, 0, ()) x0.1).bind fun x => .pure ((x.1, Ya .i64 x0.2.1, ()), ())
def zu : Int × Int × Int × Unit → Comp A25 := fun x0 => .pure ([x0.1, x0.2.1, x0.2.2.1], ())
def vF : Int → Comp A10 := fun x0 => if ltI x0 0 = true then .pure (Ya .i64 x0, ()) else .pure (x0, ())
def gX : Int × Int × Int × Unit → Comp A2 := fun x0 => (zu x0).bind fun x => (Comp.loop (fun (a : Int × Int × Int × Int × Int × Unit) => if ltI a.2.1 3 = true then (idx x.1 a.2.1).bind fun b => if eqI b (-9223372036854775808) = true then .pure (.done (Sum.inr (0, 0, 0, 0, ()))) else (idx x.1 a.2.1).bind fun x => (vF x).bind fun x => (Comp.loop (fun (x : A23) => if gtI x.2 0 = true then (rem x.1 x.2).bind fun c => .pure (.next (x.2, c)) else .pure (.done x.1)) (a.1, x.1)).bind fun x => .pure (.next (x, zI .i64 a.2.1 1, a.2.2)) else .pure (.done (Sum.inl (a.1, a.2.2)))) (0, 0, 0, 0, 0, ())).bind fun (x : Int × Int × Int × Int × Unit ⊕ Int × Int × Int × Int × Unit) => match x with
    | .inl x => if eqI x.1 0 = true then .pure ((0, 0, 0, ()), 0, ()) else (quo .i64 x0.1 x.1).bind fun a => (quo .i64 x0.2.1 x.1).bind fun b => (quo .i64 x0.2.2.1 x.1).bind fun c => .pure ((a, b, c, ()), x.1, ())
    | .inr x => .pure (x.2, x.1, ())
def gH : A1 × Int × Unit → Comp A8 := fun x0 => (zu x0.1).bind fun x => (Comp.loop (fun (a : Int) => if ltI a 3 = true then (idx x.1 a).bind fun b => (Comp.gd (ntB (ltI b (-4608))) (idx x.1 a) (Int.ofNat 0)).bind fun c => if sel (ltI b (-4608)) true (gtI c 4608) = true then .pure (.done (Sum.inr false)) else .pure (.next (zI .i64 a 1)) else .pure (.done (Sum.inl ()))) 0).bind fun (x : A24) => match x with
    | .inl x => (gX x0.1).bind fun x => .pure (sel (sel (eqI x.2.1 1) (geI x0.2.1 (-2097152)) false) (leI x0.2.1 2097152) false, ())
    | .inr x => .pure (x, ())
def za : List A2 → Comp A10 := fun x0 => if gtI (zD x0) 48 = true then .pure (2, ()) else (Comp.loop (fun (x : Int) => if ltI x (zD x0) = true then (idx x0 x).bind fun a => (gH a).bind fun b => if ntB b.1 = true then .pure (.done (Sum.inr 12)) else .pure (.next (zI .i64 x 1)) else .pure (.done (Sum.inl ()))) 0).bind fun (x : A22) => match x with
    | .inl x => .pure (0, ())
    | .inr x => .pure (x, ())
def vz : List A2 → Comp A11 := fun x0 => (app [] x0).bind fun zs => (z7 (-24, -24, -24, ()) (24, 24, 24, ())).bind fun x => (app zs x.1).bind fun zs => .pure (zs, ())
def vM : Int × Int × Int × Unit → Int × Int × Int × Unit → Comp A27 := fun x0 x1 => .pure ((gM .i64 (jw .i64 x0.2.1 x1.2.2.1) (jw .i64 x0.2.2.1 x1.2.1), gM .i64 (jw .i64 x0.2.2.1 x1.1) (jw .i64 x0.1 x1.2.2.1), gM .i64 (jw .i64 x0.1 x1.2.1) (jw .i64 x0.2.1 x1.1), ()), ())
def Zf : Int × Int × Int × Unit → Int × Int × Int × Unit → Comp A10 := fun x0 x1 => .pure (zI .i64 (zI .i64 (jw .i64 x0.1 x1.1) (jw .i64 x0.2.1 x1.2.1)) (jw .i64 x0.2.2.1 x1.2.2.1), ())
def yU : Int × Int × Int × Unit → Int → Comp A27 := fun x0 x1 => .pure ((jw .i64 x0.1 x1, jw .i64 x0.2.1 x1, jw .i64 x0.2.2.1 x1, ()), ())
def kB : Int × Int × Int × Unit → Int × Int × Int × Unit → Comp A27 := fun x0 x1 => .pure ((zI .i64 x0.1 x1.1, zI .i64 x0.2.1 x1.2.1, zI .i64 x0.2.2.1 x1.2.2.1, ()), ())
def zm : Int → Int → Comp A10 := fun x0 x1 => (Comp.loop (fun (x : A23) => if neI x.2 0 = true then (rem x.1 x.2).bind fun a => .pure (.next (x.2, a)) else .pure (.done x.1)) (x0, x1)).bind fun x => .pure (x, ())
def y5 : A1 × Int × Unit → A1 × Int × Unit → A1 × Int × Unit → Comp (A7 × Bool × Unit) := fun x0 x1 x2 => (vM x1.1 x2.1).bind fun x => (Zf x0.1 x.1).bind fun x => if eqI x.1 0 = true then .pure ((0, 0, 0, 0, ()), false, ()) else (vM x1.1 x2.1).bind fun a => (yU a.1 x0.2.1).bind fun b => (vM x2.1 x0.1).bind fun c => (yU c.1 x1.2.1).bind fun d => (kB b.1 d.1).bind fun e => (vM x0.1 x1.1).bind fun f => (yU f.1 x2.2.1).bind fun g => (kB e.1 g.1).bind fun h => jn (fun (x : A7) => (zm (qF x.2.1 (Ya .i64 x.2.1)) (qF x.2.2.1 (Ya .i64 x.2.2.1))).bind fun i => (zm (qF x.2.2.2.1 (Ya .i64 x.2.2.2.1)) x.1).bind fun k => (zm i.1 k.1).bind fun l => (quo .i64 x.2.1 l.1).bind fun m => (quo .i64 x.2.2.1 l.1).bind fun n => (quo .i64 x.2.2.2.1 l.1).bind fun o => (quo .i64 x.1 l.1).bind fun x => .pure ((m, n, o, x, ()), true, ())) fun (j : Int × Int × Int × Int × Unit → Comp (A7 × Bool × Unit)) => if ltI x.1 0 = true then (yU h.1 (Int.negSucc 0)).bind fun i => j (Ya .i64 x.1, i.1) else j (x.1, h.1)
def zf : A1 × Int × Unit → Int × Int × Int × Int × Unit → Comp A10 := fun x0 x1 => .pure (gM .i64 (gM .i64 (gM .i64 (jw .i64 x0.2.1 x1.2.2.2.1) (jw .i64 x0.1.1 x1.1)) (jw .i64 x0.1.2.1 x1.2.1)) (jw .i64 x0.1.2.2.1 x1.2.2.1), ())
def vo : List A2 → Int × Int × Int × Int × Unit → Comp A8 := fun x0 x1 => (Comp.loop (fun (x : Int) => if ltI x (zD x0) = true then (idx x0 x).bind fun a => (zf a x1).bind fun b => if ltI b.1 0 = true then .pure (.done (Sum.inr false)) else .pure (.next (zI .i64 x 1)) else .pure (.done (Sum.inl ()))) 0).bind fun (x : A24) => match x with
   | .inl x => .pure (true, ())
   | .inr x => .pure (x, ())
def yh : List A7 → Int × Int × Int × Int × Unit → Comp A8 := fun x0 x1 => (Comp.loop (fun (x : Int) => if ltI x (zD x0) = true then (idx x0 x).bind fun a => if adB (eqI a.1 x1.1) (adB (eqI a.2.1 x1.2.1) (adB (eqI a.2.2.1 x1.2.2.1) (eqI a.2.2.2.1 x1.2.2.2.1))) = true then .pure (.done (Sum.inr true)) else .pure (.next (zI .i64 x 1)) else .pure (.done (Sum.inl ()))) 0).bind fun (x : A24) => match x with
   | .inl x => .pure (false, ())
   | .inr x => .pure (x, ())
def vR : List A2 → Comp A37 := fun x0 => (Comp.loop (fun (x : List A7 × Int) => if ltI x.2 (zD x0) = true then (Comp.loop (fun (a : List A7 × Int) => if ltI a.2 (zD x0) = true then (Comp.loop (fun (b : List A7 × Int) => if ltI b.2 (zD x0) = true then (idx x0 x.2).bind fun x => (idx x0 a.2).bind fun c => (idx x0 b.2).bind fun d => (y5 x c d).bind fun x => (Comp.gd x.2.1 (vo x0 x.1) (false, ())).bind fun e => (Comp.gd (sel x.2.1 e.1 false) (yh b.1 x.1) (false, ())).bind fun f => jn (fun (x : List A7) => .pure (.next (x, zI .i64 b.2 1))) fun (j : List A7 → Comp (Comp.Step (List A7 × Int) (List A7))) => if sel (sel x.2.1 e.1 false) (ntB f.1) false = true then (app b.1 [x.1]).bind fun zs => j zs else j b.1 else .pure (.done b.1)) (a.1, zI .i64 a.2 1)).bind fun x => .pure (.next (x, zI .i64 a.2 1)) else .pure (.done a.1)) (x.1, zI .i64 x.2 1)).bind fun a => .pure (.next (a, zI .i64 x.2 1)) else .pure (.done x.1)) ([], 0)).bind fun x => .pure (x, ())
def gW : List A2 → Comp A8 := fun x0 => (vR x0).bind fun y => (Comp.loop (fun (x : Int) => if ltI x (zD x0) = true then (Comp.loop (fun (a : Bool × Int) => if ltI a.2 (zD y.1) = true then (Comp.gd (ntB a.1) (idx x0 x) ((0, 0, 0, ()), 0, ())).bind fun x => (Comp.gd (ntB a.1) (idx y.1 a.2) (0, 0, 0, 0, ())).bind fun b => (Comp.gd (ntB a.1) (zf x b) (0, ())).bind fun x => .pure (.next (sel a.1 true (gtI x.1 0), zI .i64 a.2 1)) else .pure (.done a.1)) (false, 0)).bind fun a => if ntB a = true then .pure (.done (Sum.inr false)) else .pure (.next (zI .i64 x 1)) else .pure (.done (Sum.inl ()))) 0).bind fun (x : A24) => match x with
    | .inl x => .pure (true, ())
    | .inr x => .pure (x, ())
def zp : List A2 → Comp A8 := fun x0 => jn (fun (x : Bool) => .pure (x, ())) fun (j : Bool → Comp A8) => (za x0).bind fun x => if eqI x.1 0 = true then (vz x0).bind fun y => (gW y.1).bind fun x => j x.1 else j false
def jc : List A13 → Comp (A9 × Unit) := fun x0 => (Comp.loop (fun (x : Int × List A13) => if sel (ltI x.1 (zD x0)) (ltI x.1 2) false = true then (idx x0 x.1).bind fun a => (inb 2 x.1).bind fun b => .pure (.next (zI .i64 x.1 1, jv x.2 x.1 a)) else .pure (.done x.2)) (0, [[], []])).bind fun x => (idx x 0).bind fun a => (zJ (a, 0, ()) (Int.ofNat 3)).bind fun y => jn (fun (b : A36) => (zJ b.2 (Int.ofNat 3)).bind fun y_1 => (zJ y_1.1.1 (Int.ofNat 3)).bind fun y_2 => (Comp.loop (fun (x : Int × Int × A6 × List Int × Int × Unit) => if ltI x.2.1 (zI .i64 2 y.2.1) = true then (zJ x.2.2.2 (Int.ofNat 4)).bind fun y => (z7 (x.1, 0, 0, ()) (zI .i64 x.1 (zI .i64 1 y.2.1), 3, zI .i64 2 y_2.2.1, ())).bind fun c => (app x.2.2.1.2.1 [c.1]).bind fun zs => jn (fun (d : A6) => .pure (.next (zI .i64 x.1 (zI .i64 1 y.2.1), zI .i64 x.2.1 1, (d.1, d.2.1, d.2.2.1, ()), y.1.1))) fun (j : List UInt8 × List A3 × List Int × Unit → Comp (Comp.Step (Int × Int × A6 × List Int × Int × Unit) (A6 × List Int × Int × Unit))) => if b.1 = true then (z7 (x.1, 3, 0, ()) (zI .i64 x.1 (zI .i64 1 y.2.1), 6, zI .i64 2 y_2.2.1, ())).bind fun d => (app zs [d.1]).bind fun zs => j (x.2.2.1.1, zs, x.2.2.1.2.2.1, ()) else j (x.2.2.1.1, zs, x.2.2.1.2.2.1, ()) else .pure (.done ((x.2.2.1.1, x.2.2.1.2.1, x.2.2.1.2.2.1, ()), x.2.2.2))) (zI .i64 (-6) y_1.2.1, 0, ([112], [], [], ()), y_2.1.1)).bind fun c => jn (fun (d : A36) => jn (fun (e : A6) => (idx x 1).bind fun f => (Comp.loop (fun (g : Int × A6 × List Int × Int × Unit) => if ltI g.1 (zD g.2.1.2.1) = true then (zJ g.2.2 (Int.ofNat 4)).bind fun y => (idx [2, 1, 3, 2] y.2.1).bind fun x => (app g.2.1.2.2.1 [x]).bind fun zs => .pure (.next (zI .i64 g.1 1, (g.2.1.1, g.2.1.2.1, zs, ()), y.1.1)) else .pure (.done (g.2.1.1, g.2.1.2.1, g.2.1.2.2.1, ()))) (0, (e.1, e.2.1, e.2.2.1, ()), f, 0, ())).bind fun x => .pure ((x.1, x.2.1, x.2.2.1, ()), ())) fun (j : List UInt8 × List A3 × List Int × Unit → Comp (A6 × Unit)) => if d.1 = true then (zJ d.2 (zD c.1.2.1)).bind fun y => (zJ y.1.1 (Int.ofNat 4)).bind fun y_3 => (idx c.1.2.1 y.2.1).bind fun x => (app [] x).bind fun zs => (app zs [((0, 1, 1, ()), zI .i64 2 y_3.2.1, ())]).bind fun zs => (idx c.1.2.1 y.2.1).bind fun x => (app [] x).bind fun zs_1 => (y6 ((0, 1, 1, ()), zI .i64 2 y_3.2.1, ())).bind fun x => (app zs_1 [x.1]).bind fun zs_2 => (zp zs).bind fun x => (Comp.gd x.1 (zp zs_2) (false, ())).bind fun e => jn (fun (x : A9) => j (x.1, x.2.1, x.2.2.1, ())) fun (j : List UInt8 × List A3 × List Int × Unit → Comp (A6 × Unit)) => if sel x.1 e.1 false = true then (inb c.1.2.1.length y.2.1).bind fun x => (app (jv c.1.2.1 y.2.1 zs) [zs_2]).bind fun zs => j (c.1.1, zs, c.1.2.2.1, ()) else j (c.1.1, c.1.2.1, c.1.2.2.1, ()) else j (c.1.1, c.1.2.1, c.1.2.2.1, ())) fun (j : Bool × List Int × Int × Unit → Comp (A6 × Unit)) => (zJ c.2 (Int.ofNat 4)).bind fun y => if eqI y.2.1 3 = true then j (ltI (zD c.1.2.1) 6, y.1.1) else j (false, y.1.1)) fun (j : Bool × List Int × Int × Unit → Comp (A6 × Unit)) => (zJ y.1.1 (Int.ofNat 3)).bind fun y_1 => if eqI y_1.2.1 2 = true then j (ltI (zI .i64 2 y.2.1) 4, y_1.1.1) else j (false, y_1.1.1)
def j9 : yO × List A3 × List Int × Unit → Comp (A4 × Unit) := fun x0 => (mk (zD x0.2.1) false).bind fun x => (mk (zD x0.2.1) false).bind fun ys => .pure ((ys, x, [], ()), ())
def y4 : List A13 → yO × List A3 × List Int × Unit → Comp A16 := fun x0 x1 => (Comp.loop (fun (x : A17) => if sel (ltI x.2 (zD x0)) (ltI x.2 4) false = true then (idx x0 x.2).bind fun a => (zJ (a, 0, ()) (Int.ofNat 4)).bind fun y => (zJ y.1.1 (zD x1.2.1)).bind fun y_1 => (idx x1.2.1 y_1.2.1).bind fun b => (SI b).bind fun zs => jn (fun (c : List A2 × List Int × Int × Unit) => jn (fun (d : A3) => (app x.1 [d]).bind fun zs => .pure (.next (zs, zI .i64 x.2 1))) fun (j : List A2 → Comp (Comp.Step A17 A14)) => if eqI y.2.1 2 = true then (zJ c.2 (Int.ofNat 14)).bind fun y => (zJ y.1.1 (Int.ofNat 3)).bind fun y_2 => (zJ y_2.1.1 (Int.ofNat 2)).bind fun y_3 => (zJ y_3.1.1 (Int.ofNat 6)).bind fun y_4 => (zJ y_4.1.1 (Int.ofNat 6)).bind fun y_5 => (zJ y_5.1.1 (Int.ofNat 6)).bind fun y_6 => (z7 (gM .i64 y.2.1 7, gM .i64 y_2.2.1 1, gM .i64 y_3.2.1 1, ()) (zI .i64 (zI .i64 (gM .i64 y.2.1 7) 1) y_4.2.1, zI .i64 (zI .i64 (gM .i64 y_2.2.1 1) 2) y_5.2.1, zI .i64 (zI .i64 (gM .i64 y_3.2.1 1) 2) y_6.2.1, ())).bind fun y => j y.1 else j c.1) fun (j : List A2 × List Int × Int × Unit → Comp (Comp.Step A17 A14)) => if eqI y.2.1 1 = true then (zJ y_1.1.1 (Int.ofNat 2)).bind fun y => (zJ y.1.1 (Int.ofNat 2)).bind fun y_2 => (app zs [((0, 0, gM .i64 1 (jw .i64 2 y.2.1), ()), jw .i64 (gM .i64 1 (jw .i64 2 y.2.1)) (zI .i64 1 y_2.2.1), ())]).bind fun zs => j (zs, y_2.1.1) else j (zs, y_1.1.1) else .pure (.done x.1)) ([], 0)).bind fun x => .pure (x, ())
def ze : List A2 → List A2 → Comp A8 := fun x0 x1 => (za x0).bind fun x => (Comp.gd (ntB (neI x.1 0)) (za x1) (0, ())).bind fun a => if sel (neI x.1 0) true (neI a.1 0) = true then .pure (true, ()) else (app [] x0).bind fun zs => (app zs x1).bind fun zs => (vz zs).bind fun y => (gW y.1).bind fun x => .pure (ntB x.1, ())
def yg : yO × List A3 × List Int × Unit → Comp A10 := fun x0 => if sel (ltI (zD x0.2.1) 1) true (gtI (zD x0.2.1) 16) = true then .pure (2, ()) else if neI (zD x0.2.2.1) (zD x0.2.1) = true then .pure (1, ()) else (Comp.loop (fun (x : Int) => if ltI x (zD x0.2.2.1) = true then (idx x0.2.2.1 x).bind fun a => (Comp.gd (ntB (ltI a 1)) (idx x0.2.2.1 x) (Int.ofNat 0)).bind fun b => if sel (ltI a 1) true (gtI b 3) = true then .pure (.done (Sum.inr 1)) else .pure (.next (zI .i64 x 1)) else .pure (.done (Sum.inl ()))) 0).bind fun (x : A22) => match x with
     | .inl x => (Comp.loop (fun (x : Int) => if ltI x (zD x0.2.1) = true then (idx x0.2.1 x).bind fun a => (zp a).bind fun b => if ntB b.1 = true then .pure (.done (Sum.inr 13)) else (Comp.loop (fun (c : Int) => if ltI c x = true then (idx x0.2.1 c).bind fun d => (idx x0.2.1 x).bind fun x => (ze d x).bind fun x => if ntB x.1 = true then .pure (.done (Sum.inr 13)) else .pure (.next (zI .i64 c 1)) else .pure (.done (Sum.inl ()))) 0).bind fun (c : A22) => match c with
             | .inl d => .pure (.next (zI .i64 x 1))
             | .inr x => .pure (.done (Sum.inr x)) else .pure (.done (Sum.inl ()))) 0).bind fun (x : A22) => match x with
       | .inl x => .pure (0, ())
       | .inr x => .pure (x, ())
     | .inr x => .pure (x, ())
def yP : List A3 → Comp A10 := fun x0 => (Comp.loop (fun (x : Int) => if ltI x (zD x0) = true then (idx x0 x).bind fun a => (za a).bind fun b => if neI b.1 0 = true then .pure (.done (Sum.inr b.1)) else .pure (.next (zI .i64 x 1)) else .pure (.done (Sum.inl ()))) 0).bind fun (x : A22) => match x with
   | .inl x => .pure (0, ())
   | .inr x => .pure (x, ())
def vi : yO × List A3 × List Int × Unit → List Bool × List Bool × List A3 × Unit → Comp A8 := fun x0 x1 => (Comp.gd (sel (sel (eqI (zD x1.1) (zD x0.2.1)) (eqI (zD x1.2.1) (zD x0.2.1)) false) (leI (zD x1.2.2.1) 24) false) (yP x1.2.2.1) (0, ())).bind fun x => .pure (sel (sel (sel (eqI (zD x1.1) (zD x0.2.1)) (eqI (zD x1.2.1) (zD x0.2.1)) false) (leI (zD x1.2.2.1) 24) false) (eqI x.1 0) false, ())
def gV : List A3 → Comp A16 := fun x0 => (Comp.loop (fun (x : A17) => if ltI x.2 (zD x0) = true then (idx x0 x.2).bind fun a => (app [] a).bind fun zs => (app x.1 [zs]).bind fun zs => .pure (.next (zs, zI .i64 x.2 1)) else .pure (.done x.1)) ([], 0)).bind fun x => .pure (x, ())
def zd : List A2 → List A3 → Comp A8 := fun x0 x1 => (Comp.loop (fun (x : Int) => if ltI x (zD x1) = true then (idx x1 x).bind fun a => (ze x0 a).bind fun b => if ntB b.1 = true then .pure (.done (Sum.inr false)) else .pure (.next (zI .i64 x 1)) else .pure (.done (Sum.inl ()))) 0).bind fun (x : A24) => match x with
   | .inl x => .pure (true, ())
   | .inr x => .pure (x, ())
def vK : List A3 → List A2 → Comp A16 := fun x0 x1 => (Comp.loop (fun (x : A17) => if ltI x.2 (zD x0) = true then (idx x0 x.2).bind fun a => (ze a x1).bind fun b => jn (fun (c : A14) => .pure (.next (c, zI .i64 x.2 1))) fun (j : List A3 → Comp (Comp.Step A17 A14)) => if ntB b.1 = true then (idx x0 x.2).bind fun c => (app x.1 [c]).bind fun zs => j zs else j x.1 else .pure (.done x.1)) ([], 0)).bind fun x => .pure (x, ())
def jM : List A3 → Comp A10 := fun x0 => if gtI (zD x0) 16 = true then .pure (2, ()) else (Comp.loop (fun (x : Int) => if ltI x (zD x0) = true then (idx x0 x).bind fun a => (za a).bind fun b => if neI b.1 0 = true then .pure (.done (Sum.inr b.1)) else .pure (.next (zI .i64 x 1)) else .pure (.done (Sum.inl ()))) 0).bind fun (x : A22) => match x with
    | .inl x => .pure (0, ())
    | .inr x => .pure (x, ())
def gq : List A2 → Comp A37 := fun x0 => (za x0).bind fun x => if neI x.1 0 = true then .pure ([], ()) else (vz x0).bind fun y => (vR y.1).bind fun y => .pure (y.1, ())
def yj : A1 × Int × Unit → A1 × Int × Unit → Comp A10 := fun x0 x1 => (Comp.loop (fun (x : Int) => if ltI x 4 = true then (idx [x0.1.1, x0.1.2.1, x0.1.2.2.1, x0.2.1] x).bind fun a => (idx [x1.1.1, x1.1.2.1, x1.1.2.2.1, x1.2.1] x).bind fun b => if ltI a b = true then .pure (.done (Sum.inr (-1))) else (idx [x0.1.1, x0.1.2.1, x0.1.2.2.1, x0.2.1] x).bind fun c => (idx [x1.1.1, x1.1.2.1, x1.1.2.2.1, x1.2.1] x).bind fun d => if gtI c d = true then .pure (.done (Sum.inr 1)) else .pure (.next (zI .i64 x 1)) else .pure (.done (Sum.inl ()))) 0).bind fun (x : A22) => match x with
   | .inl x => .pure (0, ())
   | .inr x => .pure (x, ())
def jB : List A2 → A1 × Int × Unit → Comp A11 := fun x0 x1 => (Comp.loop (fun (x : Int) => (Comp.gd (ltI x (zD x0)) (idx x0 x) ((0, 0, 0, ()), 0, ())).bind fun a => (Comp.gd (ltI x (zD x0)) (yj a x1) (0, ())).bind fun b => if sel (ltI x (zD x0)) (ltI b.1 0) false = true then .pure (.next (zI .i64 x 1)) else .pure (.done x)) 0).bind fun x => (Comp.gd (ltI x (zD x0)) (idx x0 x) ((0, 0, 0, ()), 0, ())).bind fun a => if sel (ltI x (zD x0)) (adB (adB (eqI a.1.1 x1.1.1) (adB (eqI a.1.2.1 x1.1.2.1) (eqI a.1.2.2.1 x1.1.2.2.1))) (eqI a.2.1 x1.2.1)) false = true then .pure (x0, ()) else (sub x0 0 x).bind fun b => (app [] b).bind fun zs => (app zs [x1]).bind fun zs => (sub x0 x (zD x0)).bind fun x => (app zs x).bind fun zs => .pure (zs, ())
def zh : List A2 → Comp A11 := fun x0 => (zp x0).bind fun x => if ntB x.1 = true then .pure ([], ()) else (gq x0).bind fun y => (Comp.loop (fun (a : A29) => if ltI a.2 (zD x0) = true then (Comp.loop (fun (b : A23) => if ltI b.2 (zD y.1) = true then (idx x0 a.2).bind fun x => (idx y.1 b.2).bind fun c => (zf x c).bind fun x => jn (fun (x : Int) => .pure (.next (x, zI .i64 b.2 1))) fun (j : Int → Comp (Comp.Step A23 Int)) => if eqI x.1 0 = true then j (zI .i64 b.1 1) else j b.1 else .pure (.done b.1)) (0, 0)).bind fun x => jn (fun (x : A3) => .pure (.next (x, zI .i64 a.2 1))) fun (j : List A2 → Comp (Comp.Step A29 A3)) => if geI x 3 = true then (idx x0 a.2).bind fun x => (jB a.1 x).bind fun x => j x.1 else j a.1 else .pure (.done a.1)) ([], 0)).bind fun x => .pure (x, ())
def yB : List A2 → A1 × Int × Unit → Comp A11 := fun x0 x1 => (app [] x0).bind fun zs => (app zs [x1]).bind fun zs => .pure (zs, ())
def gG : List A2 → List A2 → Comp A18 := fun x0 x1 => (Comp.loop (fun (x : List A3 × List A2 × Int) => if ltI x.2.2 (zD x1) = true then if geI (zD x.2.1) 48 = true then .pure (.done (Sum.inr ([], 9))) else (idx x1 x.2.2).bind fun a => (y6 a).bind fun b => (yB x.2.1 b.1).bind fun y => (zh y.1).bind fun c => jn (fun (d : A14) => (idx x1 x.2.2).bind fun e => (yB x.2.1 e).bind fun y => (zh y.1).bind fun f => .pure (.next (d, f.1, zI .i64 x.2.2 1))) fun (j : List A3 → Comp (Comp.Step (List A3 × List A2 × Int) A35)) => if gtI (zD c.1) 0 = true then (app x.1 [c.1]).bind fun zs => j zs else j x.1 else .pure (.done (Sum.inl x.1))) ([], x0, 0)).bind fun (x : A35) => match x with
   | .inl x => .pure (x, 0, ())
   | .inr x => .pure (x.1, x.2, ())
def yi : List A3 → List A2 → Comp A18 := fun x0 x1 => (zp x1).bind fun x => if ntB x.1 = true then .pure (x0, 0, ()) else (Comp.loop (fun (x : A17) => if ltI x.2 (zD x0) = true then jn (fun (a : A14) => .pure (.next (a, zI .i64 x.2 1))) fun (j : List A3 → Comp (Comp.Step A17 A35)) => (idx x0 x.2).bind fun a => (ze a x1).bind fun b => if b.1 = true then (idx x0 x.2).bind fun c => (app x.1 [c]).bind fun zs => j zs else (idx x0 x.2).bind fun c => (zh x1).bind fun d => (gG c d.1).bind fun e => if neI e.2.1 0 = true then .pure (.done (Sum.inr ([], e.2.1))) else (app x.1 e.1).bind fun zs => j zs else .pure (.done (Sum.inl x.1))) ([], 0)).bind fun (a : A35) => match a with
     | .inl b => if gtI (zD b) 200 = true then .pure ([], 9, ()) else .pure (b, 0, ())
     | .inr x => .pure (x.1, x.2, ())
def jL : List A2 → List A3 → Comp A18 := fun x0 x1 => (za x0).bind fun x => jn (fun (x : Int) => if neI x 0 = true then .pure ([], x, ()) else (zp x0).bind fun x => jn (fun (x : A14) => (Comp.loop (fun (x : A17) => if ltI x.2 (zD x1) = true then (idx x1 x.2).bind fun a => (yi x.1 a).bind fun b => if neI b.2.1 0 = true then .pure (.done (Sum.inr ([], b.2.1))) else .pure (.next (b.1, zI .i64 x.2 1)) else .pure (.done (Sum.inl x.1))) (x, 0)).bind fun (x : A35) => match x with
          | .inl x => .pure (x, 0, ())
          | .inr x => .pure (x.1, x.2, ())) fun (j : List A3 → Comp A18) => if x.1 = true then (zh x0).bind fun x => (app [] [x.1]).bind fun zs => j zs else j []) fun (j : Int → Comp A18) => if eqI x.1 0 = true then (jM x1).bind fun x => j x.1 else j x.1
def yx : List A3 → List A2 → Comp A38 := fun x0 x1 => (jL x1 x0).bind fun x => .pure (sel (eqI x.2.1 0) (eqI (zD x.1) 0) false, x.2.1, ())
def gE : yO × List A3 × List Int × Unit → List Bool × List Bool × List A3 × Unit → List A3 → List A3 → Comp A45 := fun x0 x1 x2 x3 => (yg x0).bind fun x => if neI x.1 0 = true then .pure (([], [], [], ()), x.1, ()) else (vi x0 x1).bind fun x => if ntB x.1 = true then .pure (([], [], [], ()), 4, ()) else (yP x2).bind fun x => jn (fun (x : Int) => if neI x 0 = true then .pure (([], [], [], ()), x, ()) else if gtI (zI .i64 (zD x1.2.2.1) (zD x2)) 24 = true then .pure (([], [], [], ()), 2, ()) else (gV x1.2.2.1).bind fun y => (gV x2).bind fun y_1 => (app y.1 y_1.1).bind fun zs => (Comp.loop (fun (x : Int × A4 × List Bool × List Bool × List A3 × Unit) => if ltI x.1 (zD x0.2.1) = true then (idx x0.2.1 x.1).bind fun a => (idx x1.2.1 x.1).bind fun b => (Comp.gd (ntB b) (zd a x2) (false, ())).bind fun c => (Comp.gd (ntB (sel b true (ntB c.1))) (zd a x3) (false, ())).bind fun d => (app x.2.2.2.1 [sel (sel b true (ntB c.1)) true (ntB d.1)]).bind fun zs => (idx x1.1 x.1).bind fun e => jn (fun (f : Bool × List Bool × List Bool × List A3 × Unit) => (app x.2.2.1 [f.1]).bind fun zs_1 => .pure (.next (zI .i64 x.1 1, f.2, zs_1, zs, x.2.2.2.2.1, ()))) fun (j : Bool × List Bool × List Bool × List A3 × Unit → Comp (Comp.Step (Int × A4 × List Bool × List Bool × List A3 × Unit) A43)) => if ntB e = true then (vK x.2.2.2.2.1 a).bind fun y => (yx y.1 a).bind fun f => if neI f.2.1 0 = true then .pure (.done (Sum.inr (f.2.1, [], [], [], ()))) else j (f.1, x.2.1) else j (e, x.2.1) else .pure (.done (Sum.inl (x.2.1, x.2.2.1, x.2.2.2.1, x.2.2.2.2.1, ())))) (0, ([], [], [], ()), [], [], zs, ())).bind fun (x : A4 × List Bool × List Bool × List A3 × Unit ⊕ Int × List Bool × List Bool × List A3 × Unit) => match x with
               | .inl x => .pure ((x.2.1, x.2.2.1, x.2.2.2.1, ()), 0, ())
               | .inr x => .pure (x.2, x.1, ())) fun (j : Int → Comp A45) => if eqI x.1 0 = true then (yP x3).bind fun x => j x.1 else j x.1
def yw : yO × List A3 × List Int × Unit → List Int → Int → Comp (A5 × Unit) := fun x0 x1 x2 => (zJ (x1, 0, ()) (Int.ofNat 6)).bind fun y => jn (fun (x : A36) => jn (fun (a : A5) => (zJ x.2 (Int.ofNat 5)).bind fun y => (Comp.loop (fun (x : Int × A5 × List Int × Int × Unit) => if ltI x.1 (zD x0.2.1) = true then (zJ x.2.2 (Int.ofNat 2)).bind fun y_1 => (idx x0.2.2.1 x.1).bind fun b => jn (fun (c : A36) => jn (fun (d : List A3 × List A3 × Int × List Int × Unit) => .pure (.next (zI .i64 x.1 1, (d.1, d.2.1, d.2.2.1, d.2.2.2.1, ()), c.2))) fun (j : List A3 × List A3 × Int × List Int × Unit → Comp (Comp.Step (Int × A5 × List Int × Int × Unit) A5)) => if c.1 = true then (idx x0.2.1 x.1).bind fun d => (app [] d).bind fun zs => (app x.2.1.1 [zs]).bind fun zs => j (zs, x.2.1.2.1, x.2.1.2.2.1, x.2.1.2.2.2.1, ()) else j (x.2.1.1, x.2.1.2.1, x.2.1.2.2.1, x.2.1.2.2.2.1, ())) fun (j : Bool × List Int × Int × Unit → Comp (Comp.Step (Int × A5 × List Int × Int × Unit) A5)) => if eqI b 1 = true then jn (fun (x : A36) => j (x.1, x.2)) fun (j : Bool × List Int × Int × Unit → Comp (Comp.Step (Int × A5 × List Int × Int × Unit) A5)) => if eqI y.2.1 4 = true then (zJ y_1.1.1 (Int.ofNat 3)).bind fun y => j (eqI y.2.1 2, y.1.1) else j (false, y_1.1.1) else j (eqI y_1.2.1 1, y_1.1.1) else .pure (.done (x.2.1.1, x.2.1.2.1, x.2.1.2.2.1, x.2.1.2.2.2.1, ()))) (0, (a.1, a.2.1, a.2.2.1, a.2.2.2.1, ()), y.1.1)).bind fun x => jn (fun (x : List A3 × List A3 × Int × List Int × Unit) => jn (fun (x : List A3 × List A3 × Int × List Int × Unit) => .pure ((x.1, x.2.1, x.2.2.1, x.2.2.2.1, ()), ())) fun (j : List A3 × List A3 × Int × List Int × Unit → Comp (A5 × Unit)) => if eqI y.2.1 2 = true then (sub x1 (Bs (zD x1) 5) (zD x1)).bind fun b => (y4 [b] x0).bind fun y => j (x.1, y.1, x.2.2.1, x.2.2.2.1, ()) else j (x.1, x.2.1, x.2.2.1, x.2.2.2.1, ())) fun (j : List A3 × List A3 × Int × List Int × Unit → Comp (A5 × Unit)) => if eqI y.2.1 3 = true then (sub x1 (Bs (zD x1) 4) (zD x1)).bind fun b => (y4 [b] x0).bind fun c => (app x.1 c.1).bind fun zs => j (zs, x.2.1, x.2.2.1, x.2.2.2.1, ()) else j (x.1, x.2.1, x.2.2.1, x.2.2.2.1, ())) fun (j : List A3 × List A3 × Int × List Int × Unit → Comp (A5 × Unit)) => if x.1 = true then j ([], [], zI .i64 1 y.2.1, [gM .i64 x2 1], ()) else j ([], [], zI .i64 1 y.2.1, [], ())) fun (j : Bool × List Int × Int × Unit → Comp (A5 × Unit)) => if gtI x2 0 = true then (zJ y.1.1 (Int.ofNat 5)).bind fun y => j (eqI y.2.1 4, y.1.1) else j (false, y.1.1)
def jI : List Int → Comp A8 := fun x0 => (Comp.loop (fun (x : Int) => if ltI x (zD x0) = true then (idx x0 x).bind fun a => (idx x0 (gM .i64 x 1)).bind fun b => if leI a b = true then .pure (.done (Sum.inr false)) else .pure (.next (zI .i64 x 1)) else .pure (.done (Sum.inl ()))) 1).bind fun (x : A24) => match x with
   | .inl x => .pure (true, ())
   | .inr x => .pure (x, ())
def vj : List A5 → Int → Comp A10 := fun x0 x1 => (idx x0 x1).bind fun x => (app [] x.1).bind fun zs => (app zs x.2.1).bind fun zs_1 => (Comp.loop (fun (a : Int) => if ltI a (zD zs_1) = true then (idx zs_1 a).bind fun x => (za x).bind fun x => if neI x.1 0 = true then .pure (.done (Sum.inr x.1)) else .pure (.next (zI .i64 a 1)) else .pure (.done (Sum.inl ()))) 0).bind fun (a : A22) => match a with
      | .inl b => if sel (ltI x.2.2.1 1) true (gtI x.2.2.1 1048576) = true then .pure (3, ()) else (Comp.loop (fun (c : Int) => if ltI c (zD x.2.2.2.1) = true then (idx x.2.2.2.1 c).bind fun d => (Comp.gd (ntB (ltI d 0)) (idx x.2.2.2.1 c) (Int.ofNat 0)).bind fun e => (Comp.gd (ntB (sel (ltI d 0) true (geI e (zD x0)))) (idx x.2.2.2.1 c) (Int.ofNat 0)).bind fun f => if sel (sel (ltI d 0) true (geI e (zD x0))) true (eqI f x1) = true then .pure (.done (Sum.inr 3)) else .pure (.next (zI .i64 c 1)) else .pure (.done (Sum.inl ()))) 0).bind fun (c : A22) => match c with
         | .inl d => (jI x.2.2.2.1).bind fun x => if ntB x.1 = true then .pure (7, ()) else .pure (0, ())
         | .inr x => .pure (x, ())
      | .inr x => .pure (x, ())
def vJ : A9 × A4 × List A5 × Unit → Comp A10 := fun x0 => (yg x0.1).bind fun x => if neI x.1 0 = true then .pure (x.1, ()) else (vi x0.1 x0.2.1).bind fun x => if ntB x.1 = true then .pure (4, ()) else if gtI (zD x0.2.2.1) 8 = true then .pure (2, ()) else (Comp.loop (fun (x : A23) => if ltI x.2 (zD x0.2.2.1) = true then (vj x0.2.2.1 x.2).bind fun a => if neI a.1 0 = true then .pure (.done (Sum.inr a.1)) else (idx x0.2.2.1 x.2).bind fun b => .pure (.next (zI .i64 x.1 (zD b.1), zI .i64 x.2 1)) else .pure (.done (Sum.inl x.1))) (zD x0.2.1.2.2.1, 0)).bind fun (x : Int ⊕ Int) => match x with
        | .inl x => if gtI x 24 = true then .pure (2, ()) else .pure (0, ())
        | .inr x => .pure (x, ())
def ja : List A13 → Comp (A44 × Unit) := fun x0 => (sub x0 0 (Bs (zD x0) 2)).bind fun x => (jc x).bind fun a => (j9 a.1).bind fun b => jn (fun (c : A6 × A4 × List A5 × Unit) => (Comp.loop (fun (x : Int × A6 × A4 × List A5 × Unit) => if sel (ltI x.1 (zD x0)) (ltI x.1 7) false = true then (idx x0 x.1).bind fun d => (yw a.1 d (gM .i64 x.1 3)).bind fun e => (app x.2.2.2.1 [e.1]).bind fun zs => .pure (.next (zI .i64 x.1 1, x.2.1, x.2.2.1, zs, ())) else .pure (.done (x.2.1, x.2.2.1, x.2.2.2.1, ()))) (3, c.1, c.2.1, c.2.2.1, ())).bind fun d => jn (fun (e : A6 × A4 × List A5 × Unit) => (Comp.loop (fun (f : A6 × A4 × List A5 × Unit) => (Comp.gd (gtI (zD f.2.2.1) 1) (vJ (f.1, f.2.1, f.2.2.1, ())) (0, ())).bind fun g => if sel (gtI (zD f.2.2.1) 1) (eqI g.1 2) false = true then jn (fun (x : A6 × A4 × List A5 × Unit) => .pure (.next (x.1, x.2.1, x.2.2.1, ()))) fun (j : A6 × A4 × List A5 × Unit → Comp (Comp.Step A15 A15)) => (sub f.2.2.1 0 (gM .i64 (zD f.2.2.1) 1)).bind fun ys => j (f.1, f.2.1, ys, ()) else .pure (.done (f.1, f.2.1, f.2.2.1, ()))) (e.1, e.2.1, e.2.2.1, ())).bind fun x => .pure ((x.1, x.2.1, x.2.2.1, ()), ())) fun (j : A6 × A4 × List A5 × Unit → Comp (A15 × Unit)) => if eqI (zD d.2.2.1) 0 = true then (yw a.1 [] (Int.ofNat 0)).bind fun x => (app d.2.2.1 [x.1]).bind fun zs => j (d.1, d.2.1, zs, ()) else j (d.1, d.2.1, d.2.2.1, ())) fun (j : A6 × A4 × List A5 × Unit → Comp (A15 × Unit)) => if gtI (zD x0) 2 = true then (idx x0 2).bind fun x => (zJ (x, 0, ()) (Int.ofNat 3)).bind fun y => jn (fun (x : A6 × A4 × List A5 × Unit) => j (x.1, x.2.1, x.2.2.1, ())) fun (j : A6 × A4 × List A5 × Unit → Comp (A15 × Unit)) => if eqI y.2.1 2 = true then (idx x0 2).bind fun x => (idx x0 2).bind fun c => (sub x (Bs (zD c) 1) (zD x)).bind fun x => (y4 [x] a.1).bind fun x => (gE a.1 b.1 x.1 []).bind fun x => jn (fun (x : A6 × A4 × List A5 × Unit) => j (x.1, x.2.1, x.2.2.1, ())) fun (j : A6 × A4 × List A5 × Unit → Comp (A15 × Unit)) => if eqI x.2.1 0 = true then j (a.1, x.1, [], ()) else j (a.1, b.1, [], ()) else j (a.1, b.1, [], ()) else j (a.1, b.1, [], ())
def jK : A9 × A4 × List A5 × Unit → List Int → Comp A25 := fun x0 x1 => (Comp.loop (fun (x : List Int × Int × List Int × Int × Unit) => if ltI x.2.1 (zD x0.1.2.2.1) = true then (zJ x.2.2 (Int.ofNat 6)).bind fun y => (idx x0.1.2.2.1 x.2.1).bind fun a => jn (fun (b : Int) => (app x.1 [b]).bind fun zs => .pure (.next (zs, zI .i64 x.2.1 1, y.1.1))) fun (j : Int → Comp (Comp.Step (List Int × Int × List Int × Int × Unit) A13)) => if sel (gtI y.2.1 0) (ltI y.2.1 4) false = true then j y.2.1 else j a else .pure (.done x.1)) ([], 0, x1, 0, ())).bind fun x => .pure (x, ())
def jZ : A9 × A4 × List A5 × Unit → List Int → Comp A25 := fun x0 x1 => (Comp.loop (fun (x : A28) => if sel (ltI x.2 (zD x1)) (ltI x.2 4) false = true then (idx x1 x.2).bind fun a => (yR a (zD x0.2.2.1)).bind fun b => (Comp.loop (fun (c : Bool × Int) => if ltI c.2 (zD x.1) = true then (Comp.gd (ntB c.1) (idx x.1 c.2) (Int.ofNat 0)).bind fun x => .pure (.next (sel c.1 true (eqI x b.1), zI .i64 c.2 1)) else .pure (.done c.1)) (false, 0)).bind fun c => jn (fun (d : A13) => .pure (.next (d, zI .i64 x.2 1))) fun (j : List Int → Comp (Comp.Step A28 A13)) => if ntB c = true then (app x.1 [b.1]).bind fun zs => j zs else j x.1 else .pure (.done x.1)) ([], 0)).bind fun x => .pure (x, ())
def vq : List A13 × List Int × List Int × Unit → Comp (A44 × List Int × List Int × Unit) := fun x0 => (sub x0.1 0 (Bs (zD x0.1) 7)).bind fun x => (ja x).bind fun x => (jK x.1 x0.2.1).bind fun y => (jZ x.1 x0.2.2.1).bind fun y_1 => .pure (x.1, y.1, y_1.1, ())
def Zd : A9 × A4 × List A5 × Unit → List Int → Comp (A9 × Unit) := fun x0 x1 => .pure ((x0.1.1, x0.1.2.1, x1, ()), ())
def gP : yO × List A3 × List Int × Unit → List Bool × List Bool × List A3 × Unit → Comp A10 := fun x0 x1 => (yg x0).bind fun x => if neI x.1 0 = true then .pure (x.1, ()) else (vi x0 x1).bind fun x => if ntB x.1 = true then .pure (4, ()) else (Comp.loop (fun (x : Int) => if ltI x (zD x0.2.1) = true then (idx x0.2.2.1 x).bind fun a => (Comp.gd (eqI a 1) (idx x0.2.1 x) []).bind fun b => (Comp.gd (eqI a 1) (zd b x1.2.2.1) (false, ())).bind fun c => if sel (eqI a 1) (ntB c.1) false = true then .pure (.done (Sum.inr 35)) else .pure (.next (zI .i64 x 1)) else .pure (.done (Sum.inl ()))) 0).bind fun (x : A22) => match x with
       | .inl x => (Comp.loop (fun (x : Int) => if ltI x (zD x0.2.1) = true then (idx x0.2.2.1 x).bind fun a => (Comp.gd (eqI a 1) (idx x1.2.1 x) false).bind fun b => if sel (eqI a 1) b false = true then .pure (.done (Sum.inr 30)) else .pure (.next (zI .i64 x 1)) else .pure (.done (Sum.inl ()))) 0).bind fun (x : A22) => match x with
         | .inl x => (Comp.loop (fun (x : Int) => if ltI x (zD x0.2.1) = true then (idx x0.2.2.1 x).bind fun a => (Comp.gd (eqI a 2) (idx x1.1 x) false).bind fun b => if sel (eqI a 2) (ntB b) false = true then .pure (.done (Sum.inr 34)) else .pure (.next (zI .i64 x 1)) else .pure (.done (Sum.inl ()))) 0).bind fun (x : A22) => match x with
           | .inl x => .pure (0, ())
           | .inr x => .pure (x, ())
         | .inr x => .pure (x, ())
       | .inr x => .pure (x, ())
def gN : yO × List A3 × List Int × Unit → List A3 × List A3 × Int × List Int × Unit → Comp A8 := fun x0 x1 => (Comp.loop (fun (x : Int) => if ltI x (zD x0.2.1) = true then (idx x0.2.2.1 x).bind fun a => (Comp.gd (eqI a 2) (idx x0.2.1 x) []).bind fun b => (Comp.gd (eqI a 2) (zd b x1.1) (false, ())).bind fun c => if sel (eqI a 2) (ntB c.1) false = true then .pure (.done (Sum.inr false)) else .pure (.next (zI .i64 x 1)) else .pure (.done (Sum.inl ()))) 0).bind fun (x : A24) => match x with
   | .inl x => .pure (true, ())
   | .inr x => .pure (x, ())
def jY : A9 × A4 × List A5 × Unit → List Int → List Int → Comp A12 := fun x0 x1 x2 => (vJ x0).bind fun x => (Zd x0 x1).bind fun a => jn (fun (x : Int) => if neI x 0 = true then .pure ([], x, ()) else (Comp.loop (fun (x : Int) => if ltI x (zD x2) = true then (idx x2 x).bind fun b => (Comp.gd (ntB (ltI b 0)) (idx x2 x) (Int.ofNat 0)).bind fun c => if sel (ltI b 0) true (geI c (zD x0.2.2.1)) = true then .pure (.done (Sum.inr ([], 5))) else .pure (.next (zI .i64 x 1)) else .pure (.done (Sum.inl ()))) 0).bind fun (x : Unit ⊕ List Int × Int) => match x with
        | .inl x => (Comp.loop (fun (x : List A3 × List A3 × Int) => if ltI x.2.2 (zD x2) = true then (Comp.loop (fun (b : Int) => if ltI b x.2.2 = true then (idx x2 b).bind fun c => (idx x2 x.2.2).bind fun x => if eqI c x = true then .pure (.done (Sum.inr ([], 6))) else .pure (.next (zI .i64 b 1)) else .pure (.done (Sum.inl ()))) 0).bind fun (b : Unit ⊕ List Int × Int) => match b with
             | .inl c => (idx x2 x.2.2).bind fun d => (idx x0.2.2.1 d).bind fun e => (app x.1 e.1).bind fun zs => (idx x2 x.2.2).bind fun f => (idx x0.2.2.1 f).bind fun g => (app x.2.1 g.2.1).bind fun zs_1 => .pure (.next (zs, zs_1, zI .i64 x.2.2 1))
             | .inr x => .pure (.done (Sum.inr (x.1, x.2))) else .pure (.done (Sum.inl (x.1, x.2.1)))) ([], [], 0)).bind fun (x : List A3 × List A3 ⊕ List Int × Int) => match x with
          | .inl x => (gE a.1 x0.2.1 x.1 x.2).bind fun x => if neI x.2.1 0 = true then .pure ([], x.2.1, ()) else (gP a.1 x.1).bind fun x => (Comp.loop (fun (b : A28) => if ltI b.2 (zD x2) = true then (Comp.gd (ntB (eqI x.1 35)) (idx x2 b.2) (Int.ofNat 0)).bind fun c => (Comp.gd (ntB (eqI x.1 35)) (idx x0.2.2.1 c) ([], [], 0, [], ())).bind fun d => (Comp.gd (ntB (eqI x.1 35)) (gN a.1 d) (false, ())).bind fun e => jn (fun (x : A13) => .pure (.next (x, zI .i64 b.2 1))) fun (j : List Int → Comp (Comp.Step A28 A13)) => if sel (eqI x.1 35) true e.1 = true then (idx x2 b.2).bind fun x => (app b.1 [x]).bind fun zs => j zs else j b.1 else .pure (.done b.1)) ([], 0)).bind fun x => .pure (x, 0, ())
          | .inr x => .pure (x.1, x.2, ())
        | .inr x => .pure (x.1, x.2, ())) fun (j : Int → Comp A12) => if eqI x.1 0 = true then (yg a.1).bind fun x => j x.1 else j x.1
def vW : List Int × List Int × List Int × Unit → Int → Comp A21 := fun x0 x1 => (Comp.loop (fun (x : List Int × List Int × Int) => if ltI x.2.2 x1 = true then jn (fun (a : Int) => jn (fun (b : Int) => (yR a (Int.ofNat 4)).bind fun c => (app x.1 [c.1]).bind fun zs => (yR b (Int.ofNat 20)).bind fun d => (app x.2.1 [d.1]).bind fun zs_1 => .pure (.next (zs, zs_1, zI .i64 x.2.2 1))) fun (j : Int → Comp (Comp.Step (List Int × List Int × Int) (List Int × List Int))) => if ltI x.2.2 (zD x0.2.1) = true then (idx x0.2.1 x.2.2).bind fun x => j x else j (jw .i64 3 x.2.2)) fun (j : Int → Comp (Comp.Step (List Int × List Int × Int) (List Int × List Int))) => if ltI x.2.2 (zD x0.1) = true then (idx x0.1 x.2.2).bind fun x => j x else j x.2.2 else .pure (.done (x.1, x.2.1))) ([], [], 0)).bind fun x => (Comp.loop (fun (x : A28) => if ltI x.2 4 = true then (idx x0.2.2.1 x.2).bind fun a => (yR a (Int.ofNat 20)).bind fun b => (app x.1 [b.1]).bind fun zs => .pure (.next (zs, zI .i64 x.2 1)) else .pure (.done x.1)) ([], 0)).bind fun a => .pure (x.1, x.2, a, ())
def vh : List Int → Comp A8 := fun x0 => (Comp.loop (fun (x : Int) => if ltI x (zD x0) = true then (idx x0 x).bind fun a => (Comp.gd (ntB (ltI a 0)) (idx x0 x) (Int.ofNat 0)).bind fun b => if sel (ltI a 0) true (gtI b 100000) = true then .pure (.done (Sum.inr false)) else .pure (.next (zI .i64 x 1)) else .pure (.done (Sum.inl ()))) 0).bind fun (x : A24) => match x with
   | .inl x => .pure (true, ())
   | .inr x => .pure (x, ())
def jJ : List Int → Int → Comp A10 := fun x0 x1 => (Comp.loop (fun (x : Int) => (idx x0 x).bind fun a => if neI a x1 = true then .pure (.next (zI .i64 x 1)) else .pure (.done x)) 0).bind fun x => .pure (x, ())
def gO : A9 × A4 × List A5 × Unit → List Int → List Int → List Int → List Int → List Int → Comp A30 := fun x0 x1 x2 x3 x4 x5 => (jY x0 x1 x2).bind fun y => if neI y.2.1 0 = true then .pure ([], y.2.1, ()) else if sel (neI (zD x3) (zD x2)) true (neI (zD x4) (zD x2)) = true then .pure ([], 4, ()) else if gtI (zD x5) 6 = true then .pure ([], 2, ()) else (Comp.loop (fun (x : Int) => if ltI x (zD x3) = true then (idx x3 x).bind fun a => (Comp.gd (ntB (ltI a 0)) (idx x3 x) (Int.ofNat 0)).bind fun b => if sel (ltI a 0) true (geI b (zD x5)) = true then .pure (.done (Sum.inr ([], 55))) else .pure (.next (zI .i64 x 1)) else .pure (.done (Sum.inl ()))) 0).bind fun (x : Unit ⊕ List A1 × Int) => match x with
       | .inl x => (vh x4).bind fun x => (Comp.gd (ntB (ntB x.1)) (vh x5) (false, ())).bind fun a => if sel (ntB x.1) true (ntB a.1) = true then .pure ([], 3, ()) else (Comp.loop (fun (x : List A1 × Int) => if ltI x.2 (zD y.1) = true then (idx y.1 x.2).bind fun b => (jJ x2 b).bind fun c => (idx y.1 x.2).bind fun d => (idx y.1 x.2).bind fun e => (idx x0.2.2.1 e).bind fun f => (idx x4 c.1).bind fun g => (idx x3 c.1).bind fun h => (idx x5 h).bind fun i => jn (fun (k : A1) => (app x.1 [k]).bind fun zs => .pure (.next (zs, zI .i64 x.2 1))) fun (j : Int × Int × Int × Unit → Comp (Comp.Step (List A1 × Int) (List A1))) => if gtI g i = true then (idx x3 c.1).bind fun x => j (d, x, f.2.2.1, ()) else j (d, -1, f.2.2.1, ()) else .pure (.done x.1)) ([], 0)).bind fun x => .pure (x, 0, ())
       | .inr x => .pure (x.1, x.2, ())
def vy : List A1 → Int → Comp A10 := fun x0 x1 => (Comp.loop (fun (x : A23) => if ltI x.2 (zD x0) = true then (idx x0 x.2).bind fun a => jn (fun (b : Int) => .pure (.next (b, zI .i64 x.2 1))) fun (j : Int → Comp (Comp.Step A23 Int)) => if eqI a.2.1 x1 = true then (idx x0 x.2).bind fun b => j (zI .i64 x.1 b.2.2.1) else j x.1 else .pure (.done x.1)) (0, 0)).bind fun x => .pure (x, ())
def yI : A9 × A4 × List A5 × Unit → List Int → List Int → List Int → List Int → List Int → Comp A8 := fun x0 x1 x2 x3 x4 x5 => (jh x0 x1 x2 x3 x4 x5).bind fun y => (gO x0 x1 x2 x3 x4 x5).bind fun y_1 => (Comp.gd (ntB (neI y.2.1 y_1.2.1)) (yy y.1 y_1.1) (false, ())).bind fun x => if sel (neI y.2.1 y_1.2.1) true (ntB x.1) = true then .pure (false, ()) else (Comp.loop (fun (x : Int) => if ltI x 4 = true then (ZY y_1.1 x).bind fun a => (vy y_1.1 x).bind fun b => if neI a.1 b.1 = true then .pure (.done (Sum.inr false)) else .pure (.next (zI .i64 x 1)) else .pure (.done (Sum.inl ()))) (-1)).bind fun (x : A24) => match x with
       | .inl x => .pure (true, ())
       | .inr x => .pure (x, ())
def gU : List A13 × List Int × List Int × Unit → List Int × List Int × List Int × Unit → Int → Int → Int → List A1 → Comp A8 := fun x0 x1 x2 x3 x4 x5 => gv.bind fun x => (vq x0).bind fun a => (vW x1 (zD a.2.2.1)).bind fun y => (yI a.1 a.2.1 a.2.2.1 y.1 y.2.1 y.2.2.1).bind fun b => if ntB b.1 = true then .pure (false, ()) else (rem x4 6).bind fun c => jn (fun (d : List Int × List Int × List Int) => (sub x5 0 (Bs (zD x5) 5)).bind fun e => (Comp.gd x.1 (yI a.1 a.2.1 a.2.2.1 d.1 d.2.1 d.2.2) (false, ())).bind fun f => (Comp.gd (sel x.1 f.1 false) (ZY e x2) (0, ())).bind fun g => (Comp.gd (sel x.1 f.1 false) (vy e x2) (0, ())).bind fun h => (Comp.gd (sel (sel x.1 f.1 false) (eqI g.1 h.1) false) (ZY e (Int.negSucc 0)) (0, ())).bind fun i => (Comp.gd (sel (sel x.1 f.1 false) (eqI g.1 h.1) false) (vy e (Int.negSucc 0)) (0, ())).bind fun k => .pure (sel (sel (sel x.1 f.1 false) (eqI g.1 h.1) false) (eqI i.1 k.1) false, ())) fun (j : List Int × List Int × List Int → Comp A8) => if eqI c 0 = true then jn (fun (x : A13) => j (x, y.2.1, y.2.2.1)) fun (j : List Int → Comp A8) => if gtI (zD y.1) 0 = true then (rem (tq .i64 x3) (zD y.1)).bind fun x => (inb y.1.length x).bind fun d => j (jv y.1 x x2) else j y.1 else jn (fun (x : List Int × List Int × List Int) => j (x.1, x.2.1, x.2.2)) fun (j : List Int × List Int × List Int → Comp A8) => if eqI c 1 = true then jn (fun (x : A13) => j (y.1, x, y.2.2.1)) fun (j : List Int → Comp A8) => if gtI (zD y.2.1) 0 = true then (rem (tq .i64 x3) (zD y.2.1)).bind fun x => (inb y.2.1.length x).bind fun d => j (jv y.2.1 x x2) else j y.2.1 else jn (fun (x : List Int × List Int) => j (x.1, y.2.1, x.2)) fun (j : List Int × List Int → Comp A8) => if eqI c 2 = true then (rem (tq .i64 x3) 4).bind fun x => (inb y.2.2.1.length x).bind fun d => j (y.1, jv y.2.2.1 x x2) else jn (fun (x : List Int × List Int) => j (x.1, x.2)) fun (j : List Int × List Int → Comp A8) => if eqI c 3 = true then (app y.1 [0]).bind fun zs => j (zs, y.2.2.1) else jn (fun (x : A13) => j (y.1, x)) fun (j : List Int → Comp A8) => if eqI c 4 = true then (app y.2.2.1 [1, 2, x2]).bind fun zs => j zs else jn (fun (x : A13) => j x) fun (j : List Int → Comp A8) => if eqI c 5 = true then jn (fun (x : A13) => j x) fun (j : List Int → Comp A8) => (rem (tq .i64 x3) 4).bind fun x => (sub y.2.2.1 0 x).bind fun ys => j ys else j y.2.2.1
end Go.F
end
section
namespace Go.Geo
open Go Go.Eng Go.Lift Go.Den Go.F
variable {α β γ δ ε σ τ : Type}
abbrev V3 := Int × Int × Int × Unit
abbrev Pnt := Int × Int × Int × Int × Unit
def okv (k n : Int) : Bool := decide (-k ≤ n ∧ n ≤ k)
def Jp (v : V3) : Nat := Nat.gcd (Nat.gcd v.1.natAbs v.2.1.natAbs) v.2.2.1.natAbs
def okN (v : V3) : Bool := okv 4608 v.1 && (okv 4608 v.2.1 && okv 4608 v.2.2.1)
def okP (p : Pln) : Bool := okN p.1 && (decide (Jp p.1 = 1) && okv 2097152 p.2.1)
theorem Mm : ∀ (b a : Nat), (Comp.loop
   (fun (x : Int × Int) => if gtI x.2 0 = true then (rem x.1 x.2).bind fun x_3 => Comp.pure (.next (x.2, x_3))
    else Comp.pure (.done x.1)) ((a : Int), (b : Int))).val = some ((Nat.gcd a b : Nat) : Int) := by
 intro b
 induction b using Nat.strongRecOn with
 | _ b ih =>
  intro a
  conv => lhs; rw [zL]
  by_cases hb : 0 < b
  ·have h1 : (0 : Int) < (b : Int) := by omega
   have h2 : (rem (a : Int) (b : Int)).val = some ((a % b : Nat) : Int) := by rw [ZS (by omega)]; rfl
   have := ih (a % b) (Nat.mod_lt _ hb) b
   simp only [z8, h1, if_true, zA, h2, zFq, Comp.zB]
   rw [show Nat.gcd a b = Nat.gcd b (a % b) by rw [Nat.gcd_comm a b, Nat.gcd_rec, Nat.gcd_comm]]
   simp only [z8] at this
   exact this
  ·have h0 : b = 0 := by omega
   subst h0
   simp [gtI]
theorem DV : ∀ (b a : Int), ∃ r, r.natAbs = Nat.gcd a.natAbs b.natAbs ∧ (Comp.loop
   (fun (x : Int × Int) => if neI x.2 0 = true then (rem x.1 x.2).bind fun x_2 => Comp.pure (.next (x.2, x_2)) else Comp.pure (.done x.1)) (a, b)).val = some r := by
 intro b
 generalize hn : b.natAbs = n
 induction n using Nat.strongRecOn generalizing b with
 | _ n ih =>
  intro a
  by_cases hb : b = 0
  ·refine ⟨a, ?_, ?_⟩
   ·subst hb; simp at hn; simp [← hn]
   ·conv => lhs; rw [zL]
    simp [neI, hb]
  ·have hlt : (a.tmod b).natAbs < n := by rw [Int.natAbs_tmod, ← hn]; exact Nat.mod_lt _ (by omega)
   obtain ⟨r, h1, h2⟩ := ih _ hlt (a.tmod b) rfl b
   refine ⟨r, ?_, ?_⟩
   ·rw [h1, Int.natAbs_tmod, hn]
    exact (Nat.gcd_comm _ _).trans ((Nat.gcd_rec n a.natAbs).symm.trans (Nat.gcd_comm _ _))
   ·conv => lhs; rw [zL]
    simp only [zX, ne_eq, hb, not_false_eq_true, if_true, zA, ZS hb, zFq, Comp.zB]
    simp only [zX, ne_eq] at h2
    exact h2
theorem tM {n : Int} (h : -9223372036854775808 < n ∧ n < 9223372036854775808) : qF n (Ya .i64 n) = (n.natAbs : Int) := by
 rw [K0 h]; unfold qF; omega
theorem rA {n : Int} (h : -9223372036854775808 < n ∧ n < 9223372036854775808) : (jT n).val = some ((n.natAbs : Int), ()) := by
 unfold jT; rw [Comp.zB, tM h]
theorem nZ {l : List Int} (hl : l.length < 9223372036854775807) (h : ∀ n ∈ l, -9223372036854775808 < n ∧ n < 9223372036854775808) : (ZF l).val = some (((l.foldl (fun g n => Nat.gcd g n.natAbs) 0 : Nat) : Int), ()) := by
 unfold ZF
 have h1 := Xu (fun (s : Nat) i => (((s : Nat) : Int), ((i : Nat) : Int))) l (fun (s : Nat) n => .next (Nat.gcd s n.natAbs)) (fun s => (Sum.inl ((s : Nat) : Int) : Int ⊕ Int)) 0
  (body := fun (x : Int × Int) => if ltI x.2 (zD l) = true then
       (idx l x.2).bind fun x_1 => if eqI x_1 (-9223372036854775808) = true then Comp.pure (.done (Sum.inr 0))
        else
         (Go.F.jT x_1).bind fun x_2 => (Comp.loop
             (fun (x : Int × Int) => if gtI x.2 0 = true then (rem x.1 x.2).bind fun x_3 => Comp.pure (.next (x.2, x_3))
              else Comp.pure (.done x.1))
             (x.1, x_2.1)).bind fun x_3 => Comp.pure (.next (x_3, zI .i64 x.2 1))
      else Comp.pure (.done (Sum.inl x.1)))
  (fun s i n hx => by
   have hlt := zK hx
   have hn := h n (List.mem_of_getElem? hx)
   have h1 : (i : Int) < zD l := by rw [zC]; omega
   rw [if_pos (by rw [zF]; exact h1), zA, zG hx, zFq, if_neg (by rw [yd]; omega), zA, rA hn, zFq, zA, Mm, zFq, Comp.zB, zM (show i < 9223372036854775807 by omega)]
   rfl)
  (fun s => by
   have h1 : ¬ ((l.length : Int) < zD l) := by rw [zC]; omega
   simp only [zF, h1, if_false, Comp.zB])
 rw [Comp.Y6] at h1
 rw [zA]
 refine (congrArg (fun o => Option.bind o _) h1).trans ?_
 rw [zFq]
 exact Comp.zB _
theorem w8 {k : Int} {l : List Int} (hk : 0 ≤ k ∧ k < 9223372036854775808) (hl : l.length < 9223372036854775807) : (gy k l).val = some (l.all fun n => okv k n, ()) := by
 unfold gy
 have h1 := jC l (okv k) (c := (Sum.inr false : Unit ⊕ Bool)) (d := Sum.inl ())
  (body := fun (x : Int) => if ltI x (zD l) = true then
       (idx l x).bind fun x_1 => if sel (ltI x_1 (Ya .i64 k)) true (gtI x_1 k) = true then Comp.pure (.done (Sum.inr false))
        else Comp.pure (.next (zI .i64 x 1))
      else Comp.pure (.done (Sum.inl ())))
  (fun i n hx => by
   have hlt := zK hx
   have h1 : (i : Int) < zD l := by rw [zC]; omega
   rw [if_pos (by rw [zF]; exact h1), zA, zG hx, zFq, K0 (by omega), zM (show i < 9223372036854775807 by omega), XF]
   have e : sel (ltI n (-k)) true (gtI n k) = !okv k n := by
    rw [vk]; unfold ltI gtI okv
    by_cases h1 : n < -k <;> by_cases h2 : n > k <;> simp [h1, h2] <;> omega
   rw [e]
   cases okv k n <;> simp)
  (by
   have h1 : ¬ ((l.length : Int) < zD l) := by rw [zC]; omega
   simp only [zF, h1, if_false, Comp.zB])
 rw [zA]
 refine (congrArg (fun o => Option.bind o _) h1).trans ?_
 rw [zFq]
 show _ = some (l.all (okv k), ())
 cases l.all (okv k) <;> exact Comp.zB _
theorem CW {v : V3} (h : okN v = true) : ∀ n ∈ [v.1, v.2.1, v.2.2.1], -4608 ≤ n ∧ n ≤ 4608 := by
 unfold okN okv at h
 simp only [zFs, decide_eq_true_eq] at h
 intro n hn
 simp only [List.mem_cons, List.not_mem_nil, or_false] at hn
 rcases hn with rfl | rfl | rfl <;> omega
theorem K5 (p : Pln) : (YQ p).val = some (okP p, ()) := by
 unfold YQ
 have h1 : (gy (Int.ofNat 4608) [p.1.1, p.1.2.1, p.1.2.2.1]).val = some (okN p.1, ()) := by
  rw [w8 (by decide) (by simp)]
  simp [okN]
 have h2 : (gy (Int.ofNat 2097152) [p.2.1]).val = some (okv 2097152 p.2.1, ()) := by
  rw [w8 (by decide) (by simp)]
  simp
 rw [vb, zA, h1, zFq, XF]
 cases hN : okN p.1 with
 | false => simp [okP, hN]
 | true =>
  rw [if_pos rfl]
  have h3 := nZ (l := [p.1.1, p.1.2.1, p.1.2.2.1]) (by simp) (fun n hn => by have := CW hN n hn; omega)
  have h4 : [p.1.1, p.1.2.1, p.1.2.2.1].foldl (fun g n => Nat.gcd g n.natAbs) 0 = Jp p.1 := by simp [Jp]
  rw [h4] at h3
  rw [zA, h3, zFq, XF]
  by_cases hg : Jp p.1 = 1
  ·have : eqI ((Jp p.1 : Nat) : Int) 1 = true := by rw [yd]; omega
   rw [if_pos this, zA, h2, zFq, Comp.zB]
   unfold okP; rw [hN, decide_eq_true hg]; rfl
  ·have : eqI ((Jp p.1 : Nat) : Int) 1 = false := by unfold eqI; rw [decide_eq_false]; omega
   rw [if_neg (by rw [this]; simp), Comp.zB]
   unfold okP; rw [hN, decide_eq_false hg]; rfl
def chk (c : List Pln) : Int := if 48 < c.length then 2 else bif c.all okP then 0 else 12
theorem WZ {c : List Pln} : chk c = 0 ↔ c.length ≤ 48 ∧ c.all okP = true := by
 unfold chk
 split
 ·simp; omega
 ·cases c.all okP <;> simp; omega
theorem Rm (c : List Pln) : (c.any fun p => !okP p) = !c.all okP := by rw [List.all_eq_not_any_not, Bool.not_not]
theorem gf (c : List Pln) : (vV c).val = some (chk c, ()) := by
 unfold vV chk
 by_cases h : 48 < c.length
 ·rw [if_pos (by rw [z8, zC]; omega), if_pos h, Comp.zB]
 ·rw [if_neg (by rw [z8, zC]; omega), if_neg h]
  have h1 : (zY c fun z => jG z.1).val = some (c.any fun p => !okP p, ()) :=
   ki (xs := c) (f := fun z => jG z.1) (p := fun p => !okP p) (by omega) fun p _ => by
    show (jG p).val = _
    unfold jG
    rw [zA, K5, zFq, Comp.zB]; rfl
  rw [zA, h1, zFq, Rm, XF]
  cases c.all okP <;> simp
theorem Z3 (l : List (List Pln)) (hl : l.length < 9223372036854775807) : (k9 l).val = some (l.all fun c => decide (chk c = 0), ()) := by
 unfold k9
 have h1 : (zQ l fun z => jF z.1).val = some (l.any fun c => !decide (chk c = 0), ()) :=
  ki (xs := l) (f := fun z => jF z.1) (p := fun c => !decide (chk c = 0)) hl fun c _ => by
   show (jF c).val = _
   unfold jF
   rw [zA, gf, zFq, Comp.zB]
   unfold neI
   by_cases h : chk c = 0 <;> simp [h]
 rw [zA, h1, zFq, Comp.zB, ya, List.all_eq_not_any_not]
theorem Hs {n : Int} (h : -9223372036854775808 < n ∧ n < 9223372036854775808) : (vF n).val = some ((n.natAbs : Int), ()) := by
 unfold vF
 by_cases h0 : n < 0
 ·rw [if_pos (by rw [zF]; exact h0), Comp.zB, K0 h]; congr 2; omega
 ·rw [if_neg (by rw [zF]; exact h0), Comp.zB]; congr 2; omega
theorem GC {v : V3} (h : okN v = true) : ∃ u, (gX v).val = some (u, ((Jp v : Nat) : Int), ()) := by
 have hin := CW h
 unfold gX
 have hc : (zu v).val = some ([v.1, v.2.1, v.2.2.1], ()) := by unfold zu; exact Comp.zB _
 rw [zA, hc, zFq]
 simp only
 generalize hl : [v.1, v.2.1, v.2.2.1] = l at hin
 have hlen : l.length = 3 := by rw [← hl]; rfl
 have h1 := Xu (fun (s : Nat) i => ((((s : Nat) : Int), ((i : Nat) : Int), (0, 0, 0, ())) : Int × Int × Int × Int × Int × Unit)) l (fun (s : Nat) n => .next (Nat.gcd s n.natAbs)) (fun s => (Sum.inl ((((s : Nat) : Int), (0, 0, 0, ())) : Int × Int × Int × Int × Unit) : (Int × Int × Int × Int × Unit) ⊕ (Int × Int × Int × Int × Unit))) 0
  (body := (fun (x_1 : Int × Int × Int × Int × Int × Unit) => if ltI x_1.2.1 3 = true then
        (idx l x_1.2.1).bind fun x_2 => if eqI x_2 (-9223372036854775808) = true then Comp.pure (.done (Sum.inr (0, 0, 0, 0, ())))
         else
          (idx l x_1.2.1).bind fun x => (Go.F.vF x).bind fun x => (Comp.loop
               (fun (x : Int × Int) => if gtI x.2 0 = true then (rem x.1 x.2).bind fun x_3 => Comp.pure (.next (x.2, x_3))
                else Comp.pure (.done x.1))
               (x_1.1, x.1)).bind fun x => Comp.pure (.next (x, zI .i64 x_1.2.1 1, x_1.2.2))
       else Comp.pure (.done (Sum.inl (x_1.1, x_1.2.2)))))
  (fun s i n hx => by
   have hlt := zK hx
   have hn := hin n (List.mem_of_getElem? hx)
   rw [if_pos (by rw [zF]; show (i : Int) < 3; omega), zA, zG hx, zFq, if_neg (by rw [yd]; omega), zA, zG hx, zFq, zA, Hs (by omega), zFq, zA, Mm, zFq, Comp.zB, zM (show i < 9223372036854775807 by omega)]
   rfl)
  (fun s => by
   rw [if_neg (by rw [zF, hlen]; simp), Comp.zB])
 rw [Comp.Y6] at h1
 have hg : l.foldl (fun g n => Nat.gcd g n.natAbs) 0 = Jp v := by rw [← hl]; simp [Jp]
 rw [hg] at h1
 rw [zA]
 have h2 := congrArg (fun o => Option.bind o fun (x : (Int × Int × Int × Int × Unit) ⊕ (Int × Int × Int × Int × Unit)) => (match x with
    | Sum.inl x =>
     if eqI x.1 0 = true then Comp.pure ((0, 0, 0, ()), 0, ())
     else
      (quo .i64 v.1 x.1).bind fun x_1 => (quo .i64 v.2.1 x.1).bind fun x_2 => (quo .i64 v.2.2.1 x.1).bind fun x_3 => Comp.pure ((x_1, x_2, x_3, ()), x.1, ())
    | Sum.inr x => Comp.pure (x.2, x.1, ()) : Comp Pln).val) h1
 by_cases h0 : Jp v = 0
 ·refine ⟨(0, 0, 0, ()), h2.trans ?_⟩
  show (if eqI ((Jp v : Nat) : Int) 0 = true then _ else _ : Comp Pln).val = _
  rw [if_pos (by rw [yd]; omega), Comp.zB, h0]; rfl
 ·have hq : ∀ n, ∃ m, (quo .i64 n ((Jp v : Nat) : Int)).val = some m := fun n => by
   unfold quo
   rw [if_neg (by omega)]
   exact ⟨_, Comp.zB _⟩
  obtain ⟨a, ha⟩ := hq v.1
  obtain ⟨b, hb⟩ := hq v.2.1
  obtain ⟨c, hc⟩ := hq v.2.2.1
  refine ⟨(a, b, c, ()), h2.trans ?_⟩
  show (if eqI ((Jp v : Nat) : Int) 0 = true then _ else _ : Comp Pln).val = _
  rw [if_neg (by rw [yd]; omega), zA, ha, zFq, zA, hb, zFq, zA, hc, zFq, Comp.zB]
theorem BL (p : Pln) : (gH p).val = some (okP p, ()) := by
 unfold gH
 have hc : (zu p.1).val = some ([p.1.1, p.1.2.1, p.1.2.2.1], ()) := by unfold zu; exact Comp.zB _
 rw [zA, hc, zFq]
 have h1 := jC [p.1.1, p.1.2.1, p.1.2.2.1] (okv 4608) (c := (Sum.inr false : Unit ⊕ Bool)) (d := Sum.inl ())
  (body := (fun (x_1 : Int) => if ltI x_1 3 = true then
        (idx [p.1.1, p.1.2.1, p.1.2.2.1] x_1).bind fun x_2 => (Comp.gd (ntB (ltI x_2 (-4608))) (idx [p.1.1, p.1.2.1, p.1.2.2.1] x_1) (Int.ofNat 0)).bind fun x_3 => if sel (ltI x_2 (-4608)) true (gtI x_3 4608) = true then Comp.pure (.done (Sum.inr false))
          else Comp.pure (.next (zI .i64 x_1 1))
       else Comp.pure (.done (Sum.inl ()))))
  (fun i n hx => by
   have hlt := zK hx
   have hlt3 : i < 3 := hlt
   rw [if_pos (by rw [zF]; omega), zA, zG hx, zFq, zA, I1, zG hx, zM (show i < 9223372036854775807 by omega)]
   unfold okv
   by_cases h1 : n < -4608
   ·have : ltI n (-4608) = true := by rw [zF]; exact h1
    have h2 : ¬ (-4608 ≤ n ∧ n ≤ 4608) := by omega
    simp [this, ya, sel, h2]
   ·have : ltI n (-4608) = false := by unfold ltI; exact decide_eq_false h1
    by_cases h3 : n > 4608
    ·have h2 : ¬ (-4608 ≤ n ∧ n ≤ 4608) := by omega
     have h4 : gtI n 4608 = true := by rw [z8]; exact h3
     simp [this, ya, sel, h2, h4]
    ·have h2 : (-4608 ≤ n ∧ n ≤ 4608) := by omega
     have h4 : gtI n 4608 = false := by unfold gtI; exact decide_eq_false h3
     simp [this, ya, sel, h2, h4])
  (by rw [if_neg (by rw [zF]; simp), Comp.zB])
 rw [zA]
 have hall : [p.1.1, p.1.2.1, p.1.2.2.1].all (okv 4608) = okN p.1 := by simp [okN]
 rw [hall] at h1
 refine (congrArg (fun o => Option.bind o _) h1).trans ?_
 rw [zFq]
 cases hN : okN p.1 with
 | false => exact (Comp.zB _).trans (by unfold okP; rw [hN]; rfl)
 | true =>
  obtain ⟨u, hu⟩ := GC hN
  show ((gX p.1).bind fun x => Comp.pure (sel (sel (eqI x.2.1 1) (geI p.2.1 (-2097152)) false) (leI p.2.1 2097152) false, ())).val = _
  rw [zA, hu, zFq, Comp.zB]
  unfold okP okv
  rw [hN, YD, YD]
  unfold eqI geI leI
  congr 2
  have : decide (((Jp p.1 : Nat) : Int) = 1) = decide (Jp p.1 = 1) := by by_cases hg : Jp p.1 = 1 <;> simp [hg] <;> omega
  rw [this]
  by_cases h1 : p.2.1 ≥ -2097152 <;> by_cases h2 : p.2.1 ≤ 2097152 <;> simp [h1, h2]
theorem jV (c : List Pln) : (za c).val = some (chk c, ()) := by
 unfold za chk
 by_cases h : 48 < c.length
 ·rw [if_pos (by rw [z8, zC]; omega), if_pos h, Comp.zB]
 ·rw [if_neg (by rw [z8, zC]; omega), if_neg h]
  have h1 := jC c okP (c := (Sum.inr 12 : Unit ⊕ Int)) (d := Sum.inl ())
   (body := (fun (x : Int) => if ltI x (zD c) = true then
        (idx c x).bind fun x_1 => (Go.F.gH x_1).bind fun x_2 => if ntB x_2.1 = true then Comp.pure (.done (Sum.inr 12)) else Comp.pure (.next (zI .i64 x 1))
       else Comp.pure (.done (Sum.inl ()))))
   (fun i p hx => by
    have hlt := zK hx
    rw [if_pos (by rw [zF, zC]; omega), zA, zG hx, zFq, zA, BL, zFq, XF, ya, zM (show i < 9223372036854775807 by omega)]
    cases okP p <;> simp)
   (by rw [if_neg (by rw [zF, zC]; omega), Comp.zB])
  rw [zA]
  refine (congrArg (fun o => Option.bind o _) h1).trans ?_
  rw [zFq]
  cases c.all okP <;> exact Comp.zB _
def cr (a b : V3) : V3 := (a.2.1 * b.2.2.1 - a.2.2.1 * b.2.1, a.2.2.1 * b.1 - a.1 * b.2.2.1, a.1 * b.2.1 - a.2.1 * b.1, ())
def dt (a b : V3) : Int := a.1 * b.1 + a.2.1 * b.2.1 + a.2.2.1 * b.2.2.1
def ad (a b : V3) : V3 := (a.1 + b.1, a.2.1 + b.2.1, a.2.2.1 + b.2.2.1, ())
def sc (a : V3) (n : Int) : V3 := (a.1 * n, a.2.1 * n, a.2.2.1 * n, ())
def Bd (k : Int) (v : V3) : Prop := (-k ≤ v.1 ∧ v.1 ≤ k) ∧ (-k ≤ v.2.1 ∧ v.2.1 ≤ k) ∧ (-k ≤ v.2.2.1 ∧ v.2.2.1 ≤ k)
theorem gi {a b A B : Int} (ha : -A ≤ a ∧ a ≤ A) (hb : -B ≤ b ∧ b ≤ B) : -(A * B) ≤ a * b ∧ a * b ≤ A * B := by
 have hA : 0 ≤ A := by omega
 have hB : 0 ≤ B := by omega
 have h1 : (a * b).natAbs ≤ (A * B).natAbs := by
  rw [Int.natAbs_mul, Int.natAbs_mul]
  exact Nat.mul_le_mul (by omega) (by omega)
 have h2 : 0 ≤ A * B := Int.mul_nonneg hA hB
 omega
theorem Vx {v : V3} (h : okN v = true) : Bd 4608 v := by
 have := CW h
 exact ⟨this v.1 (by simp), this v.2.1 (by simp), this v.2.2.1 (by simp)⟩
theorem Ja {a b : V3} (ha : Bd 4608 a) (hb : Bd 4608 b) : Bd 42467328 (cr a b) := by
 obtain ⟨a1, a2, a3⟩ := ha
 obtain ⟨b1, b2, b3⟩ := hb
 have e1 := gi a2 b3; have e2 := gi a3 b2; have e3 := gi a3 b1; have e4 := gi a1 b3; have e5 := gi a1 b2; have e6 := gi a2 b1
 unfold cr Bd
 simp only
 refine ⟨?_, ?_, ?_⟩ <;> omega
theorem KJ {a : V3} {n A B : Int} (ha : Bd A a) (hn : -B ≤ n ∧ n ≤ B) : Bd (A * B) (sc a n) := ⟨gi ha.1 hn, gi ha.2.1 hn, gi ha.2.2 hn⟩
theorem Bd.le {A B : Int} {v : V3} (h : Bd A v) (hAB : A ≤ B) : Bd B v := by
 obtain ⟨h1, h2, h3⟩ := h
 refine ⟨?_, ?_, ?_⟩ <;> omega
theorem Xz {a b : V3} (ha : Bd 4608 a) (hb : Bd 4608 b) : (ZL a b).val = some (cr a b, ()) := by
 obtain ⟨a1, a2, a3⟩ := ha
 obtain ⟨b1, b2, b3⟩ := hb
 have e1 := gi a2 b3; have e2 := gi a3 b2; have e3 := gi a3 b1; have e4 := gi a1 b3; have e5 := gi a1 b2; have e6 := gi a2 b1
 unfold ZL
 rw [Comp.zB, Zp (m := a.2.1) (by omega), Zp (m := a.2.2.1) (by omega), Zp (m := a.2.2.1) (by omega), Zp (m := a.1) (by omega), Zp (m := a.1) (by omega), Zp (m := a.2.1) (by omega),
  Zm (by omega), Zm (by omega), Zm (by omega)]
 rfl
theorem Y4 {a b : V3} (ha : Bd 4608 a) (hb : Bd 4608 b) : (vM a b).val = some (cr a b, ()) := Xz ha hb
theorem wj {a b : V3} (ha : Bd 4608 a) (hb : Bd 42467328 b) : (ZB a b).val = some (dt a b, ()) := by
 obtain ⟨a1, a2, a3⟩ := ha
 obtain ⟨b1, b2, b3⟩ := hb
 have e1 := gi a1 b1; have e2 := gi a2 b2; have e3 := gi a3 b3
 unfold ZB
 rw [Comp.zB, Zp (m := a.1) (by omega), Zp (m := a.2.1) (by omega), Zp (m := a.2.2.1) (by omega), yC (m := a.1 * b.1) (by omega), yC (by omega)]
 rfl
theorem Hr {a b : V3} (ha : Bd 4608 a) (hb : Bd 42467328 b) : (Zf a b).val = some (dt a b, ()) := wj ha hb
theorem Xs {a : V3} {n : Int} (h : Bd 9223372036854775807 (sc a n)) : (Z7 a n).val = some (sc a n, ()) := by
 obtain ⟨h1, h2, h3⟩ := h
 unfold sc at h1 h2 h3
 simp only at h1 h2 h3
 unfold Z7
 rw [Comp.zB, Zp (m := a.1) (by omega), Zp (m := a.2.1) (by omega), Zp (m := a.2.2.1) (by omega)]
 rfl
theorem YN {a : V3} {n : Int} (h : Bd 9223372036854775807 (sc a n)) : (yU a n).val = some (sc a n, ()) := Xs h
theorem wm {a b : V3} (h : Bd 9223372036854775807 (ad a b)) : (Yp a b).val = some (ad a b, ()) := by
 obtain ⟨h1, h2, h3⟩ := h
 unfold ad at h1 h2 h3
 simp only at h1 h2 h3
 unfold Yp
 rw [Comp.zB, yC (m := a.1) (by omega), yC (m := a.2.1) (by omega), yC (m := a.2.2.1) (by omega)]
 rfl
theorem mO {a b : V3} (h : Bd 9223372036854775807 (ad a b)) : (kB a b).val = some (ad a b, ()) := wm h
theorem tv {a b : V3} {A B : Int} (ha : Bd A a) (hb : Bd B b) : Bd (A + B) (ad a b) := by
 obtain ⟨a1, a2, a3⟩ := ha
 obtain ⟨b1, b2, b3⟩ := hb
 unfold ad Bd
 simp only
 refine ⟨?_, ?_, ?_⟩ <;> omega
def det (p q r : Pln) : Int := dt p.1 (cr q.1 r.1)
def num (p q r : Pln) : V3 := ad (ad (sc (cr q.1 r.1) p.2.1) (sc (cr r.1 p.1) q.2.1)) (sc (cr p.1 q.1) r.2.1)
theorem pH (p q r : Pln) : det p q r = dt r.1 (cr p.1 q.1) := by
 unfold det dt cr
 simp only [Int.mul_sub]
 generalize p.1.1 = a1; generalize p.1.2.1 = a2; generalize p.1.2.2.1 = a3
 generalize q.1.1 = b1; generalize q.1.2.1 = b2; generalize q.1.2.2.1 = b3
 generalize r.1.1 = c1; generalize r.1.2.1 = c2; generalize r.1.2.2.1 = c3
 have e : ∀ x y z : Int, x * (y * z) = z * (x * y) := fun x y z => by rw [← Int.mul_assoc, Int.mul_comm]
 have e1 := e a1 b2 c3; have e2 := e a1 b3 c2; have e3 := e a2 b3 c1; have e4 := e a2 b1 c3; have e5 := e a3 b1 c2; have e6 := e a3 b2 c1
 rw [e1, e2, e3, e4, e5, e6, Int.mul_comm a2 b1, Int.mul_comm a3 b1, Int.mul_comm a3 b2]
 rw [Int.mul_comm b1 a2, Int.mul_comm b1 a3, Int.mul_comm b2 a3]
 omega
def okB (p : Pln) : Prop := Bd 4608 p.1 ∧ (-2097152 ≤ p.2.1 ∧ p.2.1 ≤ 2097152)
theorem zBP {p : Pln} (h : okP p = true) : okB p := by
 unfold okP okv at h
 simp only [zFs, decide_eq_true_eq] at h
 exact ⟨Vx h.1, h.2.2⟩
theorem Mq {p q r : Pln} (hp : okB p) (hq : okB q) (hr : okB r) : -600000000000 ≤ det p q r ∧ det p q r ≤ 600000000000 := by
 have hc := Ja hq.1 hr.1
 have e1 := gi hp.1.1 hc.1; have e2 := gi hp.1.2.1 hc.2.1; have e3 := gi hp.1.2.2 hc.2.2
 unfold det dt
 omega
theorem MW {p q r : Pln} (hp : okB p) (hq : okB q) (hr : okB r) : Bd 300000000000000 (num p q r) := by
 have h1 := KJ (Ja hq.1 hr.1) hp.2
 have h2 := KJ (Ja hr.1 hp.1) hq.2
 have h3 := KJ (Ja hp.1 hq.1) hr.2
 exact (tv (tv h1 h2) h3).le (by decide)
def Yh (v : V3) (w : Int) : Nat := Nat.gcd (Nat.gcd v.1.natAbs v.2.1.natAbs) (Nat.gcd v.2.2.1.natAbs w.natAbs)
def mkP (v : V3) (w : Int) : Pnt :=
 let g : Int := (Yh v w : Nat)
 if w < 0 then ((-v.1).tdiv g, (-v.2.1).tdiv g, (-v.2.2.1).tdiv g, (-w).tdiv g, ()) else (v.1.tdiv g, v.2.1.tdiv g, v.2.2.1.tdiv g, w.tdiv g, ())
def mt (p q r : Pln) : Option Pnt := if det p q r = 0 then none else some (mkP (num p q r) (det p q r))
def wB : Option Pnt → Pnt × Bool × Unit
 | some x => (x, true, ())
 | none => ((0, 0, 0, 0, ()), false, ())
theorem mz {v : V3} {w : Int} (h : w ≠ 0) : 0 < Yh v w := by
 unfold Yh
 refine Nat.gcd_pos_of_pos_right _ (Nat.gcd_pos_of_pos_right _ (by omega))
theorem QI {a b : Int} : (a.tdiv b).natAbs ≤ a.natAbs := by rw [Int.natAbs_tdiv]; exact Nat.div_le_self _ _
theorem kH {a b : Int} (hb : b ≠ 0) (ha : -9223372036854775808 < a ∧ a < 9223372036854775808) : (quo .i64 a b).val = some (a.tdiv b) := by
 unfold quo
 rw [if_neg hb, Comp.zB]
 have := QI (a := a) (b := b)
 exact congrArg some (HC (by omega))
theorem q9 {v : V3} {w : Int} (hv : Bd 300000000000000 v) (hw : -600000000000 ≤ w ∧ w ≤ 600000000000) : (J2 [v.1, v.2.1, v.2.2.1, w]).val = some (((Yh v w : Nat) : Int), ()) := by
 unfold J2
 generalize hl : [v.1, v.2.1, v.2.2.1, w] = l
 have hlen : l.length = 4 := by rw [← hl]; rfl
 have key : ∀ (ys zs : List Int) (g : Int), l = zs ++ ys → ∃ r, r.natAbs = ys.foldl (fun g n => Nat.gcd g n.natAbs) g.natAbs ∧ (Comp.loop
     (fun (x : Int × Int) => if ltI x.2 (zD l) = true then
       (idx l x.2).bind fun x_1 => (Comp.loop
           (fun (x : Int × Int) => if neI x.2 0 = true then (rem x.1 x.2).bind fun x_2 => Comp.pure (.next (x.2, x_2)) else Comp.pure (.done x.1))
           (x.1, x_1)).bind fun x_2 => Comp.pure (.next (x_2, zI .i64 x.2 1))
      else Comp.pure (.done x.1)) (g, (zs.length : Int))).val = some r := by
  intro ys
  induction ys with
  | nil =>
   intro zs g hx
   refine ⟨g, rfl, ?_⟩
   rw [zL, if_neg (by rw [zF, zC, hx]; simp), Comp.zB, zFq]
  | cons y ys ih =>
   intro zs g hx
   have hy : l[zs.length]? = some y := by rw [hx]; simp
   have hlt := zK hy
   obtain ⟨r1, h1, h2⟩ := DV y g
   obtain ⟨r, h3, h4⟩ := ih (zs ++ [y]) r1 (by rw [hx]; simp)
   refine ⟨r, by rw [h3, List.foldl_cons, h1], ?_⟩
   rw [zL, if_pos (by rw [zF, zC]; show (zs.length : Int) < _; omega), zA, zG hy, zFq, zA, h2, zFq, Comp.zB, zM (by omega), zFq]
   simpa using h4
 obtain ⟨r, h1, h2⟩ := key l [] 0 rfl
 rw [zA]
 refine (congrArg (fun o => Option.bind o _) h2).trans ?_
 rw [zFq, Comp.zB]
 have hg : r.natAbs = Yh v w := by
  rw [h1, ← hl]
  simp only [List.foldl_cons, List.foldl_nil, Int.natAbs_zero, Nat.gcd_zero_left]
  unfold Yh
  rw [Nat.gcd_assoc]
 have hgw : (Yh v w) ≤ 900000000000000 := by
  unfold Yh
  by_cases hw0 : w = 0
  ·by_cases h3 : v.2.2.1 = 0
   ·by_cases h2 : v.2.1 = 0
    ·rw [hw0, h3, h2]; simp; have := hv.1; omega
    ·refine Nat.le_trans (Nat.le_of_dvd (by omega) (Nat.dvd_trans (Nat.gcd_dvd_left _ _) (Nat.gcd_dvd_right _ _)) : _ ≤ v.2.1.natAbs) ?_
     have := hv.2.1; omega
   ·refine Nat.le_trans (Nat.le_of_dvd (by omega) (Nat.dvd_trans (Nat.gcd_dvd_right _ _) (Nat.gcd_dvd_left _ _)) : _ ≤ v.2.2.1.natAbs) ?_
    have := hv.2.2; omega
  ·refine Nat.le_trans (Nat.le_of_dvd (by omega) (Nat.dvd_trans (Nat.gcd_dvd_right _ _) (Nat.gcd_dvd_right _ _)) : _ ≤ w.natAbs) ?_
   omega
 rw [tM (by omega), hg]
theorem JO (a b : Nat) : (zm (a : Int) (b : Int)).val = some (((Nat.gcd a b : Nat) : Int), ()) := by
 unfold zm
 obtain ⟨r, h1, h2⟩ := DV (b : Int) (a : Int)
 have key : ∀ (b a : Nat), (Comp.loop
   (fun (x : Int × Int) => if neI x.2 0 = true then (rem x.1 x.2).bind fun x_2 => Comp.pure (.next (x.2, x_2)) else Comp.pure (.done x.1)) ((a : Int), (b : Int))).val = some ((Nat.gcd a b : Nat) : Int) := by
  intro b
  induction b using Nat.strongRecOn with
  | _ b ih =>
   intro a
   rw [zL]
   by_cases hb : b = 0
   ·subst hb
    rw [if_neg (by rw [zX]; simp), Comp.zB, zFq]; simp
   ·have h2 : (rem (a : Int) (b : Int)).val = some ((a % b : Nat) : Int) := by rw [ZS (by omega)]; rfl
    rw [if_pos (by rw [zX]; show (b : Int) ≠ 0; omega), zA, h2, zFq, Comp.zB, zFq]
    refine (ih (a % b) (Nat.mod_lt _ (by omega)) b).trans ?_
    rw [show Nat.gcd a b = Nat.gcd b (a % b) by rw [Nat.gcd_comm a b, Nat.gcd_rec, Nat.gcd_comm]]
 rw [zA, key, zFq, Comp.zB]
theorem V4 {v : V3} {k : Int} (h : Bd k v) : Bd k (sc v (-1)) := by
 obtain ⟨h1, h2, h3⟩ := h
 unfold sc Bd
 simp only
 refine ⟨?_, ?_, ?_⟩ <;> omega
theorem qC {p q r : Pln} (hp : okB p) (hq : okB q) (hr : okB r) : (Yu [p, q, r]).val = some (wB (mt p q r)) := by
 unfold Yu
 have hd := Mq hp hq hr
 have hn := MW hp hq hr
 have c1 := Ja hq.1 hr.1; have c2 := Ja hr.1 hp.1; have c3 := Ja hp.1 hq.1
 have s1 := KJ c1 hp.2; have s2 := KJ c2 hq.2; have s3 := KJ c3 hr.2
 have z : Bd 0 (0, 0, 0, ()) := by unfold Bd; simp
 have a1 := tv z s1; have a2 := tv a1 s2; have a3 := tv a2 s3
 have hz : ad (0, 0, 0, ()) (sc (cr q.1 r.1) p.2.1) = sc (cr q.1 r.1) p.2.1 := by unfold ad; simp
 have r1 : (rem (zI .i64 0 1) 3).val = some 1 := by rw [ZS (by decide)]; rfl
 have r2 : (rem (zI .i64 0 2) 3).val = some 2 := by rw [ZS (by decide)]; rfl
 have r3 : (rem (zI .i64 1 1) 3).val = some 2 := by rw [ZS (by decide)]; rfl
 have r4 : (rem (zI .i64 1 2) 3).val = some 0 := by rw [ZS (by decide)]; rfl
 have r5 : (rem (zI .i64 2 1) 3).val = some 0 := by rw [ZS (by decide)]; rfl
 have r6 : (rem (zI .i64 2 2) 3).val = some 1 := by rw [ZS (by decide)]; rfl
 have i0 : (idx [p, q, r] 0).val = some p := KA rfl
 have i1 : (idx [p, q, r] 1).val = some q := KA rfl
 have i2 : (idx [p, q, r] 2).val = some r := KA rfl
 have hloop : (Comp.loop
     (fun (x : Int × Int × Int × Int × Int × Unit) => if ltI x.2.1 3 = true then
       (idx [p, q, r] x.2.1).bind fun x_1 => (rem (zI .i64 x.2.1 1) 3).bind fun x_2 => (idx [p, q, r] x_2).bind fun x_3 => (rem (zI .i64 x.2.1 2) 3).bind fun x_4 => (idx [p, q, r] x_4).bind fun x_5 => (Go.F.ZL x_3.1 x_5.1).bind fun x_6 => (Go.F.ZB x_1.1 x_6.1).bind fun x_7 => (Go.F.Z7 x_6.1 x_1.2.1).bind fun x_8 => (Go.F.Yp x.2.2 x_8.1).bind fun x_9 => Comp.pure (.next (x_7.1, zI .i64 x.2.1 1, x_9.1))
      else Comp.pure (.done (x.1, x.2.2)))
     (0, 0, 0, 0, 0, ())).val = some ((det p q r, num p q r) : Int × V3) := by
  rw [zL, if_pos (by rw [zF]; show (0 : Int) < 3; omega)]
  simp only [zA, i0, r1, i1, r2, i2, Xz hq.1 hr.1, wj hp.1 c1, Xs (s1.le (by decide)), zFq, Comp.zB]
  rw [wm (a1.le (by decide)), zFq, zFq]
  simp only
  rw [zL, if_pos (by rw [zF]; show zI .i64 0 1 < 3; decide)]
  simp only [show zI .i64 0 1 = 1 from rfl, zA, i1, r3, i2, r4, i0, Xz hr.1 hp.1, wj hq.1 c2, Xs (s2.le (by decide)), zFq, Comp.zB]
  rw [wm (a2.le (by decide)), zFq, zFq]
  simp only
  rw [zL, if_pos (by rw [zF]; show zI .i64 1 1 < 3; decide)]
  simp only [show zI .i64 1 1 = 2 from rfl, zA, i2, r5, i0, r6, i1, Xz hp.1 hq.1, wj hr.1 c3, Xs (s3.le (by decide)), zFq, Comp.zB]
  rw [wm (a3.le (by decide)), zFq, zFq]
  simp only
  rw [zL, if_neg (by rw [zF]; show ¬ (zI .i64 2 1 < 3); decide), Comp.zB, zFq, hz, pH]
  rfl
 rw [zA]
 refine (congrArg (fun o => Option.bind o _) hloop).trans ?_
 rw [zFq]
 simp only
 unfold mt
 by_cases h0 : det p q r = 0
 ·rw [if_pos (by rw [yd]; exact h0), if_pos h0, Comp.zB]; rfl
 ·rw [if_neg (by rw [yd]; exact h0), if_neg h0, zA, q9 hn hd, zFq, vb]
  have hg := mz (v := num p q r) h0
  have hgb : Yh (num p q r) (det p q r) ≤ 600000000000 := by
   refine Nat.le_trans (Nat.le_of_dvd (by omega) (Nat.dvd_trans (Nat.gcd_dvd_right _ _) (Nat.gcd_dvd_right _ _)) : _ ≤ (det p q r).natAbs) ?_
   omega
  obtain ⟨n1, n2, n3⟩ := hn
  by_cases hneg : det p q r < 0
  ·rw [if_pos (by rw [zF]; exact hneg), K0 (by omega)]
   rw [zA, kH (by omega) (by omega), zFq, zA, kH (by omega) (by omega), zFq, zA, kH (by omega) (by omega), zFq, zA, kH (by omega) (by omega), zFq, Comp.zB]
   unfold mkP
   simp only [if_pos hneg, Int.tdiv_neg, Int.neg_tdiv]
   rfl
  ·rw [if_neg (by rw [zF]; exact hneg)]
   rw [zA, kH (by omega) (by omega), zFq, zA, kH (by omega) (by omega), zFq, zA, kH (by omega) (by omega), zFq, zA, kH (by omega) (by omega), zFq, Comp.zB]
   unfold mkP
   simp only [if_neg hneg]
   rfl
theorem E9 {p q r : Pln} (hp : okB p) (hq : okB q) (hr : okB r) : (y5 p q r).val = some (wB (mt p q r)) := by
 unfold y5
 have hd := Mq hp hq hr
 have hn := MW hp hq hr
 have c1 := Ja hq.1 hr.1; have c2 := Ja hr.1 hp.1; have c3 := Ja hp.1 hq.1
 have s1 := KJ c1 hp.2; have s2 := KJ c2 hq.2; have s3 := KJ c3 hr.2
 have a2 := tv s1 s2; have a3 := tv a2 s3
 rw [zA, Y4 hq.1 hr.1, zFq, zA, Hr hp.1 c1, zFq]
 unfold mt
 by_cases h0 : det p q r = 0
 ·rw [if_pos (by rw [yd]; exact h0), if_pos h0, Comp.zB]; rfl
 ·rw [if_neg (by rw [yd]; exact h0), if_neg h0]
  rw [zA, Y4 hq.1 hr.1, zFq, zA, YN (s1.le (by decide)), zFq, zA, Y4 hr.1 hp.1, zFq, zA, YN (s2.le (by decide)), zFq,
   zA, mO (a2.le (by decide)), zFq, zA, Y4 hp.1 hq.1, zFq, zA, YN (s3.le (by decide)), zFq, zA, mO (a3.le (by decide)), zFq, vb]
  change (if ltI (det p q r) 0 = true then (yU (num p q r) (Int.negSucc 0)).bind _ else _ : Comp (Pnt × Bool × Unit)).val = _
  have key : ∀ (w : Int) (v : V3), w ≠ 0 → (0 < w ∧ w ≤ 600000000000) → Bd 300000000000000 v → ((zm (qF v.1 (Ya .i64 v.1)) (qF v.2.1 (Ya .i64 v.2.1))).bind fun x_9 => (Go.F.zm (qF v.2.2.1 (Ya .i64 v.2.2.1)) w).bind fun x_10 => (Go.F.zm x_9.1 x_10.1).bind fun x_11 => (quo .i64 v.1 x_11.1).bind fun x_12 => (quo .i64 v.2.1 x_11.1).bind fun x_13 => (quo .i64 v.2.2.1 x_11.1).bind fun x_14 => (quo .i64 w x_11.1).bind fun x => (Comp.pure ((x_12, x_13, x_14, x, ()), true, ()) : Comp (Pnt × Bool × Unit))).val =
     some ((v.1.tdiv (Yh v w : Nat), v.2.1.tdiv (Yh v w : Nat), v.2.2.1.tdiv (Yh v w : Nat), w.tdiv (Yh v w : Nat), ()), true, ()) := by
   intro w v hw0 hw hv
   obtain ⟨n1, n2, n3⟩ := hv
   have hg := mz (v := v) hw0
   have ew : w = ((w.natAbs : Nat) : Int) := by omega
   rw [tM (by omega), tM (by omega), tM (by omega)]
   rw [zA, JO, zFq, zA]
   have h2 : (zm ((v.2.2.1.natAbs : Nat) : Int) w).val = some (((Nat.gcd v.2.2.1.natAbs w.natAbs : Nat) : Int), ()) := by
    conv => lhs; rw [ew]
    rw [JO]
   rw [h2, zFq, zA, JO, zFq]
   change ((quo .i64 v.1 ((Yh v w : Nat) : Int)).bind _).val = _
   rw [zA, kH (by omega) (by omega), zFq]
   change ((quo .i64 v.2.1 ((Yh v w : Nat) : Int)).bind _).val = _
   rw [zA, kH (by omega) (by omega), zFq]
   change ((quo .i64 v.2.2.1 ((Yh v w : Nat) : Int)).bind _).val = _
   rw [zA, kH (by omega) (by omega), zFq]
   change ((quo .i64 w ((Yh v w : Nat) : Int)).bind _).val = _
   rw [zA, kH (by omega) (by omega), zFq, Comp.zB]
  by_cases hneg : det p q r < 0
  ·rw [if_pos (by rw [zF]; exact hneg)]
   have hb : Bd 300000000000000 (sc (num p q r) (Int.negSucc 0)) := V4 hn
   rw [zA, YN (hb.le (by decide)), zFq, show Ya .i64 (dt p.1 (cr q.1 r.1)) = -det p q r from K0 (m := det p q r) (by omega)]
   refine (key (-det p q r) (sc (num p q r) (Int.negSucc 0)) (by omega) (by omega) hb).trans ?_
   have hg : Yh (sc (num p q r) (Int.negSucc 0)) (-det p q r) = Yh (num p q r) (det p q r) := by
    unfold Yh sc
    simp only [Int.natAbs_mul, Int.natAbs_neg]
    rw [show (Int.negSucc 0).natAbs = 1 from rfl]
    simp
   unfold wB mkP
   simp only [if_pos hneg, hg]
   unfold sc
   simp only [show Int.negSucc 0 = -1 from rfl, Int.mul_neg, Int.mul_one]
  ·rw [if_neg (by rw [zF]; exact hneg)]
   refine (key (det p q r) (num p q r) h0 (by omega) hn).trans ?_
   unfold wB mkP
   simp only [if_neg hneg]
theorem YC (ys : List τ) (c : Comp (List τ × β)) : (tell ys c).val = c.val.map fun p => (ys ++ p.1, p.2) := by
 unfold tell
 rw [zA]
 cases c.val <;> simp
theorem uG {body : σ → Comp (List τ × Comp.Step σ ε)} {s s' : σ} {ys zs : List τ} {e : ε} (h1 : (body s).val = some (ys, .next s')) (h2 : (Zh body s').val = some (zs, e)) : (Zh body s).val = some (ys ++ zs, e) := by
 obtain ⟨n, hn⟩ := y7.1 h1
 obtain ⟨m, hm⟩ := y7.1 h2
 refine y7.2 ⟨max n m + 1, ?_⟩
 have a1 := (body s).mono (show n ≤ max n m + 1 by omega) hn
 have a2 : kC body (max n m + 1) (max n m) s' = some (zs, e) := Kr (by omega) (by omega) hm
 show kC body (max n m + 1) (max n m + 1) s = _
 simp only [kC, a1, a2]
theorem JL {body : σ → Comp (List τ × Comp.Step σ ε)} {s : σ} {ys : List τ} {e : ε} (h1 : (body s).val = some (ys, .done e)) : (Zh body s).val = some (ys, e) := by
 obtain ⟨n, hn⟩ := y7.1 h1
 refine y7.2 ⟨n + 1, ?_⟩
 have a1 := (body s).mono (show n ≤ n + 1 by omega) hn
 show kC body (n + 1) (n + 1) s = _
 simp only [kC, a1]
theorem JG {body : Int → Comp (List τ × Comp.Step Int ε)} (xs : List α) (g : Nat → List τ) {e : ε} (hb : ∀ (i : Nat) x, xs[i]? = some x → (body (i : Int)).val = some (g i, .next ((i + 1 : Nat) : Int))) (he : (body (xs.length : Int)).val = some ([], .done e)) :
  (Zh body 0).val = some ((List.range xs.length).flatMap g, e) := by
 have key : ∀ (m k : Nat), k + m = xs.length → (Zh body (k : Int)).val = some ((List.range' k m).flatMap g, e) := by
  intro m
  induction m with
  | zero =>
   intro k hk
   rw [show k = xs.length by omega]
   exact JL he
  | succ m ih =>
   intro k hk
   obtain ⟨x, hx⟩ := zN (xs := xs) (k := k) (by omega)
   rw [List.range'_succ, List.flatMap_cons]
   exact uG (hb k x hx) (ih (k + 1) (by omega))
 rw [List.range_eq_range']
 exact key xs.length 0 (by omega)
def prs : List α → List (α × α)
 | [] => []
 | q :: l => l.map (fun s => (q, s)) ++ prs l
def tri : List α → List (α × α × α)
 | [] => []
 | p :: l => (prs l).map (fun t => (p, t)) ++ tri l
theorem Ga (l : List α) (f : α → List β) (i : Nat) (g : Nat → List β) (h : ∀ (k : Nat) x, l[k]? = some x → g (i + k) = f x) : (List.range' i l.length).flatMap g = l.flatMap f := by
 induction l generalizing i with
 | nil => rfl
 | cons x l ih =>
  rw [List.length_cons, List.range'_succ, List.flatMap_cons, List.flatMap_cons]
  have h0 := h 0 x rfl
  rw [Nat.add_zero] at h0
  rw [h0, ih (i + 1) fun k y hk => by rw [← h (k + 1) y (by simpa using hk)]; congr 1; omega]
theorem nV (l : List α) (f : α → β) : l.flatMap (fun s => [f s]) = l.map f := by
 induction l with
 | nil => rfl
 | cons x l ih => rw [List.flatMap_cons, ih]; rfl
theorem GD (l : List α) (g : Nat → List β) (f : α × α → β) (i : Nat) (h : ∀ (k : Nat) q, l[k]? = some q → g (i + k) = (l.drop (k + 1)).map fun s => f (q, s)) : (List.range' i l.length).flatMap g = (prs l).map f := by
 induction l generalizing i with
 | nil => rfl
 | cons x l ih =>
  rw [List.length_cons, List.range'_succ, List.flatMap_cons]
  have h0 := h 0 x rfl
  rw [Nat.add_zero] at h0
  rw [h0, prs, List.map_append, List.map_map]
  congr 1
  exact ih (i + 1) fun k y hk => by
   have := h (k + 1) y (by simpa using hk)
   rw [show i + 1 + k = i + (k + 1) by omega, this]; rfl
theorem Eu (l : List α) (g : Nat → List β) (f : α × α × α → β) (i : Nat) (h : ∀ (k : Nat) p, l[k]? = some p → g (i + k) = (prs (l.drop (k + 1))).map fun t => f (p, t)) : (List.range' i l.length).flatMap g = (tri l).map f := by
 induction l generalizing i with
 | nil => rfl
 | cons x l ih =>
  rw [List.length_cons, List.range'_succ, List.flatMap_cons]
  have h0 := h 0 x rfl
  rw [Nat.add_zero] at h0
  rw [h0, tri, List.map_append, List.map_map]
  congr 1
  exact ih (i + 1) fun k y hk => by
   have := h (k + 1) y (by simpa using hk)
   rw [show i + 1 + k = i + (k + 1) by omega, this]; rfl
theorem rU {xs : List α} {k : Nat} (h : k ≤ xs.length) : (sub xs (k : Int) (zD xs)).val = some (xs.drop k) := by
 rw [Zs (by rw [zC]; omega), zC]; simp
theorem p7 {r : List Pln} (hl : r.length < 4611686018427387904) : (vX r).val = some ((tri r).map fun t => ([t.1, t.2.1, t.2.2], ())) := by
 unfold vX
 have inner : ∀ (p q : Pln) (l : List Pln), l.length < 4611686018427387904 → (Zh
                     (fun (x_5 : Int) => if ltI x_5 (zD l) = true then
                       (idx l x_5).bind fun x => tell [([p, q, x], ())] (Comp.pure ([], .next (zI .i64 x_5 1)))
                      else Comp.pure ([], .done (Sum.inl () : Unit ⊕ Unit)))
                     0).val = some (l.map fun s => ([p, q, s], ()), Sum.inl ()) := by
  intro p q l hl
  have h1 := JG l (fun i => match l[i]? with | some s => [([p, q, s], ())] | none => []) (e := (Sum.inl () : Unit ⊕ Unit)) (body := (fun (x_5 : Int) => if ltI x_5 (zD l) = true then
                       (idx l x_5).bind fun x => tell [([p, q, x], ())] (Comp.pure ([], .next (zI .i64 x_5 1)))
                      else Comp.pure ([], .done (Sum.inl () : Unit ⊕ Unit))))
   (fun i x hx => by
    have hlt := zK hx
    rw [if_pos (by rw [zF, zC]; omega), zA, zG hx, zFq, YC, Comp.zB, zM (by omega), hx]
    rfl)
   (by rw [if_neg (by rw [zF, zC]; omega), Comp.zB])
  rw [h1, List.range_eq_range', Ga l (fun s => [([p, q, s], ())]) 0 _ (fun k x hk => by rw [Nat.zero_add, hk])]
  rw [nV]
 have mid : ∀ (p : Pln) (i : Nat), i < r.length → (Zh
              (fun (x_3 : Int) => if ltI x_3 (zD (r.drop (i + 1))) = true then
                (idx (r.drop (i + 1)) x_3).bind fun x_4 => (sub r (zI .i64 (zI .i64 (i : Int) x_3) 2) (zD r)).bind fun x => (Zh
                     (fun (x_5 : Int) => if ltI x_5 (zD x) = true then
                       (idx x x_5).bind fun x => tell [([p, x_4, x], ())] (Comp.pure ([], .next (zI .i64 x_5 1)))
                      else Comp.pure ([], .done (Sum.inl () : Unit ⊕ Unit)))
                     0).bind fun (p : List (List (Pln) × Unit) × (Unit ⊕ Unit)) => tell p.1
                    (match p.2 with
                    | Sum.inl x => Comp.pure ([], .next (zI .i64 x_3 1))
                    | Sum.inr x => Comp.pure ([], .done (Sum.inr () : Unit ⊕ Unit)))
               else Comp.pure ([], .done (Sum.inl () : Unit ⊕ Unit)))
              0).val = some ((prs (r.drop (i + 1))).map fun t => ([p, t.1, t.2], ()), Sum.inl ()) := by
  intro p i hi
  have hdl : (r.drop (i + 1)).length = r.length - (i + 1) := List.length_drop ..
  have h1 := JG (r.drop (i + 1)) (fun j => match (r.drop (i + 1))[j]? with | some q => ((r.drop (i + 1)).drop (j + 1)).map fun s => ([p, q, s], ()) | none => []) (e := (Sum.inl () : Unit ⊕ Unit)) (body := (fun (x_3 : Int) => if ltI x_3 (zD (r.drop (i + 1))) = true then
                (idx (r.drop (i + 1)) x_3).bind fun x_4 => (sub r (zI .i64 (zI .i64 (i : Int) x_3) 2) (zD r)).bind fun x => (Zh
                     (fun (x_5 : Int) => if ltI x_5 (zD x) = true then
                       (idx x x_5).bind fun x => tell [([p, x_4, x], ())] (Comp.pure ([], .next (zI .i64 x_5 1)))
                      else Comp.pure ([], .done (Sum.inl () : Unit ⊕ Unit)))
                     0).bind fun (p : List (List (Pln) × Unit) × (Unit ⊕ Unit)) => tell p.1
                    (match p.2 with
                    | Sum.inl x => Comp.pure ([], .next (zI .i64 x_3 1))
                    | Sum.inr x => Comp.pure ([], .done (Sum.inr () : Unit ⊕ Unit)))
               else Comp.pure ([], .done (Sum.inl () : Unit ⊕ Unit))))
   (fun j q hq => by
    have hlt := zK hq
    have e1 : zI .i64 (zI .i64 (i : Int) (j : Int)) 2 = ((i + j + 2 : Nat) : Int) := by rw [yC (m := (i : Int)) (by omega), yC (by omega)]; omega
    rw [if_pos (by rw [zF, zC]; omega), zA, zG hq, zFq, e1, zA, rU (by omega), zFq, zA, inner p q _ (by rw [List.length_drop]; omega), zFq, YC]
    simp only
    rw [Comp.zB, zM (by omega), hq, List.drop_drop]
    simp only [Option.map_some, List.append_nil]
    rw [show i + 1 + (j + 1) = i + j + 2 by omega])
   (by rw [if_neg (by rw [zF, zC]; omega), Comp.zB])
  rw [h1, List.range_eq_range', GD (r.drop (i + 1)) _ (fun t => ([p, t.1, t.2], ())) 0 (fun k q hk => by rw [Nat.zero_add, hk])]
 have h1 := JG r (fun i => match r[i]? with | some p => (prs (r.drop (i + 1))).map fun t => ([p, t.1, t.2], ()) | none => []) (e := (Sum.inl () : Unit ⊕ Unit)) (body := (fun (x : Int) => if ltI x (zD r) = true then
         (idx r x).bind fun x_1 => (sub r (zI .i64 x 1) (zD r)).bind fun x_2 => (Zh
              (fun (x_3 : Int) => if ltI x_3 (zD x_2) = true then
                (idx x_2 x_3).bind fun x_4 => (sub r (zI .i64 (zI .i64 x x_3) 2) (zD r)).bind fun x => (Zh
                     (fun (x_5 : Int) => if ltI x_5 (zD x) = true then
                       (idx x x_5).bind fun x => tell [([x_1, x_4, x], ())] (Comp.pure ([], .next (zI .i64 x_5 1)))
                      else Comp.pure ([], .done (Sum.inl ())))
                     0).bind fun (p : List (List (Pln) × Unit) × (Unit ⊕ Unit)) => tell p.1
                    (match p.2 with
                    | Sum.inl x => Comp.pure ([], .next (zI .i64 x_3 1))
                    | Sum.inr x => Comp.pure ([], .done (Sum.inr ())))
               else Comp.pure ([], .done (Sum.inl ())))
              0).bind fun (p : List (List (Pln) × Unit) × (Unit ⊕ Unit)) => tell p.1
             (match p.2 with
             | Sum.inl x_3 => Comp.pure ([], .next (zI .i64 x 1))
             | Sum.inr x => Comp.pure ([], .done (Sum.inr ())))
        else Comp.pure ([], .done (Sum.inl ()))))
  (fun i p hp => by
   have hlt := zK hp
   rw [if_pos (by rw [zF, zC]; omega), zA, zG hp, zFq, zM (by omega), zA, rU (by omega), zFq, zA, mid p i hlt, zFq, YC]
   simp only
   rw [Comp.zB, hp]
   simp only [Option.map_some, List.append_nil])
  (by rw [if_neg (by rw [zF, zC]; omega), Comp.zB])
 rw [List.range_eq_range', Eu r _ (fun t => ([t.1, t.2.1, t.2.2], ())) 0 (fun k p hk => by rw [Nat.zero_add, hk])] at h1
 rw [zA, zA]
 refine (congrArg (fun o => Option.bind (Option.bind o _) _) h1).trans ?_
 rw [zFq, YC]
 simp only
 rw [Comp.zB]
 simp only [Option.map_some, zFq, List.append_nil]
 exact Comp.zB _
end Go.Geo
end
